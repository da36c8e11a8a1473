/- ImageReads, walked. -/
import Derived.Test.YtbbjlijdodnjaaaImgRead
import Derived.Test.YtbbjlijdodnjaaaImgRefRead
import Derived.Test.YtbbjlijdodnjaaaImgSame
import Derived.Test.YtbbjlijdodnjaaaImgFix
import Derived.Test.YtbbjlijdodnjaaaImgBackMath
import Derived.Test.YtbbjlijdodnjaaaCopyU
import Derived.Test.YtbbjlijdodnjaaaSame32
namespace Go.Proofs.Ytbbjlijdodnjaaa
open Go.RowKit

theorem wf_u32c {x : Int} (h : (Lit.int .u32 x).wf = true) : 0 ≤ x ∧ x < 4294967296 := by simp [Lit.wf, IntKind.min, IntKind.max, IntKind.signed, IntKind.bits] at h; omega
set_option maxRecDepth 100000 in
set_option maxHeartbeats 20000000 in
theorem walkImageReads {w : World} (at_ : Int) (_ : (Lit.int .i64 at_).wf = true) (cells : List Int) (A1 : Option Addr) (n1 c1 : Nat) (hy : Reads w w.heap.size A1 n1 c1 (ints .u32 cells)) (hz0 : ∀ x ∈ cells, (Lit.int .u32 x).wf = true) :
    Calls Try.prog 5 #[.int .i64 at_, .slice A1 n1 c1] w fun e w' => e = .returned (.bool true) ∧ Below w.heap.size w w' := by
  have hz : ∀ x ∈ cells, 0 ≤ x ∧ x < 4294967296 := fun x hx => wf_u32c (hz0 x hx)
  have HF := fixed_any
  have lx : cells.length = n1 := by simpa using hy.len
  clear hz0
  go_enter Try.func5, Try.ntmps5
  by_cases h3 : 3000 < n1
  · have h3' : (3000 : Int) < (n1 : Int) := by omega
    go_wp2_with fail
    refine (HF _).mono ?_
    rintro e w2 ⟨rfl, hb2⟩
    go_wp2
    go_ret
    exact ⟨rfl, hb2⟩
  have h3' : ¬ (3000 : Int) < (n1 : Int) := by omega
  have hsegl : ∀ i, i < tI cells → (segR at_ cells i).length ≤ 20000 := fun i _ => by have := seg_le at_ cells i; omega
  have HSL := Lib.hid hsegl
  have Hz := Lib.hid hz
  have HC := copy_any cells A1 n1 c1 w hy (by omega)
  clear lx hz hsegl
  go_wp2_with fail
  refine HC.mono ?_
  clear HC
  rintro e w2 ⟨g, rfl, hrow, hgw, hb2⟩
  have hr2 := hrow.reads (n := n1) (by simpa using hy.len)
  have HD := read_any at_ cells Hz.out _ n1 n1 w2 hr2 (by omega) HSL.out
  clear hrow
  go_wp2_with fail
  refine HD.mono ?_
  clear HD
  rintro e w3 (⟨vr, vl, lts, rfl, hok, hor, hol, hlv, hb3, _⟩ | ⟨rfl, hnk, hb3⟩)
  · have hB3 := then_ hb2 hb3
    have HR := refRead_any at_ cells Hz.out A1 n1 c1 w3 ((hy.below hB3).more hB3.size) (by omega) HSL.out
    have Hok := Lib.hid hok
    have Hlv := Lib.hid hlv
    clear hok hlv
    go_wp2_with fail
    refine HR.mono ?_
    clear HR
    rintro e w4 (⟨vr', vl', lts', rfl, _, hor', hol', hlv', hb4⟩ | ⟨rfl, hnk, hb4⟩)
    · have hB4 := then_ hB3 hb4
      have hvv : (ltV lts).map (·.2) = (ltV lts').map (·.2) := by rw [Hlv.out, hlv']
      have hT := Hok.out.1.c1
      have hN := Hok.out.1.c0'
      have hlen : lts.length = tI cells := by have := congrArg List.length Hlv.out; rwa [lvsR_len, ltV, List.length_map] at this
      have hlen' : lts'.length = tI cells := by have := congrArg List.length hlv'; rwa [lvsR_len, ltV, List.length_map] at this
      have hkeys : Hid (∀ x ∈ lts, x.key = ByteArray.empty) := Lib.hid (fun x hx => by
        have h1 : (x.key, x.rc, vals x.es) ∈ ltV lts := List.mem_map.2 ⟨x, hx, rfl⟩
        rw [Hlv.out, lvsR] at h1
        obtain ⟨i, _, h2⟩ := List.mem_map.1 h1
        exact (congrArg (·.1) h2).symm)
      have hbd : Hid (∀ l ∈ ltV lts, l.2.2.length ≤ 1048576 ∧ ∀ e ∈ l.2.2, e.2.length ≤ 1048576) := Lib.hid (by rw [Hlv.out]; exact lvsR_bd _ _ _ _)
      have hNn : nI cells ≤ 64 := by rw [nI]; omega
      have hTn : tI cells ≤ 256 := by rw [tI]; omega
      generalize rowsR cells (nI cells) = RR at *
      generalize nI cells = N at *
      obtain ⟨A3, c3, rfl, hr3, _, _⟩ := ReadsK.of_own hor
      obtain ⟨A4, c4, rfl, hr4, _, _⟩ := ReadsK.of_own hor'
      have hlr := hol.row
      have hlr' := hol'.row
      rw [hlen] at hlr
      rw [hlen'] at hlr'
      obtain ⟨A5, c5, rfl, _, _, _⟩ := ReadsK.of_own hlr
      obtain ⟨A6, c6, rfl, _, _, _⟩ := ReadsK.of_own hlr'
      have hl3 := hol.reads hlen.symm
      have hl4 := hol'.reads hlen'.symm
      have Hvv := Lib.hid hvv
      generalize tI cells = T at *
      clear hvv hlv' hor hor' hol hol' hlr hlr' hlen hlen' hT hN
      go_wp2_with fail
      refine (HF _).mono ?_
      rintro e w5 ⟨rfl, hb5⟩
      have hB5 := then_ hB4 hb5
      have h35 : Below w3.heap.size w3 w5 := then_ hb4 hb5
      have HS1 := sameRows_yes RR A3 A4 N c3 N c4 w5 ((hr3.below h35).more h35.size) ((hr4.below hb5).more hb5.size) (by omega)
      clear hr3 hr4
      go_wp2_with fail
      refine HS1.mono ?_
      clear HS1
      rintro e w6 ⟨rfl, hb6⟩
      have hB6 := then_ hB5 hb6
      have h36 : Below w3.heap.size w3 w6 := then_ h35 hb6
      have h46 : Below w4.heap.size w4 w6 := then_ hb5 hb6
      have HS2 := sameLists_yes lts lts' Hvv.out hbd.out A5 A6 T c5 T c6 w6 ((hl3.below h36).more h36.size) ((hl4.below h46).more h46.size) (by omega)
      clear hl4
      go_wp2_with fail
      refine HS2.mono ?_
      clear HS2
      rintro e w7 ⟨rfl, hb7⟩
      have hB7 := then_ hB6 hb7
      have h37 : Below w3.heap.size w3 w7 := then_ h36 hb7
      clear hb4 hb5 hb6 hb7 h35 h36 h46 hB4 hB5 hB6
      go_wp2_with fail
      go_loopw [55] (fun i wr => ∃ k : Nat, k ≤ T ∧ i = .int .i64 (k : Int) ∧ Below w.heap.size w wr ∧ Below w3.heap.size w3 wr) (fun i _ => T - (intOf i).toNat)
      case atStart => exact ⟨0, by omega, rfl, hB7, h37⟩
      case round =>
        obtain ⟨k, hk, rfl, hB, hb⟩ := hrel
        by_cases hlt : k < T
        · have hl := (hl3.below hb)
          have hkl : k < lts.length := by have := hl3.count; omega
          obtain ⟨ad, ky, r, A', n', c', es, rfl, hab, hlv, q0, q1, q2, he, hc'⟩ := hl.at' hlt
          have hky : ky = ByteArray.empty := by
            have h1 := hkeys.out _ (List.getElem_mem hkl)
            rw [lvAt_get _ _ (by rw [ltV, List.length_map]; exact hkl)] at hlv
            have h2 := congrArg (·.1) hlv
            simp only [ltV, List.getElem_map] at h2
            rw [← h2, h1]
          subst hky
          have hlt' : (k : Int) < (T : Int) := by omega
          have hk0 : (0 : Int) ≤ (k : Int) := by omega
          have hBa : Below w.heap.size w (wr.alloc (.cells #[.string ByteArray.empty, .int .i64 r, .slice A' n' c'] 47)) := hB.alloc hB.size _
          have hba : Below w3.heap.size w3 (wr.alloc (.cells #[.string ByteArray.empty, .int .i64 r, .slice A' n' c'] 47)) := hb.alloc hb.size _
          clear hlv hl he
          go_wp2
          go_roundw
          case rel => exact ⟨k + 1, by omega, by go_num, hBa, hba⟩
          case measure => simp [intOf]; omega
        · have hlt' : ¬ (k : Int) < (T : Int) := by omega
          have h2r : Below w2.heap.size w2 wr := hb3.trans (hb.mono hb3.size)
          have HS3 := same32_yes cells cells _ A1 n1 n1 n1 c1 wr ((hr2.below h2r).more h2r.size) ((hy.below hB).more hB.size) (by omega) rfl
          go_wp2_with fail
          refine HS3.mono ?_
          clear HS3
          rintro e w8 ⟨rfl, hb8⟩
          go_wp2
          go_ret
          exact ⟨rfl, then_ hB hb8⟩
    · exact absurd (okC_of_P Hok.out) hnk
  · have hB3 := then_ hb2 hb3
    have HR := refRead_any at_ cells Hz.out A1 n1 c1 w3 ((hy.below hB3).more hB3.size) (by omega) HSL.out
    have Hnk := Lib.hid hnk
    clear hnk
    go_wp2_with fail
    refine HR.mono ?_
    clear HR
    rintro e w4 (⟨_, _, _, rfl, hok, _⟩ | ⟨rfl, _, hb4⟩)
    · exact absurd (okP_of_C hok (fun x hx => (Hz.out x hx).1)) Hnk.out
    · have hB4 := then_ hB3 hb4
      go_wp2_with fail
      refine (HF _).mono ?_
      rintro e w5 ⟨rfl, hb5⟩
      have hB5 := then_ hB4 hb5
      have HS1 := sameRows_yes [] none none 0 0 0 0 w5 ⟨rfl, Nat.zero_le _, fun h => absurd h (by omega)⟩ ⟨rfl, Nat.zero_le _, fun h => absurd h (by omega)⟩ (by omega)
      go_wp2_with fail
      refine HS1.mono ?_
      clear HS1
      rintro e w6 ⟨rfl, hb6⟩
      have hB6 := then_ hB5 hb6
      have HS2 := sameLists_yes [] [] rfl (by simp [ltV]) none none 0 0 0 0 w6 (ReadsL.nil_ _ _ _ _) (ReadsL.nil_ _ _ _ _) (by omega)
      go_wp2_with fail
      refine HS2.mono ?_
      clear HS2
      rintro e w7 ⟨rfl, hb7⟩
      have hB7 := then_ hB6 hb7
      have h27 : Below w2.heap.size w2 w7 := then_ (then_ (then_ (then_ hb3 hb4) hb5) hb6) hb7
      have HS3 := same32_yes cells cells _ A1 n1 n1 n1 c1 w7 ((hr2.below h27).more h27.size) ((hy.below hB7).more hB7.size) (by omega) rfl
      go_wp2_with fail
      go_loopw [55] (fun i wr => i = .int .i64 0 ∧ wr = w7) (fun _ _ => 0)
      case atStart => exact ⟨rfl, rfl⟩
      case round =>
        obtain ⟨rfl, rfl⟩ := hrel
        go_wp2_with fail
        refine HS3.mono ?_
        clear HS3
        rintro e w8 ⟨rfl, hb8⟩
        go_wp2
        go_ret
        exact ⟨rfl, then_ hB7 hb8⟩
end Go.Proofs.Ytbbjlijdodnjaaa
