/- ImageOnly, walked. -/
import Derived.Test.YtbbjlijdodnjaaaImgLawsC
namespace Go.Proofs.Ytbbjlijdodnjaaa
open Go.RowKit

theorem set_split (l : List Lt) (m : Nat) (hm : m < l.length) (x : Lt) : l = l.take m ++ l[m] :: l.drop (m + 1) ∧ l.set m x = l.take m ++ x :: l.drop (m + 1) := by
  constructor
  · rw [← List.drop_eq_getElem_cons hm, List.take_append_drop]
  · rw [List.set_eq_take_append_cons_drop, if_pos hm]
theorem set_row (l : List Lt) (m : Nat) (hm : m < l.length) (ky : ByteArray) : (l.set m { l[m] with key := ky }).flatMap ltC = (l.flatMap ltC).set (m * 3) (.string ky) := by
  obtain ⟨e1, e2⟩ := set_split l m hm { l[m] with key := ky }
  have hl : ((l.take m).flatMap ltC).length = m * 3 := by rw [rec_len ltC_len]; simp; omega
  rw [e2]
  conv => rhs; rw [e1]
  rw [List.flatMap_append, List.flatMap_append, List.set_append_right _ _ (by omega), hl, Nat.sub_self]
  rfl
theorem OwnL.setKey {w : World} {B n c : Nat} {A : Option Addr} {l : List Lt} (m : Nat) (ky : ByteArray) (hky : ky.size ≤ maxLen) (h : OwnL w B (.slice A n c) l) (hm : m < l.length) :
    ∃ (g : Nat) (old : List Value), A = some ⟨g, 0, none⟩ ∧ B ≤ g ∧ g < w.heap.size ∧ Row w g 47 old ∧ m * 3 < old.length ∧
      ∀ (w' w0 : World) (B0 : Nat), Row w' g 47 (old.set (m * 3) (.string ky)) → Below B0 w0 w → Below B0 w0 w' → w'.heap.size = w.heap.size → (∀ k, k ≠ g → w'.heap[k]? = w.heap[k]?) → OwnL w' B (.slice A n c) (l.set m { l[m] with key := ky }) := by
  rcases h.row.2 with ⟨_, h0⟩ | ⟨g, cap, cur, e, hbg, hg, hnc, hcm, hcs, htake⟩
  · omega
  · injection e with e1 e2 e3
    subst e1 e2 e3
    have hcl : cur.toList.length = c * 3 := by simpa using hcs
    have hgs : g < w.heap.size := (h.row.lt g rfl).2
    refine ⟨g, cur.toList, rfl, hbg, hgs, by rw [Row, hg], by omega, fun w' w0 B0 hr hb hb' hs hk => ?_⟩
    have hgr : w.grownBy w' (some g) := grown_of hb hb' hs hk
    have hmem : ∀ x ∈ l.set m { l[m] with key := ky }, ∃ y ∈ l, x.h = y.h ∧ x.es = y.es ∧ (x.key = y.key ∨ x.key = ky) := fun x hx => by
      rcases List.mem_or_eq_of_mem_set hx with hx | rfl
      · exact ⟨x, hx, rfl, rfl, .inl rfl⟩
      · exact ⟨l[m], List.getElem_mem hm, rfl, rfl, .inr rfl⟩
    refine ⟨⟨?_, .inr ⟨g, c, (cur.toList.set (m * 3) (.string ky)).toArray, by rw [List.length_set], hbg, hr, by rw [List.length_set]; omega, hcm, by simp [hcs], ?_⟩⟩, fun x hx => ?_, fun x hx => ?_, fun x hx => ?_, fun x hx => ?_, fun x hx => ?_, fun x hx => ?_⟩
    · rw [rec_len ltC_len]
    · rw [set_row l m hm ky, ← htake, List.length_set, List.toList_toArray, List.take_set]
    all_goals obtain ⟨y, hy, q1, q2, q3⟩ := hmem x hx
    · rw [q1, q2]
      exact (h.ent y hy).kept hgr (by have := (h.ap y hy).symm.ne; exact this) (fun z hz => by have := (h.ape y hy z (by exact hz)).symm.ne; exact this)
    · rw [q1, q2]; exact h.hn y hy
    · rw [q1]; exact h.ap y hy
    · rw [q2]; exact h.ape y hy
    · rw [q1]; exact h.cap y hy
    · rcases q3 with q3 | q3
      · rw [q3]; exact h.ks y hy
      · rw [q3]; exact hky
/-- The first m keys as the law has them, the others empty. -/
def mixK (m i : Nat) : ByteArray := if i < m then keyO i else ByteArray.empty
theorem mix_zero (at_ : Int) (cells : List Int) (T : Nat) : lvsR at_ cells noKey T = lvsR at_ cells (mixK 0) T := by
  refine List.map_congr_left fun i _ => ?_
  simp [lvR, mixK, noKey]
theorem mix_all (at_ : Int) (cells : List Int) (T : Nat) : lvsR at_ cells (mixK T) T = lvsR at_ cells keyO T := by
  refine List.map_congr_left fun i hi => ?_
  rw [lvR, lvR, mixK, if_pos (List.mem_range.1 hi)]
theorem mix_step (at_ : Int) (cells : List Int) (T m : Nat) (l : List Lt) (hm : m < l.length) (h : ltV l = lvsR at_ cells (mixK m) T) : ltV (l.set m { l[m] with key := keyO m }) = lvsR at_ cells (mixK (m + 1)) T := by
  have hl : l.length = T := by have := congrArg List.length h; rwa [lvsR_len, ltV, List.length_map] at this
  refine List.ext_getElem (by rw [lvsR_len, ltV, List.length_map, List.length_set, hl]) fun i h1 h2 => ?_
  have hi : i < T := by rwa [lvsR_len] at h2
  have h3 : (ltV l)[i]'(by rw [ltV, List.length_map]; omega) = (lvsR at_ cells (mixK m) T)[i]'(by rw [lvsR_len]; exact hi) := by simp only [h]
  simp only [ltV, lvsR, List.getElem_map, List.getElem_range] at h3 ⊢
  rw [List.getElem_set]
  by_cases e : m = i
  · subst e
    rw [if_pos rfl]
    simp only [lvR, mixK, Prod.mk.injEq] at h3 ⊢
    rw [if_pos (by omega)]
    exact ⟨rfl, h3.2⟩
  · rw [if_neg e, h3, lvR, lvR]
    have : mixK m i = mixK (m + 1) i := by
      rw [mixK, mixK]
      by_cases h4 : i < m
      · rw [if_pos h4, if_pos (by omega)]
      · rw [if_neg h4, if_neg (by omega)]
    rw [this]
set_option maxRecDepth 100000 in
set_option maxHeartbeats 20000000 in
theorem walkImageOnly {w : World} (at_ : Int) (_ : (Lit.int .i64 at_).wf = true) (cells : List Int) (A1 : Option Addr) (n1 c1 : Nat) (hy : Reads w w.heap.size A1 n1 c1 (ints .u32 cells)) (hz0 : ∀ x ∈ cells, (Lit.int .u32 x).wf = true) :
    Calls Try.prog 6 #[.int .i64 at_, .slice A1 n1 c1] w fun e w' => e = .returned (.bool true) ∧ Below w.heap.size w w' := by
  have hz : ∀ x ∈ cells, 0 ≤ x ∧ x < 4294967296 := fun x hx => wf_u32c (hz0 x hx)
  have HF := fixed_any
  have lx : cells.length = n1 := by simpa using hy.len
  clear hz0
  go_enter Try.func6, Try.ntmps6
  by_cases h3 : 3000 < n1
  · have h3' : (3000 : Int) < (n1 : Int) := by omega
    go_wp2_with fail
    refine (HF _).mono ?_
    rintro e w2 ⟨rfl, hb2⟩
    go_wp2
    go_ret
    exact ⟨rfl, hb2⟩
  have h3' : ¬ (3000 : Int) < (n1 : Int) := by omega
  have hsegl : ∀ i, i < tI cells → (segR at_ cells i).length ≤ 20000 := fun i _ => by have := seg_le at_ cells i; omega
  have HSL := Lib.hid hsegl
  have Hz := Lib.hid hz
  have Lx := Lib.hid lx
  have HD := read_any at_ cells Hz.out A1 n1 c1 w hy (by omega) HSL.out
  clear lx hz hsegl
  go_wp2_with fail
  refine HD.mono ?_
  clear HD
  rintro e w1 (⟨vr, vl, lts, rfl, hok, hor, hol, hlv, hb1, hap⟩ | ⟨rfl, hnk, hb1⟩)
  · have Hok := Lib.hid hok
    have hT := hok.1.c1
    have hN := hok.1.c0'
    have hNn : nI cells ≤ 64 := by rw [nI]; omega
    have hTn : tI cells ≤ 256 := by rw [tI]; omega
    have hlen : lts.length = tI cells := by have := congrArg List.length hlv; rwa [lvsR_len, ltV, List.length_map] at this
    rw [mix_zero] at hlv
    have Hlv := Lib.hid hlv
    obtain ⟨A3, c3, rfl, hr3, _, _⟩ := ReadsK.of_own hor
    have hlr := hol.row
    rw [hlen] at hlr
    obtain ⟨A5, c5, rfl, _, _, _⟩ := ReadsK.of_own hlr
    have HI := Lib.hid (only_img hok (fun x hx => (Hz.out x hx).1))
    generalize rowsR cells (nI cells) = RR at *
    generalize nI cells = N at *
    generalize tI cells = T at *
    have Hor := Lib.hid hor
    have Hlen := Lib.hid hlen
    clear hok hlv hlr hT hN hor hlen
    go_wp2_with fail
    go_loopw [37] (fun i wr => ∃ (k : Nat) (l : List Lt), k ≤ T ∧ i = .int .i64 (k : Int) ∧ OwnL wr w.heap.size (.slice A5 T c5) l ∧ Hid (l.length = T) ∧ Hid (ltV l = lvsR at_ cells (mixK k) T) ∧ Hid (wr.ownsRow w.heap.size 54 4 (.slice A3 N c3) N (RR.flatMap rwC)) ∧ Below w.heap.size w wr) (fun i _ => T - (intOf i).toNat)
    case atStart => exact ⟨0, lts, by omega, rfl, hol, Hlen, Hlv, Hor, hb1⟩
    case round =>
      clear hol hr3 hb1 Hor Hlen Hlv
      obtain ⟨k, l, hk, rfl, hL, HL, HV, HR, hB⟩ := hrel
      by_cases hlt : k < T
      · have hlt' : (k : Int) < (T : Int) := by omega
        have hk0 : (0 : Int) ≤ (k : Int) := by omega
        have hw1 : IntKind.u8.wrap (1 + (k : Int) / 128) = 1 + (k : Int) / 128 := by unfold IntKind.wrap; simp [IntKind.bits, IntKind.signed]; omega
        have hw2 : IntKind.u8.wrap ((k : Int) % 128) = (k : Int) % 128 := by unfold IntKind.wrap; simp [IntKind.bits, IntKind.signed]; omega
        have hbb : bys [UInt8.ofNat (1 + k / 128), UInt8.ofNat (k % 128)] = [.int .u8 (1 + (k : Int) / 128), .int .u8 ((k : Int) % 128)] := by
          simp only [bys, List.map_cons, List.map_nil, UInt8.toNat_ofNat']
          rw [show (1 + k / 128 : Nat) % 2 ^ 8 = 1 + k / 128 from by omega, show (k % 128 : Nat) % 2 ^ 8 = k % 128 from by omega]
          rfl
        have hra : Reads (wr.alloc (.cells #[.int .u8 (1 + (k : Int) / 128), .int .u8 ((k : Int) % 128)] 5)) (wr.heap.size + 1) (some ⟨wr.heap.size, 0, none⟩) 2 2 (bys [UInt8.ofNat (1 + k / 128), UInt8.ofNat (k % 128)]) := by rw [hbb]; exact lit_reads wr 5 [.int .u8 (1 + (k : Int) / 128), .int .u8 ((k : Int) % 128)]
        have hcv := run_string_of (P := Try.prog) (W := wr.alloc (.cells #[.int .u8 (1 + (k : Int) / 128), .int .u8 ((k : Int) % 128)] 5)) 49 9 5 Try.underlying49 Try.underlying5 Try.underlying9 (B := wr.heap.size + 1) (n := 2) (c := 2) (A := some ⟨wr.heap.size, 0, none⟩) (l := [UInt8.ofNat (1 + k / 128), UInt8.ofNat (k % 128)]) hra
        change _ = Result.ok (Value.string (keyO k)) _ at hcv
        have hba : Below wr.heap.size wr (wr.alloc (.cells #[.int .u8 (1 + (k : Int) / 128), .int .u8 ((k : Int) % 128)] 5)) := (Below.refl _ _).alloc (Nat.le_refl _) _
        have hBa := then_ hB hba
        obtain ⟨g, old, rfl, hwg, hgs, hrow, hjo, hnext⟩ := (hL.below hba).setKey k (keyO k) (by show (2 : Nat) ≤ _; simp [maxLen]) (by rw [HL.out]; exact hlt)
        have Hnext := Lib.hid hnext
        have HRa := Lib.hid (ownsRow_below HR.out hba)
        have HVs := Lib.hid (mix_step at_ cells T k l (by rw [HL.out]; exact hlt) HV.out)
        have Hba := Lib.hid hba
        clear hnext hL hra hbb hba
        go_wp2_with (first
          | (refine wpList_store_cellO rfl 9 (.tmp 52) (.tmp 50) rfl g (k * 3) (.string (keyO k)) rfl rfl 47 _ hrow hjo rfl (by kernel_rfl) w.heap.size w hBa hwg ?_; intro w4 hr4 hb4 hs4 hk4))
        have hL4 := Hnext.out w4 w w.heap.size hr4 hBa hb4 hs4 hk4
        have HR4 : Hid (w4.ownsRow w.heap.size 54 4 (.slice A3 N c3) N (RR.flatMap rwC)) := Lib.hid (HRa.out.kept (grown_of hBa hb4 hs4 hk4) (.inr fun e => hap g e rfl))
        have HL4 : Hid ((l.set k { l[k]'(by rw [HL.out]; exact hlt) with key := keyO k }).length = T) := Lib.hid (by rw [List.length_set, HL.out])
        clear hrow hr4 hs4 hk4 hcv hBa
        go_wp2
        go_roundw
        case rel => exact ⟨k + 1, _, by omega, by go_num, hL4, HL4, HVs, HR4, hb4⟩
        case measure => simp [intOf]; omega
      · have hlt' : ¬ (k : Int) < (T : Int) := by omega
        obtain rfl : k = T := by omega
        have hV := HV.out
        rw [mix_all] at hV
        have HRR := HR.out
        obtain ⟨A3', c3', e3, hr3, _, _⟩ := ReadsK.of_own HRR
        injection e3 with e1 _ e2
        subst e1 e2
        have HM := make_any at_ RR A3 N c3 l A5 k c5 wr hr3 (hL.reads HL.out.symm)
        rw [hV, HI.out] at HM
        simp only at HM
        rw [Lx.out] at HM
        clear HRR hr3 hV hL
        go_wp2_with fail
        refine HM.mono ?_
        clear HM
        rintro e w5 ⟨v5, rfl, hown5, hb5⟩
        obtain ⟨A6, c6, rfl, hr6, _, _⟩ := ownsRow_slice hown5
        have hB5 := then_ hB hb5
        clear hown5
        go_wp2_with fail
        refine (HF _).mono ?_
        rintro e w6 ⟨rfl, hb6⟩
        have hB6 := then_ hB5 hb6
        have HS3 := same32_yes cells cells A6 A1 n1 c6 n1 c1 w6 ((hr6.below hb6).more hb6.size) ((hy.below hB6).more hB6.size) (by omega) rfl
        go_wp2_with fail
        refine HS3.mono ?_
        clear HS3
        rintro e w8 ⟨rfl, hb8⟩
        go_wp2
        go_ret
        exact ⟨rfl, then_ hB6 hb8⟩
  · go_wp2_with fail
    refine (HF _).mono ?_
    rintro e w6 ⟨rfl, hb6⟩
    go_wp2
    go_ret
    exact ⟨rfl, then_ hb1 hb6⟩
end Go.Proofs.Ytbbjlijdodnjaaa
