/- ImageBack, walked. -/
import Derived.Test.YtbbjlijdodnjaaaImgGreat
import Derived.Test.YtbbjlijdodnjaaaImgFix
import Derived.Test.YtbbjlijdodnjaaaImgRefSize
import Derived.Test.YtbbjlijdodnjaaaImgSize
import Derived.Test.YtbbjlijdodnjaaaImgOpen
import Derived.Test.YtbbjlijdodnjaaaImgPlain
import Derived.Test.YtbbjlijdodnjaaaHand
import Derived.Test.YtbbjlijdodnjaaaImgRead
import Derived.Test.YtbbjlijdodnjaaaImgSame
import Derived.Test.YtbbjlijdodnjaaaImgBackMath
namespace Go.Proofs.Ytbbjlijdodnjaaa
open Go.RowKit

theorem rows_rngE {rows : List Rv} (h : ∀ x ∈ rows, RvOk x) : ∀ x ∈ rows.flatMap rwI, Rng x := by
  intro x hx
  obtain ⟨r, hr, hx⟩ := List.mem_flatMap.1 hx
  obtain ⟨h0, h1, h2, h3⟩ := h r hr
  simp only [rwI, List.mem_cons, List.mem_nil_iff, or_false] at hx
  rcases hx with rfl | rfl | rfl | rfl <;> assumption
theorem imgA_lenE (at_ : Int) (rows : List Rv) (ls : List LV) : (imgA at_ rows ls).1.length ≤ 6000000 := by
  rw [imgA]
  split
  · rename_i h
    obtain ⟨h1, h2, _⟩ := mayI_parts h.1
    have h3 := bodyI_len_le (may_lens h.1)
    show (imgL at_ rows ls).length ≤ _
    rw [imgL_len]
    omega
  · simp
set_option maxRecDepth 100000 in
set_option maxHeartbeats 20000000 in
theorem walkImageBack {w : World} (at_ : Int) (_ : (Lit.int .i64 at_).wf = true) (rows : List Rv) (A0 : Option Addr) (nr cr : Nat) (hr : ReadsK 4 w w.heap.size A0 nr cr (rows.flatMap rwC)) (_ : cr ≤ maxLen) (hrv : ∀ x ∈ rows, RvOk x) (ls : List Lt) (A : Option Addr) (n c : Nat) (hl : ReadsL w w.heap.size A n c ls) (_ : c ≤ maxLen) :
    Calls Try.prog 7 #[.int .i64 at_, .slice A0 nr cr, .slice A n c] w fun e w' => e = .returned (.bool true) ∧ Below w.heap.size w w' := by
  have HF := fixed_any
  have HG := great_any A0 nr cr ls A n c w hl
  have Hvl := Lib.hid hl.vlen
  have Hrl := Lib.hid (hr.count rwC_len (by omega))
  go_enter Try.func7, Try.ntmps7
  go_wp2_with fail
  refine HG.mono ?_
  clear HG
  rintro e w1 ⟨rfl | rfl, hb1⟩
  · go_wp2_with fail
    refine (HF _).mono ?_
    rintro e w2 ⟨rfl, hb2⟩
    go_wp2
    go_ret
    exact ⟨rfl, then_ hb1 hb2⟩
  have HM := make_any at_ rows A0 nr cr ls A n c w1 ((hr.below hb1).more hb1.size) ((hl.below hb1).more hb1.size)
  have hil := imgA_lenE at_ rows (ltV ls)
  by_cases hA : mayI rows.length (ltV ls) = true ∧ 0 ≤ at_ ∧ at_ ≤ 65536
  · obtain ⟨hm, ha0, ha1⟩ := hA
    rw [imgA_yes hm ha0 ha1] at HM hil
    simp only at HM hil
    have hc := img_okC (rows := rows) hm ha0 ha1
    have hz := imgL_range hm ha0 ha1 (rows_rngE hrv)
    have Hok := Lib.hid (okP_of_C hc (fun x hx => (hz x hx).1))
    have Hz := Lib.hid hz
    have HNI : Hid (nI (imgL at_ rows (ltV ls)) = nr) := Lib.hid (by rw [img_nI, Hrl.out])
    have HTI : Hid (tI (imgL at_ rows (ltV ls)) = n) := Lib.hid (by rw [img_tI, Hvl.out])
    have HRR : Hid (rowsR (imgL at_ rows (ltV ls)) nr = rows) := Lib.hid (by
      have h1 := img_rows (at_ := at_) (rows := rows) (ls := ltV ls)
      rwa [Hrl.out] at h1)
    have HLL : Hid ((lvsR at_ (imgL at_ rows (ltV ls)) noKey n).map (·.2) = (ltV ls).map (·.2)) := Lib.hid (by
      have h1 := img_lists (at_ := at_) hm noKey
      rwa [Hvl.out] at h1)
    have HSL : Hid (∀ i, i < tI (imgL at_ rows (ltV ls)) → (segR at_ (imgL at_ rows (ltV ls)) i).length ≤ 20000) := Lib.hid (fun i hi => by
      rw [img_tI] at hi
      rw [img_seg i hi]
      exact encL_le (okB_parts ((mayI_parts hm).2.2 i hi)).2.may)
    have HSZ : Hid (sizeI nr (ltV ls) = ((imgL at_ rows (ltV ls)).length : Int)) := Lib.hid (by
      have h1 := size_img rows (ltV ls)
      rw [imgA_yes hm (by omega) (by omega), Hrl.out] at h1
      rw [h1, imgL_len, imgL_len])
    have hn64 := (mayI_parts hm).1
    have ht256 := (mayI_parts hm).2.1
    rw [Hrl.out] at hn64
    rw [Hvl.out] at ht256
    clear hc hz hm ha0 ha1
    generalize imgL at_ rows (ltV ls) = I at *
    have HLI : Hid (I.length = I.length) := Lib.hid rfl
    obtain ⟨m, hm⟩ : ∃ m, I.length = m := ⟨_, rfl⟩
    have Hm := Lib.hid hm
    rw [hm] at HM hil
    clear HLI hm
    go_wp2_with fail
    refine HM.mono ?_
    clear HM
    rintro e w2 ⟨v2, rfl, hown2, hb2⟩
    have hB2 := then_ hb1 hb2
    obtain ⟨A2, c2, rfl, hr2, _, _⟩ := ownsRow_slice hown2
    have HR := read_any at_ I Hz.out A2 m c2 w2 hr2 (by omega) HSL.out
    clear hown2
    go_wp2_with fail
    refine HR.mono ?_
    clear HR
    rintro e w3 (⟨vr, vl, lts, rfl, _, hor, hol, hlv, hb3, _⟩ | ⟨rfl, hnk, hb3⟩)
    · have hB3 := then_ hB2 hb3
      rw [HTI.out] at hlv
      rw [HNI.out, HRR.out] at hor
      have hlen : lts.length = n := by have := congrArg List.length hlv; rwa [lvsR_len, ltV, List.length_map] at this
      have Hvv : Hid ((ltV lts).map (·.2) = (ltV ls).map (·.2)) := Lib.hid (by rw [hlv, HLL.out])
      have hbd : Hid (∀ l ∈ ltV lts, l.2.2.length ≤ 1048576 ∧ ∀ e ∈ l.2.2, e.2.length ≤ 1048576) := Lib.hid (by rw [hlv]; exact lvsR_bd _ _ _ _)
      obtain ⟨A3, c3, rfl, hr3, _, _⟩ := ReadsK.of_own hor
      have hlr := hol.row
      rw [hlen] at hlr
      obtain ⟨A5, c5, rfl, _, _, _⟩ := ReadsK.of_own hlr
      have hl3 := hol.reads hlen.symm
      clear hor hol hlr hlv hlen
      go_wp2_with fail
      refine (HF _).mono ?_
      rintro e w4 ⟨rfl, hb4⟩
      have hB4 := then_ hB3 hb4
      have HS1 := sameRows_yes rows A3 A0 nr c3 nr cr w4 ((hr3.below hb4).more hb4.size) ((hr.below hB4).more hB4.size) (by omega)
      clear hr3
      go_wp2_with fail
      refine HS1.mono ?_
      clear HS1
      rintro e w5 ⟨rfl, hb5⟩
      have hB5 := then_ hB4 hb5
      have h35 : Below w3.heap.size w3 w5 := then_ hb4 hb5
      have HS2 := sameLists_yes lts ls Hvv.out hbd.out A5 A n c5 n c w5 ((hl3.below h35).more h35.size) ((hl.below hB5).more hB5.size) (by omega)
      clear hl3
      go_wp2_with fail
      refine HS2.mono ?_
      clear HS2
      rintro e w6 ⟨rfl, hb6⟩
      have hB6 := then_ hB5 hb6
      have HZ := size_any A0 nr cr ls A n c w6 ((hl.below hB6).more hB6.size)
      rw [HSZ.out, Hm.out] at HZ
      go_wp2_with fail
      refine HZ.mono ?_
      clear HZ
      rintro e w7 ⟨rfl, hb7⟩
      go_wp2
      go_ret
      exact ⟨rfl, then_ hB6 hb7⟩
    · exact absurd Hok.out hnk
  · have hI : imgA at_ rows (ltV ls) = ([], 1) := by rw [imgA, if_neg hA]
    rw [hI] at HM
    have HA : Hid (mayI nr (ltV ls) = true → at_ < 0 ∨ 65536 < at_) := Lib.hid (fun h => by
      by_cases h1 : at_ < 0
      · exact .inl h1
      · by_cases h2 : 65536 < at_
        · exact .inr h2
        · exact absurd ⟨by rw [Hrl.out]; exact h, by omega, by omega⟩ hA)
    clear hI hA hil
    go_wp2_with fail
    refine HM.mono ?_
    clear HM
    rintro e w2 ⟨v2, rfl, hown2, hb2⟩
    have hB2 := then_ hb1 hb2
    obtain ⟨A2, c2, rfl, _, _, _⟩ := ownsRow_slice hown2
    go_wp2_with fail
    refine (HF _).mono ?_
    rintro e w3 ⟨rfl, hb3⟩
    have hB3 := then_ hB2 hb3
    have HY := refMayI_any A0 nr cr ls A n c w3 ((hl.below hB3).more hB3.size)
    cases hm : mayI nr (ltV ls) with
    | false =>
      rw [hm] at HY
      go_wp2_with fail
      refine HY.mono ?_
      clear HY
      rintro e w4 ⟨rfl, hb4⟩
      go_wp2
      go_ret
      exact ⟨rfl, then_ hB3 hb4⟩
    | true =>
      rw [hm] at HY
      rcases HA.out hm with h1 | h1
      · clear hm
        go_wp2_with fail
        refine HY.mono ?_
        clear HY
        rintro e w4 ⟨rfl, hb4⟩
        go_wp2
        go_ret
        exact ⟨rfl, then_ hB3 hb4⟩
      · clear hm
        have h2 : ¬ at_ < 0 := by omega
        go_wp2_with fail
        refine HY.mono ?_
        clear HY
        rintro e w4 ⟨rfl, hb4⟩
        go_wp2
        go_ret
        exact ⟨rfl, then_ hB3 hb4⟩
end Go.Proofs.Ytbbjlijdodnjaaa
