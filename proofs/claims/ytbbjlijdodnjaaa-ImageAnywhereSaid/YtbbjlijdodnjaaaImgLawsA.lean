/- ImageMakes, walked. -/
import Derived.Test.YtbbjlijdodnjaaaImgGreat
import Derived.Test.YtbbjlijdodnjaaaImgFix
import Derived.Test.YtbbjlijdodnjaaaImgRefSize
import Derived.Test.YtbbjlijdodnjaaaImgSize
import Derived.Test.YtbbjlijdodnjaaaSame32
namespace Go.Proofs.Ytbbjlijdodnjaaa
open Go.RowKit

theorem imgA_len (at_ : Int) (rows : List Rv) (ls : List LV) : (imgA at_ rows ls).1.length ≤ 6000000 := by
  rw [imgA]
  split
  · rename_i h
    obtain ⟨h1, h2, _⟩ := mayI_parts h.1
    have h3 := bodyI_len_le (may_lens h.1)
    show (imgL at_ rows ls).length ≤ _
    rw [imgL_len]
    omega
  · simp
set_option maxRecDepth 100000 in
set_option maxHeartbeats 4000000 in
theorem walkImageMakes {w : World} (at_ : Int) (_ : (Lit.int .i64 at_).wf = true) (rows : List Rv) (A0 : Option Addr) (nr cr : Nat) (hr : ReadsK 4 w w.heap.size A0 nr cr (rows.flatMap rwC)) (_ : cr ≤ maxLen) (ls : List Lt) (A : Option Addr) (n c : Nat) (hl : ReadsL w w.heap.size A n c ls) (_ : c ≤ maxLen) :
    Calls Try.prog 4 #[.int .i64 at_, .slice A0 nr cr, .slice A n c] w fun e w' => e = .returned (.bool true) ∧ Below w.heap.size w w' := by
  have HF := fixed_any
  have HG := great_any A0 nr cr ls A n c w hl
  go_enter Try.func4, Try.ntmps4
  go_wp2_with fail
  refine HG.mono ?_
  clear HG
  rintro e w1 ⟨rfl | rfl, hb1⟩
  · go_wp2_with fail
    refine (HF _).mono ?_
    rintro e w2 ⟨rfl, hb2⟩
    go_wp2
    go_ret
    exact ⟨rfl, then_ hb1 hb2⟩
  have HM := make_any at_ rows A0 nr cr ls A n c w1 ((hr.below hb1).more hb1.size) ((hl.below hb1).more hb1.size)
  have hil := imgA_len at_ rows (ltV ls)
  go_wp2_with fail
  refine HM.mono ?_
  clear HM
  rintro e w2 ⟨v2, rfl, hown2, hb2⟩
  have hB2 := then_ hb1 hb2
  have HM := refMakeI_any at_ rows A0 nr cr ls A n c w2 ((hr.below hB2).more hB2.size) ((hl.below hB2).more hB2.size)
  obtain ⟨A2, c2, rfl, hr2, _, _⟩ := ownsRow_slice hown2
  clear hown2 hb2
  go_wp2_with fail
  refine HM.mono ?_
  clear HM
  rintro e w3 ⟨v3, rfl, hown3, hb3⟩
  have hB3 := then_ hB2 hb3
  obtain ⟨A3, c3, rfl, hr3, _, _⟩ := ownsRow_slice hown3
  have hr23 := (hr2.below hb3).more hb3.size
  clear hown3 hb3 hr2
  generalize imgA at_ rows (ltV ls) = I at *
  obtain ⟨I1, I2⟩ := I
  simp only at hil hr3 hr23
  generalize hL : I1.length = L at *
  go_wp2_with fail
  refine (HF _).mono ?_
  rintro e w4 ⟨rfl, hb4⟩
  have hB4 := then_ hB3 hb4
  have HS := same32_yes I1 I1 A2 A3 L c2 L c3 w4 ((hr23.below hb4).more hb4.size) ((hr3.below hb4).more hb4.size) (by omega) rfl
  clear hr23 hr3 hL
  go_wp2_with fail
  refine HS.mono ?_
  clear HS
  rintro e w5 ⟨rfl, hb5⟩
  have hB5 := then_ hB4 hb5
  have HZ := size_any A0 nr cr ls A n c w5 ((hl.below hB5).more hB5.size)
  go_wp2_with fail
  refine HZ.mono ?_
  clear HZ
  rintro e w6 ⟨rfl, hb6⟩
  have hB6 := then_ hB5 hb6
  have HZ := refSizeI_any rows A0 nr cr ls A n c w6 ((hr.below hB6).more hB6.size) ((hl.below hB6).more hB6.size)
  go_wp2_with fail
  refine HZ.mono ?_
  clear HZ
  rintro e w7 ⟨rfl, hb7⟩
  go_wp2
  go_ret
  exact ⟨rfl, then_ hB6 hb7⟩
end Go.Proofs.Ytbbjlijdodnjaaa
