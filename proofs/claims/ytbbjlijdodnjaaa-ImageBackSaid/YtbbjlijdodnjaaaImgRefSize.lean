/- The walk of ref14's Size. -/
import Derived.Test.YtbbjlijdodnjaaaImgRefMake
namespace Go.Proofs.Ytbbjlijdodnjaaa
open Go.RowKit

theorem size_img (rows : List Rv) (ls : List LV) : sizeI rows.length ls = ((imgA 0 rows ls).1.length : Int) := by
  rw [sizeI, imgA]
  by_cases h : mayI rows.length ls = true
  · rw [if_pos h, if_pos ⟨h, by omega, by omega⟩]
    show _ = ((imgL 0 rows ls).length : Int)
    rw [imgL_len]
    omega
  · rw [if_neg h, if_neg (fun k => h k.1)]
    rfl
set_option maxRecDepth 100000 in
set_option maxHeartbeats 4000000 in
theorem refSizeI_any (rows : List Rv) (A0 : Option Addr) (nr cr : Nat) (ls : List Lt) (A : Option Addr) (n c : Nat) (w : World) (hr : ReadsK 4 w w.heap.size A0 nr cr (rows.flatMap rwC)) (hl : ReadsL w w.heap.size A n c ls) :
    Calls Try.prog 15 #[.slice A0 nr cr, .slice A n c] w fun e w' => e = .returned (.int .i64 (sizeI nr (ltV ls))) ∧ Below w.heap.size w w' := by
  have HM := refMakeI_any 0 rows A0 nr cr ls A n c w hr hl
  have HS : Hid (sizeI nr (ltV ls) = ((imgA 0 rows (ltV ls)).1.length : Int)) := Lib.hid (by rw [← size_img, hr.count rwC_len (by omega)])
  generalize imgA 0 rows (ltV ls) = I at *
  obtain ⟨I1, I2⟩ := I
  simp only at HM HS
  go_enter Try.func15, Try.ntmps15
  go_wp2_with fail
  refine HM.mono ?_
  clear HM
  rintro e w1 ⟨v, rfl, hown, hb1⟩
  obtain ⟨A1, c1, rfl, _, _, _⟩ := ownsRow_slice hown
  clear hown
  go_wp2
  go_ret
  exact ⟨by rw [HS.out]; rfl, hb1⟩
end Go.Proofs.Ytbbjlijdodnjaaa
