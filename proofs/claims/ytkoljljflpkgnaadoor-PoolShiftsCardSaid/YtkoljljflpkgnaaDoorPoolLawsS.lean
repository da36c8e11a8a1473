/- The walk of the law PoolShifts: printed by wip/bin/gen_shifts.py. -/
import Derived.Test.YtkoljljflpkgnaaDoorPoolShift0
import Derived.Test.YtkoljljflpkgnaaDoorPoolShift1
import Derived.Test.YtkoljljflpkgnaaDoorPoolShift2
import Derived.Test.YtkoljljflpkgnaaDoorPoolShift3
namespace Go.Proofs.YtkoljljflpkgnaaDoor
open Go.RowKit

theorem walkPoolShifts {w : World} (hT : SizesAt w) (c : Cf) (hw : c.Wf) (k : Int) (hk : (Lit.int .u8 k).wf = true) : Calls Tryd.prog 5 #[c.val, .int .u8 k] w fun e w' => e = .returned (.bool true) ∧ Below w.heap.size w w' := by
  obtain ⟨h0, h1⟩ := wf_u8 hk
  have ht : k.tmod 4 = k % 4 := Int.tmod_eq_emod_of_nonneg h0
  rcases (show k % 4 = 0 ∨ k % 4 = 1 ∨ k % 4 = 2 ∨ k % 4 = 3 from by omega) with h | h | h | h
  · exact shifts_0 hT c k (hw 0 (by omega)) h0 h1 (ht.trans h)
  · exact shifts_1 hT c k (hw 1 (by omega)) h0 h1 (ht.trans h)
  · exact shifts_2 hT c k (hw 2 (by omega)) h0 h1 (ht.trans h)
  · exact shifts_3 hT c k (hw 3 (by omega)) h0 h1 (ht.trans h)
end Go.Proofs.YtkoljljflpkgnaaDoor
