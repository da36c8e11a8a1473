/- The walk of the law PoolShifts: printed by wip/bin/gen_shifts.py. -/
import Derived.Test.YtkoljljflpkgnaaDoorPoolLaws
import Derived.Test.YtkoljljflpkgnaaDoorRowOps
import Derived.Deep.RegionHeld3
namespace Go.Proofs.YtkoljljflpkgnaaDoor
open Go.RowKit

theorem store_float (a : Addr) (m : Mode) (b : Nat) (w : World) : (store a (.float .f64 b) m).run Tryd.prog w = stored Tryd.prog w a (.float .f64 b) m := run_store _ _ _ _ _ rfl
/-- One slab more of a class. -/
def Cf.up (c : Cf) (i : Nat) : Cf := ⟨c.docs, c.terms, fun j => if j = i then c.s j + 1 else c.s j, c.book, c.room, c.K, c.B⟩
theorem up_S (c : Cf) (i : Nat) (hi : i < 4) (j : Nat) : (c.up i).S j = c.S j + if j = i then sz i else 0 := by
  unfold Cf.S Cf.up
  simp only
  by_cases h4 : j < 4
  · rw [if_pos h4, if_pos h4]
    by_cases e : j = i
    · subst e
      rw [if_pos rfl, if_pos rfl, Int.add_mul, Int.one_mul]
    · rw [if_neg e, if_neg e, Int.add_zero]
  · rw [if_neg h4, if_neg h4, if_neg (show ¬ j = i by omega), Int.add_zero]
theorem up_at (c : Cf) (i : Nat) (hi : i < 4) : ∀ j : Nat, (c.up i).at_ j = c.at_ j + if i < j then sz i else 0
  | 0 => by simp [Cf.at_]
  | j + 1 => by
    simp only [Cf.at_]
    rw [up_at c i hi j, up_S c i hi j]
    rcases Nat.lt_trichotomy i j with h | h | h
    · rw [if_pos h, if_neg (by omega), if_pos (by omega)]; omega
    · rw [if_neg (by omega), if_pos h.symm, if_pos (by omega)]; omega
    · rw [if_neg (by omega), if_neg (by omega), if_neg (by omega)]; omega
theorem wf_u8 {x : Int} (h : (Lit.int .u8 x).wf = true) : 0 ≤ x ∧ x ≤ 255 := by
  simp [Lit.wf, IntKind.min, IntKind.max, IntKind.signed, IntKind.bits] at h; omega
theorem szI_lit : szI 0 = 4 ∧ szI 1 = 16 ∧ szI 2 = 64 ∧ szI 3 = 256 := by decide
end Go.Proofs.YtkoljljflpkgnaaDoor
