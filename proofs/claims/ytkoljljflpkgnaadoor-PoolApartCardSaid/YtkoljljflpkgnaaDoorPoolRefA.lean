/- The walks of pool.Slab, ref02.Slab, ref02.Sizes. -/
import Derived.Test.YtkoljljflpkgnaaDoorPool
import Derived.Deep.LoopGhost
import Derived.StillTailTactics
namespace Go.Proofs.YtkoljljflpkgnaaDoor
open Go.RowKit

def szI (k : Int) : Int := if 0 ≤ k ∧ k ≤ 3 then sz k.toNat else 0
theorem slab_any (k : Int) (w : World) (hT : SizesAt w) : Calls Tryd.prog 13 #[.int .i64 k] w fun e w' => e = .returned (.int .i64 (szI k)) ∧ w = w' := by
  unfold szI
  by_cases h : 0 ≤ k ∧ k ≤ 3
  · rw [if_pos h]
    obtain ⟨j, rfl⟩ := Int.eq_ofNat_of_zero_le h.1
    have hb := btw_yes h.1 h.2
    have hc := hT.cell (k := j) (by omega)
    have hj : (j : Int) < 4 := by omega
    have hj0 : (0 : Int) ≤ (j : Int) := by omega
    clear h
    go_enter Tryd.func13, Tryd.ntmps13
    go_wp2_with (go_at_call 20; refine (between_any _ _ _ _).mono ?_; rintro e w' ⟨rfl, rfl⟩)
    go_ret
    exact ⟨rfl, rfl⟩
  · rw [if_neg h]
    have hb : btw k 0 3 = false := btw_no (by omega)
    clear h
    go_enter Tryd.func13, Tryd.ntmps13
    go_wp2_with (go_at_call 20; refine (between_any _ _ _ _).mono ?_; rintro e w' ⟨rfl, rfl⟩)
    go_ret
    exact ⟨rfl, rfl⟩
theorem sz_up (i : Nat) (h : i < 3) : sz i * 4 = sz (i + 1) := by
  rcases (show i = 0 ∨ i = 1 ∨ i = 2 from by omega) with rfl | rfl | rfl <;> rfl
theorem sz_bd (i : Nat) : 0 ≤ sz i ∧ sz i ≤ 256 := by
  unfold sz
  split <;> omega
theorem refSlab_any (k : Int) (w : World) : Calls Tryd.prog 19 #[.int .i64 k] w fun e w' => e = .returned (.int .i64 (szI k)) ∧ w = w' := by
  unfold szI
  by_cases h : 0 ≤ k ∧ k ≤ 3
  · rw [if_pos h]
    obtain ⟨j, rfl⟩ := Int.eq_ofNat_of_zero_le h.1
    have hj : (j : Int) ≤ 3 := h.2
    clear h
    go_enter Tryd.func19, Tryd.ntmps19
    go_wp2
    go_loopw [3, 4] (fun n i wr => ∃ t : Nat, t ≤ j ∧ i = .int .i64 t ∧ n = .int .i64 (sz t) ∧ w = wr) (fun _ i _ => j - (intOf i).toNat)
    case atStart => exact ⟨0, by omega, rfl, rfl, rfl⟩
    case round =>
      obtain ⟨t, ht, rfl, rfl, rfl⟩ := hrel
      have hb := sz_bd t
      by_cases hlt : t < j
      · have hlt' : (t : Int) < (j : Int) := by omega
        have hs := Lib.hid (sz_up t (by omega))
        go_wp2
        rw [hs.out]
        go_roundw
        case rel => exact ⟨t + 1, by omega, by go_num, rfl, trivial⟩
        case measure => simp [intOf]; omega
      · have hlt' : ¬ (t : Int) < (j : Int) := by omega
        have e : Hid (t = j) := Lib.hid (by omega)
        go_wp2
        go_ret
        exact ⟨by rw [e.out]; rfl, rfl⟩
  · rw [if_neg h]
    rcases (show k < 0 ∨ (¬ k < 0 ∧ 3 < k) from by omega) with h | ⟨h1, h2⟩
    · go_enter Tryd.func19, Tryd.ntmps19
      go_wp2
      go_ret
      exact ⟨rfl, rfl⟩
    · clear h
      go_enter Tryd.func19, Tryd.ntmps19
      go_wp2
      go_ret
      exact ⟨rfl, rfl⟩
end Go.Proofs.YtkoljljflpkgnaaDoor
