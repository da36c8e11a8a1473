/- The walk of ref01.Copy. -/
import Derived.Test.YtbbjlijdodnjaaaPackCells
namespace Go.Proofs.Ytbbjlijdodnjaaa
open Go.RowKit

set_option maxHeartbeats 400000 in
theorem copy_any (xs : List Int) (A : Option Addr) (n c : Nat) (w : World) (hx : Reads w w.heap.size A n c (ints .u32 xs)) (hn : n ≤ 1048576) :
    Calls Try.prog 16 #[.slice A n c] w fun e w' => ∃ g, e = .returned (.slice (some ⟨g, 0, none⟩) n n) ∧ Row w' g 30 (ints .u32 xs) ∧ w.heap.size ≤ g ∧ Below w.heap.size w w' := by
  obtain ⟨i0, hi0, hz0, hz1, hz2⟩ := info_parts info_u32
  have hmk := run_make_row1 (P := Try.prog) 26 30 i0 _ Try.underlying26 hi0 hz0 hz1 (by omega) rfl (n : Int) n rfl (by omega)
  clear hi0 hz0 hz1 hz2
  go_enter Try.func16, Try.ntmps16
  go_wp2_with (with_reducible refine wpList_copy_full rfl (.tmp 7) (.tmp 8) 26 rfl 30 Try.underlying26 (by kernel_rfl) w.heap.size (List.replicate n (.int .u32 0)) (ints .u32 xs) n c (Row.zeros _ _ _ _) (by simp) _ _ (hx.alloc (Nat.le_refl _) _) rfl rfl (ints_one _ _) w.heap.size w ((Below.refl _ _).alloc (Nat.le_refl _) _) (Nat.le_refl _) ?_; intro w1 hrow1 hb1)
  go_ret
  exact ⟨_, rfl, hrow1, Nat.le_refl _, hb1⟩
end Go.Proofs.Ytbbjlijdodnjaaa
