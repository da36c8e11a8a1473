/- The walk of fold.Fold. -/
import Derived.Test.YtmofhpebcbpccaaDoorRows
import Derived.Deep.QuietTactic
import Derived.BigQuiet
import Derived.Test.YtmofhpebcbpccaaDoorKit
namespace Go.Proofs.YtmofhpebcbpccaaDoor
open Go.RowKit

/-- A move: from, to, every, by. -/
def movL : List (Int × Int × Int × Int) :=
  [(65, 90, 1, 32), (192, 214, 1, 32), (216, 222, 1, 32), (256, 311, 2, 1), (313, 328, 3, 1), (330, 375, 2, 1), (376, 376, 1, -121), (377, 382, 3, 1), (383, 383, 1, -268), (902, 902, 1, 38), (904, 906, 1, 37), (908, 908, 1, 64), (910, 911, 1, 63), (913, 929, 1, 32), (931, 939, 1, 32), (962, 962, 1, 1), (1024, 1039, 1, 80), (1040, 1071, 1, 32), (1120, 1153, 2, 1), (1162, 1215, 2, 1), (1232, 1327, 2, 1), (1632, 1641, 1, -1584), (0, 0, 0, 0), (0, 0, 0, 0)]
def movC : List Value := movL.flatMap fun m => [.int .i32 m.1, .int .i32 m.2.1, .int .i64 m.2.2.1, .int .i32 m.2.2.2]
def mvAt (k : Nat) : Int × Int × Int × Int := movL.getD k (0, 0, 0, 0)
def mLo (k : Nat) : Int := (mvAt k).1
def mHi (k : Nat) : Int := (mvAt k).2.1
def mEv (k : Nat) : Int := (mvAt k).2.2.1
def mBy (k : Nat) : Int := (mvAt k).2.2.2
theorem run_index_mov (k : Nat) (hk : k < 24) (w : World) : (Instr.index 56 (.agg movC.toArray) (.int .i64 (k : Int))).run Tryd.prog w = .ok (.agg #[.int .i32 (mLo k), .int .i32 (mHi k), .int .i64 (mEv k), .int .i32 (mBy k)]) w := by
  rcases (show k = 0 ∨ k = 1 ∨ k = 2 ∨ k = 3 ∨ k = 4 ∨ k = 5 ∨ k = 6 ∨ k = 7 ∨ k = 8 ∨ k = 9 ∨ k = 10 ∨ k = 11 ∨ k = 12 ∨ k = 13 ∨ k = 14 ∨ k = 15 ∨ k = 16 ∨ k = 17 ∨ k = 18 ∨ k = 19 ∨ k = 20 ∨ k = 21 ∨ k = 22 ∨ k = 23 from by omega) with rfl | rfl | rfl | rfl | rfl | rfl | rfl | rfl | rfl | rfl | rfl | rfl | rfl | rfl | rfl | rfl | rfl | rfl | rfl | rfl | rfl | rfl | rfl | rfl
  all_goals kernel_rfl
theorem mov_bounds (k : Nat) (hk : k < 24) : 0 ≤ mLo k ∧ mLo k ≤ 2000 ∧ 0 ≤ mHi k ∧ mHi k ≤ 2000 ∧ 0 ≤ mEv k ∧ mEv k ≤ 3 ∧ -2000 ≤ mBy k ∧ mBy k ≤ 2000 := by
  rcases (show k = 0 ∨ k = 1 ∨ k = 2 ∨ k = 3 ∨ k = 4 ∨ k = 5 ∨ k = 6 ∨ k = 7 ∨ k = 8 ∨ k = 9 ∨ k = 10 ∨ k = 11 ∨ k = 12 ∨ k = 13 ∨ k = 14 ∨ k = 15 ∨ k = 16 ∨ k = 17 ∨ k = 18 ∨ k = 19 ∨ k = 20 ∨ k = 21 ∨ k = 22 ∨ k = 23 from by omega) with rfl | rfl | rfl | rfl | rfl | rfl | rfl | rfl | rfl | rfl | rfl | rfl | rfl | rfl | rfl | rfl | rfl | rfl | rfl | rfl | rfl | rfl | rfl | rfl
  all_goals decide
/-- What a number folds to, by the table. -/
def foldF (r : Int) : Nat → Nat → Int
  | 0, _ => r
  | f + 1, k => if mEv k = 0 then r else if r < mLo k then r else if mHi k < r then foldF r f (k + 1) else if mEv k = 1 ∨ (mEv k = 2 ∧ r % 2 = 0) ∨ (mEv k = 3 ∧ r % 2 = 1) then r + mBy k else r
def foldOf (r : Int) : Int := foldF r 24 0

set_option maxHeartbeats 1000000 in
theorem fold_any (r : Int) (w : World) (hr : -2147483648 ≤ r ∧ r ≤ 2147483647) (hT : ∃ t fr, w.heap[(2 : Nat)]? = some (.cells movC.toArray t fr)) :
    Calls Tryd.prog 23 #[.int .i32 r] w fun e w' => e = .returned (.int .i32 (foldOf r)) ∧ Below w.heap.size w w' := by
  obtain ⟨tt, fr, hl⟩ := hT
  have HL := Lib.hid hl
  clear hl
  rw [foldOf]
  go_enter Tryd.func23, Tryd.ntmps23
  go_wp2_with (refine wpList_load_row rfl 56 _ rfl 2 rfl tt _ fr _ HL.out Tryd.underlying56 rfl (by kernel_rfl) ?_)
  go_step3
  go_wp2_with (refine wpList_load_row rfl 56 _ rfl 2 rfl tt _ fr _ HL.out Tryd.underlying56 rfl (by kernel_rfl) ?_)
  go_step3
  go_wp2_with (refine wpList_load_row rfl 56 _ rfl 2 rfl tt _ fr _ HL.out Tryd.underlying56 rfl (by kernel_rfl) ?_)
  go_loopw [3, 8] (fun c i wr => ∃ k : Nat, k ≤ 24 ∧ c = .int .i32 r ∧ i = .int .i64 k ∧ foldF r (24 - k) k = foldF r 24 0 ∧ Below w.heap.size w wr) (fun _ i _ => 24 - (intOf i).toNat)
  case atStart => exact ⟨0, by omega, rfl, rfl, rfl, Below.refl _ _⟩
  case round =>
    obtain ⟨k, hk, rfl, rfl, hcl, hb⟩ := hrel
    by_cases hlt : k < 24
    · obtain ⟨f, hf⟩ : ∃ f, 24 - k = f + 1 := ⟨24 - k - 1, by omega⟩
      rw [hf, foldF] at hcl
      have hI := fun wr => run_index_mov k hlt wr
      obtain ⟨b1, b2, b3, b4, b5, b6, b7, b8⟩ := mov_bounds k hlt
      by_cases h0 : mEv k = 0
      · rw [if_pos h0] at hcl
        have HC := Lib.hid hcl
        clear hcl
        go_wp2
        try rw [Exit.noGoto_ret]
        go_ret
        rw [← HC.out]
        exact ⟨rfl, hb.alloc hb.size _⟩
      · rw [if_neg h0] at hcl
        by_cases h1 : r < mLo k
        · rw [if_pos h1] at hcl
          have HC := Lib.hid hcl
          clear hcl
          go_wp2
          try rw [Exit.noGoto_ret]
          go_ret
          rw [← HC.out]
          exact ⟨rfl, hb.alloc hb.size _⟩
        · rw [if_neg h1] at hcl
          by_cases h2 : mHi k < r
          · rw [if_pos h2] at hcl
            go_wp2
            go_roundw
            case rel => exact ⟨k + 1, by omega, rfl, by go_num, by rw [show 24 - (k + 1) = f from by omega]; exact hcl, hb.alloc hb.size _⟩
            case measure => simp [intOf]; omega
          · rw [if_neg h2] at hcl
            have ht : r.tmod 2 = r % 2 := Int.tmod_eq_emod_of_nonneg (by omega)
            have hm : mEv k = 1 ∨ mEv k = 2 ∨ mEv k = 3 := by omega
            have hp : r % 2 = 0 ∨ r % 2 = 1 := by omega
            rcases hm with hm | hm | hm <;> rcases hp with hp | hp <;> simp [hm, hp] at hcl
            all_goals
              rw [hp] at ht
              have HC := Lib.hid hcl
              clear hcl
              go_wp2
              try rw [Exit.noGoto_ret]
              go_ret
              rw [← HC.out]
              exact ⟨rfl, hb.alloc hb.size _⟩
    · go_wp2
      try rw [Exit.noGoto_ret]
      go_ret
      refine ⟨?_, hb⟩
      rw [show 24 - k = 0 from by omega] at hcl
      rw [← hcl]; rfl
end Go.Proofs.YtmofhpebcbpccaaDoor
