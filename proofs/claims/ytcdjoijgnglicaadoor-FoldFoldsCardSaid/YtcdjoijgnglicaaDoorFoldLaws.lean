/- The laws of fold, walked. -/
import Derived.Test.YtcdjoijgnglicaaDoorFoldLaid
import Derived.Test.YtcdjoijgnglicaaDoorFoldRefF
namespace Go.Proofs.YtcdjoijgnglicaaDoor
open Go.RowKit

theorem wf32 {a : Int} (h : (Lit.int .i32 a).wf = true) : -2147483648 ≤ a ∧ a ≤ 2147483647 := by
  simp [Lit.wf, IntKind.min, IntKind.max, IntKind.signed, IntKind.bits] at h; omega
theorem foldOf_bounds (r : Int) (h : -2147483648 ≤ r ∧ r ≤ 2147483647) : -2147483648 ≤ foldOf r ∧ foldOf r ≤ 2147483647 := by
  by_cases h1 : 0 ≤ r ∧ r < 1700
  · obtain ⟨n, rfl⟩ : ∃ n : Nat, r = n := ⟨r.toNat, by omega⟩
    have hall : (List.range 1700).all (fun n => decide (0 ≤ foldOf (n : Nat) ∧ foldOf (n : Nat) ≤ 2000)) = true := by decide +kernel
    have := of_decide_eq_true (List.all_eq_true.mp hall n (List.mem_range.mpr (by omega)))
    omega
  · rw [fold_out r (by omega)]; exact h

set_option maxRecDepth 100000 in
set_option maxHeartbeats 1000000 in
theorem walkFoldClass {w : World} (hL : LaidF w) (a : Int) (wa : (Lit.int .i32 a).wf = true) :
    Calls Tryd.prog 3 #[.int .i32 a] w fun e w' => e = .returned (.bool true) ∧ Below w.heap.size w w' := by
  have hb0 := Below.refl w.heap.size w
  have ba : -2147483648 ≤ a ∧ a ≤ 2147483647 := wf32 wa
  go_enter Tryd.func3, Tryd.ntmps3
  go_wp2_with (first | (refine (fixed_go hL (by assumption)).mono ?_; rintro _ _ ⟨rfl, hb⟩) | (refine (fold_go _ (by first | assumption | omega) hL (by assumption)).mono ?_; rintro _ _ ⟨rfl, hb⟩) | (refine (class_go _ hL (by assumption)).mono ?_; rintro _ _ ⟨rfl, hb⟩) | (refine (rclass_any _ _).mono ?_; rintro _ _ ⟨rfl, rfl⟩) | (refine (rfold_any _ _).mono ?_; rintro _ _ ⟨rfl, rfl⟩))
  go_ret
  exact ⟨rfl, by assumption⟩

set_option maxRecDepth 100000 in
set_option maxHeartbeats 1000000 in
theorem walkFoldFolds {w : World} (hL : LaidF w) (a : Int) (wa : (Lit.int .i32 a).wf = true) :
    Calls Tryd.prog 4 #[.int .i32 a] w fun e w' => e = .returned (.bool true) ∧ Below w.heap.size w w' := by
  have hb0 := Below.refl w.heap.size w
  have ba : -2147483648 ≤ a ∧ a ≤ 2147483647 := wf32 wa
  go_enter Tryd.func4, Tryd.ntmps4
  go_wp2_with (first | (refine (fixed_go hL (by assumption)).mono ?_; rintro _ _ ⟨rfl, hb⟩) | (refine (fold_go _ (by first | assumption | omega) hL (by assumption)).mono ?_; rintro _ _ ⟨rfl, hb⟩) | (refine (class_go _ hL (by assumption)).mono ?_; rintro _ _ ⟨rfl, hb⟩) | (refine (rclass_any _ _).mono ?_; rintro _ _ ⟨rfl, rfl⟩) | (refine (rfold_any _ _).mono ?_; rintro _ _ ⟨rfl, rfl⟩))
  go_ret
  exact ⟨rfl, by assumption⟩

set_option maxRecDepth 100000 in
set_option maxHeartbeats 1000000 in
theorem walkFoldOnce {w : World} (hL : LaidF w) (a : Int) (wa : (Lit.int .i32 a).wf = true) :
    Calls Tryd.prog 5 #[.int .i32 a] w fun e w' => e = .returned (.bool true) ∧ Below w.heap.size w w' := by
  have hb0 := Below.refl w.heap.size w
  have ba : -2147483648 ≤ a ∧ a ≤ 2147483647 := wf32 wa
  have q := foldOf_bounds a ba
  obtain ⟨q1, q2⟩ := fold_once a
  go_enter Tryd.func5, Tryd.ntmps5
  go_wp2_with (first | (refine (fixed_go hL (by assumption)).mono ?_; rintro _ _ ⟨rfl, hb⟩) | (refine (fold_go _ (by first | assumption | omega) hL (by assumption)).mono ?_; rintro _ _ ⟨rfl, hb⟩) | (refine (class_go _ hL (by assumption)).mono ?_; rintro _ _ ⟨rfl, hb⟩) | (refine (rclass_any _ _).mono ?_; rintro _ _ ⟨rfl, rfl⟩) | (refine (rfold_any _ _).mono ?_; rintro _ _ ⟨rfl, rfl⟩))
  go_ret
  exact ⟨rfl, by assumption⟩

set_option maxRecDepth 100000 in
set_option maxHeartbeats 1000000 in
theorem walkFoldPlain {w : World} (hL : LaidF w) (a : Int) (wa : (Lit.int .i32 a).wf = true) :
    Calls Tryd.prog 7 #[.int .i32 a] w fun e w' => e = .returned (.bool true) ∧ Below w.heap.size w w' := by
  have hb0 := Below.refl w.heap.size w
  have ba : -2147483648 ≤ a ∧ a ≤ 2147483647 := wf32 wa
  by_cases h : classOf a = 0
  · have h2 : foldOf a = a := (fold_plain a).resolve_left fun k => k h
    go_enter Tryd.func7, Tryd.ntmps7
    go_wp2_with (first | (refine (fixed_go hL (by assumption)).mono ?_; rintro _ _ ⟨rfl, hb⟩) | (refine (fold_go _ (by first | assumption | omega) hL (by assumption)).mono ?_; rintro _ _ ⟨rfl, hb⟩) | (refine (class_go _ hL (by assumption)).mono ?_; rintro _ _ ⟨rfl, hb⟩) | (refine (rclass_any _ _).mono ?_; rintro _ _ ⟨rfl, rfl⟩) | (refine (rfold_any _ _).mono ?_; rintro _ _ ⟨rfl, rfl⟩))
    go_ret
    exact ⟨rfl, by assumption⟩
  · have h2 : (classOf a != 0) = true := by simpa using h
    go_enter Tryd.func7, Tryd.ntmps7
    go_wp2_with (first | (refine (fixed_go hL (by assumption)).mono ?_; rintro _ _ ⟨rfl, hb⟩) | (refine (fold_go _ (by first | assumption | omega) hL (by assumption)).mono ?_; rintro _ _ ⟨rfl, hb⟩) | (refine (class_go _ hL (by assumption)).mono ?_; rintro _ _ ⟨rfl, hb⟩) | (refine (rclass_any _ _).mono ?_; rintro _ _ ⟨rfl, rfl⟩) | (refine (rfold_any _ _).mono ?_; rintro _ _ ⟨rfl, rfl⟩))
    go_ret
    exact ⟨rfl, by assumption⟩

set_option maxRecDepth 100000 in
set_option maxHeartbeats 4000000 in
theorem walkFoldFew {w : World} (hL : LaidF w) (a : Int) (wa : (Lit.int .i32 a).wf = true) (b : Int) (wb : (Lit.int .i32 b).wf = true) (c : Int) (wc : (Lit.int .i32 c).wf = true) (d : Int) (wd : (Lit.int .i32 d).wf = true) :
    Calls Tryd.prog 6 #[.int .i32 a, .int .i32 b, .int .i32 c, .int .i32 d] w fun e w' => e = .returned (.bool true) ∧ Below w.heap.size w w' := by
  have hb0 := Below.refl w.heap.size w
  have ba : -2147483648 ≤ a ∧ a ≤ 2147483647 := wf32 wa
  have bb : -2147483648 ≤ b ∧ b ≤ 2147483647 := wf32 wb
  have bc : -2147483648 ≤ c ∧ c ≤ 2147483647 := wf32 wc
  have bd : -2147483648 ≤ d ∧ d ≤ 2147483647 := wf32 wd
  have hd (x y : Int) (h : ¬ x = y) : (x != y) = true ∧ (x == y) = false := ⟨by simpa using h, by simpa using h⟩
  by_cases h1 : foldOf b = foldOf a
  · by_cases h2 : foldOf c = foldOf a
    · by_cases h3 : foldOf d = foldOf a
      · have H := fold_few a b c d h1 h2 h3
        have H2 : a = b ∨ (¬ a = b ∧ a = c) ∨ (¬ a = b ∧ ¬ a = c ∧ a = d) ∨ (¬ a = b ∧ ¬ a = c ∧ ¬ a = d ∧ b = c) ∨ (¬ a = b ∧ ¬ a = c ∧ ¬ a = d ∧ ¬ b = c ∧ b = d) ∨ (¬ a = b ∧ ¬ a = c ∧ ¬ a = d ∧ ¬ b = c ∧ ¬ b = d ∧ c = d) := by omega
        clear H
        rcases H2 with y | ⟨n0, y⟩ | ⟨n0, n1, y⟩ | ⟨n0, n1, n2, y⟩ | ⟨n0, n1, n2, n3, y⟩ | ⟨n0, n1, n2, n3, n4, y⟩
        · have z : (a == b) = true := by simpa using y
          clear y 
          go_enter Tryd.func6, Tryd.ntmps6
          go_wp2_with (first | (refine (fixed_go hL (by assumption)).mono ?_; rintro _ _ ⟨rfl, hb⟩) | (refine (fold_go _ (by first | assumption | omega) hL (by assumption)).mono ?_; rintro _ _ ⟨rfl, hb⟩) | (refine (class_go _ hL (by assumption)).mono ?_; rintro _ _ ⟨rfl, hb⟩) | (refine (rclass_any _ _).mono ?_; rintro _ _ ⟨rfl, rfl⟩) | (refine (rfold_any _ _).mono ?_; rintro _ _ ⟨rfl, rfl⟩))
          go_ret
          exact ⟨rfl, by assumption⟩
        · have e0 := (hd _ _ n0).2
          have z : (a == c) = true := by simpa using y
          clear y n0
          go_enter Tryd.func6, Tryd.ntmps6
          go_wp2_with (first | (refine (fixed_go hL (by assumption)).mono ?_; rintro _ _ ⟨rfl, hb⟩) | (refine (fold_go _ (by first | assumption | omega) hL (by assumption)).mono ?_; rintro _ _ ⟨rfl, hb⟩) | (refine (class_go _ hL (by assumption)).mono ?_; rintro _ _ ⟨rfl, hb⟩) | (refine (rclass_any _ _).mono ?_; rintro _ _ ⟨rfl, rfl⟩) | (refine (rfold_any _ _).mono ?_; rintro _ _ ⟨rfl, rfl⟩))
          go_ret
          exact ⟨rfl, by assumption⟩
        · have e0 := (hd _ _ n0).2
          have e1 := (hd _ _ n1).2
          have z : (a == d) = true := by simpa using y
          clear y n0 n1
          go_enter Tryd.func6, Tryd.ntmps6
          go_wp2_with (first | (refine (fixed_go hL (by assumption)).mono ?_; rintro _ _ ⟨rfl, hb⟩) | (refine (fold_go _ (by first | assumption | omega) hL (by assumption)).mono ?_; rintro _ _ ⟨rfl, hb⟩) | (refine (class_go _ hL (by assumption)).mono ?_; rintro _ _ ⟨rfl, hb⟩) | (refine (rclass_any _ _).mono ?_; rintro _ _ ⟨rfl, rfl⟩) | (refine (rfold_any _ _).mono ?_; rintro _ _ ⟨rfl, rfl⟩))
          go_ret
          exact ⟨rfl, by assumption⟩
        · have e0 := (hd _ _ n0).2
          have e1 := (hd _ _ n1).2
          have e2 := (hd _ _ n2).2
          have z : (b == c) = true := by simpa using y
          clear y n0 n1 n2
          go_enter Tryd.func6, Tryd.ntmps6
          go_wp2_with (first | (refine (fixed_go hL (by assumption)).mono ?_; rintro _ _ ⟨rfl, hb⟩) | (refine (fold_go _ (by first | assumption | omega) hL (by assumption)).mono ?_; rintro _ _ ⟨rfl, hb⟩) | (refine (class_go _ hL (by assumption)).mono ?_; rintro _ _ ⟨rfl, hb⟩) | (refine (rclass_any _ _).mono ?_; rintro _ _ ⟨rfl, rfl⟩) | (refine (rfold_any _ _).mono ?_; rintro _ _ ⟨rfl, rfl⟩))
          go_ret
          exact ⟨rfl, by assumption⟩
        · have e0 := (hd _ _ n0).2
          have e1 := (hd _ _ n1).2
          have e2 := (hd _ _ n2).2
          have e3 := (hd _ _ n3).2
          have z : (b == d) = true := by simpa using y
          clear y n0 n1 n2 n3
          go_enter Tryd.func6, Tryd.ntmps6
          go_wp2_with (first | (refine (fixed_go hL (by assumption)).mono ?_; rintro _ _ ⟨rfl, hb⟩) | (refine (fold_go _ (by first | assumption | omega) hL (by assumption)).mono ?_; rintro _ _ ⟨rfl, hb⟩) | (refine (class_go _ hL (by assumption)).mono ?_; rintro _ _ ⟨rfl, hb⟩) | (refine (rclass_any _ _).mono ?_; rintro _ _ ⟨rfl, rfl⟩) | (refine (rfold_any _ _).mono ?_; rintro _ _ ⟨rfl, rfl⟩))
          go_ret
          exact ⟨rfl, by assumption⟩
        · have e0 := (hd _ _ n0).2
          have e1 := (hd _ _ n1).2
          have e2 := (hd _ _ n2).2
          have e3 := (hd _ _ n3).2
          have e4 := (hd _ _ n4).2
          have z : (c == d) = true := by simpa using y
          clear y n0 n1 n2 n3 n4
          go_enter Tryd.func6, Tryd.ntmps6
          go_wp2_with (first | (refine (fixed_go hL (by assumption)).mono ?_; rintro _ _ ⟨rfl, hb⟩) | (refine (fold_go _ (by first | assumption | omega) hL (by assumption)).mono ?_; rintro _ _ ⟨rfl, hb⟩) | (refine (class_go _ hL (by assumption)).mono ?_; rintro _ _ ⟨rfl, hb⟩) | (refine (rclass_any _ _).mono ?_; rintro _ _ ⟨rfl, rfl⟩) | (refine (rfold_any _ _).mono ?_; rintro _ _ ⟨rfl, rfl⟩))
          go_ret
          exact ⟨rfl, by assumption⟩
      · obtain ⟨e1, e2⟩ := hd _ _ h3
        go_enter Tryd.func6, Tryd.ntmps6
        go_wp2_with (first | (refine (fixed_go hL (by assumption)).mono ?_; rintro _ _ ⟨rfl, hb⟩) | (refine (fold_go _ (by first | assumption | omega) hL (by assumption)).mono ?_; rintro _ _ ⟨rfl, hb⟩) | (refine (class_go _ hL (by assumption)).mono ?_; rintro _ _ ⟨rfl, hb⟩) | (refine (rclass_any _ _).mono ?_; rintro _ _ ⟨rfl, rfl⟩) | (refine (rfold_any _ _).mono ?_; rintro _ _ ⟨rfl, rfl⟩))
        go_ret
        exact ⟨rfl, by assumption⟩
    · obtain ⟨e1, e2⟩ := hd _ _ h2
      go_enter Tryd.func6, Tryd.ntmps6
      go_wp2_with (first | (refine (fixed_go hL (by assumption)).mono ?_; rintro _ _ ⟨rfl, hb⟩) | (refine (fold_go _ (by first | assumption | omega) hL (by assumption)).mono ?_; rintro _ _ ⟨rfl, hb⟩) | (refine (class_go _ hL (by assumption)).mono ?_; rintro _ _ ⟨rfl, hb⟩) | (refine (rclass_any _ _).mono ?_; rintro _ _ ⟨rfl, rfl⟩) | (refine (rfold_any _ _).mono ?_; rintro _ _ ⟨rfl, rfl⟩))
      go_ret
      exact ⟨rfl, by assumption⟩
  · obtain ⟨e1, e2⟩ := hd _ _ h1
    go_enter Tryd.func6, Tryd.ntmps6
    go_wp2_with (first | (refine (fixed_go hL (by assumption)).mono ?_; rintro _ _ ⟨rfl, hb⟩) | (refine (fold_go _ (by first | assumption | omega) hL (by assumption)).mono ?_; rintro _ _ ⟨rfl, hb⟩) | (refine (class_go _ hL (by assumption)).mono ?_; rintro _ _ ⟨rfl, hb⟩) | (refine (rclass_any _ _).mono ?_; rintro _ _ ⟨rfl, rfl⟩) | (refine (rfold_any _ _).mono ?_; rintro _ _ ⟨rfl, rfl⟩))
    go_ret
    exact ⟨rfl, by assumption⟩
end Go.Proofs.YtcdjoijgnglicaaDoor
