/- The walks of the five laws of score. -/
import Derived.Test.YtfjeblbpjjffoaaScoreRef
namespace Go.Proofs.Ytfjeblbpjjffoaa
open Go.RowKit

theorem ordF_bd (x y : Nat) : -1 ≤ ordF x y ∧ ordF x y ≤ 1 := by
  unfold ordF
  repeat' split
  all_goals omega
theorem ordF_turn (x y : Nat) : ordF x y = -ordF y x := by
  unfold ordF
  cases nanB x <;> cases nanB y <;> simp
  split
  · split
    · omega
    · rfl
  · split <;> rfl
theorem ordF_three (x y z : Nat) (h1 : ordF x y ≤ 0) (h2 : ordF y z ≤ 0) : ordF x z ≤ 0 ∧ (ordF x z < 0 ↔ ordF x y < 0 ∨ ordF y z < 0) := by
  have p1 := ordF_place x y
  have p2 := ordF_place y z
  have p3 := ordF_place x z
  omega
theorem ordF_zero (x y : Nat) (hx : x < 18446744073709551616) (hy : y < 18446744073709551616) :
    (ordF x y == 0) = ((bitsF x == bitsF y) || ((FloatKind.f64.format.order x 0 == some .eq) && (FloatKind.f64.format.order y 0 == some .eq))) := by
  have hz : ∀ x, nanB x = false → (FloatKind.f64.format.order x 0 == some .eq) = decide (key x = 0) := by
    intro x h
    rw [order_cmp x 0 h (by decide), show key 0 = 0 from by decide]
    rcases Int.lt_trichotomy (key x) 0 with h | h | h
    · rw [cmp_lt h]; simp; omega
    · rw [h]; decide
    · rw [cmp_gt h]; simp; omega
  have hn : ∀ x, nanB x = true → (FloatKind.f64.format.order x 0 == some .eq) = false := by
    intro x h
    rw [order_nan x 0 (.inl (by simpa [nanB] using h))]
    rfl
  have hb : ∀ x, nanB x = false → x < 18446744073709551616 → (x : Int) ≠ 9221120237041090561 := by
    intro x h h' e
    have : x = 9221120237041090561 := by omega
    subst this
    exact absurd h (by decide)
  unfold ordF bitsF
  cases h1 : nanB x <;> cases h2 : nanB y
  · rw [hz x h1, hz y h2]
    have hk : key x = key y ↔ (x = y ∨ (key x = 0 ∧ key y = 0)) := by
      refine ⟨fun h => ?_, fun h => ?_⟩
      · by_cases a : 9223372036854775808 ≤ x
        · rw [key_hi x a hx] at h ⊢
          by_cases b : 9223372036854775808 ≤ y
          · rw [key_hi y b hy] at h ⊢; omega
          · rw [key_lo y (by omega)] at h ⊢; omega
        · rw [key_lo x (by omega)] at h ⊢
          by_cases b : 9223372036854775808 ≤ y
          · rw [key_hi y b hy] at h ⊢; omega
          · rw [key_lo y (by omega)] at h ⊢; omega
      · rcases h with rfl | ⟨a, b⟩
        · rfl
        · omega
    rw [Bool.eq_iff_iff]
    simp
    split
    · simp; omega
    · split
      · simp; omega
      · simp; omega
  · have := hb x h1 hx
    rw [hn y h2]
    simp [this]
  · have := hb y h2 hy
    rw [hn x h1]
    simp
    omega
  · simp

theorem wfF {x : Nat} (h : (Lit.float .f64 x).wf = true) : x < 18446744073709551616 := by
  simpa [Lit.wf] using h

set_option maxHeartbeats 1000000 in
theorem walkScoreRare (n : Int) (_ : (Lit.int .i64 n).wf = true) (m : Int) (_ : (Lit.int .i64 m).wf = true) (w : World) :
    Calls Try.prog 3 #[.int .i64 n, .int .i64 m] w fun e w' => e = .returned (.bool true) ∧ Below w.heap.size w w' := by
  go_enter Try.func3, Try.ntmps3
  go_wp2_with fail
  refine (fixed_any _).mono ?_
  rintro e w1 ⟨rfl, hb1⟩
  go_wp2_with fail
  refine (rare_any n m _).mono ?_
  rintro e w2 ⟨r, rfl, h1, q1, hq1⟩
  have hb2 : Below w.heap.size w w2 := by rw [hq1]; exact below_drewN hb1 _
  clear hq1
  go_wp2_with fail
  refine (bits_any _ _).mono ?_
  rintro e w' ⟨rfl, rfl⟩
  go_wp2_with fail
  refine (refRare_any n m _).mono ?_
  rintro e w3 ⟨r', rfl, h2, q2, hq2⟩
  have hb3 : Below w.heap.size w w3 := by rw [hq2]; exact below_drewN hb2 _
  clear hq2
  have he : (bitsF r == bitsF r') = true := by rw [bits_sim (h1.out.sim h2.out)]; simp
  go_wp2_with fail
  refine (refBits_any _ _).mono ?_
  rintro e w' ⟨rfl, rfl⟩
  go_wp2
  go_ret
  exact ⟨rfl, hb3⟩
set_option maxHeartbeats 1000000 in
theorem walkScoreWorth (k : Nat) (_ : (Lit.float .f64 k).wf = true) (b : Nat) (_ : (Lit.float .f64 b).wf = true) (t : Int) (_ : (Lit.int .i64 t).wf = true) (l : Int) (_ : (Lit.int .i64 l).wf = true) (v : Nat) (_ : (Lit.float .f64 v).wf = true) (w : World) :
    Calls Try.prog 4 #[.float .f64 k, .float .f64 b, .int .i64 t, .int .i64 l, .float .f64 v] w fun e w' => e = .returned (.bool true) ∧ Below w.heap.size w w' := by
  go_enter Try.func4, Try.ntmps4
  go_wp2_with fail
  refine (fixed_any _).mono ?_
  rintro e w1 ⟨rfl, hb1⟩
  go_wp2_with fail
  refine (worth_any k b t l v _).mono ?_
  rintro e w2 ⟨r, rfl, h1, q1, hq1⟩
  have hb2 : Below w.heap.size w w2 := by rw [hq1]; exact below_drewN hb1 _
  clear hq1
  go_wp2_with fail
  refine (bits_any _ _).mono ?_
  rintro e w' ⟨rfl, rfl⟩
  go_wp2_with fail
  refine (refWorth_any k b t l v _).mono ?_
  rintro e w3 ⟨r', rfl, h2, q2, hq2⟩
  have hb3 : Below w.heap.size w w3 := by rw [hq2]; exact below_drewN hb2 _
  clear hq2
  have he : (bitsF r == bitsF r') = true := by rw [bits_sim (h1.out.sim h2.out)]; simp
  go_wp2_with fail
  refine (refBits_any _ _).mono ?_
  rintro e w' ⟨rfl, rfl⟩
  go_wp2
  go_ret
  exact ⟨rfl, hb3⟩
set_option maxHeartbeats 1000000 in
theorem walkScoreOrders (x : Nat) (hx : (Lit.float .f64 x).wf = true) (y : Nat) (hy : (Lit.float .f64 y).wf = true) (w : World) :
    Calls Try.prog 5 #[.float .f64 x, .float .f64 y] w fun e w' => e = .returned (.bool true) ∧ Below w.heap.size w w' := by
  have hx := wfF hx
  have hy := wfF hy
  go_enter Try.func5, Try.ntmps5
  go_wp2_with fail
  refine (fixed_any _).mono ?_
  rintro e w1 ⟨rfl, hb1⟩
  go_wp2_with (first
    | (go_at_call 15; refine (order_any _ _ _).mono ?_; rintro e w' ⟨rfl, rfl⟩)
    | (go_at_call 16; refine (refOrder_any x y hx hy _).mono ?_; rintro e w' ⟨rfl, rfl⟩)
    | (go_at_call 17; refine (same_any _ _ _).mono ?_; rintro e w' ⟨rfl, rfl⟩)
    | (go_at_call 9; refine (bits_any _ _).mono ?_; rintro e w' ⟨rfl, rfl⟩)
    | (go_at_call 11; refine (refBits_any _ _).mono ?_; rintro e w' ⟨rfl, rfl⟩))
  go_ret
  exact ⟨rfl, hb1⟩
set_option maxHeartbeats 2000000 in
theorem walkScoreTurned (x : Nat) (hx : (Lit.float .f64 x).wf = true) (y : Nat) (hy : (Lit.float .f64 y).wf = true) (w : World) :
    Calls Try.prog 6 #[.float .f64 x, .float .f64 y] w fun e w' => e = .returned (.bool true) ∧ Below w.heap.size w w' := by
  have h0 := ordF_zero x y (wfF hx) (wfF hy)
  have ht := ordF_turn x y
  have hbd := ordF_bd y x
  have hxx : ordF x x = 0 := by have := ordF_turn x x; omega
  have e1 : (ordF x y == -ordF y x) = true := by rw [ht]; simp
  have HT := Lib.hid ht
  clear ht
  obtain ⟨b0, b1⟩ := hbd
  cases z1 : (FloatKind.f64.format.order x 0 == some .eq) <;> cases z2 : (FloatKind.f64.format.order y 0 == some .eq) <;> cases z3 : (bitsF x == bitsF y)
  all_goals
    rw [z1, z2, z3] at h0
    simp only [Bool.and_self, Bool.and_true, Bool.and_false, Bool.or_true, Bool.or_false, Bool.or_self] at h0
    go_enter Try.func6, Try.ntmps6
    go_wp2_with (first
      | (go_at_call 8; refine (fixed_any _).mono ?_; rintro e w1 ⟨rfl, hb1⟩)
      | (go_at_call 15; refine (order_any _ _ _).mono ?_; rintro e w' ⟨rfl, rfl⟩)
      | (go_at_call 17; refine (same_any _ _ _).mono ?_; rintro e w' ⟨rfl, rfl⟩))
    go_ret
    exact ⟨rfl, hb1⟩
set_option maxHeartbeats 2000000 in
theorem walkScoreThree (x : Nat) (_ : (Lit.float .f64 x).wf = true) (y : Nat) (_ : (Lit.float .f64 y).wf = true) (z : Nat) (_ : (Lit.float .f64 z).wf = true) (w : World) :
    Calls Try.prog 7 #[.float .f64 x, .float .f64 y, .float .f64 z] w fun e w' => e = .returned (.bool true) ∧ Below w.heap.size w w' := by
  have h3 := ordF_three x y z
  have hA := fun w => order_any x y w
  have hB := fun w => order_any y z w
  have hC := fun w => order_any x z w
  generalize ordF x y = a at *
  generalize ordF y z = b at *
  generalize ordF x z = c at *
  have HA := Lib.hid hA
  have HB := Lib.hid hB
  have HC := Lib.hid hC
  clear hA hB hC
  rcases (show 0 < a ∨ (a ≤ 0 ∧ 0 < b) ∨ (a ≤ 0 ∧ b ≤ 0 ∧ c < 0 ∧ a < 0) ∨ (a ≤ 0 ∧ b ≤ 0 ∧ c < 0 ∧ 0 ≤ a ∧ b < 0) ∨ (a ≤ 0 ∧ b ≤ 0 ∧ c ≤ 0 ∧ 0 ≤ c ∧ 0 ≤ a ∧ 0 ≤ b) from by
    by_cases ha : 0 < a
    · exact .inl ha
    · by_cases hb : 0 < b
      · exact .inr (.inl ⟨by omega, hb⟩)
      · have := h3 (by omega) (by omega)
        omega) with h | ⟨h1, h2⟩ | ⟨h1, h2, h4, h5⟩ | ⟨h1, h2, h4, h5, h6⟩ | ⟨h1, h2, h4, h5, h6, h7⟩
  all_goals
    clear h3
    have d0 : (c < 0 ↔ (a < 0 ∨ b < 0)) ∨ 0 < a ∨ 0 < b := by omega
    have D := Lib.hid d0
    clear d0
    go_enter Try.func7, Try.ntmps7
    go_wp2_with fail
    refine (HA.out _).mono ?_
    rintro e w' ⟨rfl, rfl⟩
    go_wp2_with fail
    refine (HB.out _).mono ?_
    rintro e w' ⟨rfl, rfl⟩
    go_wp2_with fail
    refine (HC.out _).mono ?_
    rintro e w' ⟨rfl, rfl⟩
    go_wp2_with fail
    refine (fixed_any _).mono ?_
    rintro e w1 ⟨rfl, hb1⟩
    go_wp2
    go_ret
    first | exact ⟨rfl, hb1⟩ | exact ⟨by rcases D.out with d | d; exact congrArg (fun b => Ending.returned (Value.bool b)) (by rw [beq_iff_eq, Bool.eq_iff_iff]; simpa using d); omega, hb1⟩
end Go.Proofs.Ytfjeblbpjjffoaa
