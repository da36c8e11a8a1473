/- score's order at rank's seat. -/
import Derived.Test.YtdkbiimhdbnplaaRows
import Derived.Test.YtdkbiimhdbnplaaScoreMath
import Derived.Laws.FloatArith
import Derived.Test.YtdkbiimhdbnplaaKit
namespace Go.Proofs.Ytdkbiimhdbnplaa
open Go.RowKit

theorem isNaN_any (x : Nat) (w : World) : Calls Try.prog 23 #[.float .f64 x] w fun e w' => e = .returned (.bool (nanB x)) ∧ w = w' := by
  have h : (FloatKind.f64.format.order x x != some .eq) = nanB x := by
    by_cases hn : infN < x % topN
    · rw [order_nan x x (.inl hn)]
      simp [nanB, hn]
    · rw [order_key x x (by omega) (by omega)]
      simp [nanB, hn]
  have H := Lib.hid h
  clear h
  go_enter Try.func23, Try.ntmps23
  go_wp2
  go_ret
  exact ⟨by rw [← H.out]; rfl, rfl⟩
/-- The order: -1, 0, 1. -/
def ordF (x y : Nat) : Int :=
  if nanB x && nanB y then 0 else if nanB x then -1 else if nanB y then 1 else if key x < key y then -1 else if key y < key x then 1 else 0

/-- What the comparisons say, where neither is a NaN. -/
theorem order_cmp (x y : Nat) (hx : nanB x = false) (hy : nanB y = false) : FloatKind.f64.format.order x y = some (compare (key x) (key y)) :=
  order_key x y (by simpa [nanB] using hx) (by simpa [nanB] using hy)

set_option maxHeartbeats 1000000 in
theorem order_any (x y : Nat) (w : World) : Calls Try.prog 17 #[.float .f64 x, .float .f64 y] w fun e w' => e = .returned (.int .i64 (ordF x y)) ∧ w = w' := by
  unfold ordF
  cases hx : nanB x
  · cases hy : nanB y
    · have ho := order_cmp x y hx hy
      rcases Int.lt_trichotomy (key x) (key y) with h | h | h
      · rw [cmp_lt h] at ho
        simp only [Bool.and_self, Bool.false_eq_true, if_false, if_pos h]
        clear h
        go_enter Try.func17, Try.ntmps17
        go_wp2_with ((go_at_call 23; refine (isNaN_any _ _).mono ?_; rintro e w' ⟨rfl, rfl⟩))
        go_ret
        exact ⟨rfl, rfl⟩
      · rw [h, Int.compare_eq_eq.2 rfl] at ho
        have h1 : ¬ key x < key y := by omega
        have h2 : ¬ key y < key x := by omega
        simp only [Bool.and_self, Bool.false_eq_true, if_false, if_neg h1, if_neg h2]
        clear h h1 h2
        go_enter Try.func17, Try.ntmps17
        go_wp2_with ((go_at_call 23; refine (isNaN_any _ _).mono ?_; rintro e w' ⟨rfl, rfl⟩))
        go_ret
        exact ⟨rfl, rfl⟩
      · rw [cmp_gt h] at ho
        have h1 : ¬ key x < key y := by omega
        simp only [Bool.and_self, Bool.false_eq_true, if_false, if_neg h1, if_pos h]
        clear h h1
        go_enter Try.func17, Try.ntmps17
        go_wp2_with ((go_at_call 23; refine (isNaN_any _ _).mono ?_; rintro e w' ⟨rfl, rfl⟩))
        go_ret
        exact ⟨rfl, rfl⟩
    · have ho := order_nan x y (.inr (by simpa [nanB] using hy))
      simp only [Bool.and_true, Bool.false_eq_true, if_false, if_true]
      go_enter Try.func17, Try.ntmps17
      go_wp2_with ((go_at_call 23; refine (isNaN_any _ _).mono ?_; rintro e w' ⟨rfl, rfl⟩))
      go_ret
      exact ⟨rfl, rfl⟩
  · have ho := order_nan x y (.inl (by simpa [nanB] using hx))
    cases hy : nanB y
    · simp only [Bool.and_false, Bool.false_eq_true, if_false, if_true]
      go_enter Try.func17, Try.ntmps17
      go_wp2_with ((go_at_call 23; refine (isNaN_any _ _).mono ?_; rintro e w' ⟨rfl, rfl⟩))
      go_ret
      exact ⟨rfl, rfl⟩
    · simp only [Bool.and_self, if_true]
      go_enter Try.func17, Try.ntmps17
      go_wp2_with ((go_at_call 23; refine (isNaN_any _ _).mono ?_; rintro e w' ⟨rfl, rfl⟩))
      go_ret
      exact ⟨rfl, rfl⟩

theorem float64bits_any (x : Nat) (w : World) : (callFunc 19 #[.float .f64 x]).run Try.prog w = .ok (.value (.int .u64 x)) w := by
  rw [run_callFunc_extern Try.func19 (by kernel_rfl) (by kernel_rfl) (by kernel_rfl) (e := Extern.MathFloatBits.float64bits) (by kernel_rfl)]
  rfl
def bitsF (x : Nat) : Int := if nanB x = true then 9221120237041090561 else (x : Int)
def placeF (x : Nat) : Int := if nanB x = true then 0 else 9223372036854775808 + key x + 1
theorem ne_self (x : Nat) : (FloatKind.f64.format.order x x != some .eq) = nanB x := by
  by_cases hn : infN < x % topN
  · rw [order_nan x x (.inl hn)]
    simp [nanB, hn]
  · rw [order_key x x (by omega) (by omega)]
    simp [nanB, hn]
theorem key_lo (x : Nat) (h : x < 9223372036854775808) : key x = (x : Int) := by
  have e1 : ¬ x / 9223372036854775808 % 2 = 1 := by omega
  have e2 : x % 9223372036854775808 = x := by omega
  unfold key
  rw [if_neg (show ¬ x / topN % 2 = 1 from e1), show x % topN = x from e2]
theorem key_hi (x : Nat) (h : 9223372036854775808 ≤ x) (h' : x < 18446744073709551616) : key x = 9223372036854775808 - (x : Int) := by
  have e1 : x / 9223372036854775808 % 2 = 1 := by omega
  have e2 : x % 9223372036854775808 = x - 9223372036854775808 := by omega
  unfold key
  rw [if_pos (show x / topN % 2 = 1 from e1), show x % topN = x - 9223372036854775808 from e2]
  omega
theorem key_bd (x : Nat) (h : nanB x = false) : -9218868437227405312 ≤ key x ∧ key x ≤ 9218868437227405312 := by
  have hk : x % topN ≤ infN := by simpa [nanB] using h
  have h2 : ((x % topN : Nat) : Int) ≤ 9218868437227405312 := by
    have : infN = 9218868437227405312 := rfl
    omega
  unfold key
  split <;> omega
set_option maxHeartbeats 400000 in
theorem place_any (x : Nat) (hx : x < 18446744073709551616) (w : World) : Calls Try.prog 24 #[.float .f64 x] w fun e w' => e = .returned (.int .u64 (placeF x)) ∧ w = w' := by
  have hb := float64bits_any x
  have hn := ne_self x
  unfold placeF
  cases hN : nanB x
  · rw [hN] at hn
    rw [if_neg (by simp)]
    have hk := key_bd x hN
    by_cases hs : 9223372036854775808 ≤ x
    · have e := key_hi x hs hx
      rw [e] at hk ⊢
      have hs' : (9223372036854775808 : Int) ≤ (x : Int) := by omega
      have hs2 : (x : Int) ≤ 18442240474082181120 := by omega
      clear hs e
      go_enter Try.func24, Try.ntmps24
      go_wp2
      go_ret
      refine ⟨?_, rfl⟩
      congr 2
      simp
      omega
    · rw [key_lo x (by omega)] at hk ⊢
      have hs' : ¬ (9223372036854775808 : Int) ≤ (x : Int) := by omega
      have hs2 : (x : Int) ≤ 9218868437227405312 := by omega
      clear hs
      go_enter Try.func24, Try.ntmps24
      go_wp2
      go_ret
      refine ⟨?_, rfl⟩
      congr 2
  · rw [hN] at hn
    rw [if_pos rfl]
    go_enter Try.func24, Try.ntmps24
    go_wp2
    go_ret
    exact ⟨rfl, rfl⟩
theorem ordF_place (x y : Nat) : (placeF x < placeF y ∧ ordF x y = -1) ∨ (placeF y < placeF x ∧ ordF x y = 1) ∨ (placeF x = placeF y ∧ ordF x y = 0) := by
  have k1 := key_bd x
  have k2 := key_bd y
  unfold placeF ordF
  cases hx : nanB x <;> cases hy : nanB y <;> simp [hx] at k1 <;> simp [hy] at k2 <;> simp
  · split
    · omega
    · split <;> omega
  · omega
  · omega
set_option maxHeartbeats 400000 in
theorem refOrder_any (x y : Nat) (hx : x < 18446744073709551616) (hy : y < 18446744073709551616) (w : World) : Calls Try.prog 18 #[.float .f64 x, .float .f64 y] w fun e w' => e = .returned (.int .i64 (ordF x y)) ∧ w = w' := by
  have h : (placeF x < placeF y ∧ ordF x y = -1) ∨ (placeF y < placeF x ∧ ¬ placeF x < placeF y ∧ ordF x y = 1) ∨ (¬ placeF x < placeF y ∧ ¬ placeF y < placeF x ∧ ordF x y = 0) := by
    have := ordF_place x y
    omega
  rcases h with ⟨h1, h2⟩ | ⟨h1, h3, h2⟩ | ⟨h1, h3, h2⟩
  all_goals
    rw [h2]
    clear h2
    generalize hpx : placeF x = px at *
    generalize hpy : placeF y = py at *
    have HX := Lib.hid hpx
    have HY := Lib.hid hpy
    clear hpx hpy
    go_enter Try.func18, Try.ntmps18
    go_wp2_with fail
    refine (place_any x hx _).mono ?_
    rw [HX.out]
    rintro e w' ⟨rfl, rfl⟩
    go_wp2_with fail
    refine (place_any y hy _).mono ?_
    rw [HY.out]
    rintro e w' ⟨rfl, rfl⟩
    go_wp2
    go_ret
    exact ⟨rfl, rfl⟩
set_option maxHeartbeats 400000 in
theorem refBits_any (x : Nat) (w : World) : Calls Try.prog 14 #[.float .f64 x] w fun e w' => e = .returned (.int .u64 (bitsF x)) ∧ w = w' := by
  have hb := float64bits_any x
  have hn := ne_self x
  unfold bitsF
  cases hN : nanB x
  · rw [hN] at hn
    rw [if_neg (by simp)]
    go_enter Try.func14, Try.ntmps14
    go_wp2
    go_ret
    exact ⟨rfl, rfl⟩
  · rw [hN] at hn
    rw [if_pos rfl]
    go_enter Try.func14, Try.ntmps14
    go_wp2
    go_ret
    exact ⟨rfl, rfl⟩
theorem wfF {x : Nat} (h : (Lit.float .f64 x).wf = true) : x < 18446744073709551616 := by
  simpa [Lit.wf] using h

theorem frombits_any (n : Int) (w : World) : (callFunc 20 #[.int .u64 n]).run Try.prog w = .ok (.value (.float .f64 n.toNat)) w := by
  rw [run_callFunc_extern Try.func20 (by kernel_rfl) (by kernel_rfl) (by kernel_rfl) (e := Extern.MathFloatBits.float64frombits) (by kernel_rfl)]
  rfl
theorem nan_any (w : World) : Calls Try.prog 15 #[] w fun e w' => e = .returned (.float .f64 9221120237041090561) ∧ w = w' := by
  have hb := frombits_any 9221120237041090561
  go_enter Try.func15, Try.ntmps15
  go_wp2
  go_ret
  exact ⟨rfl, rfl⟩
end Go.Proofs.Ytdkbiimhdbnplaa
