/- The walks of ref19.place, Order, Bits; score.Same; ploverlaw19.fixed. -/
import Derived.Test.YtfjeblbpjjffoaaScoreOps
namespace Go.Proofs.Ytfjeblbpjjffoaa
open Go.RowKit

/-- A word's place: NaNs at 0, both zeros at one. -/
def placeF (x : Nat) : Int := if nanB x = true then 0 else 9223372036854775808 + key x + 1
theorem ne_self (x : Nat) : (FloatKind.f64.format.order x x != some .eq) = nanB x := by
  by_cases hn : infN < x % topN
  · rw [order_nan x x (.inl hn)]
    simp [nanB, hn]
  · rw [order_key x x (by omega) (by omega)]
    simp [nanB, hn]
theorem key_lo (x : Nat) (h : x < 9223372036854775808) : key x = (x : Int) := by
  have e1 : ¬ x / 9223372036854775808 % 2 = 1 := by omega
  have e2 : x % 9223372036854775808 = x := by omega
  unfold key
  rw [if_neg (show ¬ x / topN % 2 = 1 from e1), show x % topN = x from e2]
theorem key_hi (x : Nat) (h : 9223372036854775808 ≤ x) (h' : x < 18446744073709551616) : key x = 9223372036854775808 - (x : Int) := by
  have e1 : x / 9223372036854775808 % 2 = 1 := by omega
  have e2 : x % 9223372036854775808 = x - 9223372036854775808 := by omega
  unfold key
  rw [if_pos (show x / topN % 2 = 1 from e1), show x % topN = x - 9223372036854775808 from e2]
  omega
theorem key_bd (x : Nat) (h : nanB x = false) : -9218868437227405312 ≤ key x ∧ key x ≤ 9218868437227405312 := by
  have hk : x % topN ≤ infN := by simpa [nanB] using h
  have h2 : ((x % topN : Nat) : Int) ≤ 9218868437227405312 := by
    have : infN = 9218868437227405312 := rfl
    omega
  unfold key
  split <;> omega
set_option maxHeartbeats 400000 in
theorem place_any (x : Nat) (hx : x < 18446744073709551616) (w : World) : Calls Try.prog 23 #[.float .f64 x] w fun e w' => e = .returned (.int .u64 (placeF x)) ∧ w = w' := by
  have hb := float64bits_any x
  have hn := ne_self x
  unfold placeF
  cases hN : nanB x
  · rw [hN] at hn
    rw [if_neg (by simp)]
    have hk := key_bd x hN
    by_cases hs : 9223372036854775808 ≤ x
    · have e := key_hi x hs hx
      rw [e] at hk ⊢
      have hs' : (9223372036854775808 : Int) ≤ (x : Int) := by omega
      have hs2 : (x : Int) ≤ 18442240474082181120 := by omega
      clear hs e
      go_enter Try.func23, Try.ntmps23
      go_wp2
      go_ret
      refine ⟨?_, rfl⟩
      congr 2
      simp
      omega
    · rw [key_lo x (by omega)] at hk ⊢
      have hs' : ¬ (9223372036854775808 : Int) ≤ (x : Int) := by omega
      have hs2 : (x : Int) ≤ 9218868437227405312 := by omega
      clear hs
      go_enter Try.func23, Try.ntmps23
      go_wp2
      go_ret
      refine ⟨?_, rfl⟩
      congr 2
  · rw [hN] at hn
    rw [if_pos rfl]
    go_enter Try.func23, Try.ntmps23
    go_wp2
    go_ret
    exact ⟨rfl, rfl⟩
theorem ordF_place (x y : Nat) : (placeF x < placeF y ∧ ordF x y = -1) ∨ (placeF y < placeF x ∧ ordF x y = 1) ∨ (placeF x = placeF y ∧ ordF x y = 0) := by
  have k1 := key_bd x
  have k2 := key_bd y
  unfold placeF ordF
  cases hx : nanB x <;> cases hy : nanB y <;> simp [hx] at k1 <;> simp [hy] at k2 <;> simp
  · split
    · omega
    · split <;> omega
  · omega
  · omega
set_option maxHeartbeats 400000 in
theorem refOrder_any (x y : Nat) (hx : x < 18446744073709551616) (hy : y < 18446744073709551616) (w : World) : Calls Try.prog 16 #[.float .f64 x, .float .f64 y] w fun e w' => e = .returned (.int .i64 (ordF x y)) ∧ w = w' := by
  have h : (placeF x < placeF y ∧ ordF x y = -1) ∨ (placeF y < placeF x ∧ ¬ placeF x < placeF y ∧ ordF x y = 1) ∨ (¬ placeF x < placeF y ∧ ¬ placeF y < placeF x ∧ ordF x y = 0) := by
    have := ordF_place x y
    omega
  rcases h with ⟨h1, h2⟩ | ⟨h1, h3, h2⟩ | ⟨h1, h3, h2⟩
  all_goals
    rw [h2]
    clear h2
    generalize hpx : placeF x = px at *
    generalize hpy : placeF y = py at *
    have HX := Lib.hid hpx
    have HY := Lib.hid hpy
    clear hpx hpy
    go_enter Try.func16, Try.ntmps16
    go_wp2_with fail
    refine (place_any x hx _).mono ?_
    rw [HX.out]
    rintro e w' ⟨rfl, rfl⟩
    go_wp2_with fail
    refine (place_any y hy _).mono ?_
    rw [HY.out]
    rintro e w' ⟨rfl, rfl⟩
    go_wp2
    go_ret
    exact ⟨rfl, rfl⟩
set_option maxHeartbeats 400000 in
theorem refBits_any (x : Nat) (w : World) : Calls Try.prog 11 #[.float .f64 x] w fun e w' => e = .returned (.int .u64 (bitsF x)) ∧ w = w' := by
  have hb := float64bits_any x
  have hn := ne_self x
  unfold bitsF
  cases hN : nanB x
  · rw [hN] at hn
    rw [if_neg (by simp)]
    go_enter Try.func11, Try.ntmps11
    go_wp2
    go_ret
    exact ⟨rfl, rfl⟩
  · rw [hN] at hn
    rw [if_pos rfl]
    go_enter Try.func11, Try.ntmps11
    go_wp2
    go_ret
    exact ⟨rfl, rfl⟩
theorem same_any (x y : Nat) (w : World) : Calls Try.prog 17 #[.float .f64 x, .float .f64 y] w fun e w' => e = .returned (.bool (bitsF x == bitsF y)) ∧ w = w' := by
  go_enter Try.func17, Try.ntmps17
  go_wp2_with ((refine (bits_any _ _).mono ?_; rintro e w' ⟨rfl, rfl⟩))
  go_ret
  exact ⟨rfl, rfl⟩
theorem bits_sim {x y : Nat} (h : fsim x y) : bitsF x = bitsF y := by
  rcases h with rfl | ⟨h1, h2⟩
  · rfl
  · simp [bitsF, h1, h2]

theorem FRes.val {op : BinOp} {x y r v : Nat} (h : FRes op x y r) (hv : floatBits op .f64 x y = some v) : r = v := by
  rcases h with h | ⟨h, _⟩
  · rw [hv] at h; injection h with h; exact h.symm
  · rw [hv] at h; cases h
theorem rare_10 {r : Nat} (h : RareR 10 0 r) : r = 4626604192193052672 := by
  obtain ⟨a, b, c, h1, h2, h3, h4⟩ := h
  obtain rfl := h1.val (v := 4621819117588971520) (by decide +kernel)
  obtain rfl := h2.val (v := 4622100592565682176) (by decide +kernel)
  obtain rfl := h3.val (v := 4602678819172646912) (by decide +kernel)
  exact h4.val (by decide +kernel)
theorem worth_1 {r : Nat} (h : WorthR 4607182418800017408 0 1 5 4617315517961601024 r) : r = 4607182418800017408 := by
  obtain ⟨a, c, d, e, f, g, hh, i, h1, h2, h3, h4, h5, h6, h7, h8, h9⟩ := h
  obtain rfl := h1.val (v := 4607182418800017408) (by decide +kernel)
  obtain rfl := h2.val (v := 0) (by decide +kernel)
  obtain rfl := h3.val (v := 4607182418800017408) (by decide +kernel)
  obtain rfl := h4.val (v := 4607182418800017408) (by decide +kernel)
  obtain rfl := h5.val (v := 4607182418800017408) (by decide +kernel)
  obtain rfl := h6.val (v := 4611686018427387904) (by decide +kernel)
  obtain rfl := h7.val (v := 4611686018427387904) (by decide +kernel)
  obtain rfl := h8.val (v := 4611686018427387904) (by decide +kernel)
  exact h9.val (by decide +kernel)
theorem nan_any (w : World) : Calls Try.prog 18 #[] w fun e w' => e = .returned (.float .f64 9221120237041090561) ∧ w = w' := by
  have hb := frombits_any 9221120237041090561
  go_enter Try.func18, Try.ntmps18
  go_wp2
  go_ret
  exact ⟨rfl, rfl⟩
theorem inf_any (w : World) : Calls Try.prog 19 #[.int .i64 (-1)] w fun e w' => e = .returned (.float .f64 18442240474082181120) ∧ w = w' := by
  have hb := frombits_any 18442240474082181120
  go_enter Try.func19, Try.ntmps19
  go_wp2
  go_ret
  exact ⟨rfl, rfl⟩
theorem copysign_any (w : World) : Calls Try.prog 20 #[.float .f64 0, .float .f64 13830554455654793216] w fun e w' => e = .returned (.float .f64 9223372036854775808) ∧ w = w' := by
  have h1 := float64bits_any 0
  have h2 := float64bits_any 13830554455654793216
  have hb := frombits_any 9223372036854775808
  have b1 : bits .andNot .u64 0 9223372036854775808 = 0 := by decide +kernel
  have b2 : bits .and .u64 13830554455654793216 9223372036854775808 = 9223372036854775808 := by decide +kernel
  have b3 : bits .or .u64 0 9223372036854775808 = 9223372036854775808 := by decide +kernel
  go_enter Try.func20, Try.ntmps20
  go_wp2
  go_ret
  exact ⟨rfl, rfl⟩

set_option maxHeartbeats 1000000 in
theorem fixed_any (w : World) : Calls Try.prog 8 #[] w fun e w' => e = .returned (.bool true) ∧ Below w.heap.size w w' := by
  have o1 : ordF 9221120237041090561 18442240474082181120 = -1 := by decide +kernel
  have o2 : ordF 0 9223372036854775808 = 0 := by decide +kernel
  have o3 : bitsF 0 = 0 := by decide +kernel
  have o4 : bitsF 9223372036854775808 = 9223372036854775808 := by decide +kernel
  have o5 : bitsF 4607182418800017408 = 4607182418800017408 := by decide +kernel
  have o6 : (FloatKind.f64.format.order 4626604192193052672 4626604192193052672 == some .eq) = true := by decide +kernel
  have o7 : (FloatKind.f64.format.order 4607182418800017408 4607182418800017408 == some .eq) = true := by decide +kernel
  go_enter Try.func8, Try.ntmps8
  go_wp2_with fail
  refine (rare_any 10 0 _).mono ?_
  rintro e w1 ⟨r1, rfl, h1, q1, hq1⟩
  obtain rfl := rare_10 h1.out
  clear h1
  have hb1 : Below w.heap.size w w1 := by rw [hq1]; exact below_drewN (Below.refl _ _) _
  clear hq1
  go_wp2_with fail
  refine (worth_any _ _ _ _ _ _).mono ?_
  rintro e w2 ⟨r2, rfl, h2, q2, hq2⟩
  obtain rfl := worth_1 h2.out
  clear h2
  have hb2 : Below w.heap.size w w2 := by rw [hq2]; exact below_drewN hb1 _
  clear hq2
  go_wp2_with (first
    | (go_at_call 18; refine (nan_any _).mono ?_; rintro e w' ⟨rfl, rfl⟩)
    | (go_at_call 19; refine (inf_any _).mono ?_; rintro e w' ⟨rfl, rfl⟩)
    | (go_at_call 15; refine (order_any _ _ _).mono ?_; rintro e w' ⟨rfl, rfl⟩)
    | (go_at_call 20; refine (copysign_any _).mono ?_; rintro e w' ⟨rfl, rfl⟩)
    | (go_at_call 17; refine (same_any _ _ _).mono ?_; rintro e w' ⟨rfl, rfl⟩)
    | (go_at_call 9; refine (bits_any _ _).mono ?_; rintro e w' ⟨rfl, rfl⟩))
  go_ret
  exact ⟨rfl, hb2⟩
end Go.Proofs.Ytfjeblbpjjffoaa
