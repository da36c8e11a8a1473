/- The walks of score's functions and of ref19's. -/
import Derived.Test.YtfjeblbpjjffoaaRows
import Derived.Test.YtfjeblbpjjffoaaScoreMath
import Derived.Laws.FloatArith
import Derived.Test.YtfjeblbpjjffoaaKit
namespace Go.Proofs.Ytfjeblbpjjffoaa
open Go.RowKit

/-- An operation's result: valid, or a NaN. -/
def FRes (op : BinOp) (x y r : Nat) : Prop := floatBits op .f64 x y = some r ∨ (floatBits op .f64 x y = none ∧ nanB r = true)
/-- The same word, or NaNs. -/
def fsim (x y : Nat) : Prop := x = y ∨ (nanB x = true ∧ nanB y = true)
theorem nan_none (op : BinOp) (x y : Nat) (h : nanB x = true ∨ nanB y = true) : floatBits op .f64 x y = none := by
  unfold floatBits
  have hs : ∀ d e : Ieee.Datum, (∃ s t, d = .nan s t) ∨ (∃ s t, e = .nan s t) → d.sum e = none ∧ d.sum e.opposite = none ∧ d.product e = none ∧ ∀ n, d.quotient n e = none := by
    rintro d e (⟨s, t, rfl⟩ | ⟨s, t, rfl⟩)
    · cases e <;> simp [Ieee.Datum.sum, Ieee.Datum.product, Ieee.Datum.quotient]
    · cases d <;> simp [Ieee.Datum.sum, Ieee.Datum.product, Ieee.Datum.quotient, Ieee.Datum.opposite]
  have hd : (∃ s t, FloatKind.f64.format.read x = .nan s t) ∨ (∃ s t, FloatKind.f64.format.read y = .nan s t) := by
    rcases h with h | h
    · exact .inl (read_nan x (by simpa [nanB] using h))
    · exact .inr (read_nan y (by simpa [nanB] using h))
  obtain ⟨h1, h2, h3, h4⟩ := hs _ _ hd
  cases op <;> simp [Ieee.Format.add, Ieee.Format.sub, Ieee.Format.mul, Ieee.Format.div, h1, h2, h3, h4]
theorem FRes.sim {op : BinOp} {x y r x' y' r' : Nat} (h : FRes op x y r) (h' : FRes op x' y' r') (hx : fsim x x') (hy : fsim y y') : fsim r r' := by
  have key : floatBits op .f64 x y = floatBits op .f64 x' y' := by
    rcases hx with rfl | ⟨h1, h2⟩
    · rcases hy with rfl | ⟨h1, h2⟩
      · rfl
      · rw [nan_none op x y (.inr h1), nan_none op x y' (.inr h2)]
    · rw [nan_none op x y (.inl h1), nan_none op x' y' (.inl h2)]
  rcases h with h | ⟨h, hn⟩
  · rcases h' with h' | ⟨h', _⟩
    · rw [key, h'] at h
      injection h with h
      exact .inl h.symm
    · rw [key, h'] at h; cases h
  · rcases h' with h' | ⟨_, hn'⟩
    · rw [key, h'] at h; cases h
    · exact .inr ⟨hn, hn'⟩
theorem fsim.refl (x : Nat) : fsim x x := .inl rfl
/-- One operation, valid or not. -/
theorem run_fop {P : Program} (w : World) (op : BinOp) (hop : op = .add ∨ op = .sub ∨ op = .mul ∨ op = .quo) (t : TypeId) (x y : Nat) :
    ∃ r w', (binOp op t (.float .f64 x) (.float .f64 y)).run P w = .ok (.float .f64 r) w' ∧ FRes op x y r ∧ ∃ q, w' = w.drewN q := by
  cases hf : floatBits op .f64 x y with
  | some r => exact ⟨r, w, run_float_arith w op t .f64 x y r hf, .inl hf, 0, rfl⟩
  | none =>
    have hn : (Op.floatArith op .f64 x y).run P w = .ok (.float .f64 ((Question.nanBits .f64 x y).cut (w.tape w.drawn (.nanBits .f64 x y)))) w.drew := by
      unfold floatBits at hf
      rcases hop with rfl | rfl | rfl | rfl <;> simp only at hf <;> simp [Op.floatArith, hf, Question.forced]
    refine ⟨(Question.nanBits .f64 x y).cut (w.tape w.drawn (.nanBits .f64 x y)), w.drew, ?_, .inr ⟨hf, ?_⟩, 1, rfl⟩
    · rcases hop with rfl | rfl | rfl | rfl <;> exact hn
    · generalize w.tape w.drawn (.nanBits .f64 x y) = t
      refine decide_eq_true ?_
      show 9218868437227405312 < ((t % 2) * 2 ^ 63 + 0x7ff0000000000000 + 1 + (t / 2) % (2 ^ 52 - 1)) % 9223372036854775808
      rcases Nat.mod_two_eq_zero_or_one t with h | h <;> rw [h] <;> omega

theorem isNaN_any (x : Nat) (w : World) : Calls Try.prog 21 #[.float .f64 x] w fun e w' => e = .returned (.bool (nanB x)) ∧ w = w' := by
  have h : (FloatKind.f64.format.order x x != some .eq) = nanB x := by
    by_cases hn : infN < x % topN
    · rw [order_nan x x (.inl hn)]
      simp [nanB, hn]
    · rw [order_key x x (by omega) (by omega)]
      simp [nanB, hn]
  have H := Lib.hid h
  clear h
  go_enter Try.func21, Try.ntmps21
  go_wp2
  go_ret
  exact ⟨by rw [← H.out]; rfl, rfl⟩
/-- The order: -1, 0, 1. -/
def ordF (x y : Nat) : Int :=
  if nanB x && nanB y then 0 else if nanB x then -1 else if nanB y then 1 else if key x < key y then -1 else if key y < key x then 1 else 0

/-- What the comparisons say, where neither is a NaN. -/
theorem order_cmp (x y : Nat) (hx : nanB x = false) (hy : nanB y = false) : FloatKind.f64.format.order x y = some (compare (key x) (key y)) :=
  order_key x y (by simpa [nanB] using hx) (by simpa [nanB] using hy)

set_option maxHeartbeats 1000000 in
theorem order_any (x y : Nat) (w : World) : Calls Try.prog 15 #[.float .f64 x, .float .f64 y] w fun e w' => e = .returned (.int .i64 (ordF x y)) ∧ w = w' := by
  unfold ordF
  cases hx : nanB x
  · cases hy : nanB y
    · have ho := order_cmp x y hx hy
      rcases Int.lt_trichotomy (key x) (key y) with h | h | h
      · rw [cmp_lt h] at ho
        simp only [Bool.and_self, Bool.false_eq_true, if_false, if_pos h]
        clear h
        go_enter Try.func15, Try.ntmps15
        go_wp2_with ((go_at_call 21; refine (isNaN_any _ _).mono ?_; rintro e w' ⟨rfl, rfl⟩))
        go_ret
        exact ⟨rfl, rfl⟩
      · rw [h, Int.compare_eq_eq.2 rfl] at ho
        have h1 : ¬ key x < key y := by omega
        have h2 : ¬ key y < key x := by omega
        simp only [Bool.and_self, Bool.false_eq_true, if_false, if_neg h1, if_neg h2]
        clear h h1 h2
        go_enter Try.func15, Try.ntmps15
        go_wp2_with ((go_at_call 21; refine (isNaN_any _ _).mono ?_; rintro e w' ⟨rfl, rfl⟩))
        go_ret
        exact ⟨rfl, rfl⟩
      · rw [cmp_gt h] at ho
        have h1 : ¬ key x < key y := by omega
        simp only [Bool.and_self, Bool.false_eq_true, if_false, if_neg h1, if_pos h]
        clear h h1
        go_enter Try.func15, Try.ntmps15
        go_wp2_with ((go_at_call 21; refine (isNaN_any _ _).mono ?_; rintro e w' ⟨rfl, rfl⟩))
        go_ret
        exact ⟨rfl, rfl⟩
    · have ho := order_nan x y (.inr (by simpa [nanB] using hy))
      simp only [Bool.and_true, Bool.false_eq_true, if_false, if_true]
      go_enter Try.func15, Try.ntmps15
      go_wp2_with ((go_at_call 21; refine (isNaN_any _ _).mono ?_; rintro e w' ⟨rfl, rfl⟩))
      go_ret
      exact ⟨rfl, rfl⟩
  · have ho := order_nan x y (.inl (by simpa [nanB] using hx))
    cases hy : nanB y
    · simp only [Bool.and_false, Bool.false_eq_true, if_false, if_true]
      go_enter Try.func15, Try.ntmps15
      go_wp2_with ((go_at_call 21; refine (isNaN_any _ _).mono ?_; rintro e w' ⟨rfl, rfl⟩))
      go_ret
      exact ⟨rfl, rfl⟩
    · simp only [Bool.and_self, if_true]
      go_enter Try.func15, Try.ntmps15
      go_wp2_with ((go_at_call 21; refine (isNaN_any _ _).mono ?_; rintro e w' ⟨rfl, rfl⟩))
      go_ret
      exact ⟨rfl, rfl⟩

theorem float64bits_any (x : Nat) (w : World) : (callFunc 22 #[.float .f64 x]).run Try.prog w = .ok (.value (.int .u64 x)) w := by
  rw [run_callFunc_extern Try.func22 (by kernel_rfl) (by kernel_rfl) (by kernel_rfl) (e := Extern.MathFloatBits.float64bits) (by kernel_rfl)]
  rfl
theorem frombits_any (n : Int) (w : World) : (callFunc 24 #[.int .u64 n]).run Try.prog w = .ok (.value (.float .f64 n.toNat)) w := by
  rw [run_callFunc_extern Try.func24 (by kernel_rfl) (by kernel_rfl) (by kernel_rfl) (e := Extern.MathFloatBits.float64frombits) (by kernel_rfl)]
  rfl
def bitsF (x : Nat) : Int := if nanB x = true then 9221120237041090561 else (x : Int)
set_option maxHeartbeats 400000 in
theorem bits_any (x : Nat) (w : World) : Calls Try.prog 9 #[.float .f64 x] w fun e w' => e = .returned (.int .u64 (bitsF x)) ∧ w = w' := by
  unfold bitsF
  cases hx : nanB x
  · rw [if_neg (by simp)]
    have hb := float64bits_any x
    go_enter Try.func9, Try.ntmps9
    go_wp2_with ((go_at_call 21; refine (isNaN_any _ _).mono ?_; rintro e w' ⟨rfl, rfl⟩))
    go_ret
    exact ⟨rfl, rfl⟩
  · rw [if_pos rfl]
    go_enter Try.func9, Try.ntmps9
    go_wp2_with ((go_at_call 21; refine (isNaN_any _ _).mono ?_; rintro e w' ⟨rfl, rfl⟩))
    go_ret
    exact ⟨rfl, rfl⟩
end Go.Proofs.Ytfjeblbpjjffoaa
