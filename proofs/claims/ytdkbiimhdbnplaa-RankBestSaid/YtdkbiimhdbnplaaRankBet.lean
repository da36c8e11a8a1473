/- The walks of rank.Better and ref20.Better. -/
import Derived.Test.YtdkbiimhdbnplaaRankScore
import Derived.Test.YtdkbiimhdbnplaaRankMath
import Derived.Test.YtdkbiimhdbnplaaReadsK
import Derived.Deep.QuietTactic
import Derived.BigQuiet
namespace Go.Proofs.Ytdkbiimhdbnplaa
open Go.RowKit

/-- A document that was found: its number, its id, its score's bits. -/
abbrev Sc := Int × Int × Nat
def scC (x : Sc) : List Value := [.int .i64 x.1, .int .u32 x.2.1, .float .f64 x.2.2]
def scV (x : Sc) : Value := .agg #[.int .i64 x.1, .int .u32 x.2.1, .float .f64 x.2.2]
theorem scC_len (x : Sc) : (scC x).length = 3 := rfl
structure ScOk (x : Sc) : Prop where
  lo : -9223372036854775808 ≤ x.1
  hi : x.1 ≤ 9223372036854775807
  fl : x.2.2 < 18446744073709551616
def kk (o : Int) (x : Sc) : Int := rkey (if o = 0 then placeF x.2.2 else 0) x.1
def betB (o : Int) (a b : Sc) : Bool := decide (kk o b < kk o a)
theorem bet_new (o : Int) (a b : Sc) (h : o ≠ 0) (ha : ScOk a) (hb : ScOk b) : betB o a b = decide (b.1 < a.1) := by
  unfold betB kk
  rw [if_neg h, if_neg h]
  have := rkey_lt (p := 0) (q := 0) (d := b.1) (e := a.1) ⟨hb.lo, hb.hi⟩ ⟨ha.lo, ha.hi⟩
  rw [decide_eq_decide, this]
  omega
theorem bet_rank (a b : Sc) (ha : ScOk a) (hb : ScOk b) : betB 0 a b = decide (placeF b.2.2 < placeF a.2.2 ∨ (placeF b.2.2 = placeF a.2.2 ∧ b.1 < a.1)) := by
  unfold betB kk
  rw [if_pos rfl, if_pos rfl]
  rw [decide_eq_decide, rkey_lt ⟨hb.lo, hb.hi⟩ ⟨ha.lo, ha.hi⟩]
theorem bet_cases (a b : Sc) (ha : ScOk a) (hb : ScOk b) : (ordF a.2.2 b.2.2 = 1 ∧ betB 0 a b = true) ∨ (ordF a.2.2 b.2.2 = -1 ∧ betB 0 a b = false) ∨ (ordF a.2.2 b.2.2 = 0 ∧ betB 0 a b = decide (b.1 < a.1)) := by
  rw [bet_rank a b ha hb]
  rcases ordF_place a.2.2 b.2.2 with ⟨h, e⟩ | ⟨h, e⟩ | ⟨h, e⟩
  · exact .inr (.inl ⟨e, by simp; omega⟩)
  · exact .inl ⟨e, by simp; omega⟩
  · refine .inr (.inr ⟨e, ?_⟩)
    rw [decide_eq_decide]
    omega

set_option maxHeartbeats 1000000 in
theorem better_any (o : Int) (a b : Sc) (ha : ScOk a) (hb : ScOk b) (w : World) : Calls Try.prog 10 #[scV a, scV b, .int .i64 o] w fun e w' => e = .returned (.bool (betB o a b)) ∧ Below w.heap.size w w' := by
  have hB : ∀ x y, Below w.heap.size w ((w.alloc x).alloc y) := fun x y => ((Below.refl _ _).alloc (Nat.le_refl _) _).alloc (by simp) _
  by_cases ho : o = 0
  · subst ho
    obtain ⟨d, i, s⟩ := a
    obtain ⟨d', i', s'⟩ := b
    have hc := bet_cases _ _ ha hb
    generalize betB 0 (d, i, s) (d', i', s') = r at *
    simp only at hc
    unfold scV
    simp only
    rcases hc with ⟨hc, rfl⟩ | ⟨hc, rfl⟩ | ⟨hc, hr⟩
    · have HC := Lib.hid hc
      clear hc ha hb
      go_enter Try.func10, Try.ntmps10
      go_wp2_with (go_at_call 17; refine (order_any _ _ _).mono ?_; rw [HC.out]; rintro e w' ⟨rfl, rfl⟩)
      go_ret
      exact ⟨rfl, hB _ _⟩
    · have HC := Lib.hid hc
      clear hc ha hb
      go_enter Try.func10, Try.ntmps10
      go_wp2_with (go_at_call 17; refine (order_any _ _ _).mono ?_; rw [HC.out]; rintro e w' ⟨rfl, rfl⟩)
      go_ret
      exact ⟨rfl, hB _ _⟩
    · have HC := Lib.hid hc
      have HR := Lib.hid hr
      clear hc hr ha hb
      go_enter Try.func10, Try.ntmps10
      go_wp2_with (go_at_call 17; refine (order_any _ _ _).mono ?_; rw [HC.out]; rintro e w' ⟨rfl, rfl⟩)
      go_ret
      exact ⟨by rw [HR.out]; rfl, hB _ _⟩
  · have HR := Lib.hid (bet_new o a b ho ha hb)
    obtain ⟨d, i, s⟩ := a
    obtain ⟨d', i', s'⟩ := b
    generalize betB o (d, i, s) (d', i', s') = r at *
    unfold scV
    simp only
    clear ha hb
    have ho' : (o == 0) = false := by simpa using ho
    go_enter Try.func10, Try.ntmps10
    go_wp2
    go_ret
    exact ⟨by rw [HR.out]; rfl, hB _ _⟩
set_option maxHeartbeats 1000000 in
theorem refBetter_any (o : Int) (a b : Sc) (ha : ScOk a) (hb : ScOk b) (w : World) : Calls Try.prog 11 #[scV a, scV b, .int .i64 o] w fun e w' => e = .returned (.bool (betB o a b)) ∧ Below w.heap.size w w' := by
  have hB : ∀ x y, Below w.heap.size w ((w.alloc x).alloc y) := fun x y => ((Below.refl _ _).alloc (Nat.le_refl _) _).alloc (by simp) _
  have fa := ha.fl
  have fb := hb.fl
  by_cases ho : o = 0
  · subst ho
    obtain ⟨d, i, s⟩ := a
    obtain ⟨d', i', s'⟩ := b
    have hc := bet_cases _ _ ha hb
    generalize betB 0 (d, i, s) (d', i', s') = r at *
    simp only at hc fa fb
    unfold scV
    simp only
    rcases hc with ⟨hc, rfl⟩ | ⟨hc, rfl⟩ | ⟨hc, hr⟩
    · have HC := Lib.hid hc
      clear hc ha hb
      go_enter Try.func11, Try.ntmps11
      go_wp2_with (go_at_call 18; refine (refOrder_any _ _ fa fb _).mono ?_; rw [HC.out]; rintro e w' ⟨rfl, rfl⟩)
      go_ret
      exact ⟨rfl, hB _ _⟩
    · have HC := Lib.hid hc
      clear hc ha hb
      go_enter Try.func11, Try.ntmps11
      go_wp2_with (go_at_call 18; refine (refOrder_any _ _ fa fb _).mono ?_; rw [HC.out]; rintro e w' ⟨rfl, rfl⟩)
      go_ret
      exact ⟨rfl, hB _ _⟩
    · have HC := Lib.hid hc
      have HR := Lib.hid hr
      clear hc hr ha hb
      go_enter Try.func11, Try.ntmps11
      go_wp2_with (go_at_call 18; refine (refOrder_any _ _ fa fb _).mono ?_; rw [HC.out]; rintro e w' ⟨rfl, rfl⟩)
      go_ret
      exact ⟨by rw [HR.out]; rfl, hB _ _⟩
  · have HR := Lib.hid (bet_new o a b ho ha hb)
    obtain ⟨d, i, s⟩ := a
    obtain ⟨d', i', s'⟩ := b
    generalize betB o (d, i, s) (d', i', s') = r at *
    unfold scV
    simp only
    clear ha hb fa fb
    have ho' : (o == 0) = false := by simpa using ho
    go_enter Try.func11, Try.ntmps11
    go_wp2
    go_ret
    exact ⟨by rw [HR.out]; rfl, hB _ _⟩
end Go.Proofs.Ytdkbiimhdbnplaa
