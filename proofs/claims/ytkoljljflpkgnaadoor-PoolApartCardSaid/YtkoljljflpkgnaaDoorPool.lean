/- The walks of pool.between, pool.Lay. -/
import Derived.Test.YtkoljljflpkgnaaDoorRows
import Derived.Deep.QuietTactic
import Derived.BigQuiet
import Derived.IntWalk
import Derived.Test.YtkoljljflpkgnaaDoorKit
namespace Go.Proofs.YtkoljljflpkgnaaDoor
open Go.RowKit

def btw (n lo hi : Int) : Bool := decide (lo ≤ n ∧ n ≤ hi)
theorem btw_yes {n lo hi : Int} (h1 : lo ≤ n) (h2 : n ≤ hi) : btw n lo hi = true := by simp [btw, h1, h2]
theorem btw_no {n lo hi : Int} (h : n < lo ∨ hi < n) : btw n lo hi = false := by simp [btw]; omega
theorem btw_iff {n lo hi : Int} : btw n lo hi = true ↔ lo ≤ n ∧ n ≤ hi := by simp [btw]
theorem between_any (n lo hi : Int) (w : World) : Calls Tryd.prog 20 #[.int .i64 n, .int .i64 lo, .int .i64 hi] w fun e w' => e = .returned (.bool (btw n lo hi)) ∧ w = w' := by
  rcases (show n < lo ∨ (lo ≤ n ∧ hi < n) ∨ (lo ≤ n ∧ n ≤ hi) from by omega) with h | ⟨h1, h2⟩ | ⟨h1, h2⟩
  · rw [btw_no (.inl h)]
    go_enter Tryd.func20, Tryd.ntmps20
    go_wp2
    go_ret
    exact ⟨rfl, rfl⟩
  · rw [btw_no (.inr h2)]
    have hd : decide (n ≤ hi) = false := by simp; omega
    go_enter Tryd.func20, Tryd.ntmps20
    go_wp2
    go_ret
    exact ⟨rfl, rfl⟩
  · rw [btw_yes h1 h2]
    go_enter Tryd.func20, Tryd.ntmps20
    go_wp2
    go_ret
    exact ⟨rfl, rfl⟩

/-- The table as it lies. -/
def SizesAt (w : World) : Prop := ∃ t fr, w.heap[(0 : Nat)]? = some (.cells #[.int .i64 4, .int .i64 16, .int .i64 64, .int .i64 256] t fr)
theorem SizesAt.lt {w : World} (h : SizesAt w) : 0 < w.heap.size := by
  obtain ⟨t, fr, h⟩ := h
  exact (Array.getElem?_eq_some_iff.mp h).1
theorem SizesAt.below {W w : World} (h : SizesAt W) (hb : Below W.heap.size W w) : SizesAt w := by
  have hs := h.lt
  obtain ⟨t, fr, h⟩ := h
  exact ⟨t, fr, by rw [hb.block _ hs]; exact h⟩
def sz : Nat → Int | 0 => 4 | 1 => 16 | 2 => 64 | 3 => 256 | _ => 0
theorem SizesAt.cell {w : World} (h : SizesAt w) {k : Nat} (hk : k < 4) : w.cell? ⟨0, k, none⟩ = some (.int .i64 (sz k)) := by
  obtain ⟨t, fr, h⟩ := h
  rcases (show k = 0 ∨ k = 1 ∨ k = 2 ∨ k = 3 from by omega) with rfl | rfl | rfl | rfl <;> simp [World.cell?, h, sz]

/-- A configuration: documents, terms, slabs, cells for terms and for segments, and two numbers that play no part. -/
structure Cf where
  docs : Int
  terms : Int
  s : Nat → Int
  book : Int
  room : Int
  K : Nat
  B : Nat
def Cf.cells (c : Cf) : List Value := [.int .i64 c.docs, .int .i64 c.terms, .int .i64 (c.s 0), .int .i64 (c.s 1), .int .i64 (c.s 2), .int .i64 (c.s 3), .int .i64 c.book, .int .i64 c.room, .float .f64 c.K, .float .f64 c.B]
def Cf.val (c : Cf) : Value := .agg #[.int .i64 c.docs, .int .i64 c.terms, .int .i64 (c.s 0), .int .i64 (c.s 1), .int .i64 (c.s 2), .int .i64 (c.s 3), .int .i64 c.book, .int .i64 c.room, .float .f64 c.K, .float .f64 c.B]
/-- A pool's cells. -/
def Cf.S (c : Cf) (k : Nat) : Int := if k < 4 then c.s k * sz k else if k = 4 then c.book else c.room
/-- Where a pool begins. -/
def Cf.at_ (c : Cf) : Nat → Int | 0 => 3 | k + 1 => c.at_ k + c.S k
structure Cf.Head (c : Cf) : Prop where
  d0 : 1 ≤ c.docs
  d1 : c.docs ≤ 64
  t0 : 64 ≤ c.terms
  t1 : c.terms ≤ 256
  b0 : 0 ≤ c.book
  b1 : c.book ≤ 65536
  r0 : 0 ≤ c.room
  r1 : c.room ≤ 65536
/-- The first slabs may be. -/
def Cf.Upto (c : Cf) (k : Nat) : Prop := ∀ j, j < k → j < 4 → 0 ≤ c.s j ∧ c.s j ≤ 512
theorem Cf.S_bd (c : Cf) (h : c.Head) (k : Nat) (hu : c.Upto (k + 1)) : 0 ≤ c.S k ∧ c.S k ≤ 131072 := by
  unfold Cf.S
  split
  · rename_i hk
    have := hu k (by omega) hk
    rcases (show k = 0 ∨ k = 1 ∨ k = 2 ∨ k = 3 from by omega) with rfl | rfl | rfl | rfl <;> simp only [sz] <;> omega
  · have := h.b0; have := h.b1; have := h.r0; have := h.r1
    split <;> omega
theorem Cf.at_bd (c : Cf) (h : c.Head) (k : Nat) (hu : c.Upto k) : 3 ≤ c.at_ k ∧ c.at_ k ≤ 3 + 131072 * k := by
  induction k with
  | zero => simp [Cf.at_]
  | succ k ih =>
    have h1 := ih fun j hj => hu j (by omega)
    have h2 := c.S_bd h k hu
    simp only [Cf.at_]
    omega
def slotsOf (t : Int) : Int := if t < 128 then 128 else if t < 256 then 256 else 512
def planL (bs ss : Nat → Int) (a b c : Int) : List Int := [bs 0, bs 1, bs 2, bs 3, bs 4, bs 5, ss 0, ss 1, ss 2, ss 3, ss 4, ss 5, a, b, c]
def cutF (f : Nat → Int) (k : Nat) (j : Nat) : Int := if j < k then f j else 0
theorem planL_base (bs ss : Nat → Int) (a b c : Int) (k : Nat) (hk : k < 6) : (ints .i64 (planL bs ss a b c))[k]? = some (.int .i64 (bs k)) := by
  rcases (show k = 0 ∨ k = 1 ∨ k = 2 ∨ k = 3 ∨ k = 4 ∨ k = 5 from by omega) with rfl | rfl | rfl | rfl | rfl | rfl <;> rfl
theorem planL_size (bs ss : Nat → Int) (a b c : Int) (k : Nat) (hk : k < 6) : (ints .i64 (planL bs ss a b c))[6 + k]? = some (.int .i64 (ss k)) := by
  rcases (show k = 0 ∨ k = 1 ∨ k = 2 ∨ k = 3 ∨ k = 4 ∨ k = 5 from by omega) with rfl | rfl | rfl | rfl | rfl | rfl <;> rfl
theorem planL_set (f g : Nat → Int) (x : Int) (b c : Int) (k : Nat) (hk : k < 6) (a : Int) :
    (((ints .i64 (planL (cutF f k) (cutF g k) a b c)).set k (.int .i64 (f k))).set (6 + k) (.int .i64 (g k))).set 12 (.int .i64 x) = ints .i64 (planL (cutF f (k + 1)) (cutF g (k + 1)) x b c) := by
  rcases (show k = 0 ∨ k = 1 ∨ k = 2 ∨ k = 3 ∨ k = 4 ∨ k = 5 from by omega) with rfl | rfl | rfl | rfl | rfl | rfl <;> simp [ints, planL, cutF]
theorem planL_0 (f g : Nat → Int) (a b c : Int) : planL (cutF f 0) (cutF g 0) a b c = [0, 0, 0, 0, 0, 0, 0, 0, 0, 0, 0, 0, a, b, c] := by simp [planL, cutF]
theorem planL_6 (f g : Nat → Int) (a b c : Int) : planL (cutF f 6) (cutF g 6) a b c = planL f g a b c := by simp [planL, cutF]
def zeros15 : List Value := List.replicate 15 (.int .i64 0)
/-- May a configuration be? -/
structure Cf.Ok (c : Cf) : Prop where
  head : c.Head
  slabs : c.Upto 4
  all : c.at_ 6 ≤ 65536
def Cf.plan (c : Cf) : Value := .agg (ints .i64 (planL c.at_ c.S (c.at_ 6) (slotsOf c.terms) (1 + 4 * c.docs + slotsOf c.terms))).toArray

/-- The head's four tests. -/
def Cf.headB (c : Cf) : Bool := btw c.docs 1 64 && btw c.terms 64 256 && btw c.book 0 65536 && btw c.room 0 65536
theorem Cf.headB_iff (c : Cf) : c.headB = true ↔ c.Head := by
  simp only [Cf.headB, Bool.and_eq_true, btw_iff]
  exact ⟨fun ⟨⟨⟨⟨a, b⟩, c, d⟩, e, f⟩, g, h⟩ => ⟨a, b, c, d, e, f, g, h⟩, fun ⟨a, b, c, d, e, f, g, h⟩ => ⟨⟨⟨⟨a, b⟩, c, d⟩, e, f⟩, g, h⟩⟩

set_option maxRecDepth 100000 in
set_option maxHeartbeats 2000000 in
theorem lay_head_no (c : Cf) (w : World) (h : c.headB = false) :
    Calls Tryd.prog 9 #[c.val] w fun e w' => e = .returned (.tuple #[.agg zeros15.toArray, .int .i64 1]) ∧ Below w.heap.size w w' := by
  obtain ⟨docs, terms, s, book, room, K, B⟩ := c
  simp only [Cf.headB] at h
  unfold Cf.val
  simp only
  cases h1 : btw docs 1 64
  · clear h
    go_enter Tryd.func9, Tryd.ntmps9
    go_wp2_with (go_at_call 20; refine (between_any _ _ _ _).mono ?_; rintro e w' ⟨rfl, rfl⟩)
    exact bodyPost_ret (v := .tuple #[.agg zeros15.toArray, .int .i64 1]) (by simp [results, Tryd.results9, go_sem, zeros15, List.replicate]) rfl ⟨rfl, ((Below.refl _ _).alloc (Nat.le_refl _) _).alloc (by simp) _⟩
  · cases h2 : btw terms 64 256
    · clear h
      go_enter Tryd.func9, Tryd.ntmps9
      go_wp2_with (go_at_call 20; refine (between_any _ _ _ _).mono ?_; rintro e w' ⟨rfl, rfl⟩)
      exact bodyPost_ret (v := .tuple #[.agg zeros15.toArray, .int .i64 1]) (by simp [results, Tryd.results9, go_sem, zeros15, List.replicate]) rfl ⟨rfl, ((Below.refl _ _).alloc (Nat.le_refl _) _).alloc (by simp) _⟩
    · cases h3 : btw book 0 65536
      · clear h
        go_enter Tryd.func9, Tryd.ntmps9
        go_wp2_with (go_at_call 20; refine (between_any _ _ _ _).mono ?_; rintro e w' ⟨rfl, rfl⟩)
        exact bodyPost_ret (v := .tuple #[.agg zeros15.toArray, .int .i64 1]) (by simp [results, Tryd.results9, go_sem, zeros15, List.replicate]) rfl ⟨rfl, ((Below.refl _ _).alloc (Nat.le_refl _) _).alloc (by simp) _⟩
      · cases h4 : btw room 0 65536
        · clear h
          go_enter Tryd.func9, Tryd.ntmps9
          go_wp2_with (go_at_call 20; refine (between_any _ _ _ _).mono ?_; rintro e w' ⟨rfl, rfl⟩)
          exact bodyPost_ret (v := .tuple #[.agg zeros15.toArray, .int .i64 1]) (by simp [results, Tryd.results9, go_sem, zeros15, List.replicate]) rfl ⟨rfl, ((Below.refl _ _).alloc (Nat.le_refl _) _).alloc (by simp) _⟩
        · simp [h1, h2, h3, h4] at h

end Go.Proofs.YtkoljljflpkgnaaDoor
