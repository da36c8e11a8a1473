/- The chapter's examples; Copy of bytes; the walks of VlqGets and VlqPuts. -/
import Derived.Test.YtpadhnfclijnkaaVlqAll
import Derived.Test.YtpadhnfclijnkaaSameB
import Derived.Test.YtpadhnfclijnkaaSame32
import Derived.Test.YtpadhnfclijnkaaVlqMath
namespace Go.Proofs.Ytpadhnfclijnkaa
open Go.RowKit

set_option maxHeartbeats 400000 in
theorem copyB_any (xs : List UInt8) (A : Option Addr) (n c : Nat) (w : World) (hx : Reads w w.heap.size A n c (bys xs)) (hn : n ≤ 1048576) :
    Calls Try.prog 13 #[.slice A n c] w fun e w' => ∃ g, e = .returned (.slice (some ⟨g, 0, none⟩) n n) ∧ Row w' g 5 (bys xs) ∧ Below w.heap.size w w' := by
  obtain ⟨i0, hi0, hz0, hz1, hz2⟩ := info_parts info_u8
  have hmk := run_make_row1 (P := Try.prog) 23 5 i0 _ Try.underlying23 hi0 hz0 hz1 (by omega) rfl (n : Int) n rfl (by omega)
  clear hi0 hz0 hz1 hz2
  go_enter Try.func13, Try.ntmps13
  go_wp2_with (with_reducible refine wpList_copy_full rfl (.tmp 7) (.tmp 8) 23 rfl 5 Try.underlying23 (by kernel_rfl) w.heap.size (List.replicate n (.int .u8 0)) (bys xs) n c (Row.zeros _ _ _ _) (by simp) _ _ (hx.alloc (Nat.le_refl _) _) rfl rfl (bys_one _) w.heap.size w ((Below.refl _ _).alloc (Nat.le_refl _) _) (Nat.le_refl _) ?_; intro w1 hrow1 hb1)
  go_ret
  exact ⟨_, rfl, hrow1, hb1⟩

/-- Bytes as numbers. -/
def nums (l : List UInt8) : List Int := l.map fun b => (b.toNat : Int)
theorem nums_bys (l : List UInt8) : ints .u8 (nums l) = bys l := by simp [ints, nums, bys]
theorem nums_inj {a b : List UInt8} (h : nums a = nums b) : a = b := bys_inj (by rw [← nums_bys, ← nums_bys, h])
theorem sameBy_yes (xs ys : List UInt8) (A A' : Option Addr) (n c n' c' : Nat) (w : World) (hx : Reads w w.heap.size A n c (bys xs)) (hy : Reads w w.heap.size A' n' c' (bys ys)) (hn : n ≤ 1048576) (h : xs = ys) :
    Calls Try.prog 11 #[.slice A n c, .slice A' n' c'] w fun e w' => e = .returned (.bool true) ∧ Below w.heap.size w w' :=
  sameB_yes (nums xs) (nums ys) A A' n c n' c' w (by rw [nums_bys]; exact hx) (by rw [nums_bys]; exact hy) hn (by rw [h])
theorem newRow (w : World) (e : TypeId) (cs : List Value) (l : List UInt8) (h : bys l = cs) : Row (w.alloc (.cells cs.toArray e)) w.heap.size e (bys l) := by rw [h]; exact Row.new w e cs

theorem newRow1 (w : World) (o : Obj) (e : TypeId) (cs : List Value) (l : List UInt8) (h : bys l = cs) : Row ((w.alloc o).alloc (.cells cs.toArray e)) (w.heap.size + 1) e (bys l) := by
  have := newRow (w.alloc o) e cs l h
  rwa [show (w.alloc o).heap.size = w.heap.size + 1 from by simp] at this
theorem newRow2 (w : World) (o o' : Obj) (e : TypeId) (cs : List Value) (l : List UInt8) (h : bys l = cs) : Row (((w.alloc o).alloc o').alloc (.cells cs.toArray e)) (w.heap.size + 1 + 1) e (bys l) := by
  have := newRow1 (w.alloc o) o' e cs l h
  rwa [show (w.alloc o).heap.size = w.heap.size + 1 from by simp] at this
theorem ex1 : getL [172, 2, 7] 0 = ⟨300, 2, 0⟩ := got_eq (by decide +kernel)
theorem ex2 : getL [128, 0] 0 = ⟨0, 0, 11⟩ := got_eq (by decide +kernel)
theorem ex3 : getL [255, 255, 255, 255, 16] 0 = ⟨0, 0, 11⟩ := got_eq (by decide +kernel)
theorem ex4 : putL 300 = [172, 2] := by decide +kernel

set_option maxHeartbeats 1000000 in
theorem fixed_any (w : World) : Calls Try.prog 8 #[] w fun e w' => e = .returned (.bool true) ∧ Below w.heap.size w w' := by
  have H1 : ∀ w', Reads w' w'.heap.size (some ⟨w.heap.size, 0, none⟩) 3 3 (bys [172, 2, 7]) → Calls Try.prog 10 #[.slice (some ⟨w.heap.size, 0, none⟩) 3 3, .int .i64 0] w' fun e w'' => e = .returned (.tuple #[.int .u32 300, .int .i64 2, .int .i64 0]) ∧ w' = w'' := fun w' h => by
    have := get_any [172, 2, 7] _ 3 3 0 w' h (by decide) (by decide)
    rw [ex1] at this; exact this
  have H2 : ∀ w' g, Reads w' w'.heap.size (some ⟨g, 0, none⟩) 2 2 (bys [128, 0]) → Calls Try.prog 10 #[.slice (some ⟨g, 0, none⟩) 2 2, .int .i64 0] w' fun e w'' => e = .returned (.tuple #[.int .u32 0, .int .i64 0, .int .i64 11]) ∧ w' = w'' := fun w' g h => by
    have := get_any [128, 0] _ 2 2 0 w' h (by decide) (by decide)
    rw [ex2] at this; exact this
  have H3 : ∀ w' g, Reads w' w'.heap.size (some ⟨g, 0, none⟩) 5 5 (bys [255, 255, 255, 255, 16]) → Calls Try.prog 10 #[.slice (some ⟨g, 0, none⟩) 5 5, .int .i64 0] w' fun e w'' => e = .returned (.tuple #[.int .u32 0, .int .i64 0, .int .i64 11]) ∧ w' = w'' := fun w' g h => by
    have := get_any [255, 255, 255, 255, 16] _ 5 5 0 w' h (by decide) (by decide)
    rw [ex3] at this; exact this
  have H1 := Lib.hid H1
  have H2 := Lib.hid H2
  have H3 := Lib.hid H3
  go_enter Try.func8, Try.ntmps8
  go_wp2_with fail
  refine (H1.out _ ((newRow w _ [.int .u8 172, .int .u8 2, .int .u8 7] [172, 2, 7] rfl).reads rfl)).mono ?_
  rintro e w' ⟨rfl, rfl⟩
  go_wp2_with fail
  refine (H2.out _ _ ((newRow1 w _ _ [.int .u8 128, .int .u8 0] [128, 0] rfl).reads rfl)).mono ?_
  rintro e w' ⟨rfl, rfl⟩
  go_wp2_with fail
  refine (H3.out _ _ ((newRow2 w _ _ _ [.int .u8 255, .int .u8 255, .int .u8 255, .int .u8 255, .int .u8 16] [255, 255, 255, 255, 16] rfl).reads rfl)).mono ?_
  rintro e w' ⟨rfl, rfl⟩
  go_wp2_with fail
  refine (put_any 300 _ (by decide)).mono ?_
  rw [ex4]
  rintro e w1 ⟨v1, rfl, hown1, hb1⟩
  obtain ⟨A1, c1, rfl, hr1, _⟩ := ownsRow_slice hown1
  go_wp2_with fail
  refine (sameBy_yes [172, 2] [172, 2] _ _ _ _ _ _ _ ((hr1.alloc (Nat.le_refl _) _).more (by simp)) ((newRow w1 _ [.int .u8 172, .int .u8 2] [172, 2] rfl).reads rfl) (by decide) rfl).mono ?_
  rintro e w2 ⟨rfl, hb2⟩
  go_wp2
  go_ret
  exact ⟨rfl, then_ (al_ (then_ (al_ (al_ (al_ (Below.refl _ _) _) _) _) hb1) _) hb2⟩
end Go.Proofs.Ytpadhnfclijnkaa
