/- The chapter's examples hold: fixed answers true. -/
import Derived.Test.YtcgcbemhbkjijaaUtfFit
import Derived.Test.YtcgcbemhbkjijaaUtfSame
namespace Go.Proofs.Ytcgcbemhbkjijaa
open Go.RowKit

theorem same_yes (xs ys : List Int) (A A' : Option Addr) (n c n' c' : Nat) (w : World) (hx : Reads w w.heap.size A n c (ints .i32 xs)) (hy : Reads w w.heap.size A' n' c' (ints .i32 ys)) (hn : n ≤ 1048576) (h : xs = ys) :
    Calls Try.prog 10 #[.slice A n c, .slice A' n' c'] w fun e w' => e = .returned (.bool true) ∧ Below w.heap.size w w' := by
  have hl : n = n' := by rw [← hx.len, ← hy.len, h]
  refine (same_any xs ys A A' n c n' c' w hx hy hn (by omega)).mono ?_
  rintro e w' ⟨rfl, q, rfl⟩
  exact ⟨by simp [h], below_drewN (Below.refl _ _) q⟩
theorem built_reads (w : World) (e : TypeId) (cs : List Value) : Reads (w.alloc (.cells cs.toArray e)) (w.alloc (.cells cs.toArray e)).heap.size (some ⟨w.heap.size, 0, none⟩) cs.length cs.length cs := by
  refine ⟨rfl, Nat.le_refl _, fun _ => ⟨_, rfl, by simp, ?_⟩⟩
  exact World.news_of_block (cs := cs.toArray) (fr := (0, 0)) (heap_alloc_new w _)

theorem ex1 : runesOf ⟨#[97, 195, 169]⟩ = [97, 233] := by decide +kernel
theorem ex2 : runesOf ⟨#[226, 130, 97]⟩ = [65533, 65533, 97] := by decide +kernel
theorem ex3 : fitL 2 (runesOf ⟨#[97, 195, 169, 98]⟩) [] = [97] := by decide +kernel
theorem ex4 : fitL 3 (runesOf ⟨#[97, 195, 169, 98]⟩) [] = [97, 195, 169] := by decide +kernel

set_option maxHeartbeats 1000000 in
theorem fixed_any (w : World) : Calls Try.prog 9 #[] w fun e w' => e = .returned (.bool true) ∧ Below w.heap.size w w' := by
  go_enter Try.func9, Try.ntmps9
  go_wp2_with fail
  refine (runes_any _ _ (by decide)).mono ?_
  rintro e w1 ⟨v1, rfl, hown1, hb1⟩
  obtain ⟨A1, c1, rfl, hr1, _⟩ := ownsRow_slice hown1
  go_wp2_with fail
  refine (same_yes _ [97, 233] _ _ _ _ _ _ _ ((hr1.alloc (Nat.le_refl _) _).more (by simp)) (built_reads w1 _ [.int .i32 97, .int .i32 233]) (by rw [ex1]; decide) ex1).mono ?_
  rintro e w2 ⟨rfl, hb2⟩
  go_wp2_with fail
  refine (runes_any _ _ (by decide)).mono ?_
  rintro e w3 ⟨v3, rfl, hown3, hb3⟩
  obtain ⟨A3, c3, rfl, hr3, _⟩ := ownsRow_slice hown3
  go_wp2_with fail
  refine (same_yes _ [65533, 65533, 97] _ _ _ _ _ _ _ ((hr3.alloc (Nat.le_refl _) _).more (by simp)) (built_reads w3 _ [.int .i32 65533, .int .i32 65533, .int .i32 97]) (by rw [ex2]; decide) ex2).mono ?_
  rintro e w4 ⟨rfl, hb4⟩
  go_wp2_with fail
  refine (fit_any _ 2 _ (by decide) (by decide) (by decide)).mono ?_
  rw [ex3]
  rintro e w5 ⟨rfl, hb5⟩
  go_wp2_with fail
  refine (fit_any _ 3 _ (by decide) (by decide) (by decide)).mono ?_
  rw [ex4]
  rintro e w6 ⟨rfl, hb6⟩
  go_wp2
  go_ret
  refine ⟨rfl, ?_⟩
  exact then_ (then_ (then_ (al_ (then_ (then_ (al_ hb1 _) hb2) hb3) _) hb4) hb5) hb6
end Go.Proofs.Ytcgcbemhbkjijaa
