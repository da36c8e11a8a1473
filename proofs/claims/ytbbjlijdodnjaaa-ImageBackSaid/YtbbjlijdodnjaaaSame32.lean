/- The walk of ref01.Same over []uint32: true where the two lists are one. -/
import Derived.Test.YtbbjlijdodnjaaaRows
import Derived.Deep.QuietTactic
import Derived.BigQuiet
import Derived.Test.YtbbjlijdodnjaaaKit
namespace Go.Proofs.Ytbbjlijdodnjaaa
open Go.RowKit

theorem take_ne {xs ys : List Int} {k : Nat} (hx : k < xs.length) (hy : k < ys.length) (h : xs[k] ≠ ys[k]) : xs ≠ ys := fun e => h (by subst e; rfl)
theorem take_succ_eq {xs ys : List Int} {k : Nat} (hx : k < xs.length) (hy : k < ys.length) (h : xs.take k = ys.take k) (e : xs[k] = ys[k]) : xs.take (k + 1) = ys.take (k + 1) := by
  rw [List.take_succ_eq_append_getElem hx, List.take_succ_eq_append_getElem hy, h, e]

set_option maxHeartbeats 400000 in
theorem same32_any (xs ys : List Int) (A A' : Option Addr) (n c n' c' : Nat) (w : World) (hx : Reads w w.heap.size A n c (ints .u32 xs)) (hy : Reads w w.heap.size A' n' c' (ints .u32 ys)) (hn : n ≤ 1099511627776) (hn' : n' ≤ 1099511627776) :
    Calls Try.prog 13 #[.slice A n c, .slice A' n' c'] w fun e w' => e = .returned (.bool (decide (xs = ys))) ∧ ∃ q, w' = w.drewN q := by
  have lx : xs.length = n := by simpa using hx.len
  have ly : ys.length = n' := by simpa using hy.len
  by_cases hl : n = n'
  · subst hl
    have Lx : Hid (xs.length = n) := lx
    have Ly : Hid (ys.length = n) := ly
    clear lx ly
    go_enter Try.func13, Try.ntmps13
    go_wp2
    go_loopw [13] (fun i wr => ∃ k : Nat, k ≤ n ∧ i = .int .i64 k ∧ xs.take k = ys.take k ∧ ∃ q, wr = w.drewN q) (fun i _ => n - (intOf i).toNat)
    case atStart => exact ⟨0, Nat.zero_le _, rfl, rfl, 0, rfl⟩
    case round =>
      obtain ⟨k, hk, rfl, ht, q, rfl⟩ := hrel
      have Ht : Hid (xs.take k = ys.take k) := ht
      clear ht
      by_cases hlt : k < n
      · obtain ⟨ad, h1, rfl, hb, hc⟩ := hx.int hlt
        obtain ⟨ad', h1', rfl, hb', hc'⟩ := hy.int hlt
        have hlt' : (k : Int) < (n : Int) := by omega
        have hk0 : (0 : Int) ≤ (k : Int) := by omega
        go_wp2
        go_quiet (fail)
        by_cases he : xs[k] = ys[k]
        · have hb : (xs[k] != ys[k]) = false := by simp [he]
          have Hs := Lib.hid (take_succ_eq h1 h1' Ht.out he)
          clear he
          go_wp2
          go_roundw
          case rel => exact ⟨k + 1, by omega, by go_num, Hs.out, _, rfl⟩
          case measure => simp [intOf]; omega
        · have hb : (xs[k] != ys[k]) = true := by simp [he]
          have Hs := Lib.hid (take_ne h1 h1' he)
          clear he
          go_wp2
          go_ret
          exact ⟨by simp [Hs.out], _, World.drewN_drewN _ _ _⟩
      · have hkn : k = n := by omega
        have Hs : Hid (xs = ys) := by
          have := Ht.out
          rwa [List.take_of_length_le (by rw [Lx.out]; omega), List.take_of_length_le (by rw [Ly.out]; omega)] at this
        clear hkn
        go_wp2
        go_ret
        exact ⟨by simp [Hs.out], _, rfl⟩
  · have Hs : Hid (xs ≠ ys) := fun e => hl (by rw [← lx, ← ly, e])
    have hne : ((n : Int) != (n' : Int)) = true := by simp; omega
    clear lx ly
    go_enter Try.func13, Try.ntmps13
    go_wp2
    go_ret
    exact ⟨by simp [Hs.out], 0, rfl⟩

theorem same32_yes (xs ys : List Int) (A A' : Option Addr) (n c n' c' : Nat) (w : World) (hx : Reads w w.heap.size A n c (ints .u32 xs)) (hy : Reads w w.heap.size A' n' c' (ints .u32 ys)) (hn : n ≤ 1099511627776) (h : xs = ys) :
    Calls Try.prog 13 #[.slice A n c, .slice A' n' c'] w fun e w' => e = .returned (.bool true) ∧ Below w.heap.size w w' := by
  have hl : n = n' := by rw [← hx.len, ← hy.len, h]
  refine (same32_any xs ys A A' n c n' c' w hx hy hn (by omega)).mono ?_
  rintro e w' ⟨rfl, q, rfl⟩
  exact ⟨by simp [h], below_drewN (Below.refl _ _) q⟩
theorem same32_no (xs ys : List Int) (A A' : Option Addr) (n c n' c' : Nat) (w : World) (hx : Reads w w.heap.size A n c (ints .u32 xs)) (hy : Reads w w.heap.size A' n' c' (ints .u32 ys)) (hn : n ≤ 1099511627776) (hn' : n' ≤ 1099511627776) (h : xs ≠ ys) :
    Calls Try.prog 13 #[.slice A n c, .slice A' n' c'] w fun e w' => e = .returned (.bool false) ∧ Below w.heap.size w w' := by
  refine (same32_any xs ys A A' n c n' c' w hx hy hn hn').mono ?_
  rintro e w' ⟨rfl, q, rfl⟩
  exact ⟨by simp [h], below_drewN (Below.refl _ _) q⟩
end Go.Proofs.Ytbbjlijdodnjaaa
