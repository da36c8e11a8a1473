/- The walk of slices.Equal over []uint32. -/
import Derived.Test.YtbbjlijdodnjaaaSame32
namespace Go.Proofs.Ytbbjlijdodnjaaa
open Go.RowKit

set_option maxHeartbeats 400000 in
theorem equal_any (xs ys : List Int) (A A' : Option Addr) (n c n' c' : Nat) (w : World) (hx : Reads w w.heap.size A n c (ints .u32 xs)) (hy : Reads w w.heap.size A' n' c' (ints .u32 ys)) (hn : n ≤ 1099511627776) (hn' : n' ≤ 1099511627776) :
    Calls Try.prog 26 #[.slice A n c, .slice A' n' c'] w fun e w' => e = .returned (.bool (decide (xs = ys))) ∧ ∃ q, w' = w.drewN q := by
  have lx : xs.length = n := by simpa using hx.len
  have ly : ys.length = n' := by simpa using hy.len
  by_cases hl : n = n'
  · subst hl
    have Lx : Hid (xs.length = n) := lx
    have Ly : Hid (ys.length = n) := ly
    clear lx ly
    go_enter Try.func26, Try.ntmps26
    go_wp2
    go_loopw [13] (fun i wr => ∃ k : Nat, k ≤ n ∧ i = .int .i64 k ∧ xs.take k = ys.take k ∧ ∃ q, wr = w.drewN q) (fun i _ => n - (intOf i).toNat)
    case atStart => exact ⟨0, Nat.zero_le _, rfl, rfl, 0, rfl⟩
    case round =>
      obtain ⟨k, hk, rfl, ht, q, rfl⟩ := hrel
      have Ht : Hid (xs.take k = ys.take k) := ht
      clear ht
      by_cases hlt : k < n
      · obtain ⟨ad, h1, rfl, hb, hc⟩ := hx.int hlt
        obtain ⟨ad', h1', rfl, hb', hc'⟩ := hy.int hlt
        have hlt' : (k : Int) < (n : Int) := by omega
        have hk0 : (0 : Int) ≤ (k : Int) := by omega
        go_wp2
        go_quiet (fail)
        by_cases he : xs[k] = ys[k]
        · have hb : (xs[k] != ys[k]) = false := by simp [he]
          have Hs := Lib.hid (take_succ_eq h1 h1' Ht.out he)
          clear he
          go_wp2
          go_roundw
          case rel => exact ⟨k + 1, by omega, by go_num, Hs.out, _, rfl⟩
          case measure => simp [intOf]; omega
        · have hb : (xs[k] != ys[k]) = true := by simp [he]
          have Hs := Lib.hid (take_ne h1 h1' he)
          clear he
          go_wp2
          go_ret
          exact ⟨by simp [Hs.out], _, World.drewN_drewN _ _ _⟩
      · have hkn : k = n := by omega
        have Hs : Hid (xs = ys) := by
          have := Ht.out
          rwa [List.take_of_length_le (by rw [Lx.out]; omega), List.take_of_length_le (by rw [Ly.out]; omega)] at this
        clear hkn
        go_wp2
        go_ret
        exact ⟨by simp [Hs.out], _, rfl⟩
  · have Hs : Hid (xs ≠ ys) := fun e => hl (by rw [← lx, ← ly, e])
    have hne : ((n : Int) != (n' : Int)) = true := by simp; omega
    clear lx ly
    go_enter Try.func26, Try.ntmps26
    go_wp2
    go_ret
    exact ⟨by simp [Hs.out], 0, rfl⟩
end Go.Proofs.Ytbbjlijdodnjaaa
