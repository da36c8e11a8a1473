/- The walks of Word, Part (pack and ref). -/
import Derived.Test.YtoclkioipehjgaaRows
import Derived.Deep.QuietTactic
import Derived.BigQuiet
import Derived.Test.YtoclkioipehjgaaKit
namespace Go.Proofs.Ytoclkioipehjgaa
open Go.RowKit

theorem join16 (d p : Int) (h1 : 0 ≤ d) (h2 : d ≤ 65535) (h3 : 0 ≤ p) (h4 : p ≤ 65535) : bits .or .u32 (d * 65536) p = d * 65536 + p := by
  obtain ⟨m, rfl⟩ := Int.eq_ofNat_of_zero_le h1
  obtain ⟨n, rfl⟩ := Int.eq_ofNat_of_zero_le h3
  have := u32_or_nat (m * 65536) n (by omega) (by omega)
  rw [nat_join 16 (m * 65536) n (by omega) (by omega)] at this
  rw [show ((m : Int) * 65536) = ((m * 65536 : Nat) : Int) from by omega, this]
  omega

set_option maxHeartbeats 400000 in
theorem word_ok (d p : Int) (w : World) (h1 : 0 ≤ d) (h2 : d ≤ 65535) (h3 : 0 ≤ p) (h4 : p ≤ 65535) :
    Calls Try.prog 12 #[.int .i64 d, .int .i64 p] w fun e w' => e = .returned (.tuple #[.int .u32 (d * 65536 + p), .int .i64 0]) ∧ w = w' := by
  have hj := join16 d p h1 h2 h3 h4
  go_enter Try.func12, Try.ntmps12
  go_wp2
  go_ret2
  exact ⟨rfl, rfl⟩
set_option maxHeartbeats 400000 in
theorem refWord_ok (d p : Int) (w : World) (h1 : 0 ≤ d) (h2 : d ≤ 65535) (h3 : 0 ≤ p) (h4 : p ≤ 65535) :
    Calls Try.prog 13 #[.int .i64 d, .int .i64 p] w fun e w' => e = .returned (.tuple #[.int .u32 (d * 65536 + p), .int .i64 0]) ∧ w = w' := by
  go_enter Try.func13, Try.ntmps13
  go_wp2
  go_ret2
  exact ⟨by rw [Int.mul_comm d]; rfl, rfl⟩
set_option maxHeartbeats 800000 in
theorem word_no (d p : Int) (w : World) (h : d < 0 ∨ 65535 < d ∨ p < 0 ∨ 65535 < p) :
    Calls Try.prog 12 #[.int .i64 d, .int .i64 p] w fun e w' => e = .returned (.tuple #[.int .u32 0, .int .i64 1]) ∧ w = w' := by
  rcases (show d < 0 ∨ (0 ≤ d ∧ 65535 < d) ∨ (0 ≤ d ∧ d ≤ 65535 ∧ p < 0) ∨ (0 ≤ d ∧ d ≤ 65535 ∧ 0 ≤ p ∧ 65535 < p) from by omega) with h1 | ⟨h1, h2⟩ | ⟨h1, h2, h3⟩ | ⟨h1, h2, h3, h4⟩
  all_goals
    go_enter Try.func12, Try.ntmps12
    go_wp2
    go_ret2
    exact ⟨rfl, rfl⟩
set_option maxHeartbeats 800000 in
theorem refWord_no (d p : Int) (w : World) (h : d < 0 ∨ 65535 < d ∨ p < 0 ∨ 65535 < p) :
    Calls Try.prog 13 #[.int .i64 d, .int .i64 p] w fun e w' => e = .returned (.tuple #[.int .u32 0, .int .i64 1]) ∧ w = w' := by
  rcases (show d < 0 ∨ (0 ≤ d ∧ 65535 < d) ∨ (0 ≤ d ∧ d ≤ 65535 ∧ p < 0) ∨ (0 ≤ d ∧ d ≤ 65535 ∧ 0 ≤ p ∧ 65535 < p) from by omega) with h1 | ⟨h1, h2⟩ | ⟨h1, h2, h3⟩ | ⟨h1, h2, h3, h4⟩
  all_goals
    go_enter Try.func13, Try.ntmps13
    go_wp2
    go_ret2
    exact ⟨rfl, rfl⟩
theorem mask16 (x : Int) (h1 : 0 ≤ x) (h2 : x < 4294967296) : bits .and .u32 x 65535 = x % 65536 := by
  obtain ⟨m, rfl⟩ := Int.eq_ofNat_of_zero_le h1
  have := u32_and_nat m 65535 (by omega) (by omega)
  rw [Nat.and_two_pow_sub_one_eq_mod m 16] at this
  exact this
set_option maxHeartbeats 400000 in
theorem part_any (x : Int) (w : World) (h1 : 0 ≤ x) (h2 : x < 4294967296) :
    Calls Try.prog 14 #[.int .u32 x] w fun e w' => e = .returned (.tuple #[.int .i64 (x / 65536), .int .i64 (x % 65536)]) ∧ w = w' := by
  have hm := mask16 x h1 h2
  go_enter Try.func14, Try.ntmps14
  go_wp2
  go_ret2
  exact ⟨rfl, rfl⟩
set_option maxHeartbeats 400000 in
theorem refPart_any (x : Int) (w : World) (h1 : 0 ≤ x) (h2 : x < 4294967296) :
    Calls Try.prog 15 #[.int .u32 x] w fun e w' => e = .returned (.tuple #[.int .i64 (x / 65536), .int .i64 (x % 65536)]) ∧ w = w' := by
  go_enter Try.func15, Try.ntmps15
  go_wp2
  go_ret2
  exact ⟨rfl, rfl⟩
end Go.Proofs.Ytoclkioipehjgaa
