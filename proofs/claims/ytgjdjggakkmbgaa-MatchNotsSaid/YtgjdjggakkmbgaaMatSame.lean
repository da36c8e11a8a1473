/- The walk of ref18.SameFound over what is the same. -/
import Derived.Test.YtgjdjggakkmbgaaMatRef
import Derived.Deep.QuietTactic
import Derived.BigQuiet
namespace Go.Proofs.Ytgjdjggakkmbgaa
open Go.RowKit

theorem fd_eq (a b : Int) (w : World) : (Op.equalIn 10000 44 (.agg #[.int .i64 a, .int .i64 b]) (.agg #[.int .i64 a, .int .i64 b])).run Try.prog w = .ok true w := by
  have hS : Try.prog.underlying 44 = some (.struct (Try.prog.fieldsOf 44)) := by kernel_rfl
  have hp : Try.prog.stoodInHeld 44 = false := by kernel_rfl
  rw [show (10000 : Nat) = 9999 + 1 from rfl, run_equalIn_agg w 9999 44 _ _ hS hp]
  simp only [Program.fieldsOf, Try.underlying44]
  go_simp
theorem guardFd : Try.prog.eqGuardType Try.prog.depth 44 = false := by kernel_rfl
set_option maxRecDepth 100000 in
set_option maxHeartbeats 4000000 in
theorem sameF_yes (l : List Fd) (A A' : Option Addr) (n c n' c' : Nat) (w : World) (hx : ReadsK 2 w w.heap.size A n c (l.flatMap fdC)) (hy : ReadsK 2 w w.heap.size A' n' c' (l.flatMap fdC)) (hn : n ≤ 1048576) :
    Calls Try.prog 10 #[.slice A n c, .slice A' n' c'] w fun e w' => e = .returned (.bool true) ∧ Below w.heap.size w w' := by
  have h1 := hx.count fdC_len (by omega)
  have h2 := hy.count fdC_len (by omega)
  obtain rfl : n = n' := by omega
  have hcap := hx.cap
  have hcap' := hy.cap
  go_enter Try.func10, Try.ntmps10
  go_wp2
  go_loopw [13] (fun i wr => ∃ k : Nat, k ≤ n ∧ i = .int .i64 (k : Int) ∧ ∃ q, wr = w.drewN q) (fun i _ => n - (intOf i).toNat)
  case atStart => exact ⟨0, Nat.zero_le _, rfl, 0, rfl⟩
  case round =>
    obtain ⟨k, hk, rfl, q, rfl⟩ := hrel
    by_cases hlt : k < n
    · obtain ⟨ad, hl, rfl, hb, c0, c1⟩ := hx.fd hlt
      obtain ⟨ad2, _, rfl, hb2, d0, d1⟩ := hy.fd hlt
      have hlt' : (k : Int) < (n : Int) := by omega
      have hk0 : (0 : Int) ≤ (k : Int) := by omega
      generalize l[k] = X at *
      obtain ⟨x0, x1⟩ := X
      have hgd := guardFd
      have heq := fd_eq x0 x1
      simp only at c0 c1 d0 d1
      go_wp2
      go_quiet (fail)
      clear heq hgd
      go_wp2
      go_roundw
      case rel => exact ⟨k + 1, by omega, by go_num, _, rfl⟩
      case measure => simp [intOf]; omega
    · have hlt' : ¬ (k : Int) < (n : Int) := by omega
      go_wp2
      go_ret
      exact ⟨rfl, below_drewN (Below.refl _ _) q⟩
end Go.Proofs.Ytgjdjggakkmbgaa
