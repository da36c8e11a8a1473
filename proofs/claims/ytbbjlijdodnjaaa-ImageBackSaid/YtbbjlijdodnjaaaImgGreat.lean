/- The walk of law14's great: whatever the numbers, the lists are gone through. -/
import Derived.Test.YtbbjlijdodnjaaaRows
import Derived.Test.YtbbjlijdodnjaaaImgMem
namespace Go.Proofs.Ytbbjlijdodnjaaa
open Go.RowKit

set_option maxRecDepth 100000 in
set_option maxHeartbeats 8000000 in
theorem great_any (A0 : Option Addr) (nr cr : Nat) (ls : List Lt) (A : Option Addr) (n c : Nat) (w : World) (hl : ReadsL w w.heap.size A n c ls) :
    Calls Try.prog 8 #[.slice A0 nr cr, .slice A n c] w fun e w' => (e = .returned (.bool true) ∨ e = .returned (.bool false)) ∧ Below w.heap.size w w' := by
  by_cases h1 : 200 < nr
  · have h1' : (200 : Int) < (nr : Int) := by omega
    go_enter Try.func8, Try.ntmps8
    go_wp2
    go_ret
    exact ⟨.inl rfl, Below.refl _ _⟩
  have h1' : ¬ (200 : Int) < (nr : Int) := by omega
  by_cases h2 : 400 < n
  · have h2' : (400 : Int) < (n : Int) := by omega
    go_enter Try.func8, Try.ntmps8
    go_wp2
    go_ret
    exact ⟨.inl rfl, Below.refl _ _⟩
  have h2' : ¬ (400 : Int) < (n : Int) := by omega
  go_enter Try.func8, Try.ntmps8
  go_wp2_with fail
  go_loopw [5, 20] (fun s i wr => ∃ k : Nat, k ≤ n ∧ i = .int .i64 (k : Int) ∧ (∃ x : Int, s = .int .i64 x) ∧ Below w.heap.size w wr) (fun _ i _ => n - (intOf i).toNat)
  case atStart => exact ⟨0, by omega, rfl, ⟨0, rfl⟩, Below.refl _ _⟩
  case round =>
    obtain ⟨k, hk, rfl, ⟨x, rfl⟩, hB⟩ := hrel
    by_cases hlt : k < n
    · obtain ⟨ad, ky, r, A', n', c', es, rfl, hb, hlv, c0, c1, c2, he, hc'⟩ := (hl.below hB).at' hlt
      have hlt' : (k : Int) < (n : Int) := by omega
      have hk0 : (0 : Int) ≤ (k : Int) := by omega
      have hBa : Below w.heap.size w (wr.alloc (.cells #[.string ky, .int .i64 r, .slice A' n' c'] 47)) := hB.alloc hB.size _
      clear hlv
      obtain ⟨S, hS⟩ : ∃ S, wrap64 (x + wrap64 (1 + (ky.size : Int))) = S := ⟨_, rfl⟩
      by_cases h3 : 16384 < S
      · go_wp2
        go_ret
        exact ⟨.inl rfl, hBa⟩
      by_cases h4 : 100 < n'
      · have h4' : (100 : Int) < (n' : Int) := by omega
        go_wp2
        go_ret
        exact ⟨.inl rfl, hBa⟩
      have h4' : ¬ (100 : Int) < (n' : Int) := by omega
      go_wp2_with fail
      clear hS
      go_loopw [5, 41] (fun s i wr => ∃ k : Nat, k ≤ n' ∧ i = .int .i64 (k : Int) ∧ (∃ x : Int, s = .int .i64 x) ∧ Below w.heap.size w wr) (fun _ i _ => n' - (intOf i).toNat)
      case atStart => exact ⟨0, by omega, rfl, ⟨_, rfl⟩, hBa⟩
      case round =>
        obtain ⟨j, hj, rfl, ⟨y, rfl⟩, hB2⟩ := hrel
        by_cases hlt2 : j < n'
        · obtain ⟨ae, d, P, A2, c2', rfl, hbe, hen, e0, e1, hP⟩ := (he.keep (fun p hp => (hB2.cell hp).trans (hB.cell hp).symm)).at' hlt2
          have hlt2' : (j : Int) < (n' : Int) := by omega
          have hj0 : (0 : Int) ≤ (j : Int) := by omega
          have hBb : Below w.heap.size w (wr.alloc (.cells #[.int .i64 d, .slice A2 P.length c2'] 52)) := hB2.alloc hB2.size _
          clear hen
          obtain ⟨T, hT⟩ : ∃ T, wrap64 (y + wrap64 (1 + (P.length : Int))) = T := ⟨_, rfl⟩
          by_cases h5 : 16384 < T
          · go_wp2
            go_ret
            exact ⟨.inl rfl, hBb⟩
          · go_wp2
            go_roundw
            case rel => exact ⟨j + 1, by omega, by go_num, ⟨_, rfl⟩, hBb⟩
            case measure => simp [intOf]; omega
        · have hlt2' : ¬ (j : Int) < (n' : Int) := by omega
          go_wp2
          go_roundw
          case rel => exact ⟨k + 1, by omega, by go_num, ⟨_, rfl⟩, hB2⟩
          case measure => simp [intOf]; omega
    · have hlt' : ¬ (k : Int) < (n : Int) := by omega
      go_wp2
      go_ret
      exact ⟨.inr rfl, hB⟩
end Go.Proofs.Ytbbjlijdodnjaaa
