/- The walks of pool.Fits and ref02.Fits: printed by wip/bin/gen_fits.py. -/
import Derived.Test.YtkoljljflpkgnaaDoorPoolTake
namespace Go.Proofs.YtkoljljflpkgnaaDoor
open Go.RowKit

def fitB (ss u m : Nat → Int) (k : Nat) : Bool := decide (0 ≤ u k ∧ 0 ≤ m k ∧ u k ≤ ss k ∧ m k ≤ ss k - u k)
def fitsB (ss u m : Nat → Int) : Bool := (List.range 6).all (fitB ss u m)
theorem fits_no (ss u m : Nat → Int) (k : Nat) (hk : k < 6) (h : fitB ss u m k = false) : fitsB ss u m = false := by
  unfold fitsB
  rw [List.all_eq_false]
  exact ⟨k, List.mem_range.2 hk, by rw [h]; simp⟩
theorem fits_step (ss u m : Nat → Int) (k : Nat) (hf : ∀ j, j < k → fitB ss u m j = true) (h : fitB ss u m k = true) : ∀ j, j < k + 1 → fitB ss u m j = true := by
  intro j hj
  by_cases e : j < k
  · exact hf j e
  · obtain rfl : j = k := by omega
    exact h
theorem fits_all (ss u m : Nat → Int) (hf : ∀ j, j < 6 → fitB ss u m j = true) : fitsB ss u m = true := by
  unfold fitsB
  rw [List.all_eq_true]
  exact fun j hj => hf j (List.mem_range.1 hj)

set_option maxHeartbeats 2000000 in
theorem refFits_any (bs ss u m : Nat → Int) (a b c : Int) (w : World) (hs : ∀ j, j < 6 → 0 ≤ ss j ∧ ss j ≤ 1000000) :
    Calls Tryd.prog 16 #[.agg (PC (planL bs ss a b c)), sixV u, sixV m] w fun e w' => e = .returned (.bool (fitsB ss u m)) ∧ Below w.heap.size w w' := by
  unfold sixV
  have HS := Lib.hid hs
  clear hs
  have hB : Below w.heap.size w (((w.alloc (.cells (PC (planL bs ss a b c)) 28)).alloc (.cells (PC (six u)) 26)).alloc (.cells (PC (six m)) 26)) := (((Below.refl _ _).alloc (Nat.le_refl _) _).alloc (by simp) _).alloc (by simp; omega) _
  go_enter Tryd.func16, Tryd.ntmps16
  go_wp2
  go_loopw [7] (fun i wr => ∃ k q : Nat, k ≤ 6 ∧ i = .int .i64 k ∧ Hid (∀ j, j < k → fitB ss u m j = true) ∧ wr = (((w.alloc (.cells (PC (planL bs ss a b c)) 28)).alloc (.cells (PC (six u)) 26)).alloc (.cells (PC (six m)) 26)).drewN q) (fun i _ => 6 - (intOf i).toNat)
  case atStart => exact ⟨0, 0, by omega, rfl, Lib.hid (fun j hj => absurd hj (by omega)), rfl⟩
  case round =>
    obtain ⟨k, q, hk, rfl, hf, rfl⟩ := hrel
    by_cases hlt : k < 6
    · have hlt' : (k : Int) < 6 := by omega
      have hk0 : (0 : Int) ≤ (k : Int) := by omega
      have c1 := six_get u k hlt
      have c2 := six_get m k hlt
      have c3 := plan_size bs ss a b c k hlt
      have s1 := HS.out k hlt
      have HN := Lib.hid (fun h => fits_no ss u m k hlt h)
      have HU := Lib.hid (fun h => fits_step ss u m k hf.out h)
      by_cases h0 : u k < 0
      · have d0 : decide (u k < 0) = true := by simp [h0]
        have hno := Lib.hid (HN.out (by unfold fitB; simp; omega))
        clear h0
        go_wp2
        go_quiet (fail)
        go_wp2
        go_ret
        exact ⟨by rw [hno.out]; rfl, by first | exact below_drewN hB _ | exact below_drewN (below_drewN hB _) _⟩
      · have d0 : decide (u k < 0) = false := by simp; omega
        by_cases h1 : m k < 0
        · have d1 : decide (m k < 0) = true := by simp [h1]
          have hno := Lib.hid (HN.out (by unfold fitB; simp; omega))
          clear h0
          go_wp2
          go_quiet (fail)
          go_wp2
          go_ret
          exact ⟨by rw [hno.out]; rfl, by first | exact below_drewN hB _ | exact below_drewN (below_drewN hB _) _⟩
        · have d1 : decide (m k < 0) = false := by simp; omega
          by_cases h2 : ss k < u k
          · have d2 : decide (ss k < u k) = true := by simp [h2]
            have hno := Lib.hid (HN.out (by unfold fitB; simp; omega))
            clear h0
            go_wp2
            go_quiet (fail)
            go_wp2
            go_ret
            exact ⟨by rw [hno.out]; rfl, by first | exact below_drewN hB _ | exact below_drewN (below_drewN hB _) _⟩
          · have d2 : decide (ss k < u k) = false := by simp; omega
            have ew : IntKind.i64.wrap (ss k - u k) = ss k - u k := IntWalk.i64_in _ (by omega)
            by_cases h3 : ss k - u k < m k
            · have d3 : decide (ss k - u k < m k) = true := by simp [h3]
              have hno := Lib.hid (HN.out (by unfold fitB; simp; omega))
              clear h0
              go_wp2
              go_quiet (fail)
              go_wp2
              go_ret
              exact ⟨by rw [hno.out]; rfl, by first | exact below_drewN hB _ | exact below_drewN (below_drewN hB _) _⟩
            · have d3 : decide (ss k - u k < m k) = false := by simp; omega
              have hyes := Lib.hid (HU.out (by unfold fitB; simp; omega))
              clear h0 h1 h2 h3
              go_wp2
              go_quiet (fail)
              go_wp2
              go_roundw
              case rel => exact ⟨k + 1, _, by omega, by go_num, hyes, rfl⟩
              case measure => simp [intOf]; omega
    · obtain rfl : k = 6 := by omega
      have hall := Lib.hid (fits_all ss u m hf.out)
      go_wp2
      go_ret
      exact ⟨by rw [hall.out]; rfl, below_drewN hB _⟩

set_option maxHeartbeats 2000000 in
theorem fits_any (bs ss u m : Nat → Int) (a b c : Int) (w : World) (hs : ∀ j, j < 6 → 0 ≤ ss j ∧ ss j ≤ 1000000) :
    Calls Tryd.prog 15 #[.agg (PC (planL bs ss a b c)), sixV u, sixV m] w fun e w' => e = .returned (.bool (fitsB ss u m)) ∧ Below w.heap.size w w' := by
  unfold sixV
  have HS := Lib.hid hs
  clear hs
  have hB : Below w.heap.size w (((w.alloc (.cells (PC (planL bs ss a b c)) 28)).alloc (.cells (PC (six u)) 26)).alloc (.cells (PC (six m)) 26)) := (((Below.refl _ _).alloc (Nat.le_refl _) _).alloc (by simp) _).alloc (by simp; omega) _
  go_enter Tryd.func15, Tryd.ntmps15
  have z0 := plan_size bs ss a b c 0 (by omega)
  have z1 := plan_size bs ss a b c 1 (by omega)
  have z2 := plan_size bs ss a b c 2 (by omega)
  have z3 := plan_size bs ss a b c 3 (by omega)
  have z4 := plan_size bs ss a b c 4 (by omega)
  have z5 := plan_size bs ss a b c 5 (by omega)
  simp only [Nat.reduceAdd] at z0 z1 z2 z3 z4 z5
  go_wp2
  go_loopw [11] (fun i wr => ∃ k q : Nat, k ≤ 6 ∧ i = .int .i64 k ∧ Hid (∀ j, j < k → fitB ss u m j = true) ∧ wr = (((w.alloc (.cells (PC (planL bs ss a b c)) 28)).alloc (.cells (PC (six u)) 26)).alloc (.cells (PC (six m)) 26)).drewN q) (fun i _ => 6 - (intOf i).toNat)
  case atStart => exact ⟨0, 0, by omega, rfl, Lib.hid (fun j hj => absurd hj (by omega)), rfl⟩
  case round =>
    obtain ⟨k, q, hk, rfl, hf, rfl⟩ := hrel
    by_cases hlt : k < 6
    · have hlt' : (k : Int) < 6 := by omega
      have hk0 : (0 : Int) ≤ (k : Int) := by omega
      have c1 := six_get u k hlt
      have c2 := six_get m k hlt
      have c3 := plan_size bs ss a b c k hlt
      have ci : ∀ wx : World, (Instr.index 26 (.agg #[.int .i64 (ss 0), .int .i64 (ss 1), .int .i64 (ss 2), .int .i64 (ss 3), .int .i64 (ss 4), .int .i64 (ss 5)]) (.int .i64 (k : Int))).run Tryd.prog wx = .ok (.int .i64 (ss k)) wx := by
        intro wx
        rcases (show k = 0 ∨ k = 1 ∨ k = 2 ∨ k = 3 ∨ k = 4 ∨ k = 5 from by omega) with rfl | rfl | rfl | rfl | rfl | rfl <;> kernel_rfl
      have s1 := HS.out k hlt
      have HN := Lib.hid (fun h => fits_no ss u m k hlt h)
      have HU := Lib.hid (fun h => fits_step ss u m k hf.out h)
      by_cases h0 : u k < 0
      · have d0 : decide (u k < 0) = true := by simp [h0]
        have hno := Lib.hid (HN.out (by unfold fitB; simp; omega))
        clear h0
        go_wp2
        go_quiet (fail)
        go_wp2
        go_ret
        exact ⟨by rw [hno.out]; rfl, by first | exact below_drewN hB _ | exact below_drewN (below_drewN hB _) _⟩
      · have d0 : decide (u k < 0) = false := by simp; omega
        by_cases h1 : m k < 0
        · have d1 : decide (m k < 0) = true := by simp [h1]
          have hno := Lib.hid (HN.out (by unfold fitB; simp; omega))
          clear h0
          go_wp2
          go_quiet (fail)
          go_wp2
          go_ret
          exact ⟨by rw [hno.out]; rfl, by first | exact below_drewN hB _ | exact below_drewN (below_drewN hB _) _⟩
        · have d1 : decide (m k < 0) = false := by simp; omega
          by_cases h2 : ss k < u k
          · have d2 : decide (ss k < u k) = true := by simp [h2]
            have hno := Lib.hid (HN.out (by unfold fitB; simp; omega))
            clear h0
            go_wp2
            go_quiet (fail)
            go_wp2
            go_ret
            exact ⟨by rw [hno.out]; rfl, by first | exact below_drewN hB _ | exact below_drewN (below_drewN hB _) _⟩
          · have d2 : decide (ss k < u k) = false := by simp; omega
            have ew : IntKind.i64.wrap (ss k - u k) = ss k - u k := IntWalk.i64_in _ (by omega)
            by_cases h3 : ss k - u k < m k
            · have d3 : decide (ss k - u k < m k) = true := by simp [h3]
              have hno := Lib.hid (HN.out (by unfold fitB; simp; omega))
              clear h0
              go_wp2
              go_quiet (fail)
              go_wp2
              go_ret
              exact ⟨by rw [hno.out]; rfl, by first | exact below_drewN hB _ | exact below_drewN (below_drewN hB _) _⟩
            · have d3 : decide (ss k - u k < m k) = false := by simp; omega
              have hyes := Lib.hid (HU.out (by unfold fitB; simp; omega))
              clear h0 h1 h2 h3
              go_wp2
              go_quiet (fail)
              go_wp2
              go_roundw
              case rel => exact ⟨k + 1, _, by omega, by go_num, hyes, rfl⟩
              case measure => simp [intOf]; omega
    · obtain rfl : k = 6 := by omega
      have hall := Lib.hid (fits_all ss u m hf.out)
      go_wp2
      go_ret
      exact ⟨by rw [hall.out]; rfl, below_drewN hB _⟩
end Go.Proofs.YtkoljljflpkgnaaDoor
