/- The walks of pool.Class and ref02.Class. -/
import Derived.Test.YtkoljljflpkgnaaDoorPoolTake
import Derived.Test.YtkoljljflpkgnaaDoorPoolSizes
namespace Go.Proofs.YtkoljljflpkgnaaDoor
open Go.RowKit

def cB (bs ss : Nat → Int) (a : Int) (k : Nat) : Bool := decide (bs k ≤ a ∧ a - bs k < ss k)
def classV (bs ss : Nat → Int) (a : Int) : Int × Int :=
  if cB bs ss a 0 = true then (0, (a - bs 0) % sz 0) else if cB bs ss a 1 = true then (1, (a - bs 1) % sz 1) else if cB bs ss a 2 = true then (2, (a - bs 2) % sz 2) else if cB bs ss a 3 = true then (3, (a - bs 3) % sz 3) else (-1, 0)
theorem class_hit (bs ss : Nat → Int) (a : Int) (k : Nat) (hk : k < 4) (hf : ∀ j, j < k → cB bs ss a j = false) (h : cB bs ss a k = true) : classV bs ss a = ((k : Int), (a - bs k) % sz k) := by
  unfold classV
  rcases (show k = 0 ∨ k = 1 ∨ k = 2 ∨ k = 3 from by omega) with rfl | rfl | rfl | rfl
  · rw [if_pos h]; rfl
  · rw [if_neg (by rw [hf 0 (by omega)]; simp), if_pos h]; rfl
  · rw [if_neg (by rw [hf 0 (by omega)]; simp), if_neg (by rw [hf 1 (by omega)]; simp), if_pos h]; rfl
  · rw [if_neg (by rw [hf 0 (by omega)]; simp), if_neg (by rw [hf 1 (by omega)]; simp), if_neg (by rw [hf 2 (by omega)]; simp), if_pos h]; rfl
theorem class_miss (bs ss : Nat → Int) (a : Int) (hf : ∀ j, j < 4 → cB bs ss a j = false) : classV bs ss a = (-1, 0) := by
  unfold classV
  rw [if_neg (by rw [hf 0 (by omega)]; simp), if_neg (by rw [hf 1 (by omega)]; simp), if_neg (by rw [hf 2 (by omega)]; simp), if_neg (by rw [hf 3 (by omega)]; simp)]
theorem class_up (bs ss : Nat → Int) (a : Int) (k : Nat) (hf : ∀ j, j < k → cB bs ss a j = false) (h : cB bs ss a k = false) : ∀ j, j < k + 1 → cB bs ss a j = false := by
  intro j hj
  by_cases e : j < k
  · exact hf j e
  · obtain rfl : j = k := by omega
    exact h
def clV (r : Int × Int) : Value := .tuple #[.int .i64 r.1, .int .i64 r.2]
theorem sz_pos (k : Nat) (h : k < 4) : 0 < sz k := by
  rcases (show k = 0 ∨ k = 1 ∨ k = 2 ∨ k = 3 from by omega) with rfl | rfl | rfl | rfl <;> decide

set_option maxHeartbeats 2000000 in
theorem class_any (bs ss : Nat → Int) (x y z a : Int) (w : World) (hT : SizesAt w) (hb : ∀ j, j < 6 → 0 ≤ bs j ∧ bs j ≤ 1000000) (hs : ∀ j, j < 6 → 0 ≤ ss j ∧ ss j ≤ 1000000) (ha : a ≤ 9223372036854775807) :
    Calls Tryd.prog 17 #[.agg (PC (planL bs ss x y z)), .int .i64 a] w fun e w' => e = .returned (clV (classV bs ss a)) ∧ Below w.heap.size w w' := by
  obtain ⟨tt, fr, hl⟩ := hT.below ((Below.refl w.heap.size w).alloc (Nat.le_refl _) (.cells (PC (planL bs ss x y z)) 28))
  have HL := Lib.hid hl
  have HS := Lib.hid hs
  have HB := Lib.hid hb
  clear hl hs hb hT
  have hB : Below w.heap.size w (w.alloc (.cells (PC (planL bs ss x y z)) 28)) := (Below.refl _ _).alloc (Nat.le_refl _) _
  go_enter Tryd.func17, Tryd.ntmps17
  go_wp2_with (refine wpList_load_row rfl 22 _ rfl 0 rfl tt _ fr _ HL.out Tryd.underlying22 rfl (by kernel_rfl) ?_)
  go_loopw [9] (fun i wr => ∃ k q : Nat, k ≤ 4 ∧ i = .int .i64 k ∧ Hid (∀ j, j < k → cB bs ss a j = false) ∧ wr = (w.alloc (.cells (PC (planL bs ss x y z)) 28)).drewN q) (fun i _ => 4 - (intOf i).toNat)
  case atStart => exact ⟨0, 0, by omega, rfl, Lib.hid (fun j hj => absurd hj (by omega)), rfl⟩
  case round =>
    obtain ⟨k, q, hk, rfl, hf, rfl⟩ := hrel
    by_cases hlt : k < 4
    · have hlt' : (k : Int) < 4 := by omega
      have hk6 : (k : Int) < 6 := by omega
      have hk0 : (0 : Int) ≤ (k : Int) := by omega
      have c2 := plan_base bs ss x y z k (by omega)
      have c3 := plan_size bs ss x y z k (by omega)
      have ci : ∀ wx : World, (Instr.index 22 (.agg #[.int .i64 4, .int .i64 16, .int .i64 64, .int .i64 256]) (.int .i64 (k : Int))).run Tryd.prog wx = .ok (.int .i64 (sz k)) wx := by
        intro wx
        rcases (show k = 0 ∨ k = 1 ∨ k = 2 ∨ k = 3 from by omega) with rfl | rfl | rfl | rfl <;> kernel_rfl
      have b1 := HB.out k (by omega)
      have p1 := sz_pos k hlt
      have p2 := sz_bd k
      by_cases h0 : bs k ≤ a
      · have d0 : decide (bs k ≤ a) = true := by simp [h0]
        have ew : IntKind.i64.wrap (a - bs k) = a - bs k := IntWalk.i64_in _ (by omega)
        by_cases h1 : a - bs k < ss k
        · have d1 : decide (a - bs k < ss k) = true := by simp [h1]
          have hh := Lib.hid (class_hit bs ss a k hlt hf.out (by unfold cB; simp; omega))
          have hr : (a - bs k).tmod (sz k) = (a - bs k) % sz k := Int.tmod_eq_emod_of_nonneg (by omega)
          have hz : sz k ≠ 0 := by omega
          have hm : 0 ≤ (a - bs k) % sz k := Int.emod_nonneg _ (by omega)
          have hm2 : (a - bs k) % sz k < sz k := Int.emod_lt_of_pos _ (by omega)
          have ew2 : IntKind.i64.wrap ((a - bs k) % sz k) = (a - bs k) % sz k := IntWalk.i64_in _ (by omega)
          go_wp2
          go_quiet (fail)
          go_wp2
          go_quiet (fail)
          go_wp2
          go_ret2
          exact ⟨by rw [hh.out]; rfl, by first | exact below_drewN hB _ | exact below_drewN (below_drewN hB _) _ | exact below_drewN (below_drewN (below_drewN hB _) _) _⟩
        · have d1 : decide (a - bs k < ss k) = false := by simp; omega
          have hh := Lib.hid (class_up bs ss a k hf.out (by unfold cB; simp; omega))
          go_wp2
          go_quiet (fail)
          go_wp2
          go_roundw
          case rel => exact ⟨k + 1, _, by omega, by go_num, hh, rfl⟩
          case measure => simp [intOf]; omega
      · have d0 : decide (bs k ≤ a) = false := by simp; omega
        have hh := Lib.hid (class_up bs ss a k hf.out (by unfold cB; simp; omega))
        go_wp2
        go_quiet (fail)
        go_wp2
        go_roundw
        case rel => exact ⟨k + 1, _, by omega, by go_num, hh, rfl⟩
        case measure => simp [intOf]; omega
    · obtain rfl : k = 4 := by omega
      have hh := Lib.hid (class_miss bs ss a hf.out)
      go_wp2
      go_ret2
      exact ⟨by rw [hh.out]; rfl, below_drewN hB _⟩

theorem at_grid (b s a t : Int) (h1 : b + t * s ≤ a) (h2 : a < b + t * s + s) : (a - b) % s = a - (b + t * s) := by
  have e : a - b = (a - (b + t * s)) + s * t := by rw [Int.mul_comm s t]; omega
  rw [e, Int.add_mul_emod_self_left]
  exact Int.emod_eq_of_lt (by omega) (by omega)

set_option maxHeartbeats 4000000 in
theorem refClass_any (bs ss : Nat → Int) (nn : Nat → Int) (x y z a : Int) (w : World) (hb : ∀ j, j < 6 → 0 ≤ bs j ∧ bs j ≤ 1000000) (hs : ∀ j, j < 6 → 0 ≤ ss j ∧ ss j ≤ 1000000) (hn : ∀ j, j < 4 → ss j = nn j * sz j ∧ 0 ≤ nn j ∧ nn j ≤ 1000) (ha : -9223372036854775808 ≤ a ∧ a ≤ 9223372036854775807) :
    Calls Tryd.prog 18 #[.agg (PC (planL bs ss x y z)), .int .i64 a] w fun e w' => e = .returned (clV (classV bs ss a)) ∧ Below w.heap.size w w' := by
  have HS := Lib.hid hs
  have HB := Lib.hid hb
  have HN := Lib.hid hn
  clear hs hb hn
  have hB : Below w.heap.size w (w.alloc (.cells (PC (planL bs ss x y z)) 28)) := (Below.refl _ _).alloc (Nat.le_refl _) _
  go_enter Tryd.func18, Tryd.ntmps18
  go_wp2
  go_loopw [6] (fun i wr => ∃ k q : Nat, k ≤ 4 ∧ i = .int .i64 k ∧ Hid (∀ j, j < k → cB bs ss a j = false) ∧ wr = (w.alloc (.cells (PC (planL bs ss x y z)) 28)).drewN q) (fun i _ => 4 - (intOf i).toNat)
  case atStart => exact ⟨0, 0, by omega, rfl, Lib.hid (fun j hj => absurd hj (by omega)), rfl⟩
  case round =>
    obtain ⟨k, q, hk, rfl, hf, rfl⟩ := hrel
    by_cases hlt : k < 4
    · have hlt' : (k : Int) < 4 := by omega
      have hk6 : (k : Int) < 6 := by omega
      have hk0 : (0 : Int) ≤ (k : Int) := by omega
      have c2 := plan_base bs ss x y z k (by omega)
      have c3 := plan_size bs ss x y z k (by omega)
      have b1 := HB.out k (by omega)
      have s1 := HS.out k (by omega)
      obtain ⟨n0, n1, n2⟩ := HN.out k hlt
      have N0 := Lib.hid n0
      clear n0
      have p1 := sz_pos k hlt
      have p2 := sz_bd k
      have HE := Lib.hid (szI_of k hlt)
      go_wp2
      go_loopw [7] (fun b wr => ∃ (t q : Nat), (t : Int) ≤ nn k ∧ b = .int .i64 (bs k + t * sz k) ∧ (a < bs k ∨ bs k + t * sz k ≤ a) ∧ wr = (w.alloc (.cells (PC (planL bs ss x y z)) 28)).drewN q) (fun b _ => (bs k + ss k + 1 - intOf b).toNat)
      case atStart => exact ⟨0, q, by omega, by simp, by simp; omega, rfl⟩
      case round =>
        obtain ⟨t, q, ht, rfl, hta, rfl⟩ := hrel
        have q1 : 0 ≤ (t : Int) * sz k := Int.mul_nonneg (by omega) (by omega)
        have q2 : (t : Int) * sz k ≤ nn k * sz k := Int.mul_le_mul_of_nonneg_right ht (by omega)
        have q3 : (t : Int) * sz k ≤ ss k := by have := N0.out; omega
        have ews : IntKind.i64.wrap (bs k + ss k) = bs k + ss k := IntWalk.i64_in _ (by omega)
        by_cases htn : (t : Int) < nn k
        · have q4 : ((t : Int) + 1) * sz k ≤ nn k * sz k := Int.mul_le_mul_of_nonneg_right (by omega) (by omega)
          have q5 : (t : Int) * sz k + sz k ≤ ss k := by have := N0.out; rw [Int.add_mul] at q4; omega
          have hup : (t : Int) * sz k + sz k = ((t + 1 : Nat) : Int) * sz k := by
            rw [Int.natCast_add, Int.add_mul]; simp
          have HUP := Lib.hid hup
          have hcls := Lib.hid (fun h1 h2 => class_hit bs ss a k hlt hf.out (show cB bs ss a k = true from decide_eq_true ⟨h1, h2⟩))
          have hgr := Lib.hid (at_grid (bs k) (sz k) a t)
          clear q4 hup
          generalize hP : (t : Int) * sz k = P at *
          have HP := Lib.hid hP
          clear hP
          have d0 : decide (bs k + P < bs k + ss k) = true := by simp; omega
          have d0' : bs k + P < bs k + ss k := by omega
          rcases (show a < bs k ∨ (bs k + P ≤ a ∧ a < bs k + P + sz k) ∨ (bs k + P ≤ a ∧ ¬ a < bs k + P + sz k) from by omega) with h | ⟨h, h'⟩ | ⟨h, h'⟩
          · have h1 : ¬ bs k + P ≤ a := by omega
            go_wp2
            go_quiet (fail)
            go_wp2_with (go_at_call 19; refine (refSlab_any _ _).mono ?_; rw [HE.out]; rintro e w' ⟨rfl, rfl⟩)
            go_roundw
            case rel => exact ⟨t + 1, _, by omega, by rw [← HUP.out]; go_num, .inl h, rfl⟩
            case measure => simp [intOf]; omega
          · have hv := Lib.hid (hcls.out (by omega) (by omega))
            have hg := Lib.hid (hgr.out h h')
            go_wp2
            go_quiet (fail)
            go_wp2_with (go_at_call 19; refine (refSlab_any _ _).mono ?_; rw [HE.out]; rintro e w' ⟨rfl, rfl⟩)
            go_ret2
            exact ⟨by rw [hv.out, hg.out]; rfl, by first | exact below_drewN hB _ | exact below_drewN (below_drewN hB _) _ | exact below_drewN (below_drewN (below_drewN hB _) _) _⟩
          · go_wp2
            go_quiet (fail)
            go_wp2_with (go_at_call 19; refine (refSlab_any _ _).mono ?_; rw [HE.out]; rintro e w' ⟨rfl, rfl⟩)
            go_roundw
            case rel => exact ⟨t + 1, _, by omega, by rw [← HUP.out]; go_num, .inr (by rw [← HUP.out]; omega), rfl⟩
            case measure => simp [intOf]; omega
        · have et : (t : Int) = nn k := by omega
          have q6 : (t : Int) * sz k = ss k := by rw [N0.out, et]
          have hh := Lib.hid (class_up bs ss a k hf.out (by unfold cB; simp; omega))
          have HQ := Lib.hid q6
          clear et
          rw [HQ.out]
          have hd : decide (bs k + ss k < bs k + ss k) = false := by simp
          go_wp2
          go_quiet (fail)
          go_wp2
          go_roundw
          case rel => exact ⟨k + 1, _, by omega, by go_num, hh, rfl⟩
          case measure => simp [intOf]; omega
    · obtain rfl : k = 4 := by omega
      have hh := Lib.hid (class_miss bs ss a hf.out)
      go_wp2
      go_ret2
      exact ⟨by rw [hh.out]; rfl, below_drewN hB _⟩
end Go.Proofs.YtkoljljflpkgnaaDoor
