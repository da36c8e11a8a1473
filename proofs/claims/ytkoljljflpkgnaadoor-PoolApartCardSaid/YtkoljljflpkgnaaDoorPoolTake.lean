/- The walks of pool.Take and ref02.Take: printed by wip/bin/gen_take.py. -/
import Derived.Test.YtkoljljflpkgnaaDoorPoolLay
import Derived.RegionTactic
namespace Go.Proofs.YtkoljljflpkgnaaDoor
open Go.RowKit

/-- Six numbers as a value. -/
def six (u : Nat → Int) : List Int := [u 0, u 1, u 2, u 3, u 4, u 5]
def sixV (u : Nat → Int) : Value := .agg (PC (six u))
/-- What is taken. -/
def takeV (bs ss u : Nat → Int) (k n : Int) : Value :=
  if k < 0 ∨ 5 < k ∨ n < 1 ∨ u k.toNat < 0 ∨ ss k.toNat < u k.toNat then .tuple #[.int .i64 0, sixV (fun _ => 0), .int .i64 1]
  else if ss k.toNat - u k.toNat < n then .tuple #[.int .i64 0, sixV (fun _ => 0), .int .i64 3]
  else .tuple #[.int .i64 (bs k.toNat + u k.toNat), sixV (fun j => if j = k.toNat then u k.toNat + n else u j), .int .i64 0]
theorem six_get (u : Nat → Int) (k : Nat) (hk : k < 6) : (PC (six u))[k]? = some (.int .i64 (u k)) := by
  rcases (show k = 0 ∨ k = 1 ∨ k = 2 ∨ k = 3 ∨ k = 4 ∨ k = 5 from by omega) with rfl | rfl | rfl | rfl | rfl | rfl <;> rfl
theorem six_set (u : Nat → Int) (k : Nat) (hk : k < 6) (x : Int) : (PC (six u)).setIfInBounds k (.int .i64 x) = PC (six (fun j => if j = k then x else u j)) := by
  rw [PC_set]
  rcases (show k = 0 ∨ k = 1 ∨ k = 2 ∨ k = 3 ∨ k = 4 ∨ k = 5 from by omega) with rfl | rfl | rfl | rfl | rfl | rfl <;> simp [six]
theorem six_lit (v : Nat → Int) : PC (six v) = #[.int .i64 (v 0), .int .i64 (v 1), .int .i64 (v 2), .int .i64 (v 3), .int .i64 (v 4), .int .i64 (v 5)] := rfl
theorem plan_base (bs ss : Nat → Int) (a b c : Int) (k : Nat) (hk : k < 6) : (PC (planL bs ss a b c))[k]? = some (.int .i64 (bs k)) := PC_get _ _ _ (planL_get1 _ _ _ _ _ k hk)
theorem plan_size (bs ss : Nat → Int) (a b c : Int) (k : Nat) (hk : k < 6) : (PC (planL bs ss a b c))[6 + k]? = some (.int .i64 (ss k)) := PC_get _ _ _ (planL_get2 _ _ _ _ _ k hk)

set_option maxHeartbeats 2000000 in
theorem take_any (bs ss u : Nat → Int) (a b c k n : Int) (w : World) (hs : ∀ j, j < 6 → 0 ≤ ss j ∧ ss j ≤ 1000000) (hb : ∀ j, j < 6 → 0 ≤ bs j ∧ bs j ≤ 1000000) :
    Calls Tryd.prog 12 #[.agg (PC (planL bs ss a b c)), sixV u, .int .i64 k, .int .i64 n] w fun e w' => e = .returned (takeV bs ss u k n) ∧ Below w.heap.size w w' := by
  unfold takeV sixV
  have hds : ∀ (n : Nat) (w : World) (a : Addr) (v : Value), (w.drewN n).setCell a v = (w.setCell a v).drewN n := fun _ _ _ _ => rfl
  by_cases hk : 0 ≤ k ∧ k ≤ 5
  · obtain ⟨j, rfl⟩ := Int.eq_ofNat_of_zero_le hk.1
    have hkb := btw_yes hk.1 hk.2
    have hj : j < 6 := by omega
    have hj' : (j : Int) < 6 := by omega
    have hj0 : (0 : Int) ≤ (j : Int) := by omega
    have hj1 : ¬ (j : Int) < 0 := by omega
    have hj2 : ¬ (5 : Int) < (j : Int) := by omega
    have d1 : decide ((j : Int) < 0) = false := by simp
    have d2 : decide ((5 : Int) < (j : Int)) = false := by simp; omega
    have c1 := six_get u j hj
    have c2 := plan_base bs ss a b c j hj
    have c3 := plan_size bs ss a b c j hj
    have s1 := hs j hj
    have b1 := hb j hj
    have e1 : ((j : Int)).toNat = j := by omega
    have HSET := fun x => Lib.hid (six_set u j hj x)
    rw [e1]
    clear hs hb hk
    by_cases hn : n < 1
    · rw [if_pos (by omega)]
      have d3 : decide (n < 1) = true := by simp [hn]
      clear e1
      go_enter Tryd.func12, Tryd.ntmps12
      go_wp2
      go_quiet ((go_at_call 20; exact Calls.quiet_of_same ((between_any _ _ _ _).mono fun _ _ h => ⟨h.1, h.2.symm⟩)))
      go_wp2
      exact bodyPost_ret (v := .tuple #[.int .i64 0, .agg #[.int .i64 0, .int .i64 0, .int .i64 0, .int .i64 0, .int .i64 0, .int .i64 0], .int .i64 1]) (by simp [results, Tryd.results12, go_sem]) rfl ⟨rfl, below_drewN ((((Below.refl w.heap.size w).alloc (Nat.le_refl _) _).alloc (by simp) _).alloc (by simp; omega) _) _⟩
    · have d3 : decide (n < 1) = false := by simp; omega
      by_cases h0 : u j < 0
      · rw [if_pos (by omega)]
        have hb2 := btw_no (n := u j) (lo := 0) (hi := ss j) (by omega)
        have d4 : decide (u j < 0) = true := by simp [h0]
        clear e1
        go_enter Tryd.func12, Tryd.ntmps12
        go_wp2
        go_quiet ((go_at_call 20; exact Calls.quiet_of_same ((between_any _ _ _ _).mono fun _ _ h => ⟨h.1, h.2.symm⟩)))
        go_wp2
        exact bodyPost_ret (v := .tuple #[.int .i64 0, .agg #[.int .i64 0, .int .i64 0, .int .i64 0, .int .i64 0, .int .i64 0, .int .i64 0], .int .i64 1]) (by simp [results, Tryd.results12, go_sem]) rfl ⟨rfl, below_drewN ((((Below.refl w.heap.size w).alloc (Nat.le_refl _) _).alloc (by simp) _).alloc (by simp; omega) _) _⟩
      · have d4 : decide (u j < 0) = false := by simp; omega
        by_cases h1 : ss j < u j
        · rw [if_pos (by omega)]
          have hb2 := btw_no (n := u j) (lo := 0) (hi := ss j) (by omega)
          have d5 : decide (ss j < u j) = true := by simp [h1]
          clear e1
          go_enter Tryd.func12, Tryd.ntmps12
          go_wp2
          go_quiet ((go_at_call 20; exact Calls.quiet_of_same ((between_any _ _ _ _).mono fun _ _ h => ⟨h.1, h.2.symm⟩)))
          go_wp2
          exact bodyPost_ret (v := .tuple #[.int .i64 0, .agg #[.int .i64 0, .int .i64 0, .int .i64 0, .int .i64 0, .int .i64 0, .int .i64 0], .int .i64 1]) (by simp [results, Tryd.results12, go_sem]) rfl ⟨rfl, below_drewN ((((Below.refl w.heap.size w).alloc (Nat.le_refl _) _).alloc (by simp) _).alloc (by simp; omega) _) _⟩
        · rw [if_neg (by omega)]
          have hb2 := btw_yes (n := u j) (lo := 0) (hi := ss j) (by omega) (by omega)
          have d5 : decide (ss j < u j) = false := by simp; omega
          have ew : IntKind.i64.wrap (ss j - u j) = ss j - u j := IntWalk.i64_in _ (by omega)
          by_cases h2 : ss j - u j < n
          · rw [if_pos h2]
            have d6 : decide (ss j - u j < n) = true := by simp [h2]
            clear e1
            go_enter Tryd.func12, Tryd.ntmps12
            go_wp2
            go_quiet ((go_at_call 20; exact Calls.quiet_of_same ((between_any _ _ _ _).mono fun _ _ h => ⟨h.1, h.2.symm⟩)))
            go_wp2
            go_quiet ((go_at_call 20; exact Calls.quiet_of_same ((between_any _ _ _ _).mono fun _ _ h => ⟨h.1, h.2.symm⟩)))
            go_wp2
            exact bodyPost_ret (v := .tuple #[.int .i64 0, .agg #[.int .i64 0, .int .i64 0, .int .i64 0, .int .i64 0, .int .i64 0, .int .i64 0], .int .i64 3]) (by simp [results, Tryd.results12, go_sem]) rfl ⟨rfl, below_drewN ((((Below.refl w.heap.size w).alloc (Nat.le_refl _) _).alloc (by simp) _).alloc (by simp; omega) _) _⟩
          · rw [if_neg h2]
            have d6 : decide (ss j - u j < n) = false := by simp; omega
            have ew2 : IntKind.i64.wrap (bs j + u j) = bs j + u j := IntWalk.i64_in _ (by omega)
            clear e1
            go_enter Tryd.func12, Tryd.ntmps12
            go_wp2
            go_quiet ((go_at_call 20; exact Calls.quiet_of_same ((between_any _ _ _ _).mono fun _ _ h => ⟨h.1, h.2.symm⟩)))
            go_wp2
            go_quiet (fail)
            go_wp2
            go_quiet (fail)
            go_wp2
            rw [(HSET (u j + n)).out]
            obtain ⟨v, hv⟩ : ∃ v : Nat → Int, v = fun i => if i = j then u j + n else u i := ⟨_, rfl⟩
            rw [← hv, six_lit v]
            have HV := Lib.hid hv
            clear hv HSET
            go_region
            go_wp2
            exact bodyPost_ret (v := .tuple #[.int .i64 (bs j + u j), .agg #[.int .i64 (v 0), .int .i64 (v 1), .int .i64 (v 2), .int .i64 (v 3), .int .i64 (v 4), .int .i64 (v 5)], .int .i64 0]) (by simp [results, Tryd.results12, go_sem]) rfl ⟨by rw [← six_lit v, HV.out], (below_drewN ((((Below.refl w.heap.size w).alloc (Nat.le_refl _) _).alloc (by simp) _).alloc (by simp; omega) _) _).drew⟩
  · rw [if_pos (by omega)]
    have hkb := btw_no (n := k) (lo := 0) (hi := 5) (by omega)
    rcases (show k < 0 ∨ (¬ k < 0 ∧ 5 < k) from by omega) with h | ⟨h, h'⟩
    · have d1 : decide (k < 0) = true := by simp [h]
      clear hk
      go_enter Tryd.func12, Tryd.ntmps12
      go_wp2
      go_quiet ((go_at_call 20; exact Calls.quiet_of_same ((between_any _ _ _ _).mono fun _ _ h => ⟨h.1, h.2.symm⟩)))
      go_wp2
      exact bodyPost_ret (v := .tuple #[.int .i64 0, .agg #[.int .i64 0, .int .i64 0, .int .i64 0, .int .i64 0, .int .i64 0, .int .i64 0], .int .i64 1]) (by simp [results, Tryd.results12, go_sem]) rfl ⟨rfl, below_drewN ((((Below.refl w.heap.size w).alloc (Nat.le_refl _) _).alloc (by simp) _).alloc (by simp; omega) _) _⟩
    · have d1 : decide (k < 0) = false := by simp; omega
      have d2 : decide (5 < k) = true := by simp [h']
      clear hk
      go_enter Tryd.func12, Tryd.ntmps12
      go_wp2
      go_quiet ((go_at_call 20; exact Calls.quiet_of_same ((between_any _ _ _ _).mono fun _ _ h => ⟨h.1, h.2.symm⟩)))
      go_wp2
      exact bodyPost_ret (v := .tuple #[.int .i64 0, .agg #[.int .i64 0, .int .i64 0, .int .i64 0, .int .i64 0, .int .i64 0, .int .i64 0], .int .i64 1]) (by simp [results, Tryd.results12, go_sem]) rfl ⟨rfl, below_drewN ((((Below.refl w.heap.size w).alloc (Nat.le_refl _) _).alloc (by simp) _).alloc (by simp; omega) _) _⟩

set_option maxHeartbeats 2000000 in
theorem refTake_any (bs ss u : Nat → Int) (a b c k n : Int) (w : World) (hs : ∀ j, j < 6 → 0 ≤ ss j ∧ ss j ≤ 1000000) (hb : ∀ j, j < 6 → 0 ≤ bs j ∧ bs j ≤ 1000000) :
    Calls Tryd.prog 14 #[.agg (PC (planL bs ss a b c)), sixV u, .int .i64 k, .int .i64 n] w fun e w' => e = .returned (takeV bs ss u k n) ∧ Below w.heap.size w w' := by
  unfold takeV sixV
  have hds : ∀ (n : Nat) (w : World) (a : Addr) (v : Value), (w.drewN n).setCell a v = (w.setCell a v).drewN n := fun _ _ _ _ => rfl
  by_cases hk : 0 ≤ k ∧ k ≤ 5
  · obtain ⟨j, rfl⟩ := Int.eq_ofNat_of_zero_le hk.1
    have hkb := btw_yes hk.1 hk.2
    have hj : j < 6 := by omega
    have hj' : (j : Int) < 6 := by omega
    have hj0 : (0 : Int) ≤ (j : Int) := by omega
    have hj1 : ¬ (j : Int) < 0 := by omega
    have hj2 : ¬ (5 : Int) < (j : Int) := by omega
    have d1 : decide ((j : Int) < 0) = false := by simp
    have d2 : decide ((5 : Int) < (j : Int)) = false := by simp; omega
    have c1 := six_get u j hj
    have c2 := plan_base bs ss a b c j hj
    have c3 := plan_size bs ss a b c j hj
    have s1 := hs j hj
    have b1 := hb j hj
    have e1 : ((j : Int)).toNat = j := by omega
    have HSET := fun x => Lib.hid (six_set u j hj x)
    rw [e1]
    clear hs hb hk
    by_cases hn : n < 1
    · rw [if_pos (by omega)]
      have d3 : decide (n < 1) = true := by simp [hn]
      clear e1
      go_enter Tryd.func14, Tryd.ntmps14
      go_wp2
      go_quiet (fail)
      go_wp2
      exact bodyPost_ret (v := .tuple #[.int .i64 0, .agg #[.int .i64 0, .int .i64 0, .int .i64 0, .int .i64 0, .int .i64 0, .int .i64 0], .int .i64 1]) (by simp [results, Tryd.results14, go_sem]) rfl ⟨rfl, below_drewN ((((Below.refl w.heap.size w).alloc (Nat.le_refl _) _).alloc (by simp) _).alloc (by simp; omega) _) _⟩
    · have d3 : decide (n < 1) = false := by simp; omega
      by_cases h0 : u j < 0
      · rw [if_pos (by omega)]
        have hb2 := btw_no (n := u j) (lo := 0) (hi := ss j) (by omega)
        have d4 : decide (u j < 0) = true := by simp [h0]
        clear e1
        go_enter Tryd.func14, Tryd.ntmps14
        go_wp2
        go_quiet (fail)
        go_wp2
        exact bodyPost_ret (v := .tuple #[.int .i64 0, .agg #[.int .i64 0, .int .i64 0, .int .i64 0, .int .i64 0, .int .i64 0, .int .i64 0], .int .i64 1]) (by simp [results, Tryd.results14, go_sem]) rfl ⟨rfl, below_drewN ((((Below.refl w.heap.size w).alloc (Nat.le_refl _) _).alloc (by simp) _).alloc (by simp; omega) _) _⟩
      · have d4 : decide (u j < 0) = false := by simp; omega
        by_cases h1 : ss j < u j
        · rw [if_pos (by omega)]
          have hb2 := btw_no (n := u j) (lo := 0) (hi := ss j) (by omega)
          have d5 : decide (ss j < u j) = true := by simp [h1]
          clear e1
          go_enter Tryd.func14, Tryd.ntmps14
          go_wp2
          go_quiet (fail)
          go_wp2
          exact bodyPost_ret (v := .tuple #[.int .i64 0, .agg #[.int .i64 0, .int .i64 0, .int .i64 0, .int .i64 0, .int .i64 0, .int .i64 0], .int .i64 1]) (by simp [results, Tryd.results14, go_sem]) rfl ⟨rfl, below_drewN ((((Below.refl w.heap.size w).alloc (Nat.le_refl _) _).alloc (by simp) _).alloc (by simp; omega) _) _⟩
        · rw [if_neg (by omega)]
          have hb2 := btw_yes (n := u j) (lo := 0) (hi := ss j) (by omega) (by omega)
          have d5 : decide (ss j < u j) = false := by simp; omega
          have ew : IntKind.i64.wrap (ss j - u j) = ss j - u j := IntWalk.i64_in _ (by omega)
          by_cases h2 : ss j - u j < n
          · rw [if_pos h2]
            have d6 : decide (ss j - u j < n) = true := by simp [h2]
            clear e1
            go_enter Tryd.func14, Tryd.ntmps14
            go_wp2
            go_quiet (fail)
            go_wp2
            go_quiet (fail)
            go_wp2
            exact bodyPost_ret (v := .tuple #[.int .i64 0, .agg #[.int .i64 0, .int .i64 0, .int .i64 0, .int .i64 0, .int .i64 0, .int .i64 0], .int .i64 3]) (by simp [results, Tryd.results14, go_sem]) rfl ⟨rfl, below_drewN ((((Below.refl w.heap.size w).alloc (Nat.le_refl _) _).alloc (by simp) _).alloc (by simp; omega) _) _⟩
          · rw [if_neg h2]
            have d6 : decide (ss j - u j < n) = false := by simp; omega
            have ew2 : IntKind.i64.wrap (bs j + u j) = bs j + u j := IntWalk.i64_in _ (by omega)
            clear e1
            go_enter Tryd.func14, Tryd.ntmps14
            go_wp2
            go_quiet (fail)
            go_wp2
            go_quiet (fail)
            go_wp2
            go_quiet (fail)
            go_wp2
            rw [(HSET (u j + n)).out]
            obtain ⟨v, hv⟩ : ∃ v : Nat → Int, v = fun i => if i = j then u j + n else u i := ⟨_, rfl⟩
            rw [← hv, six_lit v]
            have HV := Lib.hid hv
            clear hv HSET
            go_region
            go_wp2
            exact bodyPost_ret (v := .tuple #[.int .i64 (bs j + u j), .agg #[.int .i64 (v 0), .int .i64 (v 1), .int .i64 (v 2), .int .i64 (v 3), .int .i64 (v 4), .int .i64 (v 5)], .int .i64 0]) (by simp [results, Tryd.results14, go_sem]) rfl ⟨by rw [← six_lit v, HV.out], (below_drewN ((((Below.refl w.heap.size w).alloc (Nat.le_refl _) _).alloc (by simp) _).alloc (by simp; omega) _) _).drew⟩
  · rw [if_pos (by omega)]
    have hkb := btw_no (n := k) (lo := 0) (hi := 5) (by omega)
    rcases (show k < 0 ∨ (¬ k < 0 ∧ 5 < k) from by omega) with h | ⟨h, h'⟩
    · have d1 : decide (k < 0) = true := by simp [h]
      clear hk
      go_enter Tryd.func14, Tryd.ntmps14
      go_wp2
      go_quiet (fail)
      go_wp2
      exact bodyPost_ret (v := .tuple #[.int .i64 0, .agg #[.int .i64 0, .int .i64 0, .int .i64 0, .int .i64 0, .int .i64 0, .int .i64 0], .int .i64 1]) (by simp [results, Tryd.results14, go_sem]) rfl ⟨rfl, below_drewN ((((Below.refl w.heap.size w).alloc (Nat.le_refl _) _).alloc (by simp) _).alloc (by simp; omega) _) _⟩
    · have d1 : decide (k < 0) = false := by simp; omega
      have d2 : decide (5 < k) = true := by simp [h']
      clear hk
      go_enter Tryd.func14, Tryd.ntmps14
      go_wp2
      go_quiet (fail)
      go_wp2
      exact bodyPost_ret (v := .tuple #[.int .i64 0, .agg #[.int .i64 0, .int .i64 0, .int .i64 0, .int .i64 0, .int .i64 0, .int .i64 0], .int .i64 1]) (by simp [results, Tryd.results14, go_sem]) rfl ⟨rfl, below_drewN ((((Below.refl w.heap.size w).alloc (Nat.le_refl _) _).alloc (by simp) _).alloc (by simp; omega) _) _⟩
end Go.Proofs.YtkoljljflpkgnaaDoor
