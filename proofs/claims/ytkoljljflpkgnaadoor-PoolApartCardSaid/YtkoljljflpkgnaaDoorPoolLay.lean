/- The walk of pool.Lay where the head may be: printed by wip/bin/gen_pool.py. -/
import Derived.Test.YtkoljljflpkgnaaDoorPool
import Derived.Deep.LoopGhost
namespace Go.Proofs.YtkoljljflpkgnaaDoor
open Go.RowKit

/-- A plan's cells. -/
def PC (l : List Int) : Array Value := (ints .i64 l).toArray
theorem PC_get (l : List Int) (i : Nat) (x : Int) (h : l[i]? = some x) : (PC l)[i]? = some (.int .i64 x) := by simp [PC, ints, h]
theorem PC_size (l : List Int) : (PC l).size = l.length := by simp [PC]
theorem PC_set (l : List Int) (i : Nat) (x : Int) : (PC l).setIfInBounds i (.int .i64 x) = PC (l.set i x) := by
  unfold PC
  rw [List.setIfInBounds_toArray]
  simp [ints, List.map_set]
theorem planL_get1 (bs ss : Nat → Int) (a b c : Int) (k : Nat) (hk : k < 6) : (planL bs ss a b c)[k]? = some (bs k) := by
  rcases (show k = 0 ∨ k = 1 ∨ k = 2 ∨ k = 3 ∨ k = 4 ∨ k = 5 from by omega) with rfl | rfl | rfl | rfl | rfl | rfl <;> rfl
theorem planL_get2 (bs ss : Nat → Int) (a b c : Int) (k : Nat) (hk : k < 6) : (planL bs ss a b c)[6 + k]? = some (ss k) := by
  rcases (show k = 0 ∨ k = 1 ∨ k = 2 ∨ k = 3 ∨ k = 4 ∨ k = 5 from by omega) with rfl | rfl | rfl | rfl | rfl | rfl <;> rfl
theorem planL_step (f g : Nat → Int) (x b c : Int) (k : Nat) (hk : k < 6) (a : Int) :
    (((planL (cutF f k) (cutF g k) a b c).set k (f k)).set (6 + k) (g k)).set 12 x = planL (cutF f (k + 1)) (cutF g (k + 1)) x b c := by
  rcases (show k = 0 ∨ k = 1 ∨ k = 2 ∨ k = 3 ∨ k = 4 ∨ k = 5 from by omega) with rfl | rfl | rfl | rfl | rfl | rfl <;> simp [planL, cutF]
/-- The cells behind k rounds. -/
def planK (c : Cf) (k : Nat) : Array Value := PC (planL (cutF c.at_ k) (cutF c.S k) (c.at_ k) 1 0)
theorem planK_0 (c : Cf) : planK c 0 = #[.int .i64 0, .int .i64 0, .int .i64 0, .int .i64 0, .int .i64 0, .int .i64 0, .int .i64 0, .int .i64 0, .int .i64 0, .int .i64 0, .int .i64 0, .int .i64 0, .int .i64 3, .int .i64 1, .int .i64 0] := by simp [planK, planL_0, PC, ints, Cf.at_]
theorem planK_6 (c : Cf) : planK c 6 = #[.int .i64 (c.at_ 0), .int .i64 (c.at_ 1), .int .i64 (c.at_ 2), .int .i64 (c.at_ 3), .int .i64 (c.at_ 4), .int .i64 (c.at_ 5), .int .i64 (c.S 0), .int .i64 (c.S 1), .int .i64 (c.S 2), .int .i64 (c.S 3), .int .i64 (c.S 4), .int .i64 (c.S 5), .int .i64 (c.at_ 6), .int .i64 1, .int .i64 0] := by rw [planK, planL_6]; rfl
theorem planK_cells (c : Cf) (k : Nat) : (planK c k)[12]? = some (.int .i64 (c.at_ k)) := rfl
theorem planK_at (c : Cf) (k : Nat) (hk : k < 6) : ∃ u, (planK c k)[k]? = some u := ⟨_, PC_get _ _ _ (planL_get1 _ _ _ _ _ k hk)⟩
theorem planK_at2 (c : Cf) (k : Nat) (hk : k < 6) : ∃ u, (planK c k)[6 + k]? = some u := ⟨_, PC_get _ _ _ (planL_get2 _ _ _ _ _ k hk)⟩
theorem planK_step (c : Cf) (k : Nat) (hk : k < 6) : (((planK c k).setIfInBounds k (.int .i64 (c.at_ k))).setIfInBounds (6 + k) (.int .i64 (c.S k))).setIfInBounds 12 (.int .i64 (c.at_ k + c.S k)) = planK c (k + 1) := by
  unfold planK
  rw [PC_set, PC_set, PC_set, planL_step c.at_ c.S _ _ _ k hk]
  rfl
theorem planK_mid (c : Cf) (k : Nat) (hk : k < 6) (a b : Int) : (((planK c k).setIfInBounds k (.int .i64 a)).setIfInBounds (6 + k) (.int .i64 b))[12]? = some (.int .i64 (c.at_ k)) := by
  unfold planK
  rw [PC_set, PC_set]
  refine PC_get _ _ _ ?_
  rw [List.getElem?_set_ne (by omega), List.getElem?_set_ne (by omega)]
  rfl
theorem Cf.not_ok (c : Cf) (k : Nat) (h4 : k < 4) (h : btw (c.s k) 0 512 = false) : ¬ c.Ok := fun ho => by
  have := ho.slabs k h4 h4
  rw [btw_yes this.1 this.2] at h
  cases h
theorem Cf.upto_step (c : Cf) (k : Nat) (hu : c.Upto k) (h : k < 4 → btw (c.s k) 0 512 = true) : c.Upto (k + 1) := by
  intro j hj hj4
  by_cases e : j < k
  · exact hu j e hj4
  · obtain rfl : j = k := by omega
    exact btw_iff.1 (h hj4)

set_option maxRecDepth 100000 in
set_option maxHeartbeats 4000000 in
theorem lay_yes (c : Cf) (w : World) (h : c.headB = true) (hT : SizesAt w) :
    Calls Tryd.prog 9 #[c.val] w fun e w' => ((c.Ok ∧ e = .returned (.tuple #[c.plan, .int .i64 0])) ∨ (¬ c.Ok ∧ e = .returned (.tuple #[.agg zeros15.toArray, .int .i64 1]))) ∧ Below w.heap.size w w' := by
  have hH := c.headB_iff.1 h
  simp only [Cf.headB, Bool.and_eq_true] at h
  obtain ⟨⟨⟨g1, g2⟩, g3⟩, g4⟩ := h
  have hB : ∀ a, Below w.heap.size w (((w.alloc (.cells #[.int .i64 c.docs, .int .i64 c.terms, .int .i64 (c.s 0), .int .i64 (c.s 1), .int .i64 (c.s 2), .int .i64 (c.s 3), .int .i64 c.book, .int .i64 c.room, .float .f64 c.K, .float .f64 c.B] 25)).alloc (.cells #[.int .i64 0, .int .i64 0, .int .i64 0, .int .i64 0, .int .i64 0, .int .i64 0, .int .i64 0, .int .i64 0, .int .i64 0, .int .i64 0, .int .i64 0, .int .i64 0, .int .i64 0, .int .i64 0, .int .i64 0] 28)).alloc (.cells a 28)) := fun a => (((Below.refl w.heap.size w).alloc (Nat.le_refl _) _).alloc (by simp) _).alloc (by simp; omega) _
  have hds : ∀ (n : Nat) (w : World) (a : Addr) (v : Value), (w.drewN n).setCell a v = (w.setCell a v).drewN n := fun _ _ _ _ => rfl
  unfold Cf.val
  go_enter Tryd.func9, Tryd.ntmps9
  go_wp2_with (go_at_call 20; refine (between_any _ _ _ _).mono ?_; rintro e w' ⟨rfl, rfl⟩)
  go_loopw [31] (fun i wr => ∃ k q : Nat, k ≤ 6 ∧ i = .int .i64 k ∧ Hid (c.Upto k) ∧ wr = (((w.alloc (.cells #[.int .i64 c.docs, .int .i64 c.terms, .int .i64 (c.s 0), .int .i64 (c.s 1), .int .i64 (c.s 2), .int .i64 (c.s 3), .int .i64 c.book, .int .i64 c.room, .float .f64 c.K, .float .f64 c.B] 25)).alloc (.cells #[.int .i64 0, .int .i64 0, .int .i64 0, .int .i64 0, .int .i64 0, .int .i64 0, .int .i64 0, .int .i64 0, .int .i64 0, .int .i64 0, .int .i64 0, .int .i64 0, .int .i64 0, .int .i64 0, .int .i64 0] 28)).alloc (.cells (planK c k) 28)).drewN q) (fun i _ => 6 - (intOf i).toNat)
  case atStart =>
    refine ⟨0, 0, by omega, rfl, Lib.hid (fun j hj => absurd hj (by omega)), ?_⟩
    rw [planK_0]
    rfl
  case round =>
    obtain ⟨k, q, hk, rfl, hu, hwr⟩ := hrel
    by_cases hlt : k < 6
    · have hlt' : (k : Int) < 6 := by omega
      have hk0 : (0 : Int) ≤ (k : Int) := by omega
      subst hwr
      obtain ⟨u1, e1⟩ := planK_at c k hlt
      obtain ⟨u2, e2⟩ := planK_at2 c k hlt
      have e3 := planK_cells c k
      have HS := Lib.hid (planK_step c k hlt)
      have hbd := c.at_bd hH k hu.out
      by_cases h4 : k < 4
      · have h4' : (k : Int) < 4 := by omega
        have csl : (((w.alloc (.cells #[.int .i64 c.docs, .int .i64 c.terms, .int .i64 (c.s 0), .int .i64 (c.s 1), .int .i64 (c.s 2), .int .i64 (c.s 3), .int .i64 c.book, .int .i64 c.room, .float .f64 c.K, .float .f64 c.B] 25)).alloc (.cells #[.int .i64 0, .int .i64 0, .int .i64 0, .int .i64 0, .int .i64 0, .int .i64 0, .int .i64 0, .int .i64 0, .int .i64 0, .int .i64 0, .int .i64 0, .int .i64 0, .int .i64 0, .int .i64 0, .int .i64 0] 28)).alloc (.cells (planK c k) 28)).cell? ⟨w.heap.size, 2 + k, none⟩ = some (.int .i64 (c.s k)) := by
          rcases (show k = 0 ∨ k = 1 ∨ k = 2 ∨ k = 3 from by omega) with rfl | rfl | rfl | rfl <;> simp [go_sem]
        cases hbt : btw (c.s k) 0 512
        · go_wp2_with (go_at_call 20; refine (between_any _ _ _ _).mono ?_; rintro e w' ⟨rfl, rfl⟩)
          exact bodyPost_ret (v := .tuple #[.agg #[.int .i64 0, .int .i64 0, .int .i64 0, .int .i64 0, .int .i64 0, .int .i64 0, .int .i64 0, .int .i64 0, .int .i64 0, .int .i64 0, .int .i64 0, .int .i64 0, .int .i64 0, .int .i64 0, .int .i64 0], .int .i64 1]) (by simp [results, Tryd.results9, go_sem]) rfl ⟨.inr ⟨c.not_ok k h4 hbt, rfl⟩, below_drewN (hB _) _⟩
        · have cg := (hT.below (hB (planK c k))).cell h4
          have hup := c.upto_step k hu.out (fun _ => hbt)
          have hS := c.S_bd hH k hup
          have eS : c.s k * sz k = c.S k := by unfold Cf.S; rw [if_pos h4]
          have hup := Lib.hid hup
          have e4 := planK_mid c k hlt (c.at_ k) (c.S k)
          have ew : IntKind.i64.wrap (c.S k) = c.S k := IntWalk.i64_in _ (by omega)
          go_wp2_with (go_at_call 20; refine (between_any _ _ _ _).mono ?_; rintro e w' ⟨rfl, rfl⟩)
          go_quiet (fail)
          go_wp2_with (go_at_call 20; refine (between_any _ _ _ _).mono ?_; rintro e w' ⟨rfl, rfl⟩)
          rw [HS.out]
          go_roundw
          case rel => exact ⟨k + 1, _, by omega, by go_num, hup, rfl⟩
          case measure => simp [intOf]; omega
      · have hup := c.upto_step k hu.out (fun h => absurd h h4)
        have hS := c.S_bd hH k hup
        have hup := Lib.hid hup
        have h4' : ¬ (k : Int) < 4 := by omega
        rcases (show k = 4 ∨ k = 5 from by omega) with rfl | rfl
        · have eS : c.S 4 = c.book := by simp [Cf.S]
          have e4 := planK_mid c 4 (by omega) (c.at_ 4) c.book
          rw [eS] at HS hS
          go_wp2
          rw [HS.out]
          go_roundw
          case rel => exact ⟨5, _, by omega, by go_num, hup, rfl⟩
          case measure => simp [intOf]
        · have eS : c.S 5 = c.room := by simp [Cf.S]
          have e4 := planK_mid c 5 (by omega) (c.at_ 5) c.room
          rw [eS] at HS hS
          go_wp2
          rw [HS.out]
          go_roundw
          case rel => exact ⟨6, _, by omega, by go_num, hup, rfl⟩
          case measure => simp [intOf]
    · obtain rfl : k = 6 := by omega
      have hup := hu.out
      have h6 := c.at_bd hH 6 hup
      have hd := hH.d0
      have hd1 := hH.d1
      have ht0 := hH.t0
      have ht1 := hH.t1
      rw [planK_6] at hwr
      subst hwr
      by_cases hall : 65536 < c.at_ 6
      · go_wp2
        exact bodyPost_ret (v := .tuple #[.agg #[.int .i64 0, .int .i64 0, .int .i64 0, .int .i64 0, .int .i64 0, .int .i64 0, .int .i64 0, .int .i64 0, .int .i64 0, .int .i64 0, .int .i64 0, .int .i64 0, .int .i64 0, .int .i64 0, .int .i64 0], .int .i64 1]) (by simp [results, Tryd.results9, go_sem]) rfl ⟨.inr ⟨fun ho => by have := ho.all; omega, rfl⟩, below_drewN (hB _) _⟩
      · have hok : c.Ok := ⟨hH, fun j hj h4 => hup j (by omega) h4, by omega⟩
        go_wp2
        go_loopg [87] 599 (fun g s wr => ∃ sl : Int, g = (600 - sl).toNat ∧ (sl = 1 ∨ sl = 2 ∨ sl = 4 ∨ sl = 8 ∨ sl = 16 ∨ sl = 32 ∨ sl = 64 ∨ sl = 128 ∨ sl = 256 ∨ sl = 512) ∧ (sl = 1 ∨ sl ≤ 2 * c.terms) ∧ wr = (((w.alloc (.cells #[.int .i64 c.docs, .int .i64 c.terms, .int .i64 (c.s 0), .int .i64 (c.s 1), .int .i64 (c.s 2), .int .i64 (c.s 3), .int .i64 c.book, .int .i64 c.room, .float .f64 c.K, .float .f64 c.B] 25)).alloc (.cells #[.int .i64 0, .int .i64 0, .int .i64 0, .int .i64 0, .int .i64 0, .int .i64 0, .int .i64 0, .int .i64 0, .int .i64 0, .int .i64 0, .int .i64 0, .int .i64 0, .int .i64 0, .int .i64 0, .int .i64 0] 28)).alloc (.cells #[.int .i64 (c.at_ 0), .int .i64 (c.at_ 1), .int .i64 (c.at_ 2), .int .i64 (c.at_ 3), .int .i64 (c.at_ 4), .int .i64 (c.at_ 5), .int .i64 (c.S 0), .int .i64 (c.S 1), .int .i64 (c.S 2), .int .i64 (c.S 3), .int .i64 (c.S 4), .int .i64 (c.S 5), .int .i64 (c.at_ 6), .int .i64 sl, .int .i64 0] 28)).drewN q)
        case atStart => exact ⟨1, by omega, .inl rfl, .inl rfl, rfl⟩
        case round =>
          obtain ⟨sl, rfl, h1, h2, rfl⟩ := hrel
          have l0 : 1 ≤ sl := by omega
          have l1 : sl ≤ 512 := by omega
          by_cases hle : sl ≤ c.terms
          · have hs1 : sl * 2 = 2 ∨ sl * 2 = 4 ∨ sl * 2 = 8 ∨ sl * 2 = 16 ∨ sl * 2 = 32 ∨ sl * 2 = 64 ∨ sl * 2 = 128 ∨ sl * 2 = 256 ∨ sl * 2 = 512 := by omega
            have H1 := Lib.hid h1
            have H2 := Lib.hid hs1
            clear h1 hs1 h2
            go_wp2
            go_roundg (600 - sl * 2).toNat
            case measure => omega
            case rel => exact ⟨sl * 2, rfl, by have := H2.out; omega, by omega, rfl⟩
          · have es : sl = slotsOf c.terms := by unfold slotsOf; split <;> (try split) <;> omega
            have ES := Lib.hid es
            clear es h1 h2
            go_wp2
            exact bodyPost_ret (v := .tuple #[.agg #[.int .i64 (c.at_ 0), .int .i64 (c.at_ 1), .int .i64 (c.at_ 2), .int .i64 (c.at_ 3), .int .i64 (c.at_ 4), .int .i64 (c.at_ 5), .int .i64 (c.S 0), .int .i64 (c.S 1), .int .i64 (c.S 2), .int .i64 (c.S 3), .int .i64 (c.S 4), .int .i64 (c.S 5), .int .i64 (c.at_ 6), .int .i64 sl, .int .i64 (1 + 4 * c.docs + sl)], .int .i64 0]) (by simp [results, Tryd.results9, go_sem]) rfl ⟨by rw [ES.out]; rfl, below_drewN ((((Below.refl w.heap.size w).alloc (Nat.le_refl _) _).alloc (by simp) _).alloc (by simp; omega) _) _⟩
end Go.Proofs.YtkoljljflpkgnaaDoor
