/- The walk of ref02.Sizes: printed by wip/bin/gen_sizes.py. -/
import Derived.Test.YtkoljljflpkgnaaDoorPoolRefA
import Derived.Test.YtkoljljflpkgnaaDoorPoolLay
namespace Go.Proofs.YtkoljljflpkgnaaDoor
open Go.RowKit

/-- A row of pools that is not asked for. -/
def SomeNo (w : World) (e : Ending) (w' : World) : Prop := ∃ a b c d f g : Int, e = .returned (.tuple #[.agg #[.int .i64 a, .int .i64 b, .int .i64 c, .int .i64 d, .int .i64 f, .int .i64 g], .bool false]) ∧ Below w.heap.size w w'
set_option maxRecDepth 100000 in
set_option maxHeartbeats 4000000 in
theorem sizes_head_no (c : Cf) (w : World) (h : c.headB = false) : Calls Tryd.prog 21 #[c.val] w (SomeNo w) := by
  obtain ⟨docs, terms, s, book, room, K, B⟩ := c
  have h' : docs < 1 ∨ (¬ docs < 1 ∧ 64 < docs) ∨ (¬ docs < 1 ∧ ¬ 64 < docs ∧ terms < 64) ∨ (¬ docs < 1 ∧ ¬ 64 < docs ∧ ¬ terms < 64 ∧ 256 < terms) ∨ (¬ docs < 1 ∧ ¬ 64 < docs ∧ ¬ terms < 64 ∧ ¬ 256 < terms ∧ book < 0) ∨ (¬ docs < 1 ∧ ¬ 64 < docs ∧ ¬ terms < 64 ∧ ¬ 256 < terms ∧ ¬ book < 0 ∧ 65536 < book) ∨ (¬ docs < 1 ∧ ¬ 64 < docs ∧ ¬ terms < 64 ∧ ¬ 256 < terms ∧ ¬ book < 0 ∧ ¬ 65536 < book ∧ room < 0) ∨ (¬ docs < 1 ∧ ¬ 64 < docs ∧ ¬ terms < 64 ∧ ¬ 256 < terms ∧ ¬ book < 0 ∧ ¬ 65536 < book ∧ ¬ room < 0 ∧ 65536 < room) := by
    have hn : ¬ (Cf.headB ⟨docs, terms, s, book, room, K, B⟩ = true) := by rw [h]; simp
    rw [Cf.headB_iff] at hn
    by_cases a1 : docs < 1
    · exact .inl a1
    by_cases a2 : 64 < docs
    · exact .inr (.inl ⟨a1, a2⟩)
    by_cases a3 : terms < 64
    · exact .inr (.inr (.inl ⟨a1, a2, a3⟩))
    by_cases a4 : 256 < terms
    · exact .inr (.inr (.inr (.inl ⟨a1, a2, a3, a4⟩)))
    by_cases a5 : book < 0
    · exact .inr (.inr (.inr (.inr (.inl ⟨a1, a2, a3, a4, a5⟩))))
    by_cases a6 : 65536 < book
    · exact .inr (.inr (.inr (.inr (.inr (.inl ⟨a1, a2, a3, a4, a5, a6⟩)))))
    by_cases a7 : room < 0
    · exact .inr (.inr (.inr (.inr (.inr (.inr (.inl ⟨a1, a2, a3, a4, a5, a6, a7⟩))))))
    by_cases a8 : 65536 < room
    · exact .inr (.inr (.inr (.inr (.inr (.inr (.inr ⟨a1, a2, a3, a4, a5, a6, a7, a8⟩))))))
    exact absurd ⟨by simp only; omega, by simp only; omega, by simp only; omega, by simp only; omega, by simp only; omega, by simp only; omega, by simp only; omega, by simp only; omega⟩ hn
  clear h
  unfold Cf.val
  simp only
  rcases h' with h1 | ⟨h1, h2⟩ | ⟨h1, h2, h3⟩ | ⟨h1, h2, h3, h4⟩ | ⟨h1, h2, h3, h4, h5⟩ | ⟨h1, h2, h3, h4, h5, h6⟩ | ⟨h1, h2, h3, h4, h5, h6, h7⟩ | ⟨h1, h2, h3, h4, h5, h6, h7, h8⟩
  all_goals
    go_enter Tryd.func21, Tryd.ntmps21
    go_wp2
    exact bodyPost_ret (v := .tuple #[.agg #[.int .i64 0, .int .i64 0, .int .i64 0, .int .i64 0, .int .i64 0, .int .i64 0], .bool false]) (by simp [results, Tryd.results21, go_sem]) rfl ⟨_, _, _, _, _, _, rfl, (((Below.refl w.heap.size w).alloc (Nat.le_refl _) _).alloc (by simp) _).alloc (by simp; omega) _⟩

/-- The pools' cells behind k rounds. -/
def szK (c : Cf) (k : Nat) : Array Value := PC [cutF c.S k 0, cutF c.S k 1, cutF c.S k 2, cutF c.S k 3, cutF c.S k 4, cutF c.S k 5]
theorem szK_0 (c : Cf) : szK c 0 = #[.int .i64 0, .int .i64 0, .int .i64 0, .int .i64 0, .int .i64 0, .int .i64 0] := by simp [szK, PC, ints, cutF]
theorem szK_6 (c : Cf) : szK c 6 = #[.int .i64 (c.S 0), .int .i64 (c.S 1), .int .i64 (c.S 2), .int .i64 (c.S 3), .int .i64 (c.S 4), .int .i64 (c.S 5)] := by simp [szK, PC, ints, cutF]
theorem szK_at (c : Cf) (k : Nat) (hk : k < 6) : ∃ u, (szK c k)[k]? = some u := by
  rcases (show k = 0 ∨ k = 1 ∨ k = 2 ∨ k = 3 ∨ k = 4 ∨ k = 5 from by omega) with rfl | rfl | rfl | rfl | rfl | rfl <;> exact ⟨_, rfl⟩
theorem szK_step (c : Cf) (k : Nat) (hk : k < 6) : (szK c k).setIfInBounds k (.int .i64 (c.S k)) = szK c (k + 1) := by
  unfold szK
  rw [PC_set]
  rcases (show k = 0 ∨ k = 1 ∨ k = 2 ∨ k = 3 ∨ k = 4 ∨ k = 5 from by omega) with rfl | rfl | rfl | rfl | rfl | rfl <;> simp [cutF]
theorem szK_new (c : Cf) (k : Nat) (hk : k < 6) : (szK c (k + 1))[k]? = some (.int .i64 (c.S k)) := by
  rcases (show k = 0 ∨ k = 1 ∨ k = 2 ∨ k = 3 ∨ k = 4 ∨ k = 5 from by omega) with rfl | rfl | rfl | rfl | rfl | rfl <;> rfl
theorem szK_lit (c : Cf) (k : Nat) : ∃ a b d e f g : Int, szK c k = #[.int .i64 a, .int .i64 b, .int .i64 d, .int .i64 e, .int .i64 f, .int .i64 g] := ⟨_, _, _, _, _, _, rfl⟩
def SizesPost (c : Cf) (w : World) (e : Ending) (w' : World) : Prop := ((c.Ok ∧ e = .returned (.tuple #[.agg #[.int .i64 (c.S 0), .int .i64 (c.S 1), .int .i64 (c.S 2), .int .i64 (c.S 3), .int .i64 (c.S 4), .int .i64 (c.S 5)], .bool true])) ∨ (¬ c.Ok ∧ ∃ a b c d f g : Int, e = .returned (.tuple #[.agg #[.int .i64 a, .int .i64 b, .int .i64 c, .int .i64 d, .int .i64 f, .int .i64 g], .bool false]))) ∧ Below w.heap.size w w'
theorem szI_of (k : Nat) (h : k < 4) : szI k = sz k := by
  unfold szI
  rw [if_pos (by omega)]
  rfl
set_option maxRecDepth 100000 in
set_option maxHeartbeats 4000000 in
theorem sizes_yes (c : Cf) (w : World) (h : c.headB = true) : Calls Tryd.prog 21 #[c.val] w (SizesPost c w) := by
  have hH := c.headB_iff.1 h
  obtain ⟨d0, d1, t0, t1, b0, b1, r0, r1⟩ := hH
  have HH : Hid c.Head := Lib.hid (c.headB_iff.1 h)
  clear h
  have hB : ∀ a, Below w.heap.size w (((w.alloc (.cells #[.int .i64 c.docs, .int .i64 c.terms, .int .i64 (c.s 0), .int .i64 (c.s 1), .int .i64 (c.s 2), .int .i64 (c.s 3), .int .i64 c.book, .int .i64 c.room, .float .f64 c.K, .float .f64 c.B] 25)).alloc (.cells #[.int .i64 0, .int .i64 0, .int .i64 0, .int .i64 0, .int .i64 0, .int .i64 0] 26)).alloc (.cells a 26)) := fun a => (((Below.refl w.heap.size w).alloc (Nat.le_refl _) _).alloc (by simp) _).alloc (by simp; omega) _
  have hds : ∀ (n : Nat) (w : World) (a : Addr) (v : Value), (w.drewN n).setCell a v = (w.setCell a v).drewN n := fun _ _ _ _ => rfl
  have hds1 : ∀ (n : Nat) (w : World), (w.drewN n).drew = w.drewN (n + 1) := fun _ _ => rfl
  unfold Cf.val
  go_enter Tryd.func21, Tryd.ntmps21
  go_wp2
  go_loopw [5, 6] (fun a i wr => ∃ k q : Nat, k ≤ 6 ∧ i = .int .i64 k ∧ a = .int .i64 (c.at_ k) ∧ Hid (c.Upto k) ∧ wr = (((w.alloc (.cells #[.int .i64 c.docs, .int .i64 c.terms, .int .i64 (c.s 0), .int .i64 (c.s 1), .int .i64 (c.s 2), .int .i64 (c.s 3), .int .i64 c.book, .int .i64 c.room, .float .f64 c.K, .float .f64 c.B] 25)).alloc (.cells #[.int .i64 0, .int .i64 0, .int .i64 0, .int .i64 0, .int .i64 0, .int .i64 0] 26)).alloc (.cells (szK c k) 26)).drewN q) (fun _ i _ => 6 - (intOf i).toNat)
  case atStart =>
    refine ⟨0, 0, by omega, rfl, rfl, Lib.hid (fun j hj => absurd hj (by omega)), ?_⟩
    rw [szK_0]
    rfl
  case round =>
    obtain ⟨k, q, hk, rfl, rfl, hu, hwr⟩ := hrel
    by_cases hlt : k < 6
    · have hlt' : (k : Int) < 6 := by omega
      have hk0 : (0 : Int) ≤ (k : Int) := by omega
      obtain ⟨u1, e1⟩ := szK_at c k hlt
      have HS := Lib.hid (szK_step c k hlt)
      have hbd := c.at_bd HH.out k hu.out
      by_cases h4 : k < 4
      · have h4' : (k : Int) < 4 := by omega
        have csl : (((w.alloc (.cells #[.int .i64 c.docs, .int .i64 c.terms, .int .i64 (c.s 0), .int .i64 (c.s 1), .int .i64 (c.s 2), .int .i64 (c.s 3), .int .i64 c.book, .int .i64 c.room, .float .f64 c.K, .float .f64 c.B] 25)).alloc (.cells #[.int .i64 0, .int .i64 0, .int .i64 0, .int .i64 0, .int .i64 0, .int .i64 0] 26)).alloc (.cells (szK c k) 26)).cell? ⟨w.heap.size, 2 + k, none⟩ = some (.int .i64 (c.s k)) := by
          rcases (show k = 0 ∨ k = 1 ∨ k = 2 ∨ k = 3 from by omega) with rfl | rfl | rfl | rfl <;> simp [go_sem]
        have k4 : (k : Int) ≠ 4 := by omega
        have k5 : (k : Int) ≠ 5 := by omega
        have eb4 : ((k : Int) == 4) = false := by simp [k4]
        have eb5 : ((k : Int) == 5) = false := by simp [k5]
        rcases (show c.s k < 0 ∨ (¬ c.s k < 0 ∧ 512 < c.s k) ∨ (¬ c.s k < 0 ∧ ¬ 512 < c.s k) from by omega) with hb | ⟨hb, hb2⟩ | ⟨hb, hb2⟩
        · subst hwr
          obtain ⟨x0, x1, x2, x3, x4, x5, hx⟩ := szK_lit c k
          rw [hx] at csl ⊢
          have hno := c.not_ok k h4 (btw_no (.inl hb))
          have HNO := Lib.hid hno
          clear hno
          go_wp2
          exact bodyPost_ret (v := .tuple #[.agg #[.int .i64 x0, .int .i64 x1, .int .i64 x2, .int .i64 x3, .int .i64 x4, .int .i64 x5], .bool false]) (by simp [results, Tryd.results21, go_sem]) rfl ⟨.inr ⟨HNO.out, _, _, _, _, _, _, rfl⟩, below_drewN ((((Below.refl w.heap.size w).alloc (Nat.le_refl _) _).alloc (by simp) _).alloc (by simp; omega) _) _⟩
        · subst hwr
          obtain ⟨x0, x1, x2, x3, x4, x5, hx⟩ := szK_lit c k
          rw [hx] at csl ⊢
          have HNO := Lib.hid (c.not_ok k h4 (btw_no (.inr hb2)))
          go_wp2
          exact bodyPost_ret (v := .tuple #[.agg #[.int .i64 x0, .int .i64 x1, .int .i64 x2, .int .i64 x3, .int .i64 x4, .int .i64 x5], .bool false]) (by simp [results, Tryd.results21, go_sem]) rfl ⟨.inr ⟨HNO.out, _, _, _, _, _, _, rfl⟩, below_drewN ((((Below.refl w.heap.size w).alloc (Nat.le_refl _) _).alloc (by simp) _).alloc (by simp; omega) _) _⟩
        · subst hwr
          have hup := c.upto_step k hu.out (fun _ => btw_yes (by omega) (by omega))
          have hS := c.S_bd HH.out k hup
          have eS : c.s k * sz k = c.S k := by unfold Cf.S; rw [if_pos h4]
          have hup := Lib.hid hup
          have ew : IntKind.i64.wrap (c.S k) = c.S k := IntWalk.i64_in _ (by omega)
          have en : ((szK c k).setIfInBounds k (.int .i64 (c.S k)))[k]? = some (.int .i64 (c.S k)) := by rw [szK_step c k hlt]; exact szK_new c k hlt
          have HE := Lib.hid (szI_of k h4)
          go_wp2
          refine wp_region_still_tail 9 (by kernel_rfl) (by kernel_rfl) ?_
          simp only [List.take_succ_cons, List.take_zero, List.drop_succ_cons, List.drop_zero]
          change wpStill _ _ ((((w.alloc (.cells #[.int .i64 c.docs, .int .i64 c.terms, .int .i64 (c.s 0), .int .i64 (c.s 1), .int .i64 (c.s 2), .int .i64 (c.s 3), .int .i64 c.book, .int .i64 c.room, .float .f64 c.K, .float .f64 c.B] 25)).alloc (.cells #[.int .i64 0, .int .i64 0, .int .i64 0, .int .i64 0, .int .i64 0, .int .i64 0] 26)).alloc (.cells (szK c k) 26)).drewN (q + 1)) _ _ _
          repeat still_step
          still_call ((refSlab_any _ _).mono fun _ _ h => ⟨h.1, h.2.symm⟩)
          rw [HE.out]
          repeat still_step
          try refine wpStill_nil ?_
          change wpList _ _ _ _ _ ((((w.alloc (.cells #[.int .i64 c.docs, .int .i64 c.terms, .int .i64 (c.s 0), .int .i64 (c.s 1), .int .i64 (c.s 2), .int .i64 (c.s 3), .int .i64 c.book, .int .i64 c.room, .float .f64 c.K, .float .f64 c.B] 25)).alloc (.cells #[.int .i64 0, .int .i64 0, .int .i64 0, .int .i64 0, .int .i64 0, .int .i64 0] 26)).alloc (.cells (szK c k) 26)).drewN (q + 1))
          go_wp2
          rw [HS.out]
          go_roundw
          case rel => exact ⟨k + 1, _, by omega, by go_num, rfl, hup, rfl⟩
          case measure => simp [intOf]; omega
      · have h4' : ¬ (k : Int) < 4 := by omega
        have hup := c.upto_step k hu.out (fun h => absurd h h4)
        have hS := c.S_bd HH.out k hup
        have hup := Lib.hid hup
        have en : ((szK c k).setIfInBounds k (.int .i64 (c.S k)))[k]? = some (.int .i64 (c.S k)) := by rw [szK_step c k hlt]; exact szK_new c k hlt
        subst hwr
        rcases (show k = 4 ∨ k = 5 from by omega) with rfl | rfl
        · have eS : c.S 4 = c.book := by simp [Cf.S]
          rw [eS] at HS hS en
          go_wp2
          rw [HS.out]
          go_roundw
          case rel => exact ⟨5, _, by omega, by go_num, by show _ = Value.int .i64 (c.at_ 4 + c.S 4); rw [eS], hup, rfl⟩
          case measure => simp [intOf]
        · have eS : c.S 5 = c.room := by simp [Cf.S]
          rw [eS] at HS hS en
          go_wp2
          rw [HS.out]
          go_roundw
          case rel => exact ⟨6, _, by omega, by go_num, by show _ = Value.int .i64 (c.at_ 5 + c.S 5); rw [eS], hup, rfl⟩
          case measure => simp [intOf]
    · obtain rfl : k = 6 := by omega
      have hup := hu.out
      rw [szK_6] at hwr
      subst hwr
      by_cases hall : c.at_ 6 ≤ 65536
      · have hok := Lib.hid (show c.Ok from ⟨HH.out, fun j hj h4 => hup j (by omega) h4, hall⟩)
        go_wp2
        exact bodyPost_ret (v := .tuple #[.agg #[.int .i64 (c.S 0), .int .i64 (c.S 1), .int .i64 (c.S 2), .int .i64 (c.S 3), .int .i64 (c.S 4), .int .i64 (c.S 5)], .bool true]) (by simp [results, Tryd.results21, go_sem]) rfl ⟨.inl ⟨hok.out, rfl⟩, below_drewN ((((Below.refl w.heap.size w).alloc (Nat.le_refl _) _).alloc (by simp) _).alloc (by simp; omega) _) _⟩
      · have hno := Lib.hid (show ¬ c.Ok from fun ho => hall ho.all)
        go_wp2
        exact bodyPost_ret (v := .tuple #[.agg #[.int .i64 (c.S 0), .int .i64 (c.S 1), .int .i64 (c.S 2), .int .i64 (c.S 3), .int .i64 (c.S 4), .int .i64 (c.S 5)], .bool false]) (by simp [results, Tryd.results21, go_sem]) rfl ⟨.inr ⟨hno.out, _, _, _, _, _, _, rfl⟩, below_drewN ((((Below.refl w.heap.size w).alloc (Nat.le_refl _) _).alloc (by simp) _).alloc (by simp; omega) _) _⟩
end Go.Proofs.YtkoljljflpkgnaaDoor
