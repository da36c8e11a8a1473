/- The walk of ref14's Read: printed by wip/bin/gen_imgrefread.py. -/
import Derived.Test.YtbbjlijdodnjaaaImgReadK
import Derived.Test.YtbbjlijdodnjaaaBlkRDec
import Derived.Test.YtbbjlijdodnjaaaHand
import Derived.Test.YtbbjlijdodnjaaaStep
namespace Go.Proofs.Ytbbjlijdodnjaaa
open Go.RowKit

set_option maxRecDepth 100000 in
set_option maxHeartbeats 40000000 in
theorem refRead_any (at_ : Int) (cells : List Int) (hw : ∀ x ∈ cells, 0 ≤ x ∧ x < 4294967296) (A : Option Addr) (n c : Nat) (w : World) (hx : Reads w w.heap.size A n c (ints .u32 cells)) (hn : n ≤ 8000000) (hsegl : ∀ i, i < tI cells → (segR at_ cells i).length ≤ 20000) :
    Calls Try.prog 18 #[.int .i64 at_, .slice A n c] w fun e w' => (∃ (vr vl : Value) (lts : List Lt), e = .returned (.tuple #[vr, vl, .int .i64 0]) ∧ OkC at_ cells ∧ w'.ownsRow w.heap.size 54 4 vr (nI cells) ((rowsR cells (nI cells)).flatMap rwC) ∧ OwnL w' w.heap.size vl lts ∧ ltV lts = lvsR at_ cells noKey (tI cells) ∧ Below w.heap.size w w') ∨ (e = .returned (.tuple #[.slice none 0 0, .slice none 0 0, .int .i64 11]) ∧ ¬ OkC at_ cells ∧ Below w.heap.size w w') := by
  obtain ⟨i0, hi0, hz0, hz1, hz2⟩ := info_parts info_row
  obtain ⟨j0, hj0, hy0, hy1, hy2⟩ := info_parts info_list
  have lx : cells.length = n := by simpa using hx.len
  have Lx := Lib.hid lx
  have hcap := hx.cap
  have hr0 := cD_range hw 0
  have hr1 := cD_range hw 1
  by_cases g0 : at_ < 0
  · have HN : Hid (¬ OkC at_ cells) := Lib.hid (fun h => by have := h.1.a0; omega)
    go_enter Try.func18, Try.ntmps18
    go_wp2
    go_ret3
    exact .inr ⟨rfl, HN.out, Below.refl _ _⟩
  by_cases g1 : 65536 < at_
  · have HN : Hid (¬ OkC at_ cells) := Lib.hid (fun h => by have := h.1.a1; omega)
    go_enter Try.func18, Try.ntmps18
    go_wp2
    go_ret3
    exact .inr ⟨rfl, HN.out, Below.refl _ _⟩
  by_cases g2 : n < 2
  · have HN : Hid (¬ OkC at_ cells) := Lib.hid (fun h => by have := h.1.l2; omega)
    have g2' : (n : Int) < 2 := by omega
    go_enter Try.func18, Try.ntmps18
    go_wp2
    go_ret3
    exact .inr ⟨rfl, HN.out, Below.refl _ _⟩
  have g2' : ¬ (n : Int) < 2 := by omega
  obtain ⟨ad, rfl, hab, q0⟩ := hx.cD_ 0 (by omega)
  obtain ⟨ad', e, _, q1⟩ := hx.cD_ 1 (by omega)
  injection e with e
  subst e
  have q0 : w.cell? ad = some (.int .u32 (cD cells 0)) := by simpa [Addr.add] using q0
  have q1 := cell_form q0 1 q1
  by_cases g3 : cD cells 0 < 1
  · have HN : Hid (¬ OkC at_ cells) := Lib.hid (fun h => by have := h.1.c0; omega)
    generalize cD cells 0 = x0 at *
    go_enter Try.func18, Try.ntmps18
    go_wp2
    go_ret3
    exact .inr ⟨rfl, HN.out, Below.refl _ _⟩
  by_cases g4 : 65 < cD cells 0
  · have HN : Hid (¬ OkC at_ cells) := Lib.hid (fun h => by have := h.1.c0'; omega)
    generalize cD cells 0 = x0 at *
    go_enter Try.func18, Try.ntmps18
    go_wp2
    go_ret3
    exact .inr ⟨rfl, HN.out, Below.refl _ _⟩
  by_cases g5 : 256 < cD cells 1
  · have HN : Hid (¬ OkC at_ cells) := Lib.hid (fun h => by have := h.1.c1; omega)
    generalize cD cells 0 = x0 at *
    generalize cD cells 1 = x1 at *
    go_enter Try.func18, Try.ntmps18
    go_wp2
    go_ret3
    exact .inr ⟨rfl, HN.out, Below.refl _ _⟩
  obtain ⟨N, hN⟩ : ∃ N, nI cells = N := ⟨_, rfl⟩
  obtain ⟨T, hT⟩ : ∃ T, tI cells = T := ⟨_, rfl⟩
  have e0 : cD cells 0 = (N : Int) + 1 := by rw [← hN, nI]; omega
  have e1 : cD cells 1 = (T : Int) := by rw [← hT, tI]; omega
  have hN64 : N ≤ 64 := by omega
  have hT256 : T ≤ 256 := by omega
  rw [e0] at q0
  rw [e1] at q1
  have HNN := Lib.hid hN
  have HTT := Lib.hid hT
  have E0 := Lib.hid e0
  have E1 := Lib.hid e1
  have hnz : (((N : Int) + 1) == 0) = false := beq_false_of_ne (by omega)
  by_cases g6 : n < 2 + 4 * N + 2 * T
  · have HN : Hid (¬ OkC at_ cells) := Lib.hid (fun h => by have := h.1.len; rw [hI, hN, hT] at this; omega)
    have g6' : (n : Int) < 2 + 4 * (N : Int) + 2 * (T : Int) := by omega
    clear e0 e1 hN hT g3 g4 g5 hr0 hr1
    go_enter Try.func18, Try.ntmps18
    go_wp2
    go_ret3
    exact .inr ⟨rfl, HN.out, Below.refl _ _⟩
  have g6' : ¬ (n : Int) < 2 + 4 * (N : Int) + 2 * (T : Int) := by omega
  have HH : Hid (HeadR at_ cells) := Lib.hid ⟨by omega, by omega, by omega, by omega, by omega, by omega, by rw [hI, hN, hT]; omega⟩
  clear e0 e1 hN hT g3 g4 g5 hr0 hr1
  have hoR := own_empty w 54 4
  have hB0 : Below w.heap.size w (w.alloc (.cells #[] 54)) := (Below.refl _ _).alloc (Nat.le_refl _) _
  go_enter Try.func18, Try.ntmps18
  go_wp2_with fail
  go_loopw [9, 10] (fun rows i wr => ∃ d : Nat, d ≤ N ∧ i = .int .i64 (d : Int) ∧ wr.ownsRow w.heap.size 54 4 rows d ((rowsR cells d).flatMap rwC) ∧ Below w.heap.size w wr) (fun _ i _ => N - (intOf i).toNat)
  case atStart => exact ⟨0, by omega, rfl, hoR, hB0⟩
  case round =>
    clear hoR hB0
    obtain ⟨d, hd, rfl, hown, hB⟩ := hrel
    by_cases hlt : d < N
    · have hlt' : (d : Int) < (N : Int) := by omega
      have hd0 : (0 : Int) ≤ (d : Int) := by omega
      obtain ⟨ad', e, _, r0⟩ := (hx.below hB).cD_ (2 + 4 * d) (by omega)
      injection e with e; subst e
      obtain ⟨ad', e, _, r1⟩ := (hx.below hB).cD_ (3 + 4 * d) (by omega)
      injection e with e; subst e
      obtain ⟨ad', e, _, r2⟩ := (hx.below hB).cD_ (4 + 4 * d) (by omega)
      injection e with e; subst e
      obtain ⟨ad', e, _, r3⟩ := (hx.below hB).cD_ (5 + 4 * d) (by omega)
      injection e with e; subst e
      have hw0 : IntKind.i64.wrap (4 * (d : Int)) = 4 * (d : Int) := IntWalk.i64_in _ (by omega)
      have hw21 : IntKind.i64.wrap (2 + 4 * (d : Int)) = 2 + 4 * (d : Int) := IntWalk.i64_in _ (by omega)
      have hw22 : 0 ≤ 2 + 4 * (d : Int) := by omega
      have hw23 : 2 + 4 * (d : Int) < (n : Int) := by omega
      have hw24 : (2 + 4 * (d : Int)).toNat = 2 + 4 * d := by omega
      have hw31 : IntKind.i64.wrap (3 + 4 * (d : Int)) = 3 + 4 * (d : Int) := IntWalk.i64_in _ (by omega)
      have hw32 : 0 ≤ 3 + 4 * (d : Int) := by omega
      have hw33 : 3 + 4 * (d : Int) < (n : Int) := by omega
      have hw34 : (3 + 4 * (d : Int)).toNat = 3 + 4 * d := by omega
      have hw41 : IntKind.i64.wrap (4 + 4 * (d : Int)) = 4 + 4 * (d : Int) := IntWalk.i64_in _ (by omega)
      have hw42 : 0 ≤ 4 + 4 * (d : Int) := by omega
      have hw43 : 4 + 4 * (d : Int) < (n : Int) := by omega
      have hw44 : (4 + 4 * (d : Int)).toNat = 4 + 4 * d := by omega
      have hw51 : IntKind.i64.wrap (5 + 4 * (d : Int)) = 5 + 4 * (d : Int) := IntWalk.i64_in _ (by omega)
      have hw52 : 0 ≤ 5 + 4 * (d : Int) := by omega
      have hw53 : 5 + 4 * (d : Int) < (n : Int) := by omega
      have hw54 : (5 + 4 * (d : Int)).toNat = 5 + 4 * d := by omega
      have hBs := hB.size
      have hbr : ∀ i, (ad.add i).block < wr.heap.size := fun i => by rw [add_block]; omega
      have hbw : ∀ i, (ad.add i).block < w.heap.size := fun i => by rw [add_block]; omega
      have HRS := Lib.hid (rowsR_snoc cells d)
      have HRW : Hid (rowR cells d = (cD cells (2 + 4 * d), cD cells (3 + 4 * d), cD cells (4 + 4 * d), cD cells (5 + 4 * d))) := Lib.hid rfl
      have Hbr := Lib.hid hbr
      have Hbw := Lib.hid hbw
      clear hbr hbw
      generalize cD cells (2 + 4 * d) = x0 at *
      generalize cD cells (3 + 4 * d) = x1 at *
      generalize cD cells (4 + 4 * d) = x2 at *
      generalize cD cells (5 + 4 * d) = x3 at *
      go_wp2_with fail
      refine wp_region_open (S := (fun w' : World => w'.cell? (ad.add (2 + 4 * d)) = some (.int .u32 x0) ∧ w'.cell? (ad.add (3 + 4 * d)) = some (.int .u32 x1) ∧ w'.cell? (ad.add (4 + 4 * d)) = some (.int .u32 x2) ∧ w'.cell? (ad.add (5 + 4 * d)) = some (.int .u32 x3))) #[false, false, false, false, false, false, false, false, false, false, false, false, false, false, false, false, false, false, false, false, false, false, false, false, false, false, false, false, false] 29 (by kernel_rfl) (by kernel_rfl) rfl (⟨r0, r1, r2, r3⟩) (fun hHeld => ?_)
      refine tk (i := 0) (v := ?_) rfl (by kernel_rfl) (by kernel_rfl) (by kernel_rfl) (Or.inl ⟨by rfl, ?_⟩) (by assumption) ?_; rotate_left 1
      · intro w hSw; (try dsimp only at hSw); go_simp; try with_reducible rfl
      try simp only [Act.put, List.getElem_toArray, List.getElem_cons_zero, List.setIfInBounds_toArray, List.set_cons_zero, List.set_cons_succ]
      refine tk (i := 1) (v := ?_) rfl (by kernel_rfl) (by kernel_rfl) (by kernel_rfl) (Or.inl ⟨by rfl, ?_⟩) (by assumption) ?_; rotate_left 1
      · intro w hSw; (try dsimp only at hSw); go_simp; try with_reducible rfl
      try simp only [Act.put, List.getElem_toArray, List.getElem_cons_zero, List.getElem_cons_succ, List.setIfInBounds_toArray, List.set_cons_zero, List.set_cons_succ]
      refine tk (i := 2) (v := ?_) rfl (by kernel_rfl) (by kernel_rfl) (by kernel_rfl) (Or.inl ⟨by rfl, ?_⟩) (by assumption) ?_; rotate_left 1
      · intro w hSw; (try dsimp only at hSw); go_simp; try with_reducible rfl
      try simp only [Act.put, List.getElem_toArray, List.getElem_cons_zero, List.getElem_cons_succ, List.setIfInBounds_toArray, List.set_cons_zero, List.set_cons_succ]
      refine tk (i := 3) (v := ?_) rfl (by kernel_rfl) (by kernel_rfl) (by kernel_rfl) (Or.inl ⟨by rfl, ?_⟩) (by assumption) ?_; rotate_left 1
      · intro w hSw; (try dsimp only at hSw); go_simp; try with_reducible rfl
      try simp only [Act.put, List.getElem_toArray, List.getElem_cons_zero, List.getElem_cons_succ, List.setIfInBounds_toArray, List.set_cons_zero, List.set_cons_succ]
      refine tk (i := 4) (v := ?_) rfl (by kernel_rfl) (by kernel_rfl) (by kernel_rfl) (Or.inl ⟨by rfl, ?_⟩) (by assumption) ?_; rotate_left 1
      · intro w hSw; (try dsimp only at hSw); go_simp; try with_reducible rfl
      try simp only [Act.put, List.getElem_toArray, List.getElem_cons_zero, List.getElem_cons_succ, List.setIfInBounds_toArray, List.set_cons_zero, List.set_cons_succ]
      refine tk (i := 5) (v := ?_) rfl (by kernel_rfl) (by kernel_rfl) (by kernel_rfl) (Or.inl ⟨by rfl, ?_⟩) (by assumption) ?_; rotate_left 1
      · intro w hSw; (try dsimp only at hSw); go_simp; try with_reducible rfl
      try simp only [Act.put, List.getElem_toArray, List.getElem_cons_zero, List.getElem_cons_succ, List.setIfInBounds_toArray, List.set_cons_zero, List.set_cons_succ]
      refine tk (i := 6) (v := ?_) rfl (by kernel_rfl) (by kernel_rfl) (by kernel_rfl) (Or.inl ⟨by rfl, ?_⟩) (by assumption) ?_; rotate_left 1
      · intro w hSw; (try dsimp only at hSw); go_simp; try with_reducible rfl
      try simp only [Act.put, List.getElem_toArray, List.getElem_cons_zero, List.getElem_cons_succ, List.setIfInBounds_toArray, List.set_cons_zero, List.set_cons_succ]
      refine tk (i := 7) (v := ?_) rfl (by kernel_rfl) (by kernel_rfl) (by kernel_rfl) (Or.inl ⟨by rfl, ?_⟩) (by assumption) ?_; rotate_left 1
      · intro w hSw; (try dsimp only at hSw); go_simp; try with_reducible rfl
      try simp only [Act.put, List.getElem_toArray, List.getElem_cons_zero, List.getElem_cons_succ, List.setIfInBounds_toArray, List.set_cons_zero, List.set_cons_succ]
      refine tk (i := 8) (v := ?_) rfl (by kernel_rfl) (by kernel_rfl) (by kernel_rfl) (Or.inl ⟨by rfl, ?_⟩) (by assumption) ?_; rotate_left 1
      · intro w hSw; (try dsimp only at hSw); go_simp; try with_reducible rfl
      try simp only [Act.put, List.getElem_toArray, List.getElem_cons_zero, List.getElem_cons_succ, List.setIfInBounds_toArray, List.set_cons_zero, List.set_cons_succ]
      refine tk (i := 9) (v := ?_) rfl (by kernel_rfl) (by kernel_rfl) (by kernel_rfl) (Or.inl ⟨by rfl, ?_⟩) (by assumption) ?_; rotate_left 1
      · intro w hSw; (try dsimp only at hSw); go_simp; try with_reducible rfl
      try simp only [Act.put, List.getElem_toArray, List.getElem_cons_zero, List.getElem_cons_succ, List.setIfInBounds_toArray, List.set_cons_zero, List.set_cons_succ]
      refine tk (i := 10) (v := ?_) rfl (by kernel_rfl) (by kernel_rfl) (by kernel_rfl) (Or.inl ⟨by rfl, ?_⟩) (by assumption) ?_; rotate_left 1
      · intro w hSw; (try dsimp only at hSw); go_simp; try with_reducible rfl
      try simp only [Act.put, List.getElem_toArray, List.getElem_cons_zero, List.getElem_cons_succ, List.setIfInBounds_toArray, List.set_cons_zero, List.set_cons_succ]
      refine tk (i := 11) (v := ?_) rfl (by kernel_rfl) (by kernel_rfl) (by kernel_rfl) (Or.inl ⟨by rfl, ?_⟩) (by assumption) ?_; rotate_left 1
      · intro w hSw; (try dsimp only at hSw); go_simp; try with_reducible rfl
      try simp only [Act.put, List.getElem_toArray, List.getElem_cons_zero, List.getElem_cons_succ, List.setIfInBounds_toArray, List.set_cons_zero, List.set_cons_succ]
      refine tk (i := 12) (v := ?_) rfl (by kernel_rfl) (by kernel_rfl) (by kernel_rfl) (Or.inl ⟨by rfl, ?_⟩) (by assumption) ?_; rotate_left 1
      · intro w hSw; (try dsimp only at hSw); go_simp; try with_reducible rfl
      try simp only [Act.put, List.getElem_toArray, List.getElem_cons_zero, List.getElem_cons_succ, List.setIfInBounds_toArray, List.set_cons_zero, List.set_cons_succ]
      refine tk (i := 13) (v := ?_) rfl (by kernel_rfl) (by kernel_rfl) (by kernel_rfl) (Or.inl ⟨by rfl, ?_⟩) (by assumption) ?_; rotate_left 1
      · intro w hSw; (try dsimp only at hSw); go_simp; try with_reducible rfl
      try simp only [Act.put, List.getElem_toArray, List.getElem_cons_zero, List.getElem_cons_succ, List.setIfInBounds_toArray, List.set_cons_zero, List.set_cons_succ]
      refine tk (i := 14) (v := ?_) rfl (by kernel_rfl) (by kernel_rfl) (by kernel_rfl) (Or.inl ⟨by rfl, ?_⟩) (by assumption) ?_; rotate_left 1
      · intro w hSw; (try dsimp only at hSw); go_simp; try with_reducible rfl
      try simp only [Act.put, List.getElem_toArray, List.getElem_cons_zero, List.getElem_cons_succ, List.setIfInBounds_toArray, List.set_cons_zero, List.set_cons_succ]
      refine tk (i := 15) (v := ?_) rfl (by kernel_rfl) (by kernel_rfl) (by kernel_rfl) (Or.inl ⟨by rfl, ?_⟩) (by assumption) ?_; rotate_left 1
      · intro w hSw; (try dsimp only at hSw); go_simp; try with_reducible rfl
      try simp only [Act.put, List.getElem_toArray, List.getElem_cons_zero, List.getElem_cons_succ, List.setIfInBounds_toArray, List.set_cons_zero, List.set_cons_succ]
      refine tk (i := 16) (v := ?_) rfl (by kernel_rfl) (by kernel_rfl) (by kernel_rfl) (Or.inl ⟨by rfl, ?_⟩) (by assumption) ?_; rotate_left 1
      · intro w hSw; (try dsimp only at hSw); go_simp; try with_reducible rfl
      try simp only [Act.put, List.getElem_toArray, List.getElem_cons_zero, List.getElem_cons_succ, List.setIfInBounds_toArray, List.set_cons_zero, List.set_cons_succ]
      refine tk (i := 17) (v := ?_) rfl (by kernel_rfl) (by kernel_rfl) (by kernel_rfl) (Or.inl ⟨by rfl, ?_⟩) (by assumption) ?_; rotate_left 1
      · intro w hSw; (try dsimp only at hSw); go_simp; try with_reducible rfl
      try simp only [Act.put, List.getElem_toArray, List.getElem_cons_zero, List.getElem_cons_succ, List.setIfInBounds_toArray, List.set_cons_zero, List.set_cons_succ]
      refine tk (i := 18) (v := ?_) rfl (by kernel_rfl) (by kernel_rfl) (by kernel_rfl) (Or.inl ⟨by rfl, ?_⟩) (by assumption) ?_; rotate_left 1
      · intro w hSw; (try dsimp only at hSw); go_simp; try with_reducible rfl
      try simp only [Act.put, List.getElem_toArray, List.getElem_cons_zero, List.getElem_cons_succ, List.setIfInBounds_toArray, List.set_cons_zero, List.set_cons_succ]
      refine tk (i := 19) (v := ?_) rfl (by kernel_rfl) (by kernel_rfl) (by kernel_rfl) (Or.inl ⟨by rfl, ?_⟩) (by assumption) ?_; rotate_left 1
      · intro w hSw; (try dsimp only at hSw); go_simp; try with_reducible rfl
      try simp only [Act.put, List.getElem_toArray, List.getElem_cons_zero, List.getElem_cons_succ, List.setIfInBounds_toArray, List.set_cons_zero, List.set_cons_succ]
      refine tk (i := 20) (v := ?_) rfl (by kernel_rfl) (by kernel_rfl) (by kernel_rfl) (Or.inl ⟨by rfl, ?_⟩) (by assumption) ?_; rotate_left 1
      · intro w hSw; (try dsimp only at hSw); go_simp; try with_reducible rfl
      try simp only [Act.put, List.getElem_toArray, List.getElem_cons_zero, List.getElem_cons_succ, List.setIfInBounds_toArray, List.set_cons_zero, List.set_cons_succ]
      refine tk (i := 21) (v := ?_) rfl (by kernel_rfl) (by kernel_rfl) (by kernel_rfl) (Or.inl ⟨by rfl, ?_⟩) (by assumption) ?_; rotate_left 1
      · intro w hSw; (try dsimp only at hSw); go_simp; try with_reducible rfl
      try simp only [Act.put, List.getElem_toArray, List.getElem_cons_zero, List.getElem_cons_succ, List.setIfInBounds_toArray, List.set_cons_zero, List.set_cons_succ]
      refine tk (i := 22) (v := ?_) rfl (by kernel_rfl) (by kernel_rfl) (by kernel_rfl) (Or.inl ⟨by rfl, ?_⟩) (by assumption) ?_; rotate_left 1
      · intro w hSw; (try dsimp only at hSw); go_simp; try with_reducible rfl
      try simp only [Act.put, List.getElem_toArray, List.getElem_cons_zero, List.getElem_cons_succ, List.setIfInBounds_toArray, List.set_cons_zero, List.set_cons_succ]
      refine tk (i := 23) (v := ?_) rfl (by kernel_rfl) (by kernel_rfl) (by kernel_rfl) (Or.inl ⟨by rfl, ?_⟩) (by assumption) ?_; rotate_left 1
      · intro w hSw; (try dsimp only at hSw); go_simp; try with_reducible rfl
      try simp only [Act.put, List.getElem_toArray, List.getElem_cons_zero, List.getElem_cons_succ, List.setIfInBounds_toArray, List.set_cons_zero, List.set_cons_succ]
      refine tk (i := 24) (v := ?_) rfl (by kernel_rfl) (by kernel_rfl) (by kernel_rfl) (Or.inl ⟨by rfl, ?_⟩) (by assumption) ?_; rotate_left 1
      · intro w hSw; (try dsimp only at hSw); go_simp; try with_reducible rfl
      try simp only [Act.put, List.getElem_toArray, List.getElem_cons_zero, List.getElem_cons_succ, List.setIfInBounds_toArray, List.set_cons_zero, List.set_cons_succ]
      refine tk (i := 25) (v := ?_) rfl (by kernel_rfl) (by kernel_rfl) (by kernel_rfl) (Or.inl ⟨by rfl, ?_⟩) (by assumption) ?_; rotate_left 1
      · intro w hSw; (try dsimp only at hSw); go_simp; try with_reducible rfl
      try simp only [Act.put, List.getElem_toArray, List.getElem_cons_zero, List.getElem_cons_succ, List.setIfInBounds_toArray, List.set_cons_zero, List.set_cons_succ]
      refine wpAnyH_ready (rs := [26]) (by kernel_rfl) (by simp) ?_
      refine AllReadyH.cons (o := _) rfl (fun K hK => ?_) AllReadyH.nil
      go_simp
      refine hK.out _ _ ⟨(World.cell?_alloc_lt _ _ _ (Hbr.out _)).trans r0, (World.cell?_alloc_lt _ _ _ (Hbr.out _)).trans r1, (World.cell?_alloc_lt _ _ _ (Hbr.out _)).trans r2, (World.cell?_alloc_lt _ _ _ (Hbr.out _)).trans r3⟩ (fun hHeld => ?_)
      clear hK K
      try simp only [List.setIfInBounds_toArray, List.set_cons_zero, List.set_cons_succ]
      refine wpAnyH_ready (rs := [27]) (by kernel_rfl) (by simp) ?_
      refine AllReadyH.cons (o := _) rfl (fun K hK => ?_) AllReadyH.nil
      refine step_append_oneB (W := wr.drew) rfl (.tmp 71) (.tmp 97) 22 rfl w.heap.size 54 i0 _ 4 16 Try.underlying22 hi0 hz0 hz1 hz2 rfl (by omega) _ d _ [.int .u32 x0, .int .u32 x1, .int .u32 x2, .int .u32 x3] rfl hown rfl rfl (by intro u hu; simp only [List.mem_cons, List.mem_nil_iff, or_false] at hu; rcases hu with rfl | rfl | rfl | rfl <;> rfl) (by omega) (by omega) hBs ?_
      intro v3 w3 hown3 hg3 _
      have hB3 : Below w.heap.size w w3 := below_grown hB.drew hown (Nat.le_refl _) hBs hg3
      refine hK.out _ _ ⟨(hB3.cell (Hbw.out _)).trans ((hB.cell (Hbw.out _)).symm.trans r0), (hB3.cell (Hbw.out _)).trans ((hB.cell (Hbw.out _)).symm.trans r1), (hB3.cell (Hbw.out _)).trans ((hB.cell (Hbw.out _)).symm.trans r2), (hB3.cell (Hbw.out _)).trans ((hB.cell (Hbw.out _)).symm.trans r3)⟩ (fun hHeld => ?_)
      clear hK K
      try simp only [List.setIfInBounds_toArray, List.set_cons_zero, List.set_cons_succ]
      refine tk (i := 28) (v := ?_) rfl (by kernel_rfl) (by kernel_rfl) (by kernel_rfl) (Or.inl ⟨by rfl, ?_⟩) (by assumption) ?_; rotate_left 1
      · intro w hSw; (try dsimp only at hSw); go_simp; try with_reducible rfl
      try simp only [Act.put, List.getElem_toArray, List.getElem_cons_zero, List.getElem_cons_succ, List.setIfInBounds_toArray, List.set_cons_zero, List.set_cons_succ]
      refine wpAnyH_done (by kernel_rfl) ?_ _
      refine NoPanic.normal ?_
      have Hown3 : Hid (w3.ownsRow w.heap.size 54 4 v3 (d + 1) ((rowsR cells (d + 1)).flatMap rwC)) := Lib.hid (by
        rw [HRS.out, HRW.out, List.flatMap_append]
        exact hown3)
      clear hown3 hHeld r0 r1 r2 r3
      go_wp2
      go_roundw
      case rel => exact ⟨d + 1, by omega, by go_num, Hown3.out, hB3⟩
      case measure => simp [intOf]; omega
    · have hlt' : ¬ (d : Int) < (N : Int) := by omega
      obtain rfl : d = N := by omega
      obtain ⟨A0, c0, rfl, hrr, hc0, _⟩ := ReadsK.of_own hown
      have hownr := Lib.hid hown
      have HSL := Lib.hid hsegl
      have Hw := Lib.hid hw
      obtain ⟨w1, hw1⟩ : ∃ w1, w1 = wr := ⟨_, rfl⟩
      subst hw1
      have hoL : OwnL (w1.alloc (.cells #[] 47)) w1.heap.size (.slice (some ⟨w1.heap.size, 0, none⟩) 0 0) [] := ⟨own_empty w1 47 3, by simp, by simp, by simp, by simp, by simp, by simp⟩
      have hb0 : Below w1.heap.size w1 (w1.alloc (.cells #[] 47)) := (Below.refl _ _).alloc (Nat.le_refl _) _
      have hP0 : Hid (((2 + 4 * d + 2 * T : Nat) : Int) = if (0 : Nat) = 0 then ((hI cells + 2 * tI cells : Nat) : Int) else posR at_ cells 0) := Lib.hid (by rw [if_pos rfl, hI, HNN.out, HTT.out])
      clear hown hsegl hw q0 q1
      go_wp2_with fail
      go_loopw [11, 12, 13] (fun lists here i wr2 => ∃ (k : Nat) (lts : List Lt) (hr : Nat), k ≤ T ∧ i = .int .i64 (k : Int) ∧ here = .int .i64 (hr : Int) ∧ hr ≤ n ∧ OwnL wr2 w1.heap.size lists lts ∧ Hid (ltV lts = lvsR at_ cells noKey k) ∧ Hid (∀ j, j < k → GoodR at_ cells j ∧ LstOk (nI cells) (lvR at_ cells keyS j)) ∧ Hid ((hr : Int) = if k = 0 then ((hI cells + 2 * tI cells : Nat) : Int) else posR at_ cells k) ∧ Hid (0 < k → fromR at_ cells 0 = hI cells + 2 * tI cells) ∧ Below w1.heap.size w1 wr2) (fun _ _ i _ => T - (intOf i).toNat)
      case atStart => exact ⟨0, [], 2 + 4 * d + 2 * T, by omega, rfl, by go_num, by omega, hoL, Lib.hid (by simp [ltV, lvsR]), Lib.hid (fun j hj => by omega), hP0, Lib.hid (fun h => by omega), hb0⟩
      case round =>
        clear hoL hb0 hP0
        obtain ⟨k, lts, hr, hk, rfl, rfl, hrn, hL, HV, HG, HP, HF0, hb2⟩ := hrel
        by_cases hlt2 : k < T
        · have hlt2' : (k : Int) < (T : Int) := by omega
          have hk0 : (0 : Int) ≤ (k : Int) := by omega
          have hBa := hB.trans (hb2.mono hB.size)
          have hbad := hBa.size
          obtain ⟨ad', e, _, qf⟩ := (hx.below hBa).cD_ (2 + 4 * d + 2 * k + 1) (by omega)
          injection e with e; subst e
          obtain ⟨ad', e, _, qr⟩ := (hx.below hBa).cD_ (2 + 4 * d + 2 * k) (by omega)
          injection e with e; subst e
          obtain ⟨ad', e, _, qz⟩ := (hx.below hBa).cD_ 0 (by omega)
          injection e with e; subst e
          have qf' := cell_form (p := ad) (by simpa [Addr.add] using qz) (2 + 4 * d + 2 * k + 1) qf
          have hfr := cD_range Hw.out (2 + 4 * d + 2 * k + 1)
          have hrr' := cD_range Hw.out (2 + 4 * d + 2 * k)
          have HF : Hid (fromR at_ cells k = cD cells (2 + 4 * d + 2 * k + 1) - at_) := Lib.hid (by rw [fromR, hI, HNN.out])
          have HRC : Hid (∀ key, lvR at_ cells key k = (key k, cD cells (2 + 4 * d + 2 * k), (decB (segR at_ cells k)).1)) := Lib.hid (fun key => by rw [lvR, hI, HNN.out])
          generalize cD cells (2 + 4 * d + 2 * k + 1) = fv at *
          generalize cD cells (2 + 4 * d + 2 * k) = rc at *
          by_cases hfh : fv = at_ + (hr : Int)
          · have HFH : Hid (fromR at_ cells k = (hr : Int)) := Lib.hid (by rw [HF.out, hfh]; omega)
            have HF1 : Hid (0 < k + 1 → fromR at_ cells 0 = hI cells + 2 * tI cells) := Lib.hid (fun _ => by
              by_cases h0 : k = 0
              · have h1 := HP.out
                rw [if_pos h0] at h1
                rw [← h0, HFH.out, h1]
                omega
              · exact HF0.out (by omega))
            have hfe : (fv != at_ + (hr : Int)) = false := by simp [hfh]
            clear qf qz
            by_cases hge : n ≤ hr
            · have HNK : Hid (¬ OkC at_ cells) := Lib.hid (fun h => by have h1 := (head_ok (h.2.1 k (by rw [HTT.out]; exact hlt2)).1).1; rw [HFH.out, Lx.out] at h1; omega)
              have hge' : (n : Int) ≤ (hr : Int) := by omega
              go_wp2
              go_ret3
              exact .inr ⟨rfl, HNK.out, hBa⟩
            have hge' : ¬ (n : Int) ≤ (hr : Int) := by omega
            obtain ⟨ad', e, _, qh⟩ := (hx.below hBa).cD_ hr (by omega)
            injection e with e; subst e
            have HH64 : Hid (64 < cD cells hr → ¬ OkC at_ cells) := Lib.hid (fun h9 h => by have h1 := (head_ok (h.2.1 k (by rw [HTT.out]; exact hlt2)).1).2; rw [HFH.out, Int.toNat_natCast] at h1; omega)
            have hhr := cD_range Hw.out hr
            generalize cD cells hr = hv at *
            by_cases h64 : 64 < hv
            · have HNK := Lib.hid (HH64.out h64)
              go_wp2
              go_ret3
              exact .inr ⟨rfl, HNK.out, hBa⟩
            by_cases hlast : k + 1 < T
            · have hl' : (k : Int) + 1 < (T : Int) := by omega
              obtain ⟨ad', e, _, qt⟩ := (hx.below hBa).cD_ (2 + 4 * d + 2 * k + 3) (by omega)
              injection e with e; subst e
              obtain ⟨ad', e, _, qz⟩ := (hx.below hBa).cD_ 0 (by omega)
              injection e with e; subst e
              have qt' := cell_form (p := ad) (by simpa [Addr.add] using qz) (2 + 4 * d + 2 * k + 3) qt
              have htr := cD_range Hw.out (2 + 4 * d + 2 * k + 3)
              have HTO : Hid (toR at_ cells k = cD cells (2 + 4 * d + 2 * k + 3) - at_) := Lib.hid (by rw [toR, HTT.out, if_pos hlast, fromR, hI, HNN.out, show 2 + 4 * d + 2 * (k + 1) + 1 = 2 + 4 * d + 2 * k + 3 from by omega])
              generalize cD cells (2 + 4 * d + 2 * k + 3) = tv at *
              clear qz qt
              by_cases hT0 : tv - at_ < (hr : Int)
              · have HNK : Hid (¬ OkC at_ cells) := Lib.hid (fun h => by have := (h.2.1 k (by rw [HTT.out]; exact hlt2)).1.ft; rw [HFH.out, HTO.out] at this; omega)
                go_wp2
                go_ret3
                exact .inr ⟨rfl, HNK.out, hBa⟩
              obtain ⟨t, ht⟩ : ∃ t : Nat, tv = (t : Int) + at_ := ⟨(tv - at_).toNat, by omega⟩
              subst ht
              have hta : (t : Int) + at_ - at_ = (t : Int) := by omega
              rw [hta] at HTO
              by_cases hT1 : n < t
              · have HNK : Hid (¬ OkC at_ cells) := Lib.hid (fun h => by have := (h.2.1 k (by rw [HTT.out]; exact hlt2)).1.tl; rw [HTO.out, Lx.out] at this; omega)
                have hT1' : (n : Int) < (t : Int) := by omega
                go_wp2
                go_ret3
                exact .inr ⟨rfl, HNK.out, hBa⟩
              have hft0 : (hr : Int) ≤ (t : Int) := by omega
              have htn : (t : Int) ≤ (n : Int) := by omega
              have HSG : Hid (segR at_ cells k = (cells.drop hr).take (t - hr)) := Lib.hid (by rw [segR, HFH.out, HTO.out]; rfl)
              have hkT : k < tI cells := by rw [HTT.out]; exact hlt2
              have hsl := HSL.out k hkT
              have hslen : (segR at_ cells k).length = t - hr := by rw [HSG.out, List.length_take, List.length_drop, Lx.out]; omega
              have hwseg : ∀ x ∈ segR at_ cells k, 0 ≤ x ∧ x < 4294967296 := fun x hx => by rw [HSG.out] at hx; exact Hw.out x (List.mem_of_mem_drop (List.mem_of_mem_take hx))
              have hcut := ((hx.below hBa).cut (k := hr) (by omega)).front (k := t - hr) (by omega)
              rw [show (((ints .u32 cells).drop hr).take (t - hr)) = ints .u32 (segR at_ cells k) from by rw [HSG.out]; simp only [ints, List.map_drop, List.map_take]] at hcut
              have hcf : ¬ c = hr := by omega
              rw [if_neg hcf] at hcut
              have HD := rdecO_any (segR at_ cells k) hwseg _ _ _ wr (hcut.more hBa.size) (by rw [← hslen]; exact hsl)
              rcases decB_err (segR at_ cells k) with hE | hE
              · have HGk : Hid (GoodR at_ cells k) := Lib.hid ⟨by rw [HFH.out]; omega, by rw [HFH.out, HTO.out]; omega, by rw [HTO.out, Lx.out]; omega, hE⟩
                have HMay := Lib.hid (dec_ok hE).1
                rw [hE] at HD
                clear hcut hE hslen hsl hwseg hkT
                go_wp2_with fail
                refine HD.mono ?_
                clear HD
                rintro e w5 ⟨A', n', c', es, rfl, hre, hce, hve, hb5, hoe⟩
                have Hve := Lib.hid hve
                have hec := hre.count
                have hb25 := then_ hb2 hb5
                have hBa5 := hB.trans (hb25.mono hB.size)
                have hL5 := hL.below hb5
                have hb2s := hb2.size
                have hoe5 := hoe.base hb2s
                have hAPe : AP (.slice A' n' c') u11 := fun b h1 h2 => by
                  have h3 := (hoe.row.lt b h1).1
                  have h4 := (hL.row.lt b h2).2
                  omega
                have hAPp : ∀ y ∈ es, AP (.slice y.1.A y.1.n y.1.c) u11 := fun y hy b h1 h2 => by
                  have h3 := ((hoe.pos y hy).lt b h1).1
                  have h4 := (hL.row.lt b h2).2
                  omega
                have hltl : lts.length = k := by have := congrArg List.length HV.out; rwa [lvsR_len, ltV, List.length_map] at this
                have qr5 : w5.cell? (ad.add (2 + 4 * d + 2 * k)) = some (.int .u32 rc) := (hb5.cell (by rw [add_block]; omega)).trans qr
                clear hve hoe hL hb5 qf' qr
                by_cases hn0 : n' = 0
                · have HNK : Hid (¬ OkC at_ cells) := Lib.hid (fun h => by
                    have h1 := (h.2.1 k (by rw [HTT.out]; exact hlt2)).2.n0
                    rw [HRC.out, ← Hve.out, vals, List.length_map, hec] at h1
                    omega)
                  have hn0' : ((n' : Int) == 0) = true := by simp [hn0]
                  clear hre
                  go_wp2
                  go_ret3
                  exact .inr ⟨rfl, HNK.out, hBa5⟩
                have hn0' : ((n' : Int) == 0) = false := by simp [hn0]
                have hn64 : n' ≤ 64 := by have h1 := HMay.out.len; rw [← Hve.out, vals, List.length_map, hec] at h1; omega
                have hn1 : (0 : Int) ≤ (n' : Int) - 1 := by omega
                have hn2 : (n' : Int) - 1 < (n' : Int) := by omega
                have hn3 : ((n' : Int) - 1).toNat = n' - 1 := by omega
                obtain ⟨ae, dl, P, A2, c2, rfl, hbe, hen, e0, e1, _⟩ := hre.at' (i := n' - 1) (by omega)
                have hcap' := hre.row.cap
                have HLD : Hid (lastDoc (decB (segR at_ cells k)).1 = dl) := Lib.hid (by rw [lastDoc, ← Hve.out, vals, List.length_map, hec, ← vals, hen])
                clear hre e1 hen
                by_cases hdl : (d : Int) ≤ dl
                · have HNK : Hid (¬ OkC at_ cells) := Lib.hid (fun h => by
                    have h1 := (h.2.1 k (by rw [HTT.out]; exact hlt2)).2.doc
                    rw [HRC.out, HNN.out] at h1
                    have h2 := HLD.out
                    simp only at h1
                    omega)
                  go_wp2
                  go_ret3
                  exact .inr ⟨rfl, HNK.out, hBa5⟩
                by_cases hr1 : rc < 1
                · have HNK : Hid (¬ OkC at_ cells) := Lib.hid (fun h => by
                    have h1 := (h.2.1 k (by rw [HTT.out]; exact hlt2)).2.r1
                    rw [HRC.out] at h1
                    simp only at h1
                    omega)
                  go_wp2
                  go_ret3
                  exact .inr ⟨rfl, HNK.out, hBa5⟩
                by_cases hr2 : 65535 < rc
                · have HNK : Hid (¬ OkC at_ cells) := Lib.hid (fun h => by
                    have h1 := (h.2.1 k (by rw [HTT.out]; exact hlt2)).2.r2
                    rw [HRC.out] at h1
                    simp only at h1
                    omega)
                  go_wp2
                  go_ret3
                  exact .inr ⟨rfl, HNK.out, hBa5⟩
                have HOKk : Hid (LstOk (nI cells) (lvR at_ cells keyS k)) := Lib.hid (by
                  rw [HRC.out]
                  refine ⟨by show 1 ≤ rc; omega, by show rc ≤ 65535; omega, ?_, ?_, HMay.out⟩
                  · show 0 < (decB (segR at_ cells k)).1.length
                    rw [← Hve.out, vals, List.length_map, hec]
                    omega
                  · show lastDoc (decB (segR at_ cells k)).1 < _
                    rw [HLD.out, HNN.out]
                    omega)
                have HGs : Hid (∀ j, j < k + 1 → GoodR at_ cells j ∧ LstOk (nI cells) (lvR at_ cells keyS j)) := Lib.hid (fun j hj => by
                  by_cases e : j = k
                  · subst e; exact ⟨HGk.out, HOKk.out⟩
                  · exact HG.out j (by omega))
                have HPs : Hid (((t : Nat) : Int) = if k + 1 = 0 then ((hI cells + 2 * tI cells : Nat) : Int) else posR at_ cells (k + 1)) := Lib.hid (by rw [if_neg (by omega), ← to_pos, HTO.out])
                have hb25s := hb25.size
                go_wp2_with (first
                  | (at_builtin; refine wpList_append_oneB (W := w5) rfl (.tmp 209) (.tmp 213) 23 rfl w1.heap.size 47 j0 _ 3 48 Try.underlying23 hj0 hy0 hy1 hy2 rfl (by omega) _ lts.length _ [.string ByteArray.empty, .int .i64 rc, .slice (some ae) n' c'] rfl hL5.row rfl rfl (by intro u hu; simp only [List.mem_cons, List.mem_nil_iff, or_false] at hu; rcases hu with rfl | rfl | rfl <;> rfl) (by omega) (by omega) hb25s ?_; intro v7 w7 hown7 hg7 hv7))
                have hL7 := hL5.snoc ⟨ByteArray.empty, rc, ⟨some ae, n', c'⟩, es⟩ hoe5 hec.symm hce (by show (0 : Nat) ≤ _; omega) hAPe hAPp hown7 hg7 _ (Nat.le_succ _) hv7
                have hb27 : Below w1.heap.size w1 w7 := below_grown hb25 hL5.row (Nat.le_refl _) hb25s hg7
                have hVs : Hid (ltV (lts ++ [⟨ByteArray.empty, rc, ⟨some ae, n', c'⟩, es⟩]) = lvsR at_ cells noKey (k + 1)) := Lib.hid (by rw [ltV_snoc, lvsR_snoc, HV.out, HRC.out, Hve.out]; rfl)
                have HL7 := Lib.hid hL7
                clear hown7 hL7 qr5 hL5 hoe5 hg7 hAPe hAPp e0
                go_wp2
                go_roundw
                case rel => exact ⟨k + 1, _, t, by omega, by go_num, rfl, by omega, HL7.out, hVs, HGs, HPs, HF1, hb27⟩
                case measure => simp [intOf]; omega
              · have HNK : Hid (¬ OkC at_ cells) := Lib.hid (fun h => by have h9 := (h.2.1 k hkT).1.dec; rw [hE] at h9; cases h9)
                rw [hE] at HD
                clear hcut hE hslen hsl hwseg hkT
                go_wp2_with fail
                refine HD.mono ?_
                clear HD
                rintro e w5 ⟨A', n', c', es, rfl, _, _, _, hb5, _⟩
                go_wp2
                go_ret3
                exact .inr ⟨rfl, HNK.out, then_ hBa hb5⟩
            · have hl' : ¬ (k : Int) + 1 < (T : Int) := by omega
              have HTO : Hid (toR at_ cells k = (n : Int)) := Lib.hid (by rw [toR, HTT.out, if_neg hlast, Lx.out])
              have hft0 : (hr : Int) ≤ (n : Int) := by omega
              have htn : (n : Int) ≤ (n : Int) := by omega
              have HSG : Hid (segR at_ cells k = (cells.drop hr).take (n - hr)) := Lib.hid (by rw [segR, HFH.out, HTO.out]; rfl)
              have hkT : k < tI cells := by rw [HTT.out]; exact hlt2
              have hsl := HSL.out k hkT
              have hslen : (segR at_ cells k).length = n - hr := by rw [HSG.out, List.length_take, List.length_drop, Lx.out]; omega
              have hwseg : ∀ x ∈ segR at_ cells k, 0 ≤ x ∧ x < 4294967296 := fun x hx => by rw [HSG.out] at hx; exact Hw.out x (List.mem_of_mem_drop (List.mem_of_mem_take hx))
              have hcut := ((hx.below hBa).cut (k := hr) (by omega)).front (k := n - hr) (by omega)
              rw [show (((ints .u32 cells).drop hr).take (n - hr)) = ints .u32 (segR at_ cells k) from by rw [HSG.out]; simp only [ints, List.map_drop, List.map_take]] at hcut
              have hcf : ¬ c = hr := by omega
              rw [if_neg hcf] at hcut
              have HD := rdecO_any (segR at_ cells k) hwseg _ _ _ wr (hcut.more hBa.size) (by rw [← hslen]; exact hsl)
              rcases decB_err (segR at_ cells k) with hE | hE
              · have HGk : Hid (GoodR at_ cells k) := Lib.hid ⟨by rw [HFH.out]; omega, by rw [HFH.out, HTO.out]; omega, by rw [HTO.out, Lx.out]; omega, hE⟩
                have HMay := Lib.hid (dec_ok hE).1
                rw [hE] at HD
                clear hcut hE hslen hsl hwseg hkT
                go_wp2_with fail
                refine HD.mono ?_
                clear HD
                rintro e w5 ⟨A', n', c', es, rfl, hre, hce, hve, hb5, hoe⟩
                have Hve := Lib.hid hve
                have hec := hre.count
                have hb25 := then_ hb2 hb5
                have hBa5 := hB.trans (hb25.mono hB.size)
                have hL5 := hL.below hb5
                have hb2s := hb2.size
                have hoe5 := hoe.base hb2s
                have hAPe : AP (.slice A' n' c') u11 := fun b h1 h2 => by
                  have h3 := (hoe.row.lt b h1).1
                  have h4 := (hL.row.lt b h2).2
                  omega
                have hAPp : ∀ y ∈ es, AP (.slice y.1.A y.1.n y.1.c) u11 := fun y hy b h1 h2 => by
                  have h3 := ((hoe.pos y hy).lt b h1).1
                  have h4 := (hL.row.lt b h2).2
                  omega
                have hltl : lts.length = k := by have := congrArg List.length HV.out; rwa [lvsR_len, ltV, List.length_map] at this
                have qr5 : w5.cell? (ad.add (2 + 4 * d + 2 * k)) = some (.int .u32 rc) := (hb5.cell (by rw [add_block]; omega)).trans qr
                clear hve hoe hL hb5 qf' qr
                by_cases hn0 : n' = 0
                · have HNK : Hid (¬ OkC at_ cells) := Lib.hid (fun h => by
                    have h1 := (h.2.1 k (by rw [HTT.out]; exact hlt2)).2.n0
                    rw [HRC.out, ← Hve.out, vals, List.length_map, hec] at h1
                    omega)
                  have hn0' : ((n' : Int) == 0) = true := by simp [hn0]
                  clear hre
                  go_wp2
                  go_ret3
                  exact .inr ⟨rfl, HNK.out, hBa5⟩
                have hn0' : ((n' : Int) == 0) = false := by simp [hn0]
                have hn64 : n' ≤ 64 := by have h1 := HMay.out.len; rw [← Hve.out, vals, List.length_map, hec] at h1; omega
                have hn1 : (0 : Int) ≤ (n' : Int) - 1 := by omega
                have hn2 : (n' : Int) - 1 < (n' : Int) := by omega
                have hn3 : ((n' : Int) - 1).toNat = n' - 1 := by omega
                obtain ⟨ae, dl, P, A2, c2, rfl, hbe, hen, e0, e1, _⟩ := hre.at' (i := n' - 1) (by omega)
                have hcap' := hre.row.cap
                have HLD : Hid (lastDoc (decB (segR at_ cells k)).1 = dl) := Lib.hid (by rw [lastDoc, ← Hve.out, vals, List.length_map, hec, ← vals, hen])
                clear hre e1 hen
                by_cases hdl : (d : Int) ≤ dl
                · have HNK : Hid (¬ OkC at_ cells) := Lib.hid (fun h => by
                    have h1 := (h.2.1 k (by rw [HTT.out]; exact hlt2)).2.doc
                    rw [HRC.out, HNN.out] at h1
                    have h2 := HLD.out
                    simp only at h1
                    omega)
                  go_wp2
                  go_ret3
                  exact .inr ⟨rfl, HNK.out, hBa5⟩
                by_cases hr1 : rc < 1
                · have HNK : Hid (¬ OkC at_ cells) := Lib.hid (fun h => by
                    have h1 := (h.2.1 k (by rw [HTT.out]; exact hlt2)).2.r1
                    rw [HRC.out] at h1
                    simp only at h1
                    omega)
                  go_wp2
                  go_ret3
                  exact .inr ⟨rfl, HNK.out, hBa5⟩
                by_cases hr2 : 65535 < rc
                · have HNK : Hid (¬ OkC at_ cells) := Lib.hid (fun h => by
                    have h1 := (h.2.1 k (by rw [HTT.out]; exact hlt2)).2.r2
                    rw [HRC.out] at h1
                    simp only at h1
                    omega)
                  go_wp2
                  go_ret3
                  exact .inr ⟨rfl, HNK.out, hBa5⟩
                have HOKk : Hid (LstOk (nI cells) (lvR at_ cells keyS k)) := Lib.hid (by
                  rw [HRC.out]
                  refine ⟨by show 1 ≤ rc; omega, by show rc ≤ 65535; omega, ?_, ?_, HMay.out⟩
                  · show 0 < (decB (segR at_ cells k)).1.length
                    rw [← Hve.out, vals, List.length_map, hec]
                    omega
                  · show lastDoc (decB (segR at_ cells k)).1 < _
                    rw [HLD.out, HNN.out]
                    omega)
                have HGs : Hid (∀ j, j < k + 1 → GoodR at_ cells j ∧ LstOk (nI cells) (lvR at_ cells keyS j)) := Lib.hid (fun j hj => by
                  by_cases e : j = k
                  · subst e; exact ⟨HGk.out, HOKk.out⟩
                  · exact HG.out j (by omega))
                have HPs : Hid (((n : Nat) : Int) = if k + 1 = 0 then ((hI cells + 2 * tI cells : Nat) : Int) else posR at_ cells (k + 1)) := Lib.hid (by rw [if_neg (by omega), ← to_pos, HTO.out])
                have hb25s := hb25.size
                go_wp2_with (first
                  | (at_builtin; refine wpList_append_oneB (W := w5) rfl (.tmp 209) (.tmp 213) 23 rfl w1.heap.size 47 j0 _ 3 48 Try.underlying23 hj0 hy0 hy1 hy2 rfl (by omega) _ lts.length _ [.string ByteArray.empty, .int .i64 rc, .slice (some ae) n' c'] rfl hL5.row rfl rfl (by intro u hu; simp only [List.mem_cons, List.mem_nil_iff, or_false] at hu; rcases hu with rfl | rfl | rfl <;> rfl) (by omega) (by omega) hb25s ?_; intro v7 w7 hown7 hg7 hv7))
                have hL7 := hL5.snoc ⟨ByteArray.empty, rc, ⟨some ae, n', c'⟩, es⟩ hoe5 hec.symm hce (by show (0 : Nat) ≤ _; omega) hAPe hAPp hown7 hg7 _ (Nat.le_succ _) hv7
                have hb27 : Below w1.heap.size w1 w7 := below_grown hb25 hL5.row (Nat.le_refl _) hb25s hg7
                have hVs : Hid (ltV (lts ++ [⟨ByteArray.empty, rc, ⟨some ae, n', c'⟩, es⟩]) = lvsR at_ cells noKey (k + 1)) := Lib.hid (by rw [ltV_snoc, lvsR_snoc, HV.out, HRC.out, Hve.out]; rfl)
                have HL7 := Lib.hid hL7
                clear hown7 hL7 qr5 hL5 hoe5 hg7 hAPe hAPp e0
                go_wp2
                go_roundw
                case rel => exact ⟨k + 1, _, n, by omega, by go_num, rfl, by omega, HL7.out, hVs, HGs, HPs, HF1, hb27⟩
                case measure => simp [intOf]; omega
              · have HNK : Hid (¬ OkC at_ cells) := Lib.hid (fun h => by have h9 := (h.2.1 k hkT).1.dec; rw [hE] at h9; cases h9)
                rw [hE] at HD
                clear hcut hE hslen hsl hwseg hkT
                go_wp2_with fail
                refine HD.mono ?_
                clear HD
                rintro e w5 ⟨A', n', c', es, rfl, _, _, _, hb5, _⟩
                go_wp2
                go_ret3
                exact .inr ⟨rfl, HNK.out, then_ hBa hb5⟩
          · have HNK : Hid (¬ OkC at_ cells) := Lib.hid (fun h => by
              by_cases h0 : k = 0
              · have h1 := HP.out
                rw [if_pos h0] at h1
                have h2 := h.2.2
                rw [if_neg (by rw [HTT.out]; omega), ← h0, HF.out] at h2
                omega
              · have h1 := HP.out
                rw [if_neg h0, posR, if_pos (by rw [HTT.out]; exact hlt2), HF.out] at h1
                omega)
            have hfe : (fv != at_ + (hr : Int)) = true := by simp [hfh]
            clear qf qz
            go_wp2
            go_ret3
            exact .inr ⟨rfl, HNK.out, hBa⟩
        · have hlt2' : ¬ (k : Int) < (T : Int) := by omega
          obtain rfl : k = T := by omega
          have hBa := hB.trans (hb2.mono hB.size)
          by_cases hen : hr = n
          · have HOK : Hid (OkC at_ cells) := Lib.hid ⟨HH.out, fun i hi => HG.out i (by rw [HTT.out] at hi; exact hi), by
              split
              · rename_i h0
                have h1 := HP.out
                rw [HTT.out] at h0 h1
                rw [if_pos h0] at h1
                rw [Lx.out]
                omega
              · rename_i h0
                rw [HTT.out] at h0
                exact HF0.out (by omega)⟩
            have hne : ((hr : Int) != (n : Int)) = false := by simp [hen]
            have HOR := Lib.hid (ownsRow_below hownr.out hb2)
            have HLm := Lib.hid (hL.base hB.size)
            clear hL
            go_wp2
            go_ret3
            exact .inl ⟨_, _, rfl, HOK.out, by rw [HNN.out]; exact HOR.out, lts, HLm.out, by rw [HV.out, HTT.out], hBa⟩
          · have HNK : Hid (¬ OkC at_ cells) := Lib.hid (fun h => by
              by_cases h0 : k = 0
              · have h1 := HP.out
                have h2 := h.2.2
                rw [if_pos h0] at h1
                rw [if_pos (by rw [HTT.out]; exact h0), Lx.out] at h2
                rw [HTT.out] at h1
                omega
              · have h1 := HP.out
                rw [if_neg h0, posR, if_neg (by rw [HTT.out]; omega), Lx.out] at h1
                omega)
            have hne : ((hr : Int) != (n : Int)) = true := by simp; omega
            go_wp2
            go_ret3
            exact .inr ⟨rfl, HNK.out, hBa⟩
end Go.Proofs.Ytbbjlijdodnjaaa
