/- The walk of image.Read: printed by wip/bin/gen_imgread.py. -/
import Derived.Test.YtbbjlijdodnjaaaImgReadK
import Derived.Test.YtbbjlijdodnjaaaImgKey
import Derived.Test.YtbbjlijdodnjaaaImgMake
import Derived.Test.YtbbjlijdodnjaaaBlkDec
import Derived.Test.YtbbjlijdodnjaaaBlkEqual
import Derived.Test.YtbbjlijdodnjaaaHand
import Derived.Test.YtbbjlijdodnjaaaStep
namespace Go.Proofs.Ytbbjlijdodnjaaa
open Go.RowKit

set_option maxRecDepth 100000 in
set_option maxHeartbeats 40000000 in
theorem read_any (at_ : Int) (cells : List Int) (hw : ∀ x ∈ cells, 0 ≤ x ∧ x < 4294967296) (A : Option Addr) (n c : Nat) (w : World) (hx : Reads w w.heap.size A n c (ints .u32 cells)) (hn : n ≤ 8000000) (hsegl : ∀ i, i < tI cells → (segR at_ cells i).length ≤ 20000) :
    Calls Try.prog 17 #[.int .i64 at_, .slice A n c] w fun e w' => (∃ (vr vl : Value) (lts : List Lt), e = .returned (.tuple #[vr, vl, .int .i64 0]) ∧ OkP at_ cells ∧ w'.ownsRow w.heap.size 54 4 vr (nI cells) ((rowsR cells (nI cells)).flatMap rwC) ∧ OwnL w' w.heap.size vl lts ∧ ltV lts = lvsR at_ cells noKey (tI cells) ∧ Below w.heap.size w w' ∧ AP vr vl) ∨ (e = .returned (.tuple #[.slice none 0 0, .slice none 0 0, .int .i64 11]) ∧ ¬ OkP at_ cells ∧ Below w.heap.size w w') := by
  obtain ⟨i0, hi0, hz0, hz1, hz2⟩ := info_parts info_row
  obtain ⟨j0, hj0, hy0, hy1, hy2⟩ := info_parts info_list
  have lx : cells.length = n := by simpa using hx.len
  have Lx := Lib.hid lx
  have hcap := hx.cap
  have hr0 := cD_range hw 0
  have hr1 := cD_range hw 1
  by_cases g0 : at_ < 0
  · have HN : Hid (¬ OkP at_ cells) := Lib.hid (fun h => by have := h.1.a0; omega)
    go_enter Try.func17, Try.ntmps17
    go_wp2
    go_ret3
    exact .inr ⟨rfl, HN.out, Below.refl _ _⟩
  by_cases g1 : 65536 < at_
  · have HN : Hid (¬ OkP at_ cells) := Lib.hid (fun h => by have := h.1.a1; omega)
    go_enter Try.func17, Try.ntmps17
    go_wp2
    go_ret3
    exact .inr ⟨rfl, HN.out, Below.refl _ _⟩
  by_cases g2 : n < 2
  · have HN : Hid (¬ OkP at_ cells) := Lib.hid (fun h => by have := h.1.l2; omega)
    have g2' : (n : Int) < 2 := by omega
    go_enter Try.func17, Try.ntmps17
    go_wp2
    go_ret3
    exact .inr ⟨rfl, HN.out, Below.refl _ _⟩
  have g2' : ¬ (n : Int) < 2 := by omega
  obtain ⟨ad, rfl, hab, q0⟩ := hx.cD_ 0 (by omega)
  obtain ⟨ad', e, _, q1⟩ := hx.cD_ 1 (by omega)
  injection e with e
  subst e
  have q0 : w.cell? ad = some (.int .u32 (cD cells 0)) := by simpa [Addr.add] using q0
  have q1 := cell_form q0 1 q1
  by_cases g3 : cD cells 0 < 1
  · have HN : Hid (¬ OkP at_ cells) := Lib.hid (fun h => by have := h.1.c0; omega)
    generalize cD cells 0 = x0 at *
    go_enter Try.func17, Try.ntmps17
    go_wp2
    go_ret3
    exact .inr ⟨rfl, HN.out, Below.refl _ _⟩
  by_cases g4 : 65 < cD cells 0
  · have HN : Hid (¬ OkP at_ cells) := Lib.hid (fun h => by have := h.1.c0'; omega)
    generalize cD cells 0 = x0 at *
    go_enter Try.func17, Try.ntmps17
    go_wp2
    go_ret3
    exact .inr ⟨rfl, HN.out, Below.refl _ _⟩
  by_cases g5 : 256 < cD cells 1
  · have HN : Hid (¬ OkP at_ cells) := Lib.hid (fun h => by have := h.1.c1; omega)
    generalize cD cells 0 = x0 at *
    generalize cD cells 1 = x1 at *
    go_enter Try.func17, Try.ntmps17
    go_wp2
    go_ret3
    exact .inr ⟨rfl, HN.out, Below.refl _ _⟩
  obtain ⟨N, hN⟩ : ∃ N, nI cells = N := ⟨_, rfl⟩
  obtain ⟨T, hT⟩ : ∃ T, tI cells = T := ⟨_, rfl⟩
  have e0 : cD cells 0 = (N : Int) + 1 := by rw [← hN, nI]; omega
  have e1 : cD cells 1 = (T : Int) := by rw [← hT, tI]; omega
  have hN64 : N ≤ 64 := by omega
  have hT256 : T ≤ 256 := by omega
  rw [e0] at q0
  rw [e1] at q1
  have HNN := Lib.hid hN
  have HTT := Lib.hid hT
  have E0 := Lib.hid e0
  have E1 := Lib.hid e1
  by_cases g6 : n < 2 + 4 * N + 2 * T
  · have HN : Hid (¬ OkP at_ cells) := Lib.hid (fun h => by have := h.1.len; rw [hI, hN, hT] at this; omega)
    have g6' : (n : Int) < 2 + 4 * (N : Int) + 2 * (T : Int) := by omega
    clear e0 e1 hN hT g3 g4 g5 hr0 hr1
    go_enter Try.func17, Try.ntmps17
    go_wp2_with fail
    go_quiet (fail)
    go_wp2
    go_ret3
    exact .inr ⟨rfl, HN.out, below_drewN (Below.refl _ _) _⟩
  have g6' : ¬ (n : Int) < 2 + 4 * (N : Int) + 2 * (T : Int) := by omega
  have HH : Hid (HeadR at_ cells) := Lib.hid ⟨by omega, by omega, by omega, by omega, by omega, by omega, by rw [hI, hN, hT]; omega⟩
  clear e0 e1 hN hT g3 g4 g5 hr0 hr1
  go_enter Try.func17, Try.ntmps17
  go_wp2_with fail
  go_quiet (fail)
  go_wp2_with fail
  go_loopw [10, 71] (fun rows i wr => ∃ d : Nat, d ≤ N ∧ i = .int .i64 (d : Int) ∧ wr.ownsRow w.heap.size 54 4 rows d ((rowsR cells d).flatMap rwC) ∧ Below w.heap.size w wr) (fun _ i _ => N - (intOf i).toNat)
  case atStart => exact ⟨0, by omega, rfl, World.ownsRow_nil _ _ _ _, below_drewN (Below.refl _ _) _⟩
  case round =>
    obtain ⟨d, hd, rfl, hown, hB⟩ := hrel
    by_cases hlt : d < N
    · have hlt' : (d : Int) < (N : Int) := by omega
      have hd0 : (0 : Int) ≤ (d : Int) := by omega
      obtain ⟨ad', e, _, r0, r1, r2, r3⟩ := (hx.below hB).four (2 + 4 * d) (by omega)
      injection e with e
      subst e
      have hcd : ¬ c = 2 + 4 * d := by omega
      have hcd' : ¬ (c : Int) = 2 + 4 * (d : Int) := by omega
      have hdn : (2 + 4 * (d : Int)) ≤ (n : Int) := by omega
      have hdc : (2 + 4 * (d : Int)) ≤ (c : Int) := by omega
      have hBs := hB.size
      have hbra : (ad.add (2 + 4 * d)).block < wr.heap.size := by rw [add_block]; omega
      have hbrw : (ad.add (2 + 4 * d)).block < w.heap.size := by rw [add_block]; omega
      have HRS := Lib.hid (rowsR_snoc cells d)
      have HRW : Hid (rowR cells d = (cD cells (2 + 4 * d), cD cells (2 + 4 * d + 1), cD cells (2 + 4 * d + 2), cD cells (2 + 4 * d + 3))) := Lib.hid (by rw [rowR, show 3 + 4 * d = 2 + 4 * d + 1 from by omega, show 4 + 4 * d = 2 + 4 * d + 2 from by omega, show 5 + 4 * d = 2 + 4 * d + 3 from by omega])
      generalize cD cells (2 + 4 * d) = x0 at *
      generalize cD cells (2 + 4 * d + 1) = x1 at *
      generalize cD cells (2 + 4 * d + 2) = x2 at *
      generalize cD cells (2 + 4 * d + 3) = x3 at *
      have hb0 : 0 < n - (2 + 4 * d) := by omega
      have hb1 : (1 : Int) < ((n - (2 + 4 * d) : Nat) : Int) := by omega
      have hb2 : (2 : Int) < ((n - (2 + 4 * d) : Nat) : Int) := by omega
      have hb3 : (3 : Int) < ((n - (2 + 4 * d) : Nat) : Int) := by omega
      go_wp2_with fail
      refine wp_region_open (S := (fun w' : World => w'.cell? (ad.add (2 + 4 * d)) = some (.int .u32 x0) ∧ w'.cell? ⟨(ad.add (2 + 4 * d)).block, (ad.add (2 + 4 * d)).off + 1, none⟩ = some (.int .u32 x1) ∧ w'.cell? ⟨(ad.add (2 + 4 * d)).block, (ad.add (2 + 4 * d)).off + 2, none⟩ = some (.int .u32 x2) ∧ w'.cell? ⟨(ad.add (2 + 4 * d)).block, (ad.add (2 + 4 * d)).off + 3, none⟩ = some (.int .u32 x3))) #[false, false, false, false, false, false, false, false, false, false, false, false, false, false, false, false, false] 17 (by kernel_rfl) (by kernel_rfl) rfl (⟨r0, r1, r2, r3⟩) (fun hHeld => ?_)
      refine tk (i := 0) (v := ?_) rfl (by kernel_rfl) (by kernel_rfl) (by kernel_rfl) (Or.inl ⟨by rfl, ?_⟩) (by assumption) ?_; rotate_left 1
      · intro w hSw; (try dsimp only at hSw); go_simp; try with_reducible rfl
      try simp only [Act.put, List.getElem_toArray, List.getElem_cons_zero, List.setIfInBounds_toArray, List.set_cons_zero, List.set_cons_succ]
      refine tk (i := 1) (v := ?_) rfl (by kernel_rfl) (by kernel_rfl) (by kernel_rfl) (Or.inl ⟨by rfl, ?_⟩) (by assumption) ?_; rotate_left 1
      · intro w hSw; (try dsimp only at hSw); go_simp; try with_reducible rfl
      try simp only [Act.put, List.getElem_toArray, List.getElem_cons_zero, List.getElem_cons_succ, List.setIfInBounds_toArray, List.set_cons_zero, List.set_cons_succ]
      refine tk (i := 2) (v := ?_) rfl (by kernel_rfl) (by kernel_rfl) (by kernel_rfl) (Or.inl ⟨by rfl, ?_⟩) (by assumption) ?_; rotate_left 1
      · intro w hSw; (try dsimp only at hSw); go_simp; try with_reducible rfl
      try simp only [Act.put, List.getElem_toArray, List.getElem_cons_zero, List.getElem_cons_succ, List.setIfInBounds_toArray, List.set_cons_zero, List.set_cons_succ]
      refine tk (i := 3) (v := ?_) rfl (by kernel_rfl) (by kernel_rfl) (by kernel_rfl) (Or.inl ⟨by rfl, ?_⟩) (by assumption) ?_; rotate_left 1
      · intro w hSw; (try dsimp only at hSw); go_simp; try with_reducible rfl
      try simp only [Act.put, List.getElem_toArray, List.getElem_cons_zero, List.getElem_cons_succ, List.setIfInBounds_toArray, List.set_cons_zero, List.set_cons_succ]
      refine tk (i := 4) (v := ?_) rfl (by kernel_rfl) (by kernel_rfl) (by kernel_rfl) (Or.inl ⟨by rfl, ?_⟩) (by assumption) ?_; rotate_left 1
      · intro w hSw; (try dsimp only at hSw); go_simp; try with_reducible rfl
      try simp only [Act.put, List.getElem_toArray, List.getElem_cons_zero, List.getElem_cons_succ, List.setIfInBounds_toArray, List.set_cons_zero, List.set_cons_succ]
      refine tk (i := 5) (v := ?_) rfl (by kernel_rfl) (by kernel_rfl) (by kernel_rfl) (Or.inl ⟨by rfl, ?_⟩) (by assumption) ?_; rotate_left 1
      · intro w hSw; (try dsimp only at hSw); go_simp; try with_reducible rfl
      try simp only [Act.put, List.getElem_toArray, List.getElem_cons_zero, List.getElem_cons_succ, List.setIfInBounds_toArray, List.set_cons_zero, List.set_cons_succ]
      refine tk (i := 6) (v := ?_) rfl (by kernel_rfl) (by kernel_rfl) (by kernel_rfl) (Or.inl ⟨by rfl, ?_⟩) (by assumption) ?_; rotate_left 1
      · intro w hSw; (try dsimp only at hSw); go_simp; try with_reducible rfl
      try simp only [Act.put, List.getElem_toArray, List.getElem_cons_zero, List.getElem_cons_succ, List.setIfInBounds_toArray, List.set_cons_zero, List.set_cons_succ]
      refine tk (i := 7) (v := ?_) rfl (by kernel_rfl) (by kernel_rfl) (by kernel_rfl) (Or.inl ⟨by rfl, ?_⟩) (by assumption) ?_; rotate_left 1
      · intro w hSw; (try dsimp only at hSw); go_simp; try with_reducible rfl
      try simp only [Act.put, List.getElem_toArray, List.getElem_cons_zero, List.getElem_cons_succ, List.setIfInBounds_toArray, List.set_cons_zero, List.set_cons_succ]
      refine tk (i := 8) (v := ?_) rfl (by kernel_rfl) (by kernel_rfl) (by kernel_rfl) (Or.inl ⟨by rfl, ?_⟩) (by assumption) ?_; rotate_left 1
      · intro w hSw; (try dsimp only at hSw); go_simp; try with_reducible rfl
      try simp only [Act.put, List.getElem_toArray, List.getElem_cons_zero, List.getElem_cons_succ, List.setIfInBounds_toArray, List.set_cons_zero, List.set_cons_succ]
      refine tk (i := 9) (v := ?_) rfl (by kernel_rfl) (by kernel_rfl) (by kernel_rfl) (Or.inl ⟨by rfl, ?_⟩) (by assumption) ?_; rotate_left 1
      · intro w hSw; (try dsimp only at hSw); go_simp; try with_reducible rfl
      try simp only [Act.put, List.getElem_toArray, List.getElem_cons_zero, List.getElem_cons_succ, List.setIfInBounds_toArray, List.set_cons_zero, List.set_cons_succ]
      refine tk (i := 10) (v := ?_) rfl (by kernel_rfl) (by kernel_rfl) (by kernel_rfl) (Or.inl ⟨by rfl, ?_⟩) (by assumption) ?_; rotate_left 1
      · intro w hSw; (try dsimp only at hSw); go_simp; try with_reducible rfl
      try simp only [Act.put, List.getElem_toArray, List.getElem_cons_zero, List.getElem_cons_succ, List.setIfInBounds_toArray, List.set_cons_zero, List.set_cons_succ]
      refine tk (i := 11) (v := ?_) rfl (by kernel_rfl) (by kernel_rfl) (by kernel_rfl) (Or.inl ⟨by rfl, ?_⟩) (by assumption) ?_; rotate_left 1
      · intro w hSw; (try dsimp only at hSw); go_simp; try with_reducible rfl
      try simp only [Act.put, List.getElem_toArray, List.getElem_cons_zero, List.getElem_cons_succ, List.setIfInBounds_toArray, List.set_cons_zero, List.set_cons_succ]
      refine tk (i := 12) (v := ?_) rfl (by kernel_rfl) (by kernel_rfl) (by kernel_rfl) (Or.inl ⟨by rfl, ?_⟩) (by assumption) ?_; rotate_left 1
      · intro w hSw; (try dsimp only at hSw); go_simp; try with_reducible rfl
      try simp only [Act.put, List.getElem_toArray, List.getElem_cons_zero, List.getElem_cons_succ, List.setIfInBounds_toArray, List.set_cons_zero, List.set_cons_succ]
      refine tk (i := 13) (v := ?_) rfl (by kernel_rfl) (by kernel_rfl) (by kernel_rfl) (Or.inl ⟨by rfl, ?_⟩) (by assumption) ?_; rotate_left 1
      · intro w hSw; (try dsimp only at hSw); go_simp; try with_reducible rfl
      try simp only [Act.put, List.getElem_toArray, List.getElem_cons_zero, List.getElem_cons_succ, List.setIfInBounds_toArray, List.set_cons_zero, List.set_cons_succ]
      refine wpAnyH_ready (rs := [14]) (by kernel_rfl) (by simp) ?_
      refine AllReadyH.cons (o := _) rfl (fun K hK => ?_) AllReadyH.nil
      go_simp
      refine hK.out _ _ ⟨(World.cell?_alloc_lt _ _ _ (by exact hbra)).trans r0, (World.cell?_alloc_lt _ _ _ (by exact hbra)).trans r1, (World.cell?_alloc_lt _ _ _ (by exact hbra)).trans r2, (World.cell?_alloc_lt _ _ _ (by exact hbra)).trans r3⟩ (fun hHeld => ?_)
      clear hK K
      try simp only [List.setIfInBounds_toArray, List.set_cons_zero, List.set_cons_succ]
      refine wpAnyH_ready (rs := [15]) (by kernel_rfl) (by simp) ?_
      refine AllReadyH.cons (o := _) rfl (fun K hK => ?_) AllReadyH.nil
      refine step_append_oneB (W := wr.drew) rfl (.tmp 79) (.tmp 93) 22 rfl w.heap.size 54 i0 _ 4 16 Try.underlying22 hi0 hz0 hz1 hz2 rfl (by omega) _ d _ [.int .u32 x0, .int .u32 x1, .int .u32 x2, .int .u32 x3] rfl hown rfl rfl (by intro u hu; simp only [List.mem_cons, List.mem_nil_iff, or_false] at hu; rcases hu with rfl | rfl | rfl | rfl <;> rfl) (by omega) (by omega) hBs ?_
      intro v3 w3 hown3 hg3 _
      have hB3 : Below w.heap.size w w3 := below_grown hB.drew hown (Nat.le_refl _) hBs hg3
      refine hK.out _ _ ⟨(hB3.cell (by exact hbrw)).trans ((hB.cell (by exact hbrw)).symm.trans r0), (hB3.cell (by exact hbrw)).trans ((hB.cell (by exact hbrw)).symm.trans r1), (hB3.cell (by exact hbrw)).trans ((hB.cell (by exact hbrw)).symm.trans r2), (hB3.cell (by exact hbrw)).trans ((hB.cell (by exact hbrw)).symm.trans r3)⟩ (fun hHeld => ?_)
      clear hK K
      try simp only [List.setIfInBounds_toArray, List.set_cons_zero, List.set_cons_succ]
      refine tk (i := 16) (v := ?_) rfl (by kernel_rfl) (by kernel_rfl) (by kernel_rfl) (Or.inl ⟨by rfl, ?_⟩) (by assumption) ?_; rotate_left 1
      · intro w hSw; (try dsimp only at hSw); go_simp; try with_reducible rfl
      try simp only [Act.put, List.getElem_toArray, List.getElem_cons_zero, List.getElem_cons_succ, List.setIfInBounds_toArray, List.set_cons_zero, List.set_cons_succ]
      refine wpAnyH_done (by kernel_rfl) ?_ _
      refine NoPanic.normal ?_
      have Hown3 : Hid (w3.ownsRow w.heap.size 54 4 v3 (d + 1) ((rowsR cells (d + 1)).flatMap rwC)) := Lib.hid (by
        rw [HRS.out, HRW.out, List.flatMap_append]
        exact hown3)
      clear hown3 hHeld r0 r1 r2 r3 hb0 hb1 hb2 hb3
      go_wp2
      go_roundw
      case rel => exact ⟨d + 1, by omega, by go_num, Hown3.out, hB3⟩
      case measure => simp [intOf]; omega
    · have hlt' : ¬ (d : Int) < (N : Int) := by omega
      obtain rfl : d = N := by omega
      obtain ⟨A0, c0, rfl, hrr, hc0, _⟩ := ReadsK.of_own hown
      have hownr := Lib.hid hown
      have HSL := Lib.hid hsegl
      have Hw := Lib.hid hw
      obtain ⟨w1, hw1⟩ : ∃ w1, w1 = wr := ⟨_, rfl⟩
      subst hw1
      clear hown hsegl hw q0 q1
      go_wp2_with fail
      go_loopw [13, 97] (fun lists i wr2 => ∃ (k : Nat) (lts : List Lt), k ≤ T ∧ i = .int .i64 (k : Int) ∧ OwnL wr2 w1.heap.size lists lts ∧ Hid (ltV lts = lvsR at_ cells keyS k) ∧ Hid (∀ j, j < k → GoodR at_ cells j) ∧ Below w1.heap.size w1 wr2) (fun _ i _ => T - (intOf i).toNat)
      case atStart => exact ⟨0, [], by omega, rfl, OwnL.nil_ _ _, Lib.hid (by simp [ltV, lvsR]), Lib.hid (fun j hj => by omega), Below.refl _ _⟩
      case round =>
        obtain ⟨k, lts, hk, rfl, hL, HV, HG, hb2⟩ := hrel
        by_cases hlt2 : k < T
        · have hlt2' : (k : Int) < (T : Int) := by omega
          have hk0 : (0 : Int) ≤ (k : Int) := by omega
          have hBa := hB.trans (hb2.mono hB.size)
          obtain ⟨ad', e, _, qf⟩ := (hx.below hBa).cD_ (2 + 4 * d + 2 * k + 1) (by omega)
          injection e with e
          subst e
          obtain ⟨ad', e, _, qr⟩ := (hx.below hBa).cD_ (2 + 4 * d + 2 * k) (by omega)
          injection e with e
          subst e
          obtain ⟨ad', e, _, qz⟩ := (hx.below hBa).cD_ 0 (by omega)
          injection e with e
          subst e
          have qz : _ = some _ := qz
          have qf' := cell_form (p := ad) (by simpa [Addr.add] using qz) (2 + 4 * d + 2 * k + 1) qf
          have hfr := cD_range Hw.out (2 + 4 * d + 2 * k + 1)
          have hrr' := cD_range Hw.out (2 + 4 * d + 2 * k)
          have HF : Hid (fromR at_ cells k = cD cells (2 + 4 * d + 2 * k + 1) - at_) := Lib.hid (by rw [fromR, hI, HNN.out])
          have HRC : Hid (∀ key, lvR at_ cells key k = (key k, cD cells (2 + 4 * d + 2 * k), (decB (segR at_ cells k)).1)) := Lib.hid (fun key => by rw [lvR, hI, HNN.out])
          generalize cD cells (2 + 4 * d + 2 * k + 1) = fv at *
          generalize cD cells (2 + 4 * d + 2 * k) = rc at *
          by_cases hF0 : fv - at_ < 0
          · have HNK : Hid (¬ OkP at_ cells) := Lib.hid (fun h => by have := (h.2.1 k (by rw [HTT.out]; exact hlt2)).f0; rw [HF.out] at this; omega)
            by_cases hlast : k + 1 < T
            · have hl' : (k : Int) < (T : Int) - 1 := by omega
              obtain ⟨ad', e, _, qt⟩ := (hx.below hBa).cD_ (2 + 4 * d + 2 * k + 2 + 1) (by omega)
              injection e with e
              subst e
              have qt' := cell_form (p := ad) (by simpa [Addr.add] using qz) (2 + 4 * d + 2 * k + 2 + 1) qt
              have htr := cD_range Hw.out (2 + 4 * d + 2 * k + 2 + 1)
              generalize cD cells (2 + 4 * d + 2 * k + 2 + 1) = tv at *
              clear qz
              go_wp2
              go_ret3
              exact .inr ⟨rfl, HNK.out, hBa⟩
            · have hl' : ¬ (k : Int) < (T : Int) - 1 := by omega
              clear qz
              go_wp2
              go_ret3
              exact .inr ⟨rfl, HNK.out, hBa⟩
          obtain ⟨f, hf⟩ : ∃ f : Nat, fv = (f : Int) + at_ := ⟨(fv - at_).toNat, by omega⟩
          subst hf
          have hfa : (f : Int) + at_ - at_ = (f : Int) := by omega
          rw [hfa] at HF
          by_cases hlast : k + 1 < T
          · have hl' : (k : Int) < (T : Int) - 1 := by omega
            obtain ⟨ad', e, _, qt⟩ := (hx.below hBa).cD_ (2 + 4 * d + 2 * k + 2 + 1) (by omega)
            injection e with e
            subst e
            have qt' := cell_form (p := ad) (by simpa [Addr.add] using qz) (2 + 4 * d + 2 * k + 2 + 1) qt
            have htr := cD_range Hw.out (2 + 4 * d + 2 * k + 2 + 1)
            have HTO : Hid (toR at_ cells k = cD cells (2 + 4 * d + 2 * k + 2 + 1) - at_) := Lib.hid (by rw [toR, HTT.out, if_pos hlast, fromR, hI, HNN.out, show 2 + 4 * d + 2 * (k + 1) + 1 = 2 + 4 * d + 2 * k + 2 + 1 from by omega])
            generalize cD cells (2 + 4 * d + 2 * k + 2 + 1) = tv at *
            clear qz
            by_cases hT0 : tv - at_ < (f : Int)
            · have HNK : Hid (¬ OkP at_ cells) := Lib.hid (fun h => by have := (h.2.1 k (by rw [HTT.out]; exact hlt2)).ft; rw [HF.out, HTO.out] at this; omega)
              go_wp2
              go_ret3
              exact .inr ⟨rfl, HNK.out, hBa⟩
            obtain ⟨t, ht⟩ : ∃ t : Nat, tv = (t : Int) + at_ := ⟨(tv - at_).toNat, by omega⟩
            subst ht
            have hta : (t : Int) + at_ - at_ = (t : Int) := by omega
            rw [hta] at HTO
            by_cases hT1 : n < t
            · have HNK : Hid (¬ OkP at_ cells) := Lib.hid (fun h => by have := (h.2.1 k (by rw [HTT.out]; exact hlt2)).tl; rw [HTO.out, Lx.out] at this; omega)
              have hT1' : (n : Int) < (t : Int) := by omega
              go_wp2
              go_ret3
              exact .inr ⟨rfl, HNK.out, hBa⟩
            have hft0 : (f : Int) ≤ (t : Int) := by omega
            have htn : (t : Int) ≤ (n : Int) := by omega
            have HSG : Hid (segR at_ cells k = (cells.drop f).take (t - f)) := Lib.hid (by rw [segR, HF.out, HTO.out]; rfl)
            have hkT : k < tI cells := by rw [HTT.out]; exact hlt2
            have hsl := HSL.out k hkT
            have hslen : (segR at_ cells k).length = t - f := by rw [HSG.out, List.length_take, List.length_drop, Lx.out]; omega
            have hwseg : ∀ x ∈ segR at_ cells k, 0 ≤ x ∧ x < 4294967296 := fun x hx => by rw [HSG.out] at hx; exact Hw.out x (List.mem_of_mem_drop (List.mem_of_mem_take hx))
            have hcut := ((hx.below hBa).cut (k := f) (by omega)).front (k := t - f) (by omega)
            rw [show (((ints .u32 cells).drop f).take (t - f)) = ints .u32 (segR at_ cells k) from by rw [HSG.out]; simp only [ints, List.map_drop, List.map_take]] at hcut
            by_cases hcf : c = f
            · have HSN : segR at_ cells k = [] := List.eq_nil_of_length_eq_zero (by rw [hslen]; omega)
              have hnd : ¬ (decB (segR at_ cells k)).2 = 0 := fun h9 => by
                have h8 := congrArg List.length (dec_ok h9).2
                rw [HSN, encL_len] at h8
                simp at h8
              have HNK : Hid (¬ OkP at_ cells) := Lib.hid (fun h => hnd (h.2.1 k hkT).dec)
              have hE11 := (decB_err (segR at_ cells k)).resolve_left hnd
              rw [if_pos hcf] at hcut
              have HD := decO_any (segR at_ cells k) hwseg _ _ _ wr (hcut.more hBa.size) (by rw [← hslen]; exact hsl)
              rw [hE11] at HD
              clear hcut hE11 hnd HSN hslen hsl hwseg hkT
              have hnf : f = n := by omega
              have htf : t = n := by omega
              rw [show t - f = 0 from by omega, show c - f = 0 from by omega] at HD
              subst hcf
              try subst htf
              subst hnf
              go_wp2_with fail
              refine HD.mono ?_
              clear HD
              rintro e w5 ⟨A', n', c', es, rfl, _, _, _, hb5, _⟩
              go_wp2
              go_ret3
              exact .inr ⟨rfl, HNK.out, then_ hBa hb5⟩
            rw [if_neg hcf] at hcut
            have HD := decO_any (segR at_ cells k) hwseg _ _ _ wr (hcut.more hBa.size) (by rw [← hslen]; exact hsl)
            rcases decB_err (segR at_ cells k) with hE | hE
            · have HGk : Hid (GoodR at_ cells k) := Lib.hid ⟨by rw [HF.out]; omega, by rw [HF.out, HTO.out]; omega, by rw [HTO.out, Lx.out]; omega, hE⟩
              have HGs : Hid (∀ j, j < k + 1 → GoodR at_ cells j) := Lib.hid (fun j hj => by
                by_cases e : j = k
                · subst e; exact HGk.out
                · exact HG.out j (by omega))
              rw [hE] at HD
              clear hcut hE hslen hsl hwseg hkT
              go_wp2_with fail
              refine HD.mono ?_
              clear HD
              rintro e w5 ⟨A', n', c', es, rfl, hre, hce, hve, hb5, hoe⟩
              have Hve := Lib.hid hve
              have hec := hre.count
              have hb25 := then_ hb2 hb5
              have hBa5 := hB.trans (hb25.mono hB.size)
              have hL5 := hL.below hb5
              have hb2s := hb2.size
              have hoe5 := hoe.base hb2s
              have hAPe : AP (.slice A' n' c') u13 := fun b h1 h2 => by
                have h3 := (hoe.row.lt b h1).1
                have h4 := (hL.row.lt b h2).2
                omega
              have hAPp : ∀ y ∈ es, AP (.slice y.1.A y.1.n y.1.c) u13 := fun y hy b h1 h2 => by
                have h3 := ((hoe.pos y hy).lt b h1).1
                have h4 := (hL.row.lt b h2).2
                omega
              have HL := Lib.hid hL.row.1
              have hltl : lts.length = k := by have := congrArg List.length HV.out; rwa [lvsR_len, ltV, List.length_map] at this
              have qr5 : w5.cell? (ad.add (2 + 4 * d + 2 * k)) = some (.int .u32 rc) := (hb5.cell (by rw [add_block]; have := hBa.size; omega)).trans qr
              have hrcb : (ad.add (2 + 4 * d + 2 * k)).block < w.heap.size := by rw [add_block]; assumption
              have hBa5s := hBa5.size
              have hb25s := hb25.size
              have hw1 : IntKind.i64.wrap (2 * (k : Int)) = 2 * (k : Int) := IntWalk.i64_in _ (by omega)
              have hw2 : IntKind.i64.wrap (2 + 4 * (d : Int) + 2 * (k : Int)) = 2 + 4 * (d : Int) + 2 * (k : Int) := IntWalk.i64_in _ (by omega)
              have hw6 : IntKind.i64.wrap rc = rc := IntWalk.i64_in _ (by omega)
              have hw3 : 0 ≤ 2 + 4 * (d : Int) + 2 * (k : Int) := by omega
              have hw4 : 2 + 4 * (d : Int) + 2 * (k : Int) < (n : Int) := by omega
              have hw5 : (2 + 4 * (d : Int) + 2 * (k : Int)).toNat = 2 + 4 * d + 2 * k := by omega
              clear hre hve hoe hL hb5 qf qf' qr
              go_wp2_with fail
              refine wp_region_open (S := (fun w' : World => w'.cell? (ad.add (2 + 4 * d + 2 * k)) = some (.int .u32 rc))) #[false, false, false, false, false, false, false, false, false, false, false, false, false, false, false, false] 16 (by kernel_rfl) (by kernel_rfl) rfl (qr5) (fun hHeld => ?_)
              refine tk (i := 0) (v := ?_) rfl (by kernel_rfl) (by kernel_rfl) (by kernel_rfl) (Or.inl ⟨by rfl, ?_⟩) (by assumption) ?_; rotate_left 1
              · intro w hSw; (try dsimp only at hSw); go_simp; try with_reducible rfl
              try simp only [Act.put, List.getElem_toArray, List.getElem_cons_zero, List.setIfInBounds_toArray, List.set_cons_zero, List.set_cons_succ]
              refine tk (i := 1) (v := ?_) rfl (by kernel_rfl) (by kernel_rfl) (by kernel_rfl) (Or.inl ⟨by rfl, ?_⟩) (by assumption) ?_; rotate_left 1
              · intro w hSw; (try dsimp only at hSw); go_simp; try with_reducible rfl
              try simp only [Act.put, List.getElem_toArray, List.getElem_cons_zero, List.getElem_cons_succ, List.setIfInBounds_toArray, List.set_cons_zero, List.set_cons_succ]
              refine tk (i := 3) (v := ?_) rfl (by kernel_rfl) (by kernel_rfl) (by kernel_rfl) (Or.inl ⟨by rfl, ?_⟩) (by assumption) ?_; rotate_left 1
              · intro w hSw; (try dsimp only at hSw); go_simp; try with_reducible rfl
              try simp only [Act.put, List.getElem_toArray, List.getElem_cons_zero, List.getElem_cons_succ, List.setIfInBounds_toArray, List.set_cons_zero, List.set_cons_succ]
              refine tk (i := 4) (v := ?_) rfl (by kernel_rfl) (by kernel_rfl) (by kernel_rfl) (Or.inl ⟨by rfl, ?_⟩) (by assumption) ?_; rotate_left 1
              · intro w hSw; (try dsimp only at hSw); go_simp; try with_reducible rfl
              try simp only [Act.put, List.getElem_toArray, List.getElem_cons_zero, List.getElem_cons_succ, List.setIfInBounds_toArray, List.set_cons_zero, List.set_cons_succ]
              refine tk (i := 5) (v := ?_) rfl (by kernel_rfl) (by kernel_rfl) (by kernel_rfl) (Or.inl ⟨by rfl, ?_⟩) (by assumption) ?_; rotate_left 1
              · intro w hSw; (try dsimp only at hSw); go_simp; try with_reducible rfl
              try simp only [Act.put, List.getElem_toArray, List.getElem_cons_zero, List.getElem_cons_succ, List.setIfInBounds_toArray, List.set_cons_zero, List.set_cons_succ]
              refine tk (i := 6) (v := ?_) rfl (by kernel_rfl) (by kernel_rfl) (by kernel_rfl) (Or.inl ⟨by rfl, ?_⟩) (by assumption) ?_; rotate_left 1
              · intro w hSw; (try dsimp only at hSw); go_simp; try with_reducible rfl
              try simp only [Act.put, List.getElem_toArray, List.getElem_cons_zero, List.getElem_cons_succ, List.setIfInBounds_toArray, List.set_cons_zero, List.set_cons_succ]
              refine tk (i := 7) (v := ?_) rfl (by kernel_rfl) (by kernel_rfl) (by kernel_rfl) (Or.inl ⟨by rfl, ?_⟩) (by assumption) ?_; rotate_left 1
              · intro w hSw; (try dsimp only at hSw); go_simp; try with_reducible rfl
              try simp only [Act.put, List.getElem_toArray, List.getElem_cons_zero, List.getElem_cons_succ, List.setIfInBounds_toArray, List.set_cons_zero, List.set_cons_succ]
              refine tk (i := 8) (v := ?_) rfl (by kernel_rfl) (by kernel_rfl) (by kernel_rfl) (Or.inl ⟨by rfl, ?_⟩) (by assumption) ?_; rotate_left 1
              · intro w hSw; (try dsimp only at hSw); go_simp; try with_reducible rfl
              try simp only [Act.put, List.getElem_toArray, List.getElem_cons_zero, List.getElem_cons_succ, List.setIfInBounds_toArray, List.set_cons_zero, List.set_cons_succ]
              refine tk (i := 9) (v := ?_) rfl (by kernel_rfl) (by kernel_rfl) (by kernel_rfl) (Or.inl ⟨by rfl, ?_⟩) (by assumption) ?_; rotate_left 1
              · intro w hSw; (try dsimp only at hSw); go_simp; try with_reducible rfl
              try simp only [Act.put, List.getElem_toArray, List.getElem_cons_zero, List.getElem_cons_succ, List.setIfInBounds_toArray, List.set_cons_zero, List.set_cons_succ]
              refine tk (i := 10) (v := ?_) rfl (by kernel_rfl) (by kernel_rfl) (by kernel_rfl) (Or.inl ⟨by rfl, ?_⟩) (by assumption) ?_; rotate_left 1
              · intro w hSw; (try dsimp only at hSw); go_simp; try with_reducible rfl
              try simp only [Act.put, List.getElem_toArray, List.getElem_cons_zero, List.getElem_cons_succ, List.setIfInBounds_toArray, List.set_cons_zero, List.set_cons_succ]
              refine tk (i := 11) (v := ?_) rfl (by kernel_rfl) (by kernel_rfl) (by kernel_rfl) (Or.inl ⟨by rfl, ?_⟩) (by assumption) ?_; rotate_left 1
              · intro w hSw; (try dsimp only at hSw); go_simp; try with_reducible rfl
              try simp only [Act.put, List.getElem_toArray, List.getElem_cons_zero, List.getElem_cons_succ, List.setIfInBounds_toArray, List.set_cons_zero, List.set_cons_succ]
              refine wpAnyH_ready (rs := [2]) (by kernel_rfl) (by simp) ?_
              refine AllReadyH.cons (o := _) rfl (fun K hK => ?_) AllReadyH.nil
              go_simp
              go_at_call 25
              refine (key_any k (by omega) _).mono ?_
              rintro e w6 ⟨rfl, hb6⟩
              have hL6 := hL5.drew_.below (w' := w6) hb6
              have hoe6 := hoe5.drew_.below (w' := w6) hb6
              have hb26 : Below w1.heap.size w1 w6 := then_ hb25.drew hb6
              have hBa6 := hB.trans (hb26.mono hB.size)
              have qr6 : w6.cell? (ad.add (2 + 4 * d + 2 * k)) = some (.int .u32 rc) := (hBa6.cell (by exact hrcb)).trans ((hBa5.cell (by exact hrcb)).symm.trans qr5)
              have hb26s := hb26.size
              refine hK.out _ _ qr6 (fun hHeld => ?_)
              clear hK K
              try simp only [List.setIfInBounds_toArray, List.set_cons_zero, List.set_cons_succ]
              refine tk (i := 12) (v := ?_) rfl (by kernel_rfl) (by kernel_rfl) (by kernel_rfl) (Or.inl ⟨by rfl, ?_⟩) (by assumption) ?_; rotate_left 1
              · intro w hSw; (try dsimp only at hSw); go_simp; try with_reducible rfl
              try simp only [Act.put, List.getElem_toArray, List.getElem_cons_zero, List.getElem_cons_succ, List.setIfInBounds_toArray, List.set_cons_zero, List.set_cons_succ]
              refine wpAnyH_ready (rs := [13]) (by kernel_rfl) (by simp) ?_
              refine AllReadyH.cons (o := _) rfl (fun K hK => ?_) AllReadyH.nil
              go_simp
              refine hK.out _ _ ((World.cell?_alloc_lt _ _ _ (by have := hBa6.size; exact Nat.lt_of_lt_of_le hrcb this)).trans qr6) (fun hHeld => ?_)
              clear hK K
              try simp only [List.setIfInBounds_toArray, List.set_cons_zero, List.set_cons_succ]
              refine wpAnyH_ready (rs := [14]) (by kernel_rfl) (by simp) ?_
              refine AllReadyH.cons (o := _) rfl (fun K hK => ?_) AllReadyH.nil
              refine step_append_oneB (W := w6) rfl (.tmp 152) (.tmp 165) 23 rfl w1.heap.size 47 j0 _ 3 48 Try.underlying23 hj0 hy0 hy1 hy2 rfl (by omega) _ lts.length _ [.string (keyS k), .int .i64 rc, .slice A' n' c'] rfl hL6.row rfl rfl (by intro u hu; simp only [List.mem_cons, List.mem_nil_iff, or_false] at hu; rcases hu with rfl | rfl | rfl <;> rfl) (by omega) (by omega) hb26s ?_
              intro v7 w7 hown7 hg7 hv7
              have hL7 := hL6.snoc ⟨keyS k, rc, ⟨A', n', c'⟩, es⟩ hoe6 hec.symm hce (by show (2 : Nat) ≤ _; simp [maxLen]) hAPe hAPp hown7 hg7 _ (Nat.le_succ _) hv7
              have hb27 : Below w1.heap.size w1 w7 := below_grown hb26 hL6.row (Nat.le_refl _) hb26s hg7
              have hBa7 := hB.trans (hb27.mono hB.size)
              refine hK.out _ _ ((hBa7.cell (by exact hrcb)).trans ((hBa6.cell (by exact hrcb)).symm.trans qr6)) (fun hHeld => ?_)
              clear hK K
              try simp only [List.setIfInBounds_toArray, List.set_cons_zero, List.set_cons_succ]
              refine tk (i := 15) (v := ?_) rfl (by kernel_rfl) (by kernel_rfl) (by kernel_rfl) (Or.inl ⟨by rfl, ?_⟩) (by assumption) ?_; rotate_left 1
              · intro w hSw; (try dsimp only at hSw); go_simp; try with_reducible rfl
              try simp only [Act.put, List.getElem_toArray, List.getElem_cons_zero, List.getElem_cons_succ, List.setIfInBounds_toArray, List.set_cons_zero, List.set_cons_succ]
              refine wpAnyH_done (by kernel_rfl) ?_ _
              refine NoPanic.normal ?_
              have hVs : Hid (ltV (lts ++ [⟨keyS k, rc, ⟨A', n', c'⟩, es⟩]) = lvsR at_ cells keyS (k + 1)) := Lib.hid (by rw [ltV_snoc, lvsR_snoc, HV.out, HRC.out, Hve.out])
              have HL7 := Lib.hid hL7
              have hb7 := hb27
              clear hown7 hL6 hL7 hHeld qr5 hL5 hoe5 hoe6 hg7 hAPe hAPp
              go_wp2
              go_roundw
              case rel => exact ⟨k + 1, _, by omega, by go_num, HL7.out, hVs, HGs, hb7⟩
              case measure => simp [intOf]; omega
            · have HNK : Hid (¬ OkP at_ cells) := Lib.hid (fun h => by have h9 := (h.2.1 k hkT).dec; rw [hE] at h9; cases h9)
              rw [hE] at HD
              clear hcut hE hslen hsl hwseg hkT
              go_wp2_with fail
              refine HD.mono ?_
              clear HD
              rintro e w5 ⟨A', n', c', es, rfl, _, _, _, hb5, _⟩
              go_wp2
              go_ret3
              exact .inr ⟨rfl, HNK.out, then_ hBa hb5⟩
          · have hl' : ¬ (k : Int) < (T : Int) - 1 := by omega
            have HTO : Hid (toR at_ cells k = (n : Int)) := Lib.hid (by rw [toR, HTT.out, if_neg hlast, Lx.out])
            clear qz
            by_cases hT0 : n < f
            · have HNK : Hid (¬ OkP at_ cells) := Lib.hid (fun h => by have := (h.2.1 k (by rw [HTT.out]; exact hlt2)).ft; rw [HF.out, HTO.out] at this; omega)
              have hT0' : (n : Int) < (f : Int) := by omega
              go_wp2
              go_ret3
              exact .inr ⟨rfl, HNK.out, hBa⟩
            have hft0 : (f : Int) ≤ (n : Int) := by omega
            have htn : (n : Int) ≤ (n : Int) := by omega
            have HSG : Hid (segR at_ cells k = (cells.drop f).take (n - f)) := Lib.hid (by rw [segR, HF.out, HTO.out]; rfl)
            have hkT : k < tI cells := by rw [HTT.out]; exact hlt2
            have hsl := HSL.out k hkT
            have hslen : (segR at_ cells k).length = n - f := by rw [HSG.out, List.length_take, List.length_drop, Lx.out]; omega
            have hwseg : ∀ x ∈ segR at_ cells k, 0 ≤ x ∧ x < 4294967296 := fun x hx => by rw [HSG.out] at hx; exact Hw.out x (List.mem_of_mem_drop (List.mem_of_mem_take hx))
            have hcut := ((hx.below hBa).cut (k := f) (by omega)).front (k := n - f) (by omega)
            rw [show (((ints .u32 cells).drop f).take (n - f)) = ints .u32 (segR at_ cells k) from by rw [HSG.out]; simp only [ints, List.map_drop, List.map_take]] at hcut
            by_cases hcf : c = f
            · have HSN : segR at_ cells k = [] := List.eq_nil_of_length_eq_zero (by rw [hslen]; omega)
              have hnd : ¬ (decB (segR at_ cells k)).2 = 0 := fun h9 => by
                have h8 := congrArg List.length (dec_ok h9).2
                rw [HSN, encL_len] at h8
                simp at h8
              have HNK : Hid (¬ OkP at_ cells) := Lib.hid (fun h => hnd (h.2.1 k hkT).dec)
              have hE11 := (decB_err (segR at_ cells k)).resolve_left hnd
              rw [if_pos hcf] at hcut
              have HD := decO_any (segR at_ cells k) hwseg _ _ _ wr (hcut.more hBa.size) (by rw [← hslen]; exact hsl)
              rw [hE11] at HD
              clear hcut hE11 hnd HSN hslen hsl hwseg hkT
              have hnf : f = n := by omega
              have htf : n = n := by omega
              rw [show n - f = 0 from by omega, show c - f = 0 from by omega] at HD
              subst hcf
              try subst htf
              subst hnf
              go_wp2_with fail
              refine HD.mono ?_
              clear HD
              rintro e w5 ⟨A', n', c', es, rfl, _, _, _, hb5, _⟩
              go_wp2
              go_ret3
              exact .inr ⟨rfl, HNK.out, then_ hBa hb5⟩
            rw [if_neg hcf] at hcut
            have HD := decO_any (segR at_ cells k) hwseg _ _ _ wr (hcut.more hBa.size) (by rw [← hslen]; exact hsl)
            rcases decB_err (segR at_ cells k) with hE | hE
            · have HGk : Hid (GoodR at_ cells k) := Lib.hid ⟨by rw [HF.out]; omega, by rw [HF.out, HTO.out]; omega, by rw [HTO.out, Lx.out]; omega, hE⟩
              have HGs : Hid (∀ j, j < k + 1 → GoodR at_ cells j) := Lib.hid (fun j hj => by
                by_cases e : j = k
                · subst e; exact HGk.out
                · exact HG.out j (by omega))
              rw [hE] at HD
              clear hcut hE hslen hsl hwseg hkT
              go_wp2_with fail
              refine HD.mono ?_
              clear HD
              rintro e w5 ⟨A', n', c', es, rfl, hre, hce, hve, hb5, hoe⟩
              have Hve := Lib.hid hve
              have hec := hre.count
              have hb25 := then_ hb2 hb5
              have hBa5 := hB.trans (hb25.mono hB.size)
              have hL5 := hL.below hb5
              have hb2s := hb2.size
              have hoe5 := hoe.base hb2s
              have hAPe : AP (.slice A' n' c') u13 := fun b h1 h2 => by
                have h3 := (hoe.row.lt b h1).1
                have h4 := (hL.row.lt b h2).2
                omega
              have hAPp : ∀ y ∈ es, AP (.slice y.1.A y.1.n y.1.c) u13 := fun y hy b h1 h2 => by
                have h3 := ((hoe.pos y hy).lt b h1).1
                have h4 := (hL.row.lt b h2).2
                omega
              have HL := Lib.hid hL.row.1
              have hltl : lts.length = k := by have := congrArg List.length HV.out; rwa [lvsR_len, ltV, List.length_map] at this
              have qr5 : w5.cell? (ad.add (2 + 4 * d + 2 * k)) = some (.int .u32 rc) := (hb5.cell (by rw [add_block]; have := hBa.size; omega)).trans qr
              have hrcb : (ad.add (2 + 4 * d + 2 * k)).block < w.heap.size := by rw [add_block]; assumption
              have hBa5s := hBa5.size
              have hb25s := hb25.size
              have hw1 : IntKind.i64.wrap (2 * (k : Int)) = 2 * (k : Int) := IntWalk.i64_in _ (by omega)
              have hw2 : IntKind.i64.wrap (2 + 4 * (d : Int) + 2 * (k : Int)) = 2 + 4 * (d : Int) + 2 * (k : Int) := IntWalk.i64_in _ (by omega)
              have hw6 : IntKind.i64.wrap rc = rc := IntWalk.i64_in _ (by omega)
              have hw3 : 0 ≤ 2 + 4 * (d : Int) + 2 * (k : Int) := by omega
              have hw4 : 2 + 4 * (d : Int) + 2 * (k : Int) < (n : Int) := by omega
              have hw5 : (2 + 4 * (d : Int) + 2 * (k : Int)).toNat = 2 + 4 * d + 2 * k := by omega
              clear hre hve hoe hL hb5 qf qf' qr
              go_wp2_with fail
              refine wp_region_open (S := (fun w' : World => w'.cell? (ad.add (2 + 4 * d + 2 * k)) = some (.int .u32 rc))) #[false, false, false, false, false, false, false, false, false, false, false, false, false, false, false, false] 16 (by kernel_rfl) (by kernel_rfl) rfl (qr5) (fun hHeld => ?_)
              refine tk (i := 0) (v := ?_) rfl (by kernel_rfl) (by kernel_rfl) (by kernel_rfl) (Or.inl ⟨by rfl, ?_⟩) (by assumption) ?_; rotate_left 1
              · intro w hSw; (try dsimp only at hSw); go_simp; try with_reducible rfl
              try simp only [Act.put, List.getElem_toArray, List.getElem_cons_zero, List.setIfInBounds_toArray, List.set_cons_zero, List.set_cons_succ]
              refine tk (i := 1) (v := ?_) rfl (by kernel_rfl) (by kernel_rfl) (by kernel_rfl) (Or.inl ⟨by rfl, ?_⟩) (by assumption) ?_; rotate_left 1
              · intro w hSw; (try dsimp only at hSw); go_simp; try with_reducible rfl
              try simp only [Act.put, List.getElem_toArray, List.getElem_cons_zero, List.getElem_cons_succ, List.setIfInBounds_toArray, List.set_cons_zero, List.set_cons_succ]
              refine tk (i := 3) (v := ?_) rfl (by kernel_rfl) (by kernel_rfl) (by kernel_rfl) (Or.inl ⟨by rfl, ?_⟩) (by assumption) ?_; rotate_left 1
              · intro w hSw; (try dsimp only at hSw); go_simp; try with_reducible rfl
              try simp only [Act.put, List.getElem_toArray, List.getElem_cons_zero, List.getElem_cons_succ, List.setIfInBounds_toArray, List.set_cons_zero, List.set_cons_succ]
              refine tk (i := 4) (v := ?_) rfl (by kernel_rfl) (by kernel_rfl) (by kernel_rfl) (Or.inl ⟨by rfl, ?_⟩) (by assumption) ?_; rotate_left 1
              · intro w hSw; (try dsimp only at hSw); go_simp; try with_reducible rfl
              try simp only [Act.put, List.getElem_toArray, List.getElem_cons_zero, List.getElem_cons_succ, List.setIfInBounds_toArray, List.set_cons_zero, List.set_cons_succ]
              refine tk (i := 5) (v := ?_) rfl (by kernel_rfl) (by kernel_rfl) (by kernel_rfl) (Or.inl ⟨by rfl, ?_⟩) (by assumption) ?_; rotate_left 1
              · intro w hSw; (try dsimp only at hSw); go_simp; try with_reducible rfl
              try simp only [Act.put, List.getElem_toArray, List.getElem_cons_zero, List.getElem_cons_succ, List.setIfInBounds_toArray, List.set_cons_zero, List.set_cons_succ]
              refine tk (i := 6) (v := ?_) rfl (by kernel_rfl) (by kernel_rfl) (by kernel_rfl) (Or.inl ⟨by rfl, ?_⟩) (by assumption) ?_; rotate_left 1
              · intro w hSw; (try dsimp only at hSw); go_simp; try with_reducible rfl
              try simp only [Act.put, List.getElem_toArray, List.getElem_cons_zero, List.getElem_cons_succ, List.setIfInBounds_toArray, List.set_cons_zero, List.set_cons_succ]
              refine tk (i := 7) (v := ?_) rfl (by kernel_rfl) (by kernel_rfl) (by kernel_rfl) (Or.inl ⟨by rfl, ?_⟩) (by assumption) ?_; rotate_left 1
              · intro w hSw; (try dsimp only at hSw); go_simp; try with_reducible rfl
              try simp only [Act.put, List.getElem_toArray, List.getElem_cons_zero, List.getElem_cons_succ, List.setIfInBounds_toArray, List.set_cons_zero, List.set_cons_succ]
              refine tk (i := 8) (v := ?_) rfl (by kernel_rfl) (by kernel_rfl) (by kernel_rfl) (Or.inl ⟨by rfl, ?_⟩) (by assumption) ?_; rotate_left 1
              · intro w hSw; (try dsimp only at hSw); go_simp; try with_reducible rfl
              try simp only [Act.put, List.getElem_toArray, List.getElem_cons_zero, List.getElem_cons_succ, List.setIfInBounds_toArray, List.set_cons_zero, List.set_cons_succ]
              refine tk (i := 9) (v := ?_) rfl (by kernel_rfl) (by kernel_rfl) (by kernel_rfl) (Or.inl ⟨by rfl, ?_⟩) (by assumption) ?_; rotate_left 1
              · intro w hSw; (try dsimp only at hSw); go_simp; try with_reducible rfl
              try simp only [Act.put, List.getElem_toArray, List.getElem_cons_zero, List.getElem_cons_succ, List.setIfInBounds_toArray, List.set_cons_zero, List.set_cons_succ]
              refine tk (i := 10) (v := ?_) rfl (by kernel_rfl) (by kernel_rfl) (by kernel_rfl) (Or.inl ⟨by rfl, ?_⟩) (by assumption) ?_; rotate_left 1
              · intro w hSw; (try dsimp only at hSw); go_simp; try with_reducible rfl
              try simp only [Act.put, List.getElem_toArray, List.getElem_cons_zero, List.getElem_cons_succ, List.setIfInBounds_toArray, List.set_cons_zero, List.set_cons_succ]
              refine tk (i := 11) (v := ?_) rfl (by kernel_rfl) (by kernel_rfl) (by kernel_rfl) (Or.inl ⟨by rfl, ?_⟩) (by assumption) ?_; rotate_left 1
              · intro w hSw; (try dsimp only at hSw); go_simp; try with_reducible rfl
              try simp only [Act.put, List.getElem_toArray, List.getElem_cons_zero, List.getElem_cons_succ, List.setIfInBounds_toArray, List.set_cons_zero, List.set_cons_succ]
              refine wpAnyH_ready (rs := [2]) (by kernel_rfl) (by simp) ?_
              refine AllReadyH.cons (o := _) rfl (fun K hK => ?_) AllReadyH.nil
              go_simp
              go_at_call 25
              refine (key_any k (by omega) _).mono ?_
              rintro e w6 ⟨rfl, hb6⟩
              have hL6 := hL5.drew_.below (w' := w6) hb6
              have hoe6 := hoe5.drew_.below (w' := w6) hb6
              have hb26 : Below w1.heap.size w1 w6 := then_ hb25.drew hb6
              have hBa6 := hB.trans (hb26.mono hB.size)
              have qr6 : w6.cell? (ad.add (2 + 4 * d + 2 * k)) = some (.int .u32 rc) := (hBa6.cell (by exact hrcb)).trans ((hBa5.cell (by exact hrcb)).symm.trans qr5)
              have hb26s := hb26.size
              refine hK.out _ _ qr6 (fun hHeld => ?_)
              clear hK K
              try simp only [List.setIfInBounds_toArray, List.set_cons_zero, List.set_cons_succ]
              refine tk (i := 12) (v := ?_) rfl (by kernel_rfl) (by kernel_rfl) (by kernel_rfl) (Or.inl ⟨by rfl, ?_⟩) (by assumption) ?_; rotate_left 1
              · intro w hSw; (try dsimp only at hSw); go_simp; try with_reducible rfl
              try simp only [Act.put, List.getElem_toArray, List.getElem_cons_zero, List.getElem_cons_succ, List.setIfInBounds_toArray, List.set_cons_zero, List.set_cons_succ]
              refine wpAnyH_ready (rs := [13]) (by kernel_rfl) (by simp) ?_
              refine AllReadyH.cons (o := _) rfl (fun K hK => ?_) AllReadyH.nil
              go_simp
              refine hK.out _ _ ((World.cell?_alloc_lt _ _ _ (by have := hBa6.size; exact Nat.lt_of_lt_of_le hrcb this)).trans qr6) (fun hHeld => ?_)
              clear hK K
              try simp only [List.setIfInBounds_toArray, List.set_cons_zero, List.set_cons_succ]
              refine wpAnyH_ready (rs := [14]) (by kernel_rfl) (by simp) ?_
              refine AllReadyH.cons (o := _) rfl (fun K hK => ?_) AllReadyH.nil
              refine step_append_oneB (W := w6) rfl (.tmp 152) (.tmp 165) 23 rfl w1.heap.size 47 j0 _ 3 48 Try.underlying23 hj0 hy0 hy1 hy2 rfl (by omega) _ lts.length _ [.string (keyS k), .int .i64 rc, .slice A' n' c'] rfl hL6.row rfl rfl (by intro u hu; simp only [List.mem_cons, List.mem_nil_iff, or_false] at hu; rcases hu with rfl | rfl | rfl <;> rfl) (by omega) (by omega) hb26s ?_
              intro v7 w7 hown7 hg7 hv7
              have hL7 := hL6.snoc ⟨keyS k, rc, ⟨A', n', c'⟩, es⟩ hoe6 hec.symm hce (by show (2 : Nat) ≤ _; simp [maxLen]) hAPe hAPp hown7 hg7 _ (Nat.le_succ _) hv7
              have hb27 : Below w1.heap.size w1 w7 := below_grown hb26 hL6.row (Nat.le_refl _) hb26s hg7
              have hBa7 := hB.trans (hb27.mono hB.size)
              refine hK.out _ _ ((hBa7.cell (by exact hrcb)).trans ((hBa6.cell (by exact hrcb)).symm.trans qr6)) (fun hHeld => ?_)
              clear hK K
              try simp only [List.setIfInBounds_toArray, List.set_cons_zero, List.set_cons_succ]
              refine tk (i := 15) (v := ?_) rfl (by kernel_rfl) (by kernel_rfl) (by kernel_rfl) (Or.inl ⟨by rfl, ?_⟩) (by assumption) ?_; rotate_left 1
              · intro w hSw; (try dsimp only at hSw); go_simp; try with_reducible rfl
              try simp only [Act.put, List.getElem_toArray, List.getElem_cons_zero, List.getElem_cons_succ, List.setIfInBounds_toArray, List.set_cons_zero, List.set_cons_succ]
              refine wpAnyH_done (by kernel_rfl) ?_ _
              refine NoPanic.normal ?_
              have hVs : Hid (ltV (lts ++ [⟨keyS k, rc, ⟨A', n', c'⟩, es⟩]) = lvsR at_ cells keyS (k + 1)) := Lib.hid (by rw [ltV_snoc, lvsR_snoc, HV.out, HRC.out, Hve.out])
              have HL7 := Lib.hid hL7
              have hb7 := hb27
              clear hown7 hL6 hL7 hHeld qr5 hL5 hoe5 hoe6 hg7 hAPe hAPp
              go_wp2
              go_roundw
              case rel => exact ⟨k + 1, _, by omega, by go_num, HL7.out, hVs, HGs, hb7⟩
              case measure => simp [intOf]; omega
            · have HNK : Hid (¬ OkP at_ cells) := Lib.hid (fun h => by have h9 := (h.2.1 k hkT).dec; rw [hE] at h9; cases h9)
              rw [hE] at HD
              clear hcut hE hslen hsl hwseg hkT
              go_wp2_with fail
              refine HD.mono ?_
              clear HD
              rintro e w5 ⟨A', n', c', es, rfl, _, _, _, hb5, _⟩
              go_wp2
              go_ret3
              exact .inr ⟨rfl, HNK.out, then_ hBa hb5⟩
        · have hlt2' : ¬ (k : Int) < (T : Int) := by omega
          obtain rfl : k = T := by omega
          have hBa := hB.trans (hb2.mono hB.size)
          have hltl : lts.length = k := by have := congrArg List.length HV.out; rwa [lvsR_len, ltV, List.length_map] at this
          have hrow9 := hL.row
          rw [hltl] at hrow9
          obtain ⟨A1, c1, rfl, _, hc1, _⟩ := ReadsK.of_own hrow9
          have HM := make_any at_ (rowsR cells d) A0 d c0 lts A1 k c1 wr ((hrr.keep fun _ hp => hb2.cell hp).more hb2.size) (hL.reads hltl.symm)
          rw [HV.out] at HM
          have Hltl := Lib.hid hltl
          clear hltl hrow9 hrr
          rcases imgA_err at_ (rowsR cells d) (lvsR at_ cells keyS k) with hI | ⟨L, hI⟩
          · rw [hI] at HM
            have HNK : Hid (¬ OkP at_ cells) := Lib.hid (fun h => by have h9 := h.2.2; rw [HNN.out, HTT.out, hI] at h9; injection h9 with _ h9; cases h9)
            clear hI
            go_wp2_with fail
            refine HM.mono ?_
            clear HM
            rintro e w5 ⟨v5, rfl, _, hb5⟩
            go_wp2
            go_ret3
            exact .inr ⟨rfl, HNK.out, then_ hBa hb5⟩
          · rw [hI] at HM
            have hLl := imgA_lenOk hI
            simp only at HM
            have HI := Lib.hid hI
            clear hI
            go_wp2_with fail
            refine HM.mono ?_
            clear HM
            rintro e w5 ⟨v5, rfl, hown5, hb5⟩
            obtain ⟨A5, c5, rfl, hr5, hc5, _⟩ := ownsRow_slice hown5
            have hBa5 := then_ hBa hb5
            have hb25 := then_ hb2 hb5
            have hL5 := hL.below hb5
            have hx5 : Reads w5 w5.heap.size (some ad) n c (ints .u32 cells) := (hx.below hBa5).more hBa5.size
            have HQ := equal_any L cells A5 (some ad) L.length c5 n c w5 hr5 hx5 (by omega) (by omega)
            clear hown5 hL hr5 hx5
            by_cases hcc : L = cells
            · rw [decide_eq_true hcc] at HQ
              have HOK : Hid (OkP at_ cells) := Lib.hid ⟨HH.out, fun i hi => HG.out i (by rw [HTT.out] at hi; exact hi), by rw [HNN.out, HTT.out, HI.out, hcc]⟩
              clear hcc hLl
              generalize L.length = n5 at *
              go_wp2_with fail
              refine HQ.mono ?_
              clear HQ
              rintro e w6 ⟨rfl, q, rfl⟩
              have hL6 := hL5.drewN q
              have hb26 := below_drewN hb25 q
              clear hL5 hb5
              go_wp2_with fail
              go_loopw [185] (fun i w3 => ∃ m : Nat, m ≤ k ∧ i = .int .i64 (m : Int) ∧ OwnL w3 w1.heap.size (.slice A1 k c1) (clrK m lts) ∧ Below w1.heap.size w1 w3) (fun i _ => k - (intOf i).toNat)
              case atStart => exact ⟨0, by omega, rfl, by rw [clrK_zero]; exact hL6, hb26⟩
              case round =>
                obtain ⟨m, hm, rfl, hLm, hbm⟩ := hrel
                by_cases hlt3 : m < k
                · have hlt3' : (m : Int) < (k : Int) := by omega
                  have hm0 : (0 : Int) ≤ (m : Int) := by omega
                  obtain ⟨g, old, rfl, hwg, hrow, hjo, hnext⟩ := hLm.clear m (by rw [Hltl.out]; exact hlt3)
                  have Hnext := Lib.hid hnext
                  clear hnext hLm
                  go_wp2_with (first
                    | (refine wpList_store_cellO rfl 9 (.tmp 191) (.const (.string ByteArray.empty)) rfl g (m * 3) (.string ByteArray.empty) rfl rfl 47 _ hrow hjo rfl (by kernel_rfl) w1.heap.size w1 hbm hwg ?_; intro w4 hr4 hb4 hs4 hk4))
                  have hL4 := Hnext.out w4 w1 w1.heap.size hr4 hbm hb4 hs4 hk4
                  clear hrow hr4 hs4 hk4
                  go_wp2
                  go_roundw
                  case rel => exact ⟨m + 1, by omega, by go_num, hL4, hb4⟩
                  case measure => simp [intOf]; omega
                · have hlt3' : ¬ (m : Int) < (k : Int) := by omega
                  obtain rfl : m = k := by omega
                  have HOR := Lib.hid (ownsRow_below hownr.out hbm)
                  have HLm := Lib.hid (hLm.base hB.size)
                  have HAP : Hid (AP (.slice A0 d c0) (.slice A1 m c1)) := Lib.hid (fun b h1 h2 => by have h3 := (hownr.out.lt b h1).2; have h4 := (hLm.row.lt b h2).1; omega)
                  clear hLm
                  go_wp2
                  go_ret3
                  exact .inl ⟨_, _, rfl, HOK.out, by rw [HNN.out]; exact HOR.out, lts.map clr, by rw [← clrK_all, Hltl.out]; exact HLm.out, by rw [ltV_clr, HV.out, HTT.out, lvsR_clr], hB.trans (hbm.mono hB.size), HAP.out⟩
            · rw [decide_eq_false hcc] at HQ
              have HNK : Hid (¬ OkP at_ cells) := Lib.hid (fun h => by have h9 := h.2.2; rw [HNN.out, HTT.out, HI.out] at h9; injection h9 with h9 _; exact hcc h9)
              clear hcc hLl
              generalize L.length = n5 at *
              go_wp2_with fail
              refine HQ.mono ?_
              clear HQ
              rintro e w6 ⟨rfl, q, rfl⟩
              go_wp2
              go_ret3
              exact .inr ⟨rfl, HNK.out, below_drewN hBa5 q⟩
end Go.Proofs.Ytbbjlijdodnjaaa
