/- The walk of the reader's next: printed by wip/bin/gen_blknext.py. -/
import Derived.Test.YtbbjlijdodnjaaaBlkDecMath
import Derived.Test.YtbbjlijdodnjaaaBlkMem
import Derived.Test.YtbbjlijdodnjaaaVlqGet
import Derived.Deep.RegionHeld3
namespace Go.Proofs.Ytbbjlijdodnjaaa
open Go.RowKit

theorem get_next_le (b : List UInt8) (p : Nat) (h : (getL b p).err = 0) : (getL b p).next ≤ b.length := by
  have go : ∀ f i, (getF b p f i).err = 0 → (getF b p f i).next ≤ b.length := by
    intro f
    induction f with
    | zero => intro i hi; rw [getF] at hi; simp at hi
    | succ f ih =>
      intro i hi
      rw [getF] at hi ⊢
      split
      · rename_i h1; rw [if_pos h1] at hi; simp at hi
      · rename_i h1
        rw [if_neg h1] at hi
        split
        · rename_i h2; rw [if_pos h2] at hi; simp at hi
        · rename_i h2
          rw [if_neg h2] at hi
          split
          · show p + i + 1 ≤ b.length
            omega
          · rename_i h3
            rw [if_neg h3] at hi
            exact ih _ hi
  exact go 5 0 h
theorem next_le (b : List UInt8) (s : Nat × Bool) (h : s.1 ≤ b.length) : (nextR b s).2.1 ≤ b.length := by
  rw [nextR]
  split
  · exact h
  · rename_i hn
    exact get_next_le b s.1 (by simp only [not_or] at hn; omega)
theorem next_bd (b : List UInt8) (s : Nat × Bool) : 0 ≤ (nextR b s).1 ∧ (nextR b s).1 ≤ 65536 := by
  rw [nextR]
  split
  · simp
  · simp only
    omega
theorem next_bad (b : List UInt8) (p : Nat) : nextR b (p, true) = (0, (p, true)) := by rw [nextR, if_pos (.inl rfl)]
theorem next_err (b : List UInt8) (p : Nat) (h : (getL b p).err ≠ 0) : nextR b (p, false) = (0, (p, true)) := by rw [nextR, if_pos (.inr h)]
theorem next_ok (b : List UInt8) (p : Nat) (h : (getL b p).err = 0) : nextR b (p, false) = (((min (getL b p).n 65536 : Nat) : Int), ((getL b p).next, false)) := by rw [nextR, if_neg (by simp [h])]
/-- The reader's cells. -/
def rdC (A : Option Addr) (m c : Nat) (s : Nat × Bool) : List Value := [.slice A m c, .int .i64 (s.1 : Int), .bool s.2]

set_option maxRecDepth 100000 in
set_option maxHeartbeats 4000000 in
theorem next_any (b : List UInt8) (A : Option Addr) (m c g : Nat) (s : Nat × Bool) (w : World) (hrow : Row w g 74 (rdC A m c s)) (hx : Reads w g A m c (bys b)) (hm : m ≤ 1048576) (hp : s.1 ≤ m) :
    Calls Try.prog 35 #[.pointer (some ⟨g, 0, none⟩)] w fun e w' => e = .returned (.int .i64 (nextR b s).1) ∧ Row w' g 74 (rdC A m c (nextR b s).2) ∧ Below g w w' ∧ w'.heap.size = w.heap.size ∧ (∀ k, k ≠ g → w'.heap[k]? = w.heap[k]?) := by
  obtain ⟨p, bad⟩ := s
  simp only [rdC] at hrow hp ⊢
  have hgl := hrow.lt
  have r0 : w.cell? ⟨g, 0, none⟩ = some (.slice A m c) := hrow.cell 0
  have r1 : w.cell? ⟨g, 1, none⟩ = some (.int .i64 (p : Int)) := hrow.cell 1
  have r2 : w.cell? ⟨g, 2, none⟩ = some (.bool bad) := hrow.cell 2
  have hf1 := hrow.frozen 1
  have hf2 := hrow.frozen 2
  have HG := Lib.hid (fun w' (h : Below w.heap.size w w') => get_any b A m c p w' ((hx.below (h.mono (Nat.le_of_lt hgl))).more (by have := h.size; omega)) hm hp)
  go_enter Try.func35, Try.ntmps35
  go_wp2_with fail
  have hbd : Below w.heap.size w w.drew := (Below.refl _ _).drew
  refine wp_region_noPanic ?_
  refine wp_region_held_drew (S := (fun w' : World => w'.cell? ⟨g, 0, none⟩ = some (.slice A m c) ∧ w'.cell? ⟨g, 1, none⟩ = some (.int .i64 (p : Int)))) (by kernel_rfl) (⟨r0, r1⟩) (fun hHeld => ?_)
  refine wpAnyH_take (i := 0) (v := ?_) rfl (by kernel_rfl) (by kernel_rfl) (by kernel_rfl) (fun _ _ _ h => h) (Or.inl ⟨by rfl, ?_⟩) (by assumption) ?_
  rotate_left 1
  · intro w hSw; (try dsimp only at hSw); go_simp; try with_reducible rfl
  try simp only [Act.put, List.getElem_toArray, List.getElem_cons_zero, List.setIfInBounds_toArray, List.set_cons_zero, List.set_cons_succ]
  refine wpAnyH_take (i := 1) (v := ?_) rfl (by kernel_rfl) (by kernel_rfl) (by kernel_rfl) (fun _ _ _ h => h) (Or.inl ⟨by rfl, ?_⟩) (by assumption) ?_
  rotate_left 1
  · intro w hSw; (try dsimp only at hSw); go_simp; try with_reducible rfl
  try simp only [Act.put, List.getElem_toArray, List.getElem_cons_zero, List.getElem_cons_succ, List.setIfInBounds_toArray, List.set_cons_zero, List.set_cons_succ]
  refine wpAnyH_take (i := 2) (v := ?_) rfl (by kernel_rfl) (by kernel_rfl) (by kernel_rfl) (fun _ _ _ h => h) (Or.inl ⟨by rfl, ?_⟩) (by assumption) ?_
  rotate_left 1
  · intro w hSw; (try dsimp only at hSw); go_simp; try with_reducible rfl
  try simp only [Act.put, List.getElem_toArray, List.getElem_cons_zero, List.getElem_cons_succ, List.setIfInBounds_toArray, List.set_cons_zero, List.set_cons_succ]
  refine wpAnyH_take (i := 3) (v := ?_) rfl (by kernel_rfl) (by kernel_rfl) (by kernel_rfl) (fun _ _ _ h => h) (Or.inl ⟨by rfl, ?_⟩) (by assumption) ?_
  rotate_left 1
  · intro w hSw; (try dsimp only at hSw); go_simp; try with_reducible rfl
  try simp only [Act.put, List.getElem_toArray, List.getElem_cons_zero, List.getElem_cons_succ, List.setIfInBounds_toArray, List.set_cons_zero, List.set_cons_succ]
  refine wpAnyH_take (i := 4) (v := ?_) rfl (by kernel_rfl) (by kernel_rfl) (by kernel_rfl) (fun _ _ _ h => h) (Or.inl ⟨by rfl, ?_⟩) (by assumption) ?_
  rotate_left 1
  · intro w hSw; (try dsimp only at hSw); go_simp; try with_reducible rfl
  try simp only [Act.put, List.getElem_toArray, List.getElem_cons_zero, List.getElem_cons_succ, List.setIfInBounds_toArray, List.set_cons_zero, List.set_cons_succ]
  refine wpAnyH_take (i := 5) (v := ?_) rfl (by kernel_rfl) (by kernel_rfl) (by kernel_rfl) (fun _ _ _ h => h) (Or.inl ⟨by rfl, ?_⟩) (by assumption) ?_
  rotate_left 1
  · intro w hSw; (try dsimp only at hSw); go_simp; try with_reducible rfl
  try simp only [Act.put, List.getElem_toArray, List.getElem_cons_zero, List.getElem_cons_succ, List.setIfInBounds_toArray, List.set_cons_zero, List.set_cons_succ]
  refine wpAnyH_take (i := 6) (v := ?_) rfl (by kernel_rfl) (by kernel_rfl) (by kernel_rfl) (fun _ _ _ h => h) (Or.inl ⟨by rfl, ?_⟩) (by assumption) ?_
  rotate_left 1
  · intro w hSw; (try dsimp only at hSw); go_simp; try with_reducible rfl
  try simp only [Act.put, List.getElem_toArray, List.getElem_cons_zero, List.getElem_cons_succ, List.setIfInBounds_toArray, List.set_cons_zero, List.set_cons_succ]
  refine wpAnyH_take (i := 7) (v := ?_) rfl (by kernel_rfl) (by kernel_rfl) (by kernel_rfl) (fun _ _ _ h => h) (Or.inl ⟨by rfl, ?_⟩) (by assumption) ?_
  rotate_left 1
  · intro w hSw; (try dsimp only at hSw); go_simp; try with_reducible rfl
  try simp only [Act.put, List.getElem_toArray, List.getElem_cons_zero, List.getElem_cons_succ, List.setIfInBounds_toArray, List.set_cons_zero, List.set_cons_succ]
  refine wpAnyH_ready (rs := [8]) (by kernel_rfl) (by simp) ?_
  refine AllReadyH.cons (o := _) rfl (fun K hK => ?_) AllReadyH.nil
  go_simp
  go_at_call 42
  refine (HG.out _ hbd).mono ?_
  rintro e w9 ⟨rfl, rfl⟩
  simp only [gotV]
  refine hK.out _ _ hHeld (fun hHeld => ?_)
  clear hK K
  try simp only [Act.put, List.getElem_toArray, List.getElem_cons_zero, List.getElem_cons_succ, List.setIfInBounds_toArray, List.set_cons_zero, List.set_cons_succ]
  refine wpAnyH_take (i := 9) (v := ?_) rfl (by kernel_rfl) (by kernel_rfl) (by kernel_rfl) (fun _ _ _ h => h) (Or.inl ⟨by rfl, ?_⟩) (by assumption) ?_
  rotate_left 1
  · intro w hSw; (try dsimp only at hSw); go_simp; try with_reducible rfl
  try simp only [Act.put, List.getElem_toArray, List.getElem_cons_zero, List.getElem_cons_succ, List.setIfInBounds_toArray, List.set_cons_zero, List.set_cons_succ]
  refine wpAnyH_take (i := 10) (v := ?_) rfl (by kernel_rfl) (by kernel_rfl) (by kernel_rfl) (fun _ _ _ h => h) (Or.inl ⟨by rfl, ?_⟩) (by assumption) ?_
  rotate_left 1
  · intro w hSw; (try dsimp only at hSw); go_simp; try with_reducible rfl
  try simp only [Act.put, List.getElem_toArray, List.getElem_cons_zero, List.getElem_cons_succ, List.setIfInBounds_toArray, List.set_cons_zero, List.set_cons_succ]
  refine wpAnyH_take (i := 11) (v := ?_) rfl (by kernel_rfl) (by kernel_rfl) (by kernel_rfl) (fun _ _ _ h => h) (Or.inl ⟨by rfl, ?_⟩) (by assumption) ?_
  rotate_left 1
  · intro w hSw; (try dsimp only at hSw); go_simp; try with_reducible rfl
  try simp only [Act.put, List.getElem_toArray, List.getElem_cons_zero, List.getElem_cons_succ, List.setIfInBounds_toArray, List.set_cons_zero, List.set_cons_succ]
  refine wpAnyH_take (i := 12) (v := ?_) rfl (by kernel_rfl) (by kernel_rfl) (by kernel_rfl) (fun _ _ _ h => h) (Or.inl ⟨by rfl, ?_⟩) (by assumption) ?_
  rotate_left 1
  · intro w hSw; (try dsimp only at hSw); go_simp; try with_reducible rfl
  try simp only [Act.put, List.getElem_toArray, List.getElem_cons_zero, List.getElem_cons_succ, List.setIfInBounds_toArray, List.set_cons_zero, List.set_cons_succ]
  refine wpAnyH_take (i := 13) (v := ?_) rfl (by kernel_rfl) (by kernel_rfl) (by kernel_rfl) (fun _ _ _ h => h) (Or.inl ⟨by rfl, ?_⟩) (by assumption) ?_
  rotate_left 1
  · intro w hSw; (try dsimp only at hSw); go_simp; try with_reducible rfl
  try simp only [Act.put, List.getElem_toArray, List.getElem_cons_zero, List.getElem_cons_succ, List.setIfInBounds_toArray, List.set_cons_zero, List.set_cons_succ]
  refine wpAnyH_take (i := 14) (v := ?_) rfl (by kernel_rfl) (by kernel_rfl) (by kernel_rfl) (fun _ _ _ h => h) (Or.inl ⟨by rfl, ?_⟩) (by assumption) ?_
  rotate_left 1
  · intro w hSw; (try dsimp only at hSw); go_simp; try with_reducible rfl
  try simp only [Act.put, List.getElem_toArray, List.getElem_cons_zero, List.getElem_cons_succ, List.setIfInBounds_toArray, List.set_cons_zero, List.set_cons_succ]
  refine wpAnyH_take (i := 15) (v := ?_) rfl (by kernel_rfl) (by kernel_rfl) (by kernel_rfl) (fun _ _ _ h => h) (Or.inl ⟨by rfl, ?_⟩) (by assumption) ?_
  rotate_left 1
  · intro w hSw; (try dsimp only at hSw); go_simp; try with_reducible rfl
  try simp only [Act.put, List.getElem_toArray, List.getElem_cons_zero, List.getElem_cons_succ, List.setIfInBounds_toArray, List.set_cons_zero, List.set_cons_succ]
  refine wpAnyH_done (by kernel_rfl) ?_ _
  refine NoPanic.normal ?_
  have hrowd := hrow.drew
  have hB0 : Below g w w.drew := (Below.refl _ _).drew
  have r2d : w.drew.cell? ⟨g, 2, none⟩ = some (.bool bad) := r2
  have hN := Lib.hid (next_bad b p)
  have hE := Lib.hid (next_err b p)
  have hO := Lib.hid (next_ok b p)
  generalize getL b p = G at *
  obtain ⟨x, nx, er⟩ := G
  simp only at hE hO
  have hsz : w.drew.heap.size = w.heap.size := rfl
  have hkd : ∀ k : Nat, w.drew.heap[k]? = w.heap[k]? := fun _ => rfl
  clear hHeld hbd HG r0 r1 r2 hf1 hf2 hrow
  generalize w.drew = wd at *
  cases bad
  · by_cases he : er = 0
    · subst he
      have hO2 := Lib.hid (hO.out rfl)
      clear hO hE hN
      by_cases hx6 : x ≤ 65536
      · have hx6' : ((x : Nat) : Int) ≤ 65536 := by omega
        have hmin : min x 65536 = x := Nat.min_eq_left hx6
        rw [hmin] at hO2
        clear hmin hx6
        go_wp2_with (refine wpList_store_cellO rfl 3 (.tmp 33) (.tmp 31) rfl g 1 (.int .i64 (nx : Int)) rfl rfl 74 _ hrowd (by simp) rfl (by kernel_rfl) g w hB0 (Nat.le_refl _) ?_; intro w3 hr3 hB3 hs3 hk3)
        go_ret
        exact ⟨by rw [hO2.out]; rfl, by rw [hO2.out]; exact hr3, hB3, hs3.trans hsz, fun k hk => (hk3 k hk).trans (hkd k)⟩
      · have hx6' : ¬ ((x : Nat) : Int) ≤ 65536 := by omega
        have hmin : min x 65536 = 65536 := Nat.min_eq_right (by omega)
        rw [hmin] at hO2
        clear hmin hx6
        go_wp2_with (refine wpList_store_cellO rfl 3 (.tmp 33) (.tmp 31) rfl g 1 (.int .i64 (nx : Int)) rfl rfl 74 _ hrowd (by simp) rfl (by kernel_rfl) g w hB0 (Nat.le_refl _) ?_; intro w3 hr3 hB3 hs3 hk3)
        go_ret
        exact ⟨by rw [hO2.out]; rfl, by rw [hO2.out]; exact hr3, hB3, hs3.trans hsz, fun k hk => (hk3 k hk).trans (hkd k)⟩
    · have he' : ((er : Nat) : Int) ≠ 0 := by omega
      have he2 : (((er : Nat) : Int) != 0) = true := by simp; omega
      have hE2 := Lib.hid (hE.out he)
      clear hO hE hN he
      go_wp2_with (refine wpList_store_cellO rfl 4 (.tmp 29) (.const (.bool true)) rfl g 2 (.bool true) rfl rfl 74 _ hrowd (by simp) rfl (by kernel_rfl) g w hB0 (Nat.le_refl _) ?_; intro w3 hr3 hB3 hs3 hk3)
      go_ret
      exact ⟨by rw [hE2.out]; rfl, by rw [hE2.out]; exact hr3, hB3, hs3.trans hsz, fun k hk => (hk3 k hk).trans (hkd k)⟩
  · have hN2 := Lib.hid hN.out
    clear hO hE hN
    go_wp2_with (refine wpList_store_cellO rfl 4 (.tmp 29) (.const (.bool true)) rfl g 2 (.bool true) rfl rfl 74 _ hrowd (by simp) rfl (by kernel_rfl) g w hB0 (Nat.le_refl _) ?_; intro w3 hr3 hB3 hs3 hk3)
    go_ret
    exact ⟨by rw [hN2.out]; rfl, by rw [hN2.out]; exact hr3, hB3, hs3.trans hsz, fun k hk => (hk3 k hk).trans (hkd k)⟩
end Go.Proofs.Ytbbjlijdodnjaaa
