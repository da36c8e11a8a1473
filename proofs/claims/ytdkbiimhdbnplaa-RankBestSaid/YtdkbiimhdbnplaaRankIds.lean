/- RankBest's plain law: documents numbered by their places; the best are theirs, each once, none better left out. No program in sight. -/
import Derived.Test.YtdkbiimhdbnplaaRankLawsB
namespace Go.Proofs.Ytdkbiimhdbnplaa

/-- The first i numbered by their places. -/
def numU (l : List Sc) (i : Nat) : List Sc := (l.take i).mapIdx (fun j x => (x.1, (j : Int), x.2.2)) ++ l.drop i
def numL (l : List Sc) : List Sc := l.mapIdx (fun j x => (x.1, (j : Int), x.2.2))
theorem numL_len (l : List Sc) : (numL l).length = l.length := by simp [numL]
theorem numL_get (l : List Sc) (i : Nat) (h : i < (numL l).length) : (numL l)[i] = ((l[i]'(by rw [numL_len] at h; exact h)).1, (i : Int), (l[i]'(by rw [numL_len] at h; exact h)).2.2) := by simp [numL]
theorem numU_0 (l : List Sc) : numU l 0 = l := by simp [numU]
theorem numU_all (l : List Sc) : numU l l.length = numL l := by simp [numU, numL]
theorem numU_len (l : List Sc) (i : Nat) (h : i ≤ l.length) : (numU l i).length = l.length := by simp [numU]; omega
theorem numU_cells (l : List Sc) (i : Nat) (h : i < l.length) : ((numU l i).flatMap scC).set (i * 3 + 1) (.int .u32 (i : Int)) = (numU l (i + 1)).flatMap scC := by
  have e1 : numU l i = (l.take i).mapIdx (fun j x => (x.1, (j : Int), x.2.2)) ++ l[i] :: l.drop (i + 1) := by
    unfold numU
    rw [List.drop_eq_getElem_cons h]
  have e2 : numU l (i + 1) = (l.take i).mapIdx (fun j x => (x.1, (j : Int), x.2.2)) ++ (l[i].1, (i : Int), l[i].2.2) :: l.drop (i + 1) := by
    unfold numU
    rw [List.take_succ_eq_append_getElem h, List.mapIdx_append]
    simp [List.length_take, Nat.min_eq_left (Nat.le_of_lt h)]
  generalize hA : (l.take i).mapIdx (fun j x => (x.1, (j : Int), x.2.2)) = A at e1 e2
  have hAl : A.length = i := by rw [← hA]; simp; omega
  rw [e1, e2, List.flatMap_append, List.flatMap_cons, List.flatMap_append, List.flatMap_cons]
  rw [List.set_append_right _ _ (by rw [rec_len scC_len, hAl]; omega), rec_len scC_len, hAl, show i * 3 + 1 - i * 3 = 1 by omega]
  rfl
theorem numU_ok (l : List Sc) (h : ∀ x ∈ l, ScOk x) : ∀ x ∈ numL l, ScOk x := by
  intro x hx
  obtain ⟨i, hi, rfl⟩ := List.getElem_of_mem hx
  rw [numL_get l i hi]
  have := h _ (List.getElem_mem (show i < l.length by rw [numL_len] at hi; exact hi))
  exact ⟨this.lo, this.hi, this.fl⟩
theorem ins_perm {α : Type} (k : α → Int) (x : α) : ∀ b : List α, (x :: b).Perm (ins k x b)
  | [] => List.Perm.refl _
  | y :: r => by
    unfold ins
    split
    · exact List.Perm.refl _
    · exact (List.Perm.swap y x r).trans ((ins_perm k x r).cons y)
theorem foldl_perm_self {α : Type} (k : α → Int) : ∀ (l b : List α), (l ++ b).Perm (l.foldl (fun b x => ins k x b) b)
  | [], b => List.Perm.refl _
  | x :: l, b => by
    simp only [List.foldl_cons]
    refine List.Perm.trans ?_ (foldl_perm_self k l (ins k x b))
    refine List.Perm.trans (l₂ := l ++ x :: b) ?_ ((ins_perm k x b).append_left l)
    exact List.perm_middle.symm
theorem sortD_self {α : Type} (k : α → Int) (l : List α) : l.Perm (sortD k l) := by
  have := foldl_perm_self k l []
  rwa [List.append_nil] at this
theorem ids_nodup (l : List Sc) : ((numL l).map (·.2.1)).Nodup := by
  unfold List.Nodup
  rw [List.pairwise_map, List.pairwise_iff_getElem]
  intro i j hi hj hij
  rw [numL_get l i hi, numL_get l j hj]
  simp only
  omega
theorem top_ids (o : Int) (m : Nat) (l : List Sc) : ((topL o m (numL l)).map (·.2.1)).Nodup := by
  have h := ((sortD_self (kk o) (numL l)).map (·.2.1)).nodup_iff.1 (ids_nodup l)
  unfold topL
  rw [List.map_take]
  exact h.sublist (List.take_sublist _ _)
/-- The j-th of the best is the document at the place that it tells. -/
theorem top_at (o : Int) (m : Nat) (l : List Sc) (j : Nat) (h : j < (topL o m (numL l)).length) : ∃ (i : Nat) (hi : i < (numL l).length), (topL o m (numL l))[j] = (numL l)[i] ∧ (topL o m (numL l))[j].2.1 = (i : Int) := by
  have hm : (topL o m (numL l))[j] ∈ numL l := (mem_sortD (kk o) _ _).1 (List.mem_of_mem_take (List.getElem_mem h))
  obtain ⟨i, hi, e⟩ := List.getElem_of_mem hm
  exact ⟨i, hi, e.symm, by rw [← e, numL_get l i hi]⟩
theorem top_falls (o : Int) (m : Nat) (l : List Sc) (j : Nat) (h : j + 1 < (topL o m l).length) : kk o (topL o m l)[j + 1] ≤ kk o (topL o m l)[j] := by
  have hs := (sortD_sorted (kk o) l).sublist (List.take_sublist m _)
  exact List.pairwise_iff_getElem.1 hs j (j + 1) (by unfold topL at h; omega) h (by omega)
/-- None that is left out is better. -/
theorem top_left (o : Int) (m : Nat) (l : List Sc) (i : Nat) (hi : i < (numL l).length) (hn : ∀ j (h : j < (topL o m (numL l)).length), (topL o m (numL l))[j].2.1 ≠ (i : Int)) (h0 : 0 < (topL o m (numL l)).length) : kk o (numL l)[i] ≤ kk o ((topL o m (numL l))[(topL o m (numL l)).length - 1]'(by omega)) := by
  have hm : (numL l)[i] ∈ sortD (kk o) (numL l) := (mem_sortD (kk o) _ _).2 (List.getElem_mem hi)
  have hs := sortD_sorted (kk o) (numL l)
  unfold topL at hn h0 ⊢
  rw [← List.take_append_drop m (sortD (kk o) (numL l)), List.mem_append] at hm
  rw [← List.take_append_drop m (sortD (kk o) (numL l)), List.pairwise_append] at hs
  rcases hm with hm | hm
  · obtain ⟨j, hj, e⟩ := List.getElem_of_mem hm
    exact absurd (by rw [e, numL_get l i hi]) (hn j hj)
  · exact hs.2.2 _ (List.getElem_mem _) _ hm
/-- All of it, of two letters. -/
theorem best_facts (o : Int) (m : Nat) (l : List Sc) (hok : ∀ x ∈ l, ScOk x) : ∃ (L TL : List Sc), L = numL l ∧ TL = topL o m (numL l) ∧ L.length = l.length ∧ (∀ x ∈ L, ScOk x) ∧ (TL.map (·.2.1)).Nodup ∧
    (∀ j (h : j < TL.length), ∃ (i : Nat) (hi : i < L.length), TL[j] = L[i] ∧ TL[j].2.1 = (i : Int)) ∧ (∀ j (h : j + 1 < TL.length), kk o TL[j + 1] ≤ kk o TL[j]) ∧
    (∀ i (hi : i < L.length), (∀ j (h : j < TL.length), TL[j].2.1 ≠ (i : Int)) → ∀ (h0 : 0 < TL.length), kk o L[i] ≤ kk o (TL[TL.length - 1]'(by omega))) ∧ (∀ i (h : i < L.length), L[i].2.1 = (i : Int)) ∧ TL.length ≤ L.length :=
  ⟨numL l, topL o m (numL l), rfl, rfl, numL_len l, numU_ok l hok, top_ids o m l, top_at o m l, top_falls o m (numL l), top_left o m l, fun i h => by rw [numL_get l i h], topL_le o m (numL l)⟩
end Go.Proofs.Ytdkbiimhdbnplaa
