/- The plain laws of phrases. No program in sight. -/
import Derived.Test.YtgjdjggakkmbgaaMatMath
namespace Go.Proofs.Ytgjdjggakkmbgaa

theorem count_le_of {p q : Int → Bool} (l : List Int) (h : ∀ x ∈ l, p x = true → q x = true) : l.countP p ≤ l.countP q := by
  induction l with
  | nil => simp
  | cons a l ih =>
    have h1 := ih (fun x hx => h x (by simp [hx]))
    rw [List.countP_cons, List.countP_cons]
    by_cases ha : p a = true
    · rw [if_pos ha, if_pos (h a (by simp) ha)]; omega
    · rw [if_neg ha]; omega
theorem fm_congr {α β : Type} {f g : α → Option β} (l : List α) (h : ∀ x ∈ l, f x = g x) : l.filterMap f = l.filterMap g := by
  induction l with
  | nil => rfl
  | cons a l ih =>
    rw [List.filterMap_cons, List.filterMap_cons, h a (by simp), ih (fun x hx => h x (by simp [hx]))]
/-- One term alone. -/
theorem one_times (V : List En) (d : Int) : timesF [0] [V] d = (plcF V d).length := by
  have h : ∀ p ∈ plcF V d, okM [0] [V] d p 1 = true := fun p hp => by
    rw [okM_all]
    intro k hk
    obtain rfl : k = 0 := by omega
    simpa [hitK, offA] using hp
  show (plcF V d).countP (fun p => okM [0] [V] d p 1) = _
  rw [List.countP_eq_length]
  exact h
theorem one_found {V : List En} (hm : MayP V) : phF [0] [V] = V.map fun e => (e.1, (e.2.length : Int)) := by
  rw [phF, if_neg (by simp [inRange]), phP]
  show ((V.take V.length).filterMap (foundF [0] [V])) = _
  rw [List.take_length, ← List.filterMap_eq_map]
  refine fm_congr _ ?_
  intro e he
  obtain ⟨i, hi, rfl⟩ := List.getElem_of_mem he
  have hp := plc_may hm (enAt V i).1 i hi rfl
  have h1 := (hm.pos i hi).1
  rw [enAt_get V i hi] at hp h1
  rw [foundF, one_times, hp, if_pos (by omega)]
  rfl
theorem getD_take {α : Type} (l : List α) (N k : Nat) (x : α) (h : k < N) : (l.take N).getD k x = l.getD k x := by
  rw [List.getD, List.getD, List.getElem?_take_of_lt h]
theorem hit_take (T : List Int) (Ls : List (List En)) (d p : Int) (N k : Nat) (h : k < N) : hitK (T.take N) (Ls.take N) d p k = hitK T Ls d p k := by
  rw [hitK, hitK, offA, offA, getD_take _ _ _ _ h, getD_take _ _ _ _ h, getD_take _ _ _ _ (by omega)]
theorem times_less (T : List Int) (Ls : List (List En)) (d : Int) (N : Nat) (hN : 0 < N) (hT : N ≤ T.length) : timesF T Ls d ≤ timesF (T.take N) (Ls.take N) d := by
  rw [timesF, timesF, getD_take _ _ _ _ hN]
  refine count_le_of _ fun p _ hp => ?_
  rw [okM_all] at hp ⊢
  intro k hk
  rw [List.length_take] at hk
  rw [hit_take _ _ _ _ _ _ (by omega)]
  exact hp k (by omega)
theorem found_mem {T : List Int} {Ls : List (List En)} {f : Fd} (h : f ∈ phF T Ls) : T ≠ [] ∧ T.length = Ls.length ∧ inRange T = true ∧ ∃ e ∈ Ls.getD 0 [], f = (e.1, (timesF T Ls e.1 : Int)) ∧ 0 < timesF T Ls e.1 := by
  rw [phF] at h
  split at h
  · cases h
  · rename_i hc
    simp only [not_or, Bool.not_eq_false] at hc
    have h2 : T.length = Ls.length := by have := hc.2.1; omega
    refine ⟨hc.1, h2, hc.2.2, ?_⟩
    rw [phP, List.take_length] at h
    obtain ⟨e, he, hf⟩ := List.mem_filterMap.1 h
    rw [foundF] at hf
    split at hf
    · rename_i h0
      exact ⟨e, he, (Option.some.inj hf).symm, h0⟩
    · cases hf
theorem found_of {T : List Int} {Ls : List (List En)} (h1 : T ≠ []) (h2 : T.length = Ls.length) (h3 : inRange T = true) (e : En) (he : e ∈ Ls.getD 0 []) (h0 : 0 < timesF T Ls e.1) : (e.1, (timesF T Ls e.1 : Int)) ∈ phF T Ls := by
  rw [phF, if_neg (by rintro (h | h | h); exact h1 h; exact h h2; rw [h3] at h; cases h), phP, List.take_length, List.mem_filterMap]
  exact ⟨e, he, by rw [foundF, if_pos h0]⟩
/-- A longer phrase is never found more often. -/
theorem found_less {T : List Int} {Ls : List (List En)} (N : Nat) (hN : 0 < N) (hT : N + 1 = T.length) (f : Fd) (h : f ∈ phF T Ls) : ∃ g ∈ phF (T.take N) (Ls.take N), g.1 = f.1 ∧ f.2 ≤ g.2 := by
  obtain ⟨_, h2, h3, e, he, rfl, h0⟩ := found_mem h
  have hl := times_less T Ls e.1 N hN (by omega)
  refine ⟨_, found_of (e := e) ?_ ?_ ?_ ?_ (by omega), rfl, by show (_ : Int) ≤ _; omega⟩
  · intro hn
    have := congrArg List.length hn
    rw [List.length_take, List.length_nil] at this
    omega
  · rw [List.length_take, List.length_take]; omega
  · rw [inRange, List.all_eq_true] at h3 ⊢
    exact fun t ht => h3 t (List.mem_of_mem_take ht)
  · rw [getD_take _ _ _ _ hN]; exact he
/-! ### No more often than each term -/
theorem inj_le : ∀ (F Q : List Int) (_ : F.Pairwise (· ≠ ·)) (_ : ∀ x ∈ F, x ∈ Q), F.length ≤ Q.length := by
  intro F
  induction F with
  | nil => intro Q _ _; simp
  | cons a F ih =>
    intro Q hp hs
    obtain ⟨s, t, rfl⟩ := List.append_of_mem (hs a (by simp))
    have hp2 := List.pairwise_cons.1 hp
    have := ih (s ++ t) hp2.2 (fun x hx => by
      have h1 := hs x (by simp [hx])
      have h2 := hp2.1 x hx
      rcases List.mem_append.1 h1 with h | h
      · exact List.mem_append.2 (.inl h)
      · rcases List.mem_cons.1 h with h | h
        · exact absurd h.symm h2
        · exact List.mem_append.2 (.inr h))
    simp only [List.length_append, List.length_cons] at this ⊢
    omega
theorem rise_pair (P : List Int) (was : Int) (h : risingF was P = true) : P.Pairwise (· < ·) := by
  induction P generalizing was with
  | nil => exact List.Pairwise.nil
  | cons a P ih =>
    have h1 := rising_all _ _ h
    rw [risingF] at h
    split at h
    · cases h
    · have h2 := rising_all _ _ h
      exact List.pairwise_cons.2 ⟨fun b hb => (h2 b hb).1, ih a h⟩
theorem times_le {T : List Int} {Ls : List (List En)} (hM : ∀ V ∈ Ls, MayP V) (d : Int) (h0 : 0 < Ls.length) (k : Nat) (hk : k < T.length) : timesF T Ls d ≤ (plcF (Ls.getD k []) d).length := by
  have hr := (plc_ok (may_at hM 0 h0) d).2.2
  have hpw := rise_pair _ _ hr
  rw [timesF, List.countP_eq_length_filter]
  have h1 := inj_le (((plcF (Ls.getD 0 []) d).filter (fun p => okM T Ls d p T.length)).map (fun p => offA T p k)) (plcF (Ls.getD k []) d) ?_ ?_
  · rwa [List.length_map] at h1
  · rw [List.pairwise_map]
    refine (hpw.filter _).imp ?_
    intro a b hab e
    simp only [offA] at e
    omega
  · intro x hx
    obtain ⟨p, hp, rfl⟩ := List.mem_map.1 hx
    have := okM_all.1 (List.mem_filter.1 hp).2 k hk
    simpa [hitK] using this
/-- The documents of what is found rise. -/
theorem found_rise {T : List Int} {Ls : List (List En)} (hM : ∀ V ∈ Ls, MayP V) : (phF T Ls).Pairwise (fun f g => f.1 < g.1) := by
  rw [phF]
  split
  · exact List.Pairwise.nil
  · rename_i hc
    simp only [not_or] at hc
    rw [phP, List.take_length]
    have h0 : 0 < Ls.length := by
      have h1 : T.length ≠ 0 := fun h => hc.1 (List.length_eq_zero_iff.1 h)
      have h2 := hc.2.1
      omega
    have hm := may_at hM 0 h0
    have hpw : (Ls.getD 0 []).Pairwise (fun e g => e.1 < g.1) := by
      rw [List.pairwise_iff_getElem]
      intro i j hi hj hij
      have := doc_lt hm i j hij hj
      rwa [enAt_get _ i hi, enAt_get _ j hj] at this
    rw [List.pairwise_filterMap]
    refine hpw.imp ?_
    intro a b hab f hf g hg
    rw [foundF] at hf hg
    split at hf
    · split at hg
      · cases hf; cases hg; exact hab
      · cases hg
    · cases hf
theorem plc_take_no (V : List En) (d : Int) (k : Nat) (hk : k < V.length) (h : (enAt V k).1 ≠ d) : plcF (V.take (k + 1)) d = plcF (V.take k) d := by
  rw [List.take_succ_eq_append_getElem hk, plcF, plcF, List.find?_append]
  rw [enAt_get V k hk] at h
  cases (V.take k).find? (fun e => decide (e.1 = d)) with
  | none => simp [h]
  | some e => simp
theorem plc_take_yes {V : List En} (hm : MayP V) (k : Nat) (hk : k < V.length) : plcF (V.take (k + 1)) (enAt V k).1 = (enAt V k).2 := by
  have e : ∀ j, j ≤ k → enAt (V.take (k + 1)) j = enAt V j := fun j hj => by rw [enAt, enAt, getD_take _ _ _ _ (by omega)]
  have := plc_first (V.take (k + 1)) (enAt V k).1 k (by rw [List.length_take]; omega) (by rw [e k (Nat.le_refl _)]) (fun j hj => by
    rw [e j (by omega)]
    have := doc_lt hm j k hj hk
    omega)
  rw [this, e k (Nat.le_refl _)]
theorem ph_len {T : List Int} {Ls : List (List En)} (hM : ∀ V ∈ Ls, MayP V) : (phF T Ls).length ≤ 64 := by
  rw [phF]
  split
  · simp
  · have h1 := phP_len T Ls (Ls.getD 0 []).length
    have h2 : (Ls.getD 0 []).length ≤ 64 := by
      by_cases h0 : 0 < Ls.length
      · exact (may_at hM 0 h0).len
      · rw [List.getD, List.getElem?_eq_none (by omega)]
        simp
    omega
end Go.Proofs.Ytgjdjggakkmbgaa
