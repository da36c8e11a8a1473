/- Lists of entries that may be. Plain: no program in sight. Printed by wip/bin/gen_may.py. -/
import Derived.Test.YtgjdjggakkmbgaaKit
namespace Go.Proofs.Ytgjdjggakkmbgaa

abbrev En := Int × List Int
def risingF (was : Int) : List Int → Bool
  | [] => true
  | n :: l => if n ≤ was ∨ 65535 < n then false else risingF n l
def rising (l : List Int) : Bool := risingF (-1) l
def posOk (l : List Int) : Bool := decide (1 ≤ l.length) && (decide (l.length ≤ 256) && rising l)
def mayL (l : List En) : Bool := decide (l.length ≤ 64) && (l.all (fun e => posOk e.2) && rising (l.map (·.1)))
theorem rising_mono (was v : Int) (l : List Int) (hv : v ≤ was) (h : risingF was l = true) : risingF v l = true := by
  cases l with
  | nil => rfl
  | cons n l =>
    rw [risingF] at h ⊢
    split at h
    · cases h
    · rw [if_neg (by omega)]; exact h
theorem rising_all (was : Int) (l : List Int) (h : risingF was l = true) : ∀ n ∈ l, was < n ∧ n ≤ 65535 := by
  induction l generalizing was with
  | nil => intro n hn; cases hn
  | cons a l ih =>
    rw [risingF] at h
    split at h
    · cases h
    · intro n hn
      rcases List.mem_cons.1 hn with rfl | hn
      · omega
      · have := ih a h n hn
        omega
theorem rising_get (was : Int) (l : List Int) (h : risingF was l = true) : ∀ i (hi : i + 1 < l.length), l[i] < l[i + 1] := by
  induction l generalizing was with
  | nil => intro i hi; simp at hi
  | cons a l ih =>
    rw [risingF] at h
    split at h
    · cases h
    · intro i hi
      cases i with
      | zero =>
        have h0 : 0 < l.length := by simpa using hi
        exact (rising_all a l h l[0] (List.getElem_mem h0)).1
      | succ i => exact ih a h i (by simpa using hi)
/-- By its steps. -/
theorem rising_of (l : List Int) (was : Int) (h0 : ∀ (h : 0 < l.length), was < l[0]) (h1 : ∀ n ∈ l, n ≤ 65535) (h2 : ∀ i (hi : i + 1 < l.length), l[i] < l[i + 1]) : risingF was l = true := by
  induction l generalizing was with
  | nil => rfl
  | cons a l ih =>
    have e0 := h0 (by simp)
    have e1 := h1 a (by simp)
    simp only [List.getElem_cons_zero] at e0
    rw [risingF, if_neg (by omega)]
    exact ih a (fun h => h2 0 (by simpa using h)) (fun n hn => h1 n (by simp [hn])) (fun i hi => h2 (i + 1) (by simpa using hi))
theorem rising_app (l m : List Int) (was : Int) (h : risingF was (l ++ m) = true) : risingF was l = true := by
  induction l generalizing was with
  | nil => rfl
  | cons a l ih =>
    rw [List.cons_append, risingF] at h
    rw [risingF]
    split at h
    · cases h
    · rename_i hn; rw [if_neg hn]; exact ih a h
theorem rising_drop (l : List Int) (was : Int) (k : Nat) (h : risingF was l = true) : risingF was (l.drop k) = true := by
  induction k generalizing l was with
  | zero => exact h
  | succ k ih =>
    cases l with
    | nil => rfl
    | cons a l =>
      rw [risingF] at h
      split at h
      · cases h
      · rename_i hn
        rw [List.drop_succ_cons]
        exact rising_mono a was _ (by omega) (ih l a h)
/-- The prefix of a rising list goes on rising. -/
theorem risingF_snoc (l : List Int) (was : Int) (h : risingF was l = true) (n : Int) : risingF was (l ++ [n]) = !(decide (n ≤ (l.getLast?.getD was)) || decide (65535 < n)) := by
  induction l generalizing was with
  | nil =>
    simp only [List.nil_append, risingF, List.getLast?_nil, Option.getD_none]
    by_cases h1 : n ≤ was
    · simp [h1]
    · by_cases h2 : 65535 < n
      · simp [h2]
      · simp [h1, h2]
  | cons a l ih =>
    rw [risingF] at h
    split at h
    · cases h
    · rename_i hn
      rw [List.cons_append, risingF, if_neg hn, ih a h]
      cases l with
      | nil => rfl
      | cons b l => simp [List.getLast?_cons]
def enAt (l : List En) (i : Nat) : En := l.getD i (0, [])
theorem enAt_get (l : List En) (i : Nat) (h : i < l.length) : enAt l i = l[i] := by simp [enAt, List.getD, h]
structure MayP (l : List En) : Prop where
  len : l.length ≤ 64
  pos : ∀ i, i < l.length → 1 ≤ (enAt l i).2.length ∧ (enAt l i).2.length ≤ 256 ∧ rising (enAt l i).2 = true
  doc : ∀ i, i < l.length → 0 ≤ (enAt l i).1 ∧ (enAt l i).1 ≤ 65535
  up : ∀ i, i + 1 < l.length → (enAt l i).1 < (enAt l (i + 1)).1
theorem may_parts {l : List En} (h : mayL l = true) : MayP l := by
  simp only [mayL, Bool.and_eq_true, decide_eq_true_eq, List.all_eq_true] at h
  obtain ⟨h1, h2, h3⟩ := h
  have hl : (l.map (·.1)).length = l.length := List.length_map _
  refine ⟨h1, fun i hi => ?_, fun i hi => ?_, fun i hi => ?_⟩
  · rw [enAt_get l i hi]
    have := h2 l[i] (List.getElem_mem hi)
    simpa only [posOk, Bool.and_eq_true, decide_eq_true_eq] using this
  · rw [enAt_get l i hi]
    have := rising_all _ _ h3 l[i].1 (List.mem_map_of_mem (List.getElem_mem hi))
    omega
  · rw [enAt_get l i (by omega), enAt_get l (i + 1) hi]
    have := rising_get _ _ h3 i (by omega)
    simpa using this
theorem may_of {l : List En} (h : MayP l) : mayL l = true := by
  simp only [mayL, Bool.and_eq_true, decide_eq_true_eq, List.all_eq_true]
  refine ⟨h.len, fun e he => ?_, rising_of _ _ (fun h0 => ?_) (fun n hn => ?_) (fun i hi => ?_)⟩
  · obtain ⟨i, hi, rfl⟩ := List.getElem_of_mem he
    have := h.pos i hi
    rw [enAt_get l i hi] at this
    simpa only [posOk, Bool.and_eq_true, decide_eq_true_eq] using this
  · have h0' : 0 < l.length := by simpa using h0
    have := h.doc 0 h0'
    rw [enAt_get l 0 h0'] at this
    simp only [List.getElem_map]
    omega
  · obtain ⟨e, he, rfl⟩ := List.mem_map.1 hn
    obtain ⟨i, hi, rfl⟩ := List.getElem_of_mem he
    have := h.doc i hi
    rw [enAt_get l i hi] at this
    exact this.2
  · have hi' : i + 1 < l.length := by simpa using hi
    have := h.up i hi'
    rw [enAt_get l i (by omega), enAt_get l (i + 1) hi'] at this
    simpa using this
end Go.Proofs.Ytgjdjggakkmbgaa
