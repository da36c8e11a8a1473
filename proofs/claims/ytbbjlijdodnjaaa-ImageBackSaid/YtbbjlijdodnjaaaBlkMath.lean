/- Lists of entries as cells. Plain: no program in sight. -/
import Derived.Test.YtbbjlijdodnjaaaVlqMathA
import Derived.Test.YtbbjlijdodnjaaaPackCells
namespace Go.Proofs.Ytbbjlijdodnjaaa

abbrev En := Int × List Int
def risingF (was : Int) : List Int → Bool
  | [] => true
  | n :: l => if n ≤ was ∨ 65535 < n then false else risingF n l
def rising (l : List Int) : Bool := risingF (-1) l
def posOk (l : List Int) : Bool := decide (1 ≤ l.length) && (decide (l.length ≤ 256) && rising l)
def mayL (l : List En) : Bool := decide (l.length ≤ 64) && (l.all (fun e => posOk e.2) && rising (l.map (·.1)))

theorem rising_mono (was v : Int) (l : List Int) (hv : v ≤ was) (h : risingF was l = true) : risingF v l = true := by
  cases l with
  | nil => rfl
  | cons n l =>
    rw [risingF] at h ⊢
    split at h
    · cases h
    · rw [if_neg (by omega)]; exact h
theorem rising_all (was : Int) (l : List Int) (h : risingF was l = true) : ∀ n ∈ l, was < n ∧ n ≤ 65535 := by
  induction l generalizing was with
  | nil => intro n hn; cases hn
  | cons a l ih =>
    rw [risingF] at h
    split at h
    · cases h
    · intro n hn
      rcases List.mem_cons.1 hn with rfl | hn
      · omega
      · have := ih a h n hn
        omega
theorem rising_get (was : Int) (l : List Int) (h : risingF was l = true) : ∀ i (hi : i + 1 < l.length), l[i] < l[i + 1] := by
  induction l generalizing was with
  | nil => intro i hi; simp at hi
  | cons a l ih =>
    rw [risingF] at h
    split at h
    · cases h
    · intro i hi
      cases i with
      | zero =>
        have h0 : 0 < l.length := by simpa using hi
        exact (rising_all a l h l[0] (List.getElem_mem h0)).1
      | succ i => exact ih a h i (by simpa using hi)
/-- By its steps. -/
theorem rising_of (l : List Int) (was : Int) (h0 : ∀ (h : 0 < l.length), was < l[0]) (h1 : ∀ n ∈ l, n ≤ 65535) (h2 : ∀ i (hi : i + 1 < l.length), l[i] < l[i + 1]) : risingF was l = true := by
  induction l generalizing was with
  | nil => rfl
  | cons a l ih =>
    have e0 := h0 (by simp)
    have e1 := h1 a (by simp)
    simp only [List.getElem_cons_zero] at e0
    rw [risingF, if_neg (by omega)]
    exact ih a (fun h => h2 0 (by simpa using h)) (fun n hn => h1 n (by simp [hn])) (fun i hi => h2 (i + 1) (by simpa using hi))
theorem rising_app (l m : List Int) (was : Int) (h : risingF was (l ++ m) = true) : risingF was l = true := by
  induction l generalizing was with
  | nil => rfl
  | cons a l ih =>
    rw [List.cons_append, risingF] at h
    rw [risingF]
    split at h
    · cases h
    · rename_i hn; rw [if_neg hn]; exact ih a h
theorem rising_drop (l : List Int) (was : Int) (k : Nat) (h : risingF was l = true) : risingF was (l.drop k) = true := by
  induction k generalizing l was with
  | zero => exact h
  | succ k ih =>
    cases l with
    | nil => rfl
    | cons a l =>
      rw [risingF] at h
      split at h
      · cases h
      · rename_i hn
        rw [List.drop_succ_cons]
        exact rising_mono a was _ (by omega) (ih l a h)

/-- The prefix of a rising list goes on rising. -/
theorem risingF_snoc (l : List Int) (was : Int) (h : risingF was l = true) (n : Int) : risingF was (l ++ [n]) = !(decide (n ≤ (l.getLast?.getD was)) || decide (65535 < n)) := by
  induction l generalizing was with
  | nil =>
    simp only [List.nil_append, risingF, List.getLast?_nil, Option.getD_none]
    by_cases h1 : n ≤ was
    · simp [h1]
    · by_cases h2 : 65535 < n
      · simp [h2]
      · simp [h1, h2]
  | cons a l ih =>
    rw [risingF] at h
    split at h
    · cases h
    · rename_i hn
      rw [List.cons_append, risingF, if_neg hn, ih a h]
      cases l with
      | nil => rfl
      | cons b l => simp [List.getLast?_cons]

def posSum (l : List En) : Nat := (l.map fun e => e.2.length).sum

/-- The bytes of places, each told by its distance. -/
def gapsB (at_ : Int) : List Int → List UInt8
  | [] => []
  | n :: l => putL (n - at_).toNat ++ gapsB n l
theorem gapsB_snoc (l : List Int) (at_ n : Int) : gapsB at_ (l ++ [n]) = gapsB at_ l ++ putL (n - (l.getLast?.getD at_)).toNat := by
  induction l generalizing at_ with
  | nil => simp [gapsB]
  | cons a l ih =>
    rw [List.cons_append, gapsB, ih, gapsB, List.append_assoc]
    cases l with
    | nil => rfl
    | cons b l => simp [List.getLast?_cons]
def enAt (l : List En) (i : Nat) : En := l.getD i (0, [])
def baseAt (l : List En) (i : Nat) : Int := if i % 4 = 0 then 0 else (enAt l (i - 1)).1
def entB (l : List En) (i : Nat) : List UInt8 := putL ((enAt l i).1 - baseAt l i).toNat ++ putL (enAt l i).2.length ++ gapsB 0 (enAt l i).2
def bodyB (l : List En) : Nat → List UInt8
  | 0 => []
  | i + 1 => bodyB l i ++ entB l i
def skipOf (l : List En) (i : Nat) : Int := 65536 * (enAt l (min (i + 4) l.length - 1)).1 + (bodyB l i).length
def skipsB (l : List En) : Nat → List Int
  | 0 => []
  | i + 1 => if i % 4 = 0 then skipsB l i ++ [skipOf l i] else skipsB l i
def cellsB (b : List UInt8) : List Int := cellsOf b ((b.length + 3) / 4)
def encL (l : List En) : List Int := ((l.length : Int) :: skipsB l l.length) ++ cellsB (bodyB l l.length)
/-- The cells and the error's number. -/
def encA (l : List En) : List Int × Int := if mayL l = true then (encL l, 0) else ([], 1)

theorem enAt_get (l : List En) (i : Nat) (h : i < l.length) : enAt l i = l[i] := by simp [enAt, List.getD, h]
structure MayP (l : List En) : Prop where
  len : l.length ≤ 64
  pos : ∀ i, i < l.length → 1 ≤ (enAt l i).2.length ∧ (enAt l i).2.length ≤ 256 ∧ rising (enAt l i).2 = true
  doc : ∀ i, i < l.length → 0 ≤ (enAt l i).1 ∧ (enAt l i).1 ≤ 65535
  up : ∀ i, i + 1 < l.length → (enAt l i).1 < (enAt l (i + 1)).1
theorem may_parts {l : List En} (h : mayL l = true) : MayP l := by
  simp only [mayL, Bool.and_eq_true, decide_eq_true_eq, List.all_eq_true] at h
  obtain ⟨h1, h2, h3⟩ := h
  have hl : (l.map (·.1)).length = l.length := List.length_map _
  refine ⟨h1, fun i hi => ?_, fun i hi => ?_, fun i hi => ?_⟩
  · rw [enAt_get l i hi]
    have := h2 l[i] (List.getElem_mem hi)
    simpa only [posOk, Bool.and_eq_true, decide_eq_true_eq] using this
  · rw [enAt_get l i hi]
    have := rising_all _ _ h3 l[i].1 (List.mem_map_of_mem (List.getElem_mem hi))
    omega
  · rw [enAt_get l i (by omega), enAt_get l (i + 1) hi]
    have := rising_get _ _ h3 i (by omega)
    simpa using this
theorem may_of {l : List En} (h : MayP l) : mayL l = true := by
  simp only [mayL, Bool.and_eq_true, decide_eq_true_eq, List.all_eq_true]
  refine ⟨h.len, fun e he => ?_, rising_of _ _ (fun h0 => ?_) (fun n hn => ?_) (fun i hi => ?_)⟩
  · obtain ⟨i, hi, rfl⟩ := List.getElem_of_mem he
    have := h.pos i hi
    rw [enAt_get l i hi] at this
    simpa only [posOk, Bool.and_eq_true, decide_eq_true_eq] using this
  · have h0' : 0 < l.length := by simpa using h0
    have := h.doc 0 h0'
    rw [enAt_get l 0 h0'] at this
    simp only [List.getElem_map]
    omega
  · obtain ⟨e, he, rfl⟩ := List.mem_map.1 hn
    obtain ⟨i, hi, rfl⟩ := List.getElem_of_mem he
    have := h.doc i hi
    rw [enAt_get l i hi] at this
    exact this.2
  · have hi' : i + 1 < l.length := by simpa using hi
    have := h.up i hi'
    rw [enAt_get l i (by omega), enAt_get l (i + 1) hi'] at this
    simpa using this
theorem put_le3 (n : Nat) (h : n ≤ 65535) : (putL n).length ≤ 3 := by
  rcases (show n < 128 ∨ (128 ≤ n ∧ n < 16384) ∨ (16384 ≤ n ∧ n < 2097152) from by omega) with h1 | h1 | h1
  · rw [put_1 n h1]; simp
  · rw [put_2 n h1.1 h1.2]; simp
  · rw [put_3 n h1.1 h1.2]; simp
theorem gapsB_len (l : List Int) (at_ : Int) (h : risingF (at_ - 1) l = true) (h0 : 0 ≤ at_) : (gapsB at_ l).length ≤ 3 * l.length := by
  induction l generalizing at_ with
  | nil => simp [gapsB]
  | cons n l ih =>
    have h1 := rising_all _ _ h n (by simp)
    rw [risingF, if_neg (by omega)] at h
    have h2 := ih n (rising_mono n (n - 1) l (by omega) h) (by omega)
    have h3 := put_le3 (n - at_).toNat (by omega)
    rw [gapsB, List.length_append, List.length_cons]
    omega
theorem base_ok {l : List En} (h : MayP l) (i : Nat) (hi : i < l.length) : 0 ≤ baseAt l i ∧ baseAt l i ≤ (enAt l i).1 := by
  have h1 := h.doc i hi
  rw [baseAt]
  split
  · omega
  · cases i with
    | zero => omega
    | succ i =>
      have h2 := h.up i hi
      have h3 := h.doc i (by omega)
      rw [Nat.add_sub_cancel]
      omega
theorem entB_len {l : List En} (h : MayP l) (i : Nat) (hi : i < l.length) : (entB l i).length ≤ 774 := by
  have h1 := base_ok h i hi
  have h2 := h.doc i hi
  have h3 := h.pos i hi
  have h4 := put_le3 ((enAt l i).1 - baseAt l i).toNat (by omega)
  have h5 := put_le3 (enAt l i).2.length (by omega)
  have h6 := gapsB_len (enAt l i).2 0 (by exact h3.2.2) (by omega)
  rw [entB, List.length_append, List.length_append]
  omega
theorem bodyB_len {l : List En} (h : MayP l) (i : Nat) (hi : i ≤ l.length) : (bodyB l i).length ≤ 774 * i := by
  induction i with
  | zero => simp [bodyB]
  | succ i ih =>
    have h1 := ih (by omega)
    have h2 := entB_len h i (by omega)
    rw [bodyB, List.length_append]
    omega
theorem skipsB_len (l : List En) (i : Nat) : (skipsB l i).length = (i + 3) / 4 := by
  induction i with
  | zero => rfl
  | succ i ih =>
    rw [skipsB]
    split
    · rw [List.length_append, ih, List.length_singleton]; omega
    · rw [ih]; omega
theorem skip_range {l : List En} (h : MayP l) (i : Nat) (hi : i < l.length) : 0 ≤ skipOf l i ∧ skipOf l i < 4294967296 ∧ (bodyB l i).length < 65536 := by
  have h1 := bodyB_len h i (by omega)
  have h2 := h.len
  have h3 := h.doc (min (i + 4) l.length - 1) (by omega)
  rw [skipOf]
  omega
theorem skips_get (l : List En) (n j : Nat) (h : 4 * j < n) : (skipsB l n)[j]? = some (skipOf l (4 * j)) := by
  induction n with
  | zero => omega
  | succ n ih =>
    rw [skipsB]
    have hl := skipsB_len l n
    split
    · rename_i h4
      by_cases hj : 4 * j < n
      · rw [List.getElem?_append_left (by rw [hl]; omega)]
        exact ih hj
      · rw [List.getElem?_append_right (by rw [hl]; omega), hl]
        have e : j - (n + 3) / 4 = 0 := by omega
        rw [e, show 4 * j = n from by omega]
        rfl
    · exact ih (by omega)
theorem encL_len (l : List En) : (encL l).length = 1 + (l.length + 3) / 4 + ((bodyB l l.length).length + 3) / 4 := by
  rw [encL, List.length_append, List.length_cons, skipsB_len, cellsB, cellsOf, List.length_map, List.length_range]
  omega
theorem encL_get (l : List En) (j : Nat) (h : 4 * j < l.length) : (encL l)[1 + j]? = some (skipOf l (4 * j)) := by
  have hl := skipsB_len l l.length
  rw [encL, List.getElem?_append_left (by rw [List.length_cons, hl]; omega), Nat.add_comm, List.getElem?_cons_succ]
  exact skips_get l _ j h
end Go.Proofs.Ytbbjlijdodnjaaa
