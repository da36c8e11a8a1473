/- Token's plain side: the words of runes, their terms, numbered. -/
import Derived.Test.YtmofhpebcbpccaaDoorUtfMath
import Derived.Test.YtmofhpebcbpccaaDoorFoldMath
import Derived.Lib.SlicesS
namespace Go.Proofs.YtmofhpebcbpccaaDoor

/-- The words of runes, folded, with the word that is open. -/
def grp (cur : List Int) : List Int → List (List Int)
  | [] => if cur = [] then [] else [cur]
  | r :: l => if classOf r = 0 then (if cur = [] then grp [] l else cur :: grp [] l) else grp (cur ++ [foldOf r]) l
/-- A word's term. -/
def tb (g : List Int) : ByteArray := ⟨(fitL 16 g []).toArray⟩
abbrev Tok := Int × ByteArray × Int
def toks (k : Nat) : List (List Int) → List Tok
  | [] => []
  | g :: gs => (0, tb g, (k : Int)) :: toks (k + 1) gs
def stopsL : List (List UInt8) := [[97], [97, 110], [97, 110, 100], [97, 114, 101], [97, 115], [97, 116], [98, 101], [98, 121], [102, 111, 114], [105, 110], [105, 115], [105, 116], [111, 102], [111, 110], [111, 114], [116, 104, 101], [116, 111]]
def isStop (s : ByteArray) : Bool := stopsL.any fun t => s.toList == t
def goes (x : Tok) : Bool := !isStop x.2.1
def allOf (s : ByteArray) : List Tok := toks 0 (grp [] (runesOf s))
def wordsOf (s : ByteArray) : List Tok := (allOf s).filter goes

theorem stop_no {s : ByteArray} (h : isStop s = false) (t : List UInt8) (ht : t ∈ stopsL) : (s.toList == t) = false := by
  have := List.any_eq_false.1 h t ht
  simpa using this
theorem stop_yes {s : ByteArray} (h : isStop s = true) : ∃ t ∈ stopsL, s = ⟨t.toArray⟩ := by
  obtain ⟨t, ht, e⟩ := List.any_eq_true.1 h
  refine ⟨t, ht, ?_⟩
  rw [beq_iff_eq, ByteArray.toList_eq] at e
  exact ByteArray.ext (by rw [← e])
theorem class_blank : classOf 32 = 0 := by rfl
theorem grp_no (cur : List Int) (r : Int) (l : List Int) (h : classOf r = 0) (hc : cur = []) : grp cur (r :: l) = grp [] l := by rw [grp, if_pos h, if_pos hc]
theorem grp_end (cur : List Int) (r : Int) (l : List Int) (h : classOf r = 0) (hc : cur ≠ []) : grp cur (r :: l) = cur :: grp [] l := by rw [grp, if_pos h, if_neg hc]
theorem grp_on (cur : List Int) (r : Int) (l : List Int) (h : classOf r ≠ 0) : grp cur (r :: l) = grp (cur ++ [foldOf r]) l := by rw [grp, if_neg h]
theorem grp_nil (cur : List Int) (hc : cur ≠ []) : grp cur [] = [cur] := by rw [grp, if_neg hc]
theorem toks_len (k : Nat) (gs : List (List Int)) : (toks k gs).length = gs.length := by
  induction gs generalizing k with
  | nil => rfl
  | cons g gs ih => rw [toks, List.length_cons, ih, List.length_cons]
theorem toks_app (k : Nat) (a b : List (List Int)) : toks k (a ++ b) = toks k a ++ toks (k + a.length) b := by
  induction a generalizing k with
  | nil => rfl
  | cons g a ih => rw [List.cons_append, toks, ih, toks, List.cons_append, List.length_cons, show k + 1 + a.length = k + (a.length + 1) from by omega]
theorem toks_snoc (gs : List (List Int)) (g : List Int) : toks 0 (gs ++ [g]) = toks 0 gs ++ [(0, tb g, (gs.length : Int))] := by
  rw [toks_app, Nat.zero_add]
  rfl
theorem filter_snoc (l : List Tok) (x : Tok) : (l ++ [x]).filter goes = if goes x = true then l.filter goes ++ [x] else l.filter goes := by
  rw [List.filter_append]
  split
  · rename_i h
    rw [List.filter_cons_of_pos h]
    rfl
  · rename_i h
    rw [List.filter_cons_of_neg h]
    simp
theorem grp_len (cur : List Int) (l : List Int) : (grp cur l).length ≤ l.length + 1 := by
  induction l generalizing cur with
  | nil => rw [grp]; split <;> simp
  | cons r l ih =>
    rw [grp]
    split
    · split
      · have := ih []; simp; omega
      · have := ih []; simp; omega
    · have := ih (cur ++ [foldOf r]); simp; omega
theorem allOf_len (s : ByteArray) : (allOf s).length ≤ s.size + 1 := by
  have h1 := grp_len [] (runesOf s)
  have h2 := runesOf_len s
  rw [allOf, toks_len]
  omega
theorem wordsOf_len (s : ByteArray) : (wordsOf s).length ≤ s.size + 1 := Nat.le_trans (List.length_filter_le _ _) (allOf_len s)

/-- The document's way: rune by rune, with the word that is open. -/
def stA (st : List (List Int) × List Int) (r : Int) : List (List Int) × List Int :=
  if classOf r = 0 then (if st.2 = [] then (st.1, []) else (st.1 ++ [st.2], [])) else (st.1, st.2 ++ [foldOf r])
theorem stA_all (l : List Int) (done : List (List Int)) (cur : List Int) : ((l ++ [32]).foldl stA (done, cur)).1 = done ++ grp cur l := by
  induction l generalizing done cur with
  | nil =>
    simp only [List.nil_append, List.foldl_cons, List.foldl_nil, stA, class_blank, if_true, grp]
    split <;> simp
  | cons r l ih =>
    rw [List.cons_append, List.foldl_cons, grp]
    by_cases h : classOf r = 0
    · by_cases hc : cur = []
      · rw [stA, if_pos h, if_pos hc, ih, if_pos h, if_pos hc]
      · rw [stA, if_pos h, if_neg hc, ih, if_pos h, if_neg hc]
        simp
    · rw [stA, if_neg h, ih, if_neg h]
/-- The bytes of the word that is open, and whether it is full. -/
def stT (st : List UInt8 × Bool) (r : Int) : List UInt8 × Bool := if st.2 = true ∨ 16 < st.1.length + (enc r).length then (st.1, true) else (st.1 ++ enc r, false)
theorem stT_full (l : List Int) (acc : List UInt8) : l.foldl stT (acc, true) = (acc, true) := by
  induction l with
  | nil => rfl
  | cons r l ih => rw [List.foldl_cons, stT, if_pos (.inl rfl), ih]
theorem stT_fit (l : List Int) (acc : List UInt8) : (l.foldl stT (acc, false)).1 = fitL 16 l acc := by
  induction l generalizing acc with
  | nil => rfl
  | cons r l ih =>
    rw [List.foldl_cons, fitL, stT]
    by_cases h : 16 < acc.length + (enc r).length
    · rw [if_pos (.inr h), stT_full, if_pos (by omega)]
    · rw [if_neg (by simp; omega), ih, if_neg (by omega)]
theorem fitL_fix (n : Int) (l : List Int) (acc : List UInt8) : fitL n (l.map fix) acc = fitL n l acc := by
  induction l generalizing acc with
  | nil => rfl
  | cons r l ih => rw [List.map_cons, fitL, fitL, enc_fix, ih]
theorem stT_len (l : List Int) (acc : List UInt8) (b : Bool) (h : acc.length ≤ 16) : (l.foldl stT (acc, b)).1.length ≤ 16 := by
  induction l generalizing acc b with
  | nil => exact h
  | cons r l ih =>
    rw [List.foldl_cons, stT]
    split
    · exact ih _ _ h
    · rename_i hn
      exact ih _ _ (by rw [List.length_append]; simp only [not_or] at hn; have := hn.2; change ¬ 16 < acc.length + (enc r).length at this; change acc.length + (enc r).length ≤ 16; omega)
theorem fitL_le (l : List Int) : (fitL 16 l []).length ≤ 16 := by rw [← stT_fit]; exact stT_len _ _ _ (by simp)
theorem tb_size (g : List Int) : (tb g).size ≤ 16 := by
  have := fitL_le g
  show (fitL 16 g []).toArray.size ≤ 16
  simpa using this

/-- A document's words. -/
def fieldToks (k : Nat) : List ByteArray → List Tok
  | [] => []
  | s :: r => (wordsOf s).map (fun x => ((k : Int), x.2.1, x.2.2)) ++ fieldToks (k + 1) r
theorem fieldToks_snoc (k : Nat) (l : List ByteArray) (s : ByteArray) : fieldToks k (l ++ [s]) = fieldToks k l ++ (wordsOf s).map (fun x => (((k + l.length : Nat) : Int), x.2.1, x.2.2)) := by
  induction l generalizing k with
  | nil => simp [fieldToks]
  | cons a l ih => rw [List.cons_append, fieldToks, ih, fieldToks, List.append_assoc, List.length_cons, show k + 1 + l.length = k + (l.length + 1) from by omega]
def docOk (l : List ByteArray) : Prop := l.length ≤ 4 ∧ (∀ s ∈ l, s.size ≤ 512) ∧ (fieldToks 0 l).length ≤ 64
/-- The words of a document, or none of them, and the error's number. -/
def docOf (l : List ByteArray) : List Tok × Int := if 4 < l.length ∨ (∃ s ∈ l, 512 < s.size) then ([], 4) else if 64 < (fieldToks 0 l).length then ([], 4) else (fieldToks 0 l, 0)
end Go.Proofs.YtmofhpebcbpccaaDoor
