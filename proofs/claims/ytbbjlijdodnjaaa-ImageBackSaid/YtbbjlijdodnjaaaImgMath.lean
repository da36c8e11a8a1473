/- Images of segments' contents as cells. Plain: no program in sight. -/
import Derived.Test.YtbbjlijdodnjaaaBlkDecMath
namespace Go.Proofs.Ytbbjlijdodnjaaa

/-- A list: its key, its record, its entries. -/
abbrev LV := ByteArray × Int × List En
abbrev Rv := Int × Int × Int × Int
def keyLt (a b : ByteArray) : Bool := Op.bytesLess a.toList b.toList
def lvAt (ls : List LV) (i : Nat) : LV := ls.getD i (ByteArray.empty, 0, [])
def lastDoc (l : List En) : Int := (enAt l (l.length - 1)).1
def lstOk (nr : Nat) (l : LV) : Bool := decide (1 ≤ l.2.1) && (decide (l.2.1 ≤ 65535) && (decide (0 < l.2.2.length) && (decide (lastDoc l.2.2 < nr) && mayL l.2.2)))
def okB (nr : Nat) (ls : List LV) (i : Nat) : Bool := (decide (i = 0) || keyLt (lvAt ls (i - 1)).1 (lvAt ls i).1) && lstOk nr (lvAt ls i)
def mayI (nr : Nat) (ls : List LV) : Bool := decide (nr ≤ 64) && (decide (ls.length ≤ 256) && (List.range ls.length).all (okB nr ls))
theorem lvAt_get (ls : List LV) (i : Nat) (h : i < ls.length) : lvAt ls i = ls[i] := by simp [lvAt, List.getD, h]
theorem mayI_yes {nr : Nat} {ls : List LV} (h1 : nr ≤ 64) (h2 : ls.length ≤ 256) (h : ∀ i, i < ls.length → okB nr ls i = true) : mayI nr ls = true := by
  simp only [mayI, h1, h2, decide_true, Bool.true_and, List.all_eq_true, List.mem_range]
  exact h
theorem mayI_no {nr : Nat} {ls : List LV} (j : Nat) (hj : j < ls.length) (h : okB nr ls j = false) : mayI nr ls = false := by
  cases hm : mayI nr ls with
  | false => rfl
  | true =>
    simp only [mayI, Bool.and_eq_true, List.all_eq_true, List.mem_range] at hm
    rw [hm.2.2 j hj] at h
    cases h
theorem mayI_rows {nr : Nat} {ls : List LV} (h : 64 < nr) : mayI nr ls = false := by
  have : ¬ nr ≤ 64 := by omega
  simp [mayI, this]
theorem mayI_many {nr : Nat} {ls : List LV} (h : 256 < ls.length) : mayI nr ls = false := by
  have : ¬ ls.length ≤ 256 := by omega
  simp [mayI, this]
theorem mayI_parts {nr : Nat} {ls : List LV} (h : mayI nr ls = true) : nr ≤ 64 ∧ ls.length ≤ 256 ∧ ∀ i, i < ls.length → okB nr ls i = true := by
  simp only [mayI, Bool.and_eq_true, List.all_eq_true, List.mem_range, decide_eq_true_eq] at h
  exact ⟨h.1, h.2.1, h.2.2⟩
structure LstOk (nr : Nat) (l : LV) : Prop where
  r1 : 1 ≤ l.2.1
  r2 : l.2.1 ≤ 65535
  n0 : 0 < l.2.2.length
  doc : lastDoc l.2.2 < nr
  may : MayP l.2.2
theorem lstOk_parts {nr : Nat} {l : LV} (h : lstOk nr l = true) : LstOk nr l := by
  simp only [lstOk, Bool.and_eq_true, decide_eq_true_eq] at h
  exact ⟨h.1, h.2.1, h.2.2.1, h.2.2.2.1, may_parts h.2.2.2.2⟩
theorem lstOk_of {nr : Nat} {l : LV} (h : LstOk nr l) : lstOk nr l = true := by
  simp only [lstOk, Bool.and_eq_true, decide_eq_true_eq]
  exact ⟨h.r1, h.r2, h.n0, h.doc, may_of h.may⟩
theorem okB_parts {nr : Nat} {ls : List LV} {i : Nat} (h : okB nr ls i = true) : (0 < i → keyLt (lvAt ls (i - 1)).1 (lvAt ls i).1 = true) ∧ LstOk nr (lvAt ls i) := by
  simp only [okB, Bool.and_eq_true, Bool.or_eq_true, decide_eq_true_eq] at h
  exact ⟨fun h0 => by rcases h.1 with h1 | h1 <;> first | omega | exact h1, lstOk_parts h.2⟩
theorem okB_of {nr : Nat} {ls : List LV} {i : Nat} (h1 : 0 < i → keyLt (lvAt ls (i - 1)).1 (lvAt ls i).1 = true) (h2 : LstOk nr (lvAt ls i)) : okB nr ls i = true := by
  simp only [okB, Bool.and_eq_true, Bool.or_eq_true, decide_eq_true_eq]
  exact ⟨(Nat.eq_zero_or_pos i).imp id h1, lstOk_of h2⟩
theorem okB_not {nr : Nat} {ls : List LV} {i : Nat} (h : ¬ ((0 < i → keyLt (lvAt ls (i - 1)).1 (lvAt ls i).1 = true) ∧ LstOk nr (lvAt ls i))) : okB nr ls i = false := by
  cases hb : okB nr ls i with
  | false => rfl
  | true => exact absurd (okB_parts hb) h
theorem doc_le_last {l : List En} (h : MayP l) (k : Nat) (hk : k < l.length) : (enAt l k).1 ≤ lastDoc l := by
  rw [lastDoc]
  have : ∀ d, k + d < l.length → (enAt l k).1 ≤ (enAt l (k + d)).1 := by
    intro d
    induction d with
    | zero => intro _; exact Int.le_refl _
    | succ d ih =>
      intro hd
      have h1 := ih (by omega)
      have h2 := h.up (k + d) hd
      rw [show k + (d + 1) = k + d + 1 from rfl]
      omega
  have := this (l.length - 1 - k) (by omega)
  rwa [show k + (l.length - 1 - k) = l.length - 1 from by omega] at this

/-! ### The image -/
def rwI (r : Rv) : List Int := [r.1, r.2.1, r.2.2.1, r.2.2.2]
def lenE (l : LV) : Nat := (encL l.2.2).length
def bodyI (ls : List LV) : List Int := ls.flatMap fun l => encL l.2.2
def dirI (to : Int) : List LV → List Int
  | [] => []
  | l :: ls => l.2.1 :: to :: dirI (to + lenE l) ls
def headI (nr : Nat) (nl : Nat) : List Int := [1 + (nr : Int), (nl : Int)]
def imgL (at_ : Int) (rows : List Rv) (ls : List LV) : List Int := headI rows.length ls.length ++ rows.flatMap rwI ++ dirI (at_ + 2 + 4 * rows.length + 2 * ls.length) ls ++ bodyI ls
/-- The cells and the error's number. -/
def imgA (at_ : Int) (rows : List Rv) (ls : List LV) : List Int × Int := if mayI rows.length ls = true ∧ 0 ≤ at_ ∧ at_ ≤ 65536 then (imgL at_ rows ls, 0) else ([], 1)
theorem imgA_yes {at_ : Int} {rows : List Rv} {ls : List LV} (h : mayI rows.length ls = true) (h0 : 0 ≤ at_) (h1 : at_ ≤ 65536) : imgA at_ rows ls = (imgL at_ rows ls, 0) := by rw [imgA, if_pos ⟨h, h0, h1⟩]
theorem imgA_may {at_ : Int} {rows : List Rv} {ls : List LV} (h : mayI rows.length ls = false) : imgA at_ rows ls = ([], 1) := by rw [imgA, if_neg (by rw [h]; simp)]
theorem imgA_at {at_ : Int} {rows : List Rv} {ls : List LV} (h : ¬ (0 ≤ at_ ∧ at_ ≤ 65536)) : imgA at_ rows ls = ([], 1) := by rw [imgA, if_neg (fun k => h k.2)]
theorem imgA_ok {at_ : Int} {rows : List Rv} {ls : List LV} {cells : List Int} (h : imgA at_ rows ls = (cells, 0)) : mayI rows.length ls = true ∧ 0 ≤ at_ ∧ at_ ≤ 65536 ∧ imgL at_ rows ls = cells := by
  rw [imgA] at h
  split at h
  · rename_i hm
    exact ⟨hm.1, hm.2.1, hm.2.2, congrArg (·.1) h⟩
  · exact absurd (congrArg (·.2) h) (by simp)
theorem bodyI_len_le {ls : List LV} (h : ∀ l ∈ ls, lenE l ≤ 20000) : (bodyI ls).length ≤ 20000 * ls.length := by
  induction ls with
  | nil => simp [bodyI]
  | cons l ls ih =>
    have h1 := ih (fun x hx => h x (by simp [hx]))
    have h2 := h l (by simp)
    rw [bodyI, List.flatMap_cons, List.length_append, List.length_cons]
    rw [bodyI] at h1
    rw [lenE] at h2
    omega
theorem bodyI_snoc (ls : List LV) (l : LV) : bodyI (ls ++ [l]) = bodyI ls ++ encL l.2.2 := by simp [bodyI]
theorem dirI_snoc (ls : List LV) (l : LV) (to : Int) : dirI to (ls ++ [l]) = dirI to ls ++ [l.2.1, to + (bodyI ls).length] := by
  induction ls generalizing to with
  | nil => simp [dirI, bodyI]
  | cons a ls ih =>
    rw [List.cons_append, dirI, ih, dirI]
    have e : to + (lenE a : Int) + (bodyI ls).length = to + (bodyI (a :: ls)).length := by
      simp only [bodyI, List.flatMap_cons, List.length_append, lenE]
      omega
    rw [e]
    rfl
theorem dirI_len (ls : List LV) (to : Int) : (dirI to ls).length = 2 * ls.length := by
  induction ls generalizing to with
  | nil => rfl
  | cons a ls ih => rw [dirI, List.length_cons, List.length_cons, ih, List.length_cons]; omega
theorem rwI_len (rows : List Rv) : (rows.flatMap rwI).length = 4 * rows.length := by
  induction rows with
  | nil => rfl
  | cons a l ih => rw [List.flatMap_cons, List.length_append, ih, List.length_cons]; simp [rwI]; omega
theorem imgL_len (at_ : Int) (rows : List Rv) (ls : List LV) : (imgL at_ rows ls).length = 2 + 4 * rows.length + 2 * ls.length + (bodyI ls).length := by
  rw [imgL, List.length_append, List.length_append, List.length_append, rwI_len, dirI_len]
  simp [headI]
theorem encL_le {l : List En} (h : MayP l) : (encL l).length ≤ 20000 := by
  have h1 := bodyB_len h l.length (Nat.le_refl _)
  have h2 := h.len
  rw [encL_len]
  omega
theorem may_lens {nr : Nat} {ls : List LV} (h : mayI nr ls = true) : ∀ l ∈ ls, lenE l ≤ 20000 := by
  intro l hl
  obtain ⟨i, hi, rfl⟩ := List.getElem_of_mem hl
  have := (okB_parts ((mayI_parts h).2.2 i hi)).2.may
  rw [lvAt_get _ _ hi] at this
  exact encL_le this
end Go.Proofs.Ytbbjlijdodnjaaa
