/- Cells read as a segment's content. Plain: no program in sight. -/
import Derived.Test.YtbbjlijdodnjaaaImgPlain
namespace Go.Proofs.Ytbbjlijdodnjaaa

def cD (cells : List Int) (i : Nat) : Int := cells.getD i 0
def nI (cells : List Int) : Nat := (cD cells 0).toNat - 1
def tI (cells : List Int) : Nat := (cD cells 1).toNat
def hI (cells : List Int) : Nat := 2 + 4 * nI cells
structure HeadR (at_ : Int) (cells : List Int) : Prop where
  a0 : 0 ≤ at_
  a1 : at_ ≤ 65536
  l2 : 2 ≤ cells.length
  c0 : 1 ≤ cD cells 0
  c0' : cD cells 0 ≤ 65
  c1 : cD cells 1 ≤ 256
  len : hI cells + 2 * tI cells ≤ cells.length
def rowR (cells : List Int) (d : Nat) : Rv := (cD cells (2 + 4 * d), cD cells (3 + 4 * d), cD cells (4 + 4 * d), cD cells (5 + 4 * d))
def rowsR (cells : List Int) (k : Nat) : List Rv := (List.range k).map (rowR cells)
def fromR (at_ : Int) (cells : List Int) (i : Nat) : Int := cD cells (hI cells + 2 * i + 1) - at_
def toR (at_ : Int) (cells : List Int) (i : Nat) : Int := if i + 1 < tI cells then fromR at_ cells (i + 1) else cells.length
def segR (at_ : Int) (cells : List Int) (i : Nat) : List Int := (cells.drop (fromR at_ cells i).toNat).take ((toR at_ cells i).toNat - (fromR at_ cells i).toNat)
structure GoodR (at_ : Int) (cells : List Int) (i : Nat) : Prop where
  f0 : 0 ≤ fromR at_ cells i
  ft : fromR at_ cells i ≤ toR at_ cells i
  tl : toR at_ cells i ≤ cells.length
  dec : (decB (segR at_ cells i)).2 = 0
def keyS (i : Nat) : ByteArray := ⟨#[UInt8.ofNat (i / 256), UInt8.ofNat (i % 256)]⟩
noncomputable def lvR (at_ : Int) (cells : List Int) (key : Nat → ByteArray) (i : Nat) : LV := (key i, cD cells (hI cells + 2 * i), (decB (segR at_ cells i)).1)
noncomputable def lvsR (at_ : Int) (cells : List Int) (key : Nat → ByteArray) (k : Nat) : List LV := (List.range k).map (lvR at_ cells key)
/-- As the program has it: the image of what is read is the cells. -/
def OkP (at_ : Int) (cells : List Int) : Prop := HeadR at_ cells ∧ (∀ i, i < tI cells → GoodR at_ cells i) ∧ imgA at_ (rowsR cells (nI cells)) (lvsR at_ cells keyS (tI cells)) = (cells, 0)
/-- As the document has it: list behind list. -/
def OkC (at_ : Int) (cells : List Int) : Prop := HeadR at_ cells ∧ (∀ i, i < tI cells → GoodR at_ cells i ∧ LstOk (nI cells) (lvR at_ cells keyS i)) ∧ (if tI cells = 0 then cells.length = hI cells else fromR at_ cells 0 = hI cells + 2 * tI cells)

theorem rowsR_len (cells : List Int) (k : Nat) : (rowsR cells k).length = k := by simp [rowsR]
theorem lvsR_len (at_ : Int) (cells : List Int) (key : Nat → ByteArray) (k : Nat) : (lvsR at_ cells key k).length = k := by simp [lvsR]
theorem rowsR_snoc (cells : List Int) (k : Nat) : rowsR cells (k + 1) = rowsR cells k ++ [rowR cells k] := by simp [rowsR, List.range_succ]
theorem lvsR_snoc (at_ : Int) (cells : List Int) (key : Nat → ByteArray) (k : Nat) : lvsR at_ cells key (k + 1) = lvsR at_ cells key k ++ [lvR at_ cells key k] := by simp [lvsR, List.range_succ]
theorem lvsR_at (at_ : Int) (cells : List Int) (key : Nat → ByteArray) (k i : Nat) (h : i < k) : lvAt (lvsR at_ cells key k) i = lvR at_ cells key i := by
  rw [lvAt_get _ _ (by rw [lvsR_len]; exact h)]
  simp [lvsR]
theorem dec_ok {c : List Int} (h : (decB c).2 = 0) : MayP (decB c).1 ∧ encL (decB c).1 = c := by
  rw [decB] at h ⊢
  split at h
  · rename_i h2
    rw [if_pos h2]
    exact encA_ok h2.2.2
  · cases h
theorem take_snoc1 (l : List Int) (m : Nat) (h : m < l.length) : l.take (m + 1) = l.take m ++ [l.getD m 0] := by
  rw [List.take_succ_eq_append_getElem h, List.getD, List.getElem?_eq_getElem h]
  rfl
theorem take_snoc2 (l : List Int) (m : Nat) (h : m + 1 < l.length) : l.take (m + 2) = l.take m ++ [l.getD m 0, l.getD (m + 1) 0] := by
  rw [show m + 2 = m + 1 + 1 from rfl, take_snoc1 l (m + 1) h, take_snoc1 l m (by omega), List.append_assoc]
  rfl
theorem take_snoc4 (l : List Int) (m : Nat) (h : m + 3 < l.length) : l.take (m + 4) = l.take m ++ [l.getD m 0, l.getD (m + 1) 0, l.getD (m + 2) 0, l.getD (m + 3) 0] := by
  rw [show m + 4 = m + 2 + 2 from rfl, take_snoc2 l (m + 2) h, take_snoc2 l m (by omega), List.append_assoc]
  rfl
theorem rows_eq {cells : List Int} {at_ : Int} (hh : HeadR at_ cells) (hw : ∀ x ∈ cells, 0 ≤ x) (k : Nat) (hk : k ≤ nI cells) : headI (nI cells) (tI cells) ++ (rowsR cells k).flatMap rwI = cells.take (2 + 4 * k) := by
  have hl := hh.len
  rw [hI] at hl
  induction k with
  | zero =>
    have h1 : 0 ≤ cD cells 1 := by
      rw [cD, List.getD, List.getElem?_eq_getElem (show 1 < cells.length by have := hh.l2; omega)]
      exact hw _ (List.getElem_mem _)
    have h0 := hh.c0
    rw [show 2 + 4 * 0 = 0 + 2 from rfl, take_snoc2 cells 0 (by have := hh.l2; omega)]
    simp only [rowsR, List.range_zero, List.map_nil, List.flatMap_nil, List.append_nil, List.take_zero, List.nil_append, headI]
    rw [show cells.getD 0 0 = 1 + (nI cells : Int) from by show cD cells 0 = _; rw [nI]; omega, show cells.getD (0 + 1) 0 = (tI cells : Int) from by show cD cells 1 = _; rw [tI]; omega]
  | succ k ih =>
    rw [rowsR_snoc, List.flatMap_append, ← List.append_assoc, ih (by omega), show 2 + 4 * (k + 1) = 2 + 4 * k + 4 from by omega, take_snoc4 cells (2 + 4 * k) (by omega)]
    congr 1
    simp only [List.flatMap_cons, List.flatMap_nil, List.append_nil, rwI, rowR, cD]
    rw [show 3 + 4 * k = 2 + 4 * k + 1 from by omega, show 4 + 4 * k = 2 + 4 * k + 2 from by omega, show 5 + 4 * k = 2 + 4 * k + 3 from by omega]
/-- Where the k-th list begins; behind the last one: the end. -/
def posR (at_ : Int) (cells : List Int) (k : Nat) : Int := if k < tI cells then fromR at_ cells k else cells.length
theorem to_pos (at_ : Int) (cells : List Int) (k : Nat) : toR at_ cells k = posR at_ cells (k + 1) := rfl
theorem seg_len {at_ : Int} {cells : List Int} {i : Nat} (h : GoodR at_ cells i) : ((segR at_ cells i).length : Int) = toR at_ cells i - fromR at_ cells i := by
  have h0 := h.f0; have h1 := h.ft; have h2 := h.tl
  rw [segR, List.length_take, List.length_drop]
  omega
theorem body_eq {at_ : Int} {cells : List Int} (hc : OkC at_ cells) (key : Nat → ByteArray) (k : Nat) (hk : k ≤ tI cells) :
    (hI cells + 2 * tI cells : Int) + (bodyI (lvsR at_ cells key k)).length = posR at_ cells k ∧ bodyI (lvsR at_ cells key k) = (cells.drop (hI cells + 2 * tI cells)).take (bodyI (lvsR at_ cells key k)).length := by
  obtain ⟨hh, hg, hf⟩ := hc
  induction k with
  | zero =>
    refine ⟨?_, by simp [lvsR, bodyI]⟩
    rw [posR]
    split at hf
    · rename_i h0
      rw [if_neg (by omega), hf, h0]
      simp [lvsR, bodyI]
    · rw [if_pos (by omega), hf]
      simp [lvsR, bodyI]
  | succ k ih =>
    obtain ⟨h1, h2⟩ := ih (by omega)
    have hgk := (hg k (by omega)).1
    have he := (dec_ok hgk.dec).2
    have hsl := seg_len hgk
    rw [posR, if_pos (by omega)] at h1
    have hb : bodyI (lvsR at_ cells key (k + 1)) = bodyI (lvsR at_ cells key k) ++ segR at_ cells k := by
      rw [lvsR_snoc, bodyI_snoc]
      show _ ++ encL (decB (segR at_ cells k)).1 = _
      rw [he]
    refine ⟨?_, ?_⟩
    · rw [hb, List.length_append, ← to_pos]
      omega
    · rw [hb, List.length_append, List.take_add, ← h2]
      congr 1
      have h3 : (fromR at_ cells k).toNat = hI cells + 2 * tI cells + (bodyI (lvsR at_ cells key k)).length := by omega
      have h4 : (segR at_ cells k).length = (toR at_ cells k).toNat - (fromR at_ cells k).toNat := by
        have := hgk.f0; have := hgk.ft; omega
      rw [List.drop_drop, h4]
      rw [segR, h3]
theorem dir_eq {at_ : Int} {cells : List Int} (hc : OkC at_ cells) (key : Nat → ByteArray) (k : Nat) (hk : k ≤ tI cells) :
    dirI (at_ + 2 + 4 * (nI cells : Int) + 2 * (tI cells : Int)) (lvsR at_ cells key k) = (cells.drop (hI cells)).take (2 * k) := by
  induction k with
  | zero => simp [lvsR, dirI]
  | succ k ih =>
    have hl := hc.1.len
    obtain ⟨h1, _⟩ := body_eq hc key k (by omega)
    rw [posR, if_pos (by omega), fromR] at h1
    rw [lvsR_snoc, dirI_snoc, ih (by omega), show 2 * (k + 1) = 2 * k + 2 from by omega, take_snoc2 _ _ (by rw [List.length_drop]; omega)]
    congr 1
    have e1 : (cells.drop (hI cells)).getD (2 * k) 0 = cD cells (hI cells + 2 * k) := by simp [cD, List.getD]
    have e2 : (cells.drop (hI cells)).getD (2 * k + 1) 0 = cD cells (hI cells + 2 * k + 1) := by simp [cD, List.getD, Nat.add_assoc]
    have e3 : (hI cells : Int) = 2 + 4 * (nI cells : Int) := by rw [hI]; omega
    rw [e1, e2]
    show [cD cells (hI cells + 2 * k), _] = _
    rw [show at_ + 2 + 4 * (nI cells : Int) + 2 * (tI cells : Int) + ((bodyI (lvsR at_ cells key k)).length : Int) = cD cells (hI cells + 2 * k + 1) from by omega]
theorem img_eq {at_ : Int} {cells : List Int} (hc : OkC at_ cells) (hw : ∀ x ∈ cells, 0 ≤ x) (key : Nat → ByteArray) : imgL at_ (rowsR cells (nI cells)) (lvsR at_ cells key (tI cells)) = cells := by
  have hl := hc.1.len
  obtain ⟨h1, h2⟩ := body_eq hc key (tI cells) (Nat.le_refl _)
  rw [posR, if_neg (by omega)] at h1
  have h3 : bodyI (lvsR at_ cells key (tI cells)) = cells.drop (hI cells + 2 * tI cells) := by
    rw [h2, List.take_of_length_le (by rw [List.length_drop]; omega)]
  rw [imgL, rowsR_len, lvsR_len, rows_eq hc.1 hw _ (Nat.le_refl _), dir_eq hc key _ (Nat.le_refl _), h3]
  have e : 2 + 4 * nI cells = hI cells := rfl
  rw [e, List.append_assoc, ← List.drop_drop, List.take_append_drop, List.take_append_drop]
theorem mayI_of {at_ : Int} {cells : List Int} (hc : OkC at_ cells) (key : Nat → ByteArray) (hkey : ∀ i, 0 < i → i < tI cells → keyLt (key (i - 1)) (key i) = true) : mayI (nI cells) (lvsR at_ cells key (tI cells)) = true := by
  obtain ⟨hh, hg, _⟩ := hc
  have h1 := hh.c0'; have h2 := hh.c1
  refine mayI_yes (by rw [nI]; omega) (by rw [lvsR_len, tI]; omega) fun i hi => ?_
  rw [lvsR_len] at hi
  refine okB_of (fun h0 => ?_) ?_
  · rw [lvsR_at _ _ _ _ _ hi, lvsR_at _ _ _ _ _ (by omega)]
    exact hkey i h0 hi
  · rw [lvsR_at _ _ _ _ _ hi]
    have h := (hg i hi).2
    exact ⟨h.r1, h.r2, h.n0, h.doc, h.may⟩
theorem keyS_up (i : Nat) (h0 : 0 < i) (h : i < 256) : keyLt (keyS (i - 1)) (keyS i) = true := by
  have hd : ∀ i : Fin 256, 0 < i.val → Op.bytesLess [UInt8.ofNat ((i.val - 1) / 256), UInt8.ofNat ((i.val - 1) % 256)] [UInt8.ofNat (i.val / 256), UInt8.ofNat (i.val % 256)] = true := by decide +kernel
  rw [keyLt, ByteArray.toList_eq, ByteArray.toList_eq]
  exact hd ⟨i, h⟩ h0
theorem dir_get (ls : List LV) (b : Int) (i : Nat) (h : i < ls.length) : (dirI b ls).getD (2 * i) 0 = (lvAt ls i).2.1 ∧ (dirI b ls).getD (2 * i + 1) 0 = b + (bodyI (ls.take i)).length := by
  induction ls generalizing b i with
  | nil => simp at h
  | cons l ls ih =>
    rw [dirI]
    cases i with
    | zero => simp [lvAt, bodyI]
    | succ i =>
      obtain ⟨h1, h2⟩ := ih (b + lenE l) i (by simpa using h)
      rw [show 2 * (i + 1) = 2 * i + 1 + 1 from by omega]
      simp only [List.getD_cons_succ, h1, h2, List.take_succ_cons]
      refine ⟨by simp [lvAt], ?_⟩
      have : (bodyI (l :: ls.take i)).length = lenE l + (bodyI (ls.take i)).length := by simp [bodyI, lenE]
      rw [this]
      omega
theorem okC_of_P {at_ : Int} {cells : List Int} (h : OkP at_ cells) : OkC at_ cells := by
  obtain ⟨hh, hg, hi⟩ := h
  obtain ⟨hm, _, _, himg⟩ := imgA_ok hi
  rw [rowsR_len] at hm
  have hok := (mayI_parts hm).2.2
  refine ⟨hh, fun i hi => ⟨hg i hi, ?_⟩, ?_⟩
  · have := (okB_parts (hok i (by rw [lvsR_len]; exact hi))).2
    rw [lvsR_at _ _ _ _ _ hi] at this
    exact this
  · split
    · rename_i h0
      have h1 := imgL_len at_ (rowsR cells (nI cells)) (lvsR at_ cells keyS (tI cells))
      rw [himg, rowsR_len, lvsR_len, h0] at h1
      simp [lvsR, bodyI] at h1
      rw [hI]
      exact h1
    · have hX : (headI (nI cells) (tI cells) ++ (rowsR cells (nI cells)).flatMap rwI).length = 2 + 4 * nI cells := by rw [List.length_append, rwI_len, rowsR_len]; simp [headI]
      have h1 : ∀ J, J = 2 + 4 * nI cells + 1 → cells.getD J 0 = at_ + 2 + 4 * (nI cells : Int) + 2 * (tI cells : Int) + 0 := by
        intro J hJ
        have h9 : (imgL at_ (rowsR cells (nI cells)) (lvsR at_ cells keyS (tI cells))).getD J 0 = at_ + 2 + 4 * (nI cells : Int) + 2 * (tI cells : Int) + 0 := by
          rw [imgL, rowsR_len, lvsR_len, List.append_assoc, getD_app, hX, if_neg (by omega), getD_app, dirI_len, lvsR_len, if_pos (by omega), show J - (2 + 4 * nI cells) = 2 * 0 + 1 from by omega, (dir_get _ _ 0 (by rw [lvsR_len]; omega)).2]
          simp [bodyI]
        rwa [himg] at h9
      have h1 : cD cells (hI cells + 2 * 0 + 1) = _ := h1 _ (by rw [hI])
      rw [fromR, h1, hI]
      omega
theorem okP_of_C {at_ : Int} {cells : List Int} (h : OkC at_ cells) (hw : ∀ x ∈ cells, 0 ≤ x) : OkP at_ cells := by
  have hm := mayI_of h keyS (fun i h0 hi => keyS_up i h0 (by have := h.1.c1; rw [tI] at hi; omega))
  refine ⟨h.1, fun i hi => (h.2.1 i hi).1, ?_⟩
  rw [imgA_yes (by rw [rowsR_len]; exact hm) h.1.a0 h.1.a1, img_eq h hw]
/-- What the document asks besides: a list begins within the cells, with a number of entries that may be. -/
theorem head_ok {at_ : Int} {cells : List Int} {i : Nat} (h : GoodR at_ cells i) : fromR at_ cells i < cells.length ∧ cD cells (fromR at_ cells i).toNat ≤ 64 := by
  obtain ⟨hm, he⟩ := dec_ok h.dec
  have h1 := seg_len h
  have h2 := encL_len (decB (segR at_ cells i)).1
  have h3 := enc_head (decB (segR at_ cells i)).1
  rw [he] at h2 h3
  have h4 := hm.len
  have h5 := h.tl
  have h0 := h.f0
  refine ⟨by omega, ?_⟩
  have h6 : (segR at_ cells i).getD 0 0 = cD cells (fromR at_ cells i).toNat := by
    rw [cD, segR, List.getD, List.getD, List.getElem?_take, if_pos (by omega), List.getElem?_drop, Nat.add_zero]
  rw [← h6, h3]
  omega
end Go.Proofs.Ytbbjlijdodnjaaa
