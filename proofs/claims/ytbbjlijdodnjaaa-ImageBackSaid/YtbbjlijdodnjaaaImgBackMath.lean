/- A content's image read again; what is read made again. Plain: no program in sight. -/
import Derived.Test.YtbbjlijdodnjaaaImgReadMath
namespace Go.Proofs.Ytbbjlijdodnjaaa

section
variable {at_ : Int} {rows : List Rv} {ls : List LV}
theorem img_nI : nI (imgL at_ rows ls) = rows.length := by
  have h : cD (imgL at_ rows ls) 0 = 1 + (rows.length : Int) := by simp [cD, imgL, headI]
  rw [nI, h]
  omega
theorem img_tI : tI (imgL at_ rows ls) = ls.length := by
  have h : cD (imgL at_ rows ls) 1 = (ls.length : Int) := by simp [cD, imgL, headI]
  rw [tI, h]
  omega
theorem img_hI : hI (imgL at_ rows ls) = 2 + 4 * rows.length := by rw [hI, img_nI]
theorem rw_get (rows : List Rv) (d j : Nat) (hd : d < rows.length) (hj : j < 4) : (rows.flatMap rwI).getD (4 * d + j) 0 = (rwI rows[d]).getD j 0 := by
  induction rows generalizing d with
  | nil => simp at hd
  | cons r rows ih =>
    have hl : (rwI r).length = 4 := rfl
    rw [List.flatMap_cons, getD_app, hl]
    cases d with
    | zero => rw [if_pos (by omega), show 4 * 0 + j = j from by omega]; rfl
    | succ d =>
      rw [if_neg (by omega), show 4 * (d + 1) + j - 4 = 4 * d + j from by omega, ih d (by simpa using hd)]
      rfl
theorem img_row (d : Nat) (hd : d < rows.length) : rowR (imgL at_ rows ls) d = rows[d] := by
  have key : ∀ j J, j < 4 → J = 2 + 4 * d + j → cD (imgL at_ rows ls) J = (rwI rows[d]).getD j 0 := by
    intro j J hj e
    rw [cD, imgL, List.append_assoc, List.append_assoc, getD_app, if_neg (by simp [headI]; omega), getD_app, if_pos (by rw [rwI_len]; simp [headI]; omega), show J - (headI rows.length ls.length).length = 4 * d + j from by simp [headI]; omega]
    exact rw_get rows d j hd hj
  rw [rowR, key 0 _ (by omega) (by omega), key 1 _ (by omega) (by omega), key 2 _ (by omega) (by omega), key 3 _ (by omega) (by omega)]
  rfl
theorem img_rows : rowsR (imgL at_ rows ls) rows.length = rows := by
  refine List.ext_getElem (by rw [rowsR_len]) fun i h1 h2 => ?_
  rw [← img_row (at_ := at_) (ls := ls) i h2]
  simp [rowsR]
theorem img_dir (i : Nat) (hi : i < ls.length) : cD (imgL at_ rows ls) (2 + 4 * rows.length + 2 * i) = (lvAt ls i).2.1 ∧ cD (imgL at_ rows ls) (2 + 4 * rows.length + 2 * i + 1) = at_ + 2 + 4 * rows.length + 2 * ls.length + (bodyI (ls.take i)).length := by
  have hX : (headI rows.length ls.length ++ rows.flatMap rwI).length = 2 + 4 * rows.length := by rw [List.length_append, rwI_len]; simp [headI]
  have key : ∀ j J, j < 2 * ls.length → J = 2 + 4 * rows.length + j → cD (imgL at_ rows ls) J = (dirI (at_ + 2 + 4 * rows.length + 2 * ls.length) ls).getD j 0 := by
    intro j J hj e
    rw [cD, imgL, List.append_assoc, getD_app, hX, if_neg (by omega), getD_app, dirI_len, if_pos (by omega), show J - (2 + 4 * rows.length) = j from by omega]
  obtain ⟨h1, h2⟩ := dir_get ls (at_ + 2 + 4 * rows.length + 2 * ls.length) i hi
  exact ⟨by rw [key (2 * i) _ (by omega) (by omega), h1], by rw [key (2 * i + 1) _ (by omega) (by omega), h2]⟩
theorem img_from (i : Nat) (hi : i < ls.length) : fromR at_ (imgL at_ rows ls) i = 2 + 4 * rows.length + 2 * ls.length + (bodyI (ls.take i)).length := by
  rw [fromR, img_hI, (img_dir i hi).2]
  omega
theorem img_to (i : Nat) (hi : i < ls.length) : toR at_ (imgL at_ rows ls) i = 2 + 4 * rows.length + 2 * ls.length + (bodyI (ls.take (i + 1))).length := by
  rw [toR, img_tI]
  split
  · rename_i h
    exact img_from (i + 1) h
  · rw [imgL_len, List.take_of_length_le (by omega)]
    omega
theorem bodyI_app (a b : List LV) : bodyI (a ++ b) = bodyI a ++ bodyI b := by simp [bodyI]
theorem bodyI_split (i : Nat) (hi : i < ls.length) : bodyI ls = bodyI (ls.take i) ++ (encL (lvAt ls i).2.2 ++ bodyI (ls.drop (i + 1))) := by
  have h : ls = ls.take i ++ (ls[i] :: ls.drop (i + 1)) := by rw [← List.drop_eq_getElem_cons hi, List.take_append_drop]
  rw [lvAt_get _ _ hi]
  conv => lhs; rw [h]
  rw [bodyI_app]
  rfl
theorem img_seg (i : Nat) (hi : i < ls.length) : segR at_ (imgL at_ rows ls) i = encL (lvAt ls i).2.2 := by
  have hX : (headI rows.length ls.length ++ rows.flatMap rwI ++ dirI (at_ + 2 + 4 * rows.length + 2 * ls.length) ls).length = 2 + 4 * rows.length + 2 * ls.length := by
    rw [List.length_append, List.length_append, rwI_len, dirI_len]
    simp [headI]
  have hb : (bodyI (ls.take (i + 1))).length = (bodyI (ls.take i)).length + (encL (lvAt ls i).2.2).length := by
    rw [List.take_succ_eq_append_getElem hi, bodyI_snoc, List.length_append, lvAt_get _ _ hi]
  have e1 : (fromR at_ (imgL at_ rows ls) i).toNat = 2 + 4 * rows.length + 2 * ls.length + (bodyI (ls.take i)).length := by rw [img_from i hi]; omega
  have e2 : (toR at_ (imgL at_ rows ls) i).toNat = 2 + 4 * rows.length + 2 * ls.length + (bodyI (ls.take (i + 1))).length := by rw [img_to i hi]; omega
  rw [segR, e1, e2, imgL, ← List.drop_drop]
  have e3 : ∀ (X Y : List Int) (m : Nat), X.length = m → (X ++ Y).drop m = Y := fun X Y m h => by rw [← h, List.drop_left]
  rw [e3 _ _ _ hX, bodyI_split i hi, List.drop_left, show 2 + 4 * rows.length + 2 * ls.length + (bodyI (ls.take (i + 1))).length - (2 + 4 * rows.length + 2 * ls.length + (bodyI (ls.take i)).length) = (encL (lvAt ls i).2.2).length from by omega, List.take_left]
theorem img_lv (hm : mayI rows.length ls = true) (key : Nat → ByteArray) (i : Nat) (hi : i < ls.length) : lvR at_ (imgL at_ rows ls) key i = (key i, (lvAt ls i).2) := by
  have h := (okB_parts ((mayI_parts hm).2.2 i hi)).2.may
  rw [lvR, img_hI, img_seg i hi, decB_yes h, (img_dir i hi).1]
theorem img_okC (hm : mayI rows.length ls = true) (h0 : 0 ≤ at_) (h1 : at_ ≤ 65536) : OkC at_ (imgL at_ rows ls) := by
  obtain ⟨hr, hl, hok⟩ := mayI_parts hm
  have hlen := imgL_len at_ rows ls
  refine ⟨⟨h0, h1, by omega, ?_, ?_, ?_, by rw [img_hI, img_tI]; omega⟩, fun i hi => ?_, ?_⟩
  · rw [show cD (imgL at_ rows ls) 0 = 1 + (rows.length : Int) from by simp [cD, imgL, headI]]; omega
  · rw [show cD (imgL at_ rows ls) 0 = 1 + (rows.length : Int) from by simp [cD, imgL, headI]]; omega
  · rw [show cD (imgL at_ rows ls) 1 = (ls.length : Int) from by simp [cD, imgL, headI]]; omega
  · rw [img_tI] at hi
    have ho := (okB_parts (hok i hi)).2
    have hb : (bodyI (ls.take (i + 1))).length = (bodyI (ls.take i)).length + (encL (lvAt ls i).2.2).length := by
      rw [List.take_succ_eq_append_getElem hi, bodyI_snoc, List.length_append, lvAt_get _ _ hi]
    have hbl : (bodyI (ls.take (i + 1))).length ≤ (bodyI ls).length := by
      have : bodyI ls = bodyI (ls.take (i + 1)) ++ bodyI (ls.drop (i + 1)) := by rw [← bodyI_app, List.take_append_drop]
      rw [this, List.length_append]
      omega
    refine ⟨⟨by rw [img_from i hi]; omega, by rw [img_from i hi, img_to i hi]; omega, by rw [img_to i hi]; omega, by rw [img_seg i hi, decB_yes ho.may]⟩, ?_⟩
    rw [img_nI, img_lv hm keyS i hi]
    exact ⟨ho.r1, ho.r2, ho.n0, ho.doc, ho.may⟩
  · rw [img_tI]
    split
    · rename_i h
      have : ls = [] := List.eq_nil_of_length_eq_zero h
      subst this
      rw [hlen, img_hI]
      simp [bodyI]
    · rw [img_from 0 (by omega), img_hI]
      simp [bodyI]
theorem img_lists (hm : mayI rows.length ls = true) (key : Nat → ByteArray) : (lvsR at_ (imgL at_ rows ls) key ls.length).map (·.2) = ls.map (·.2) := by
  refine List.ext_getElem (by simp [lvsR]) fun i h1 h2 => ?_
  have hi : i < ls.length := by simpa using h2
  have h3 := img_lv hm (at_ := at_) key i hi
  simp only [lvsR, List.getElem_map, List.getElem_range, h3]
  rw [lvAt_get _ _ hi]
end
/-- Keys that rise, as the law has them. -/
def keyO (i : Nat) : ByteArray := ⟨#[UInt8.ofNat (1 + i / 128), UInt8.ofNat (i % 128)]⟩
theorem keyO_up (i : Nat) (h0 : 0 < i) (h : i < 256) : keyLt (keyO (i - 1)) (keyO i) = true := by
  have hd : ∀ i : Fin 256, 0 < i.val → Op.bytesLess [UInt8.ofNat (1 + (i.val - 1) / 128), UInt8.ofNat ((i.val - 1) % 128)] [UInt8.ofNat (1 + i.val / 128), UInt8.ofNat (i.val % 128)] = true := by decide +kernel
  rw [keyLt, ByteArray.toList_eq, ByteArray.toList_eq]
  exact hd ⟨i, h⟩ h0
theorem only_img {at_ : Int} {cells : List Int} (h : OkP at_ cells) (hw : ∀ x ∈ cells, 0 ≤ x) : imgA at_ (rowsR cells (nI cells)) (lvsR at_ cells keyO (tI cells)) = (cells, 0) := by
  have hc := okC_of_P h
  have hm := mayI_of hc keyO (fun i h0 hi => keyO_up i h0 (by have := hc.1.c1; rw [tI] at hi; omega))
  rw [imgA_yes (by rw [rowsR_len]; exact hm) hc.1.a0 hc.1.a1, img_eq hc hw]
theorem seg_le (at_ : Int) (cells : List Int) (i : Nat) : (segR at_ cells i).length ≤ cells.length := by
  rw [segR, List.length_take, List.length_drop]
  omega
/-- What is read can be compared: its sizes. -/
theorem dec_bd (cells : List Int) : (decB cells).1.length ≤ 64 ∧ ∀ e ∈ (decB cells).1, e.2.length ≤ 1048576 := by
  rw [decB]
  split
  · rename_i h
    have hm := (encA_ok h.2.2).1
    refine ⟨hm.len, fun e he => ?_⟩
    obtain ⟨i, hi, rfl⟩ := List.getElem_of_mem he
    have := hm.pos i hi
    rw [enAt_get _ i hi] at this
    omega
  · simp
theorem lvsR_bd (at_ : Int) (cells : List Int) (key : Nat → ByteArray) (k : Nat) : ∀ l ∈ lvsR at_ cells key k, l.2.2.length ≤ 1048576 ∧ ∀ e ∈ l.2.2, e.2.length ≤ 1048576 := by
  intro l hl
  obtain ⟨i, _, rfl⟩ := List.mem_map.1 hl
  have h := dec_bd (segR at_ cells i)
  exact ⟨by show (decB _).1.length ≤ _; omega, h.2⟩
end Go.Proofs.Ytbbjlijdodnjaaa
