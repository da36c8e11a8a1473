/- Plain laws of runes and bytes. No program in sight. -/
import Derived.Test.YtmofhpebcbpccaaDoorUtfFitA
namespace Go.Proofs.YtmofhpebcbpccaaDoor
open Go.RowKit
theorem runesOf_len (s : ByteArray) : (runesOf s).length ≤ s.size := by have := runesAt_len s s.size 0; simpa [runesOf] using this

/-! Decoding at the head of a list. -/
def lget (l : List UInt8) (i : Nat) : Nat := (l.getD i 0).toNat
theorem lget_lt' (l : List UInt8) (i : Nat) : lget l i < 256 := by unfold lget; exact (l.getD i 0).toNat_lt
def decL (l : List UInt8) : Nat × Nat :=
    (if lget l 0 < 0x80 then (lget l 0, 1)
    else if (lget l 0 / 32 == 6 && (decide (1 < l.length) && lget l 1 / 64 == 2)) = true then
      (if (lget l 0 % 32) * 64 + lget l 1 % 64 ≥ 0x80 then ((lget l 0 % 32) * 64 + lget l 1 % 64, 2) else (Utf8.runeError, 1))
    else if (lget l 0 / 16 == 14 && (decide (1 < l.length) && lget l 1 / 64 == 2) && (decide (2 < l.length) && lget l 2 / 64 == 2)) = true then
      (if ((lget l 0 % 16) * 4096 + (lget l 1 % 64) * 64 + lget l 2 % 64 ≥ 0x800 && Utf8.valid (((lget l 0 % 16) * 4096 + (lget l 1 % 64) * 64 + lget l 2 % 64 : Nat) : Int)) = true then ((lget l 0 % 16) * 4096 + (lget l 1 % 64) * 64 + lget l 2 % 64, 3) else (Utf8.runeError, 1))
    else if (lget l 0 / 8 == 30 && (decide (1 < l.length) && lget l 1 / 64 == 2) && (decide (2 < l.length) && lget l 2 / 64 == 2) && (decide (3 < l.length) && lget l 3 / 64 == 2)) = true then
      (if ((lget l 0 % 8) * 262144 + (lget l 1 % 64) * 4096 + (lget l 2 % 64) * 64 + lget l 3 % 64 ≥ 0x10000 && Utf8.valid (((lget l 0 % 8) * 262144 + (lget l 1 % 64) * 4096 + (lget l 2 % 64) * 64 + lget l 3 % 64 : Nat) : Int)) = true then ((lget l 0 % 8) * 262144 + (lget l 1 % 64) * 4096 + (lget l 2 % 64) * 64 + lget l 3 % 64, 4) else (Utf8.runeError, 1))
    else (Utf8.runeError, 1))
theorem len_data (s : ByteArray) : s.data.toList.length = s.size := by rw [Array.length_toList]; rfl
theorem get!_getD (s : ByteArray) (i : Nat) : s.get! i = s.data.toList.getD i 0 := by
  show s.data[i]! = _
  rw [List.getD, Array.getElem?_toList, getElem!_def]
  cases s.data[i]? <;> rfl
theorem byteAt_lget (s : ByteArray) (i k : Nat) : byteAt s (i + k) = lget (s.data.toList.drop i) k := by
  unfold byteAt lget
  rw [get!_getD, List.getD, List.getD, List.getElem?_drop]
theorem decode_decL (s : ByteArray) (i : Nat) : Utf8.decode s i = decL (s.data.toList.drop i) := by
  have hl : (s.data.toList.drop i).length = s.size - i := by rw [List.length_drop, len_data]
  have e0 := byteAt_lget s i 0
  have hk : ∀ k, decide (i + k < s.size) = decide (k < (s.data.toList.drop i).length) := by
    intro k; rw [hl, Bool.eq_iff_iff]; simp; omega
  rw [decode_def]
  unfold decL
  rw [hk 1, hk 2, hk 3, byteAt_lget s i 1, byteAt_lget s i 2, byteAt_lget s i 3, show byteAt s i = byteAt s (i + 0) from rfl, e0]
/-- The runes of a list of bytes, with fuel. -/
def runesF : Nat → List UInt8 → List Int
  | 0, _ => []
  | f + 1, l => if l = [] then [] else ((decL l).1 : Int) :: runesF f (l.drop (decL l).2)
def runesL (l : List UInt8) : List Int := runesF l.length l
theorem runesAt_F (s : ByteArray) : ∀ (f p : Nat), runesAt s f p = runesF f (s.data.toList.drop p) := by
  intro f
  induction f with
  | zero => intro p; rfl
  | succ f ih =>
    intro p
    have hl : (s.data.toList.drop p).length = s.size - p := by rw [List.length_drop, len_data]
    simp only [runesAt, runesF]
    by_cases hp : p < s.size
    · rw [if_pos hp, if_neg (by intro e; rw [e] at hl; simp at hl; omega), ih, decode_decL, List.drop_drop]
    · rw [if_neg hp, if_pos (List.eq_nil_of_length_eq_zero (by omega))]
theorem runesOf_L (s : ByteArray) : runesOf s = runesL s.data.toList := by
  unfold runesOf runesL
  rw [runesAt_F, List.drop_zero, len_data]
theorem decL_pos (l : List UInt8) : 1 ≤ (decL l).2 := by
  unfold decL
  repeat' split
  all_goals simp
theorem runesF_nil (f : Nat) : runesF f [] = [] := by cases f <;> simp [runesF]
theorem runesF_fuel : ∀ (f g : Nat) (l : List UInt8), l.length ≤ f → l.length ≤ g → runesF f l = runesF g l := by
  intro f
  induction f with
  | zero => intro g l hf _; rw [List.eq_nil_of_length_eq_zero (show l.length = 0 from by omega), runesF_nil, runesF_nil]
  | succ f ih =>
    intro g l hf hg
    by_cases hl : l = []
    · subst hl; rw [runesF_nil, runesF_nil]
    · have : 0 < l.length := List.length_pos_iff.2 hl
      cases g with
      | zero => omega
      | succ g =>
        have := decL_pos l
        simp only [runesF, if_neg hl]
        rw [ih g _ (by simp; omega) (by simp; omega)]
theorem runesL_nil : runesL [] = [] := rfl
theorem runesL_cons (l : List UInt8) (h : l ≠ []) : runesL l = ((decL l).1 : Int) :: runesL (l.drop (decL l).2) := by
  have h0 : 0 < l.length := List.length_pos_iff.2 h
  have h1 := decL_pos l
  unfold runesL
  obtain ⟨f, hf⟩ : ∃ f, l.length = f + 1 := ⟨l.length - 1, by omega⟩
  rw [hf, runesF, if_neg h, runesF_fuel f (l.drop (decL l).2).length _ (by simp; omega) (Nat.le_refl _)]

/-- What a number becomes when it is written and read. -/
def fix (r : Int) : Int := if Utf8.valid r = true then r else 65533
theorem lget_0 (a : UInt8) (l : List UInt8) : lget (a :: l) 0 = a.toNat := rfl
theorem lget_1 (a b : UInt8) (l : List UInt8) : lget (a :: b :: l) 1 = b.toNat := rfl
theorem lget_2 (a b c : UInt8) (l : List UInt8) : lget (a :: b :: c :: l) 2 = c.toNat := rfl
theorem lget_3 (a b c d : UInt8) (l : List UInt8) : lget (a :: b :: c :: d :: l) 3 = d.toNat := rfl
theorem nat_byte (n : Nat) (h : n < 256) : (UInt8.ofNat n).toNat = n := by rw [UInt8.toNat_ofNat']; exact Nat.mod_eq_of_lt (by simpa using h)
theorem decL_1 (a : UInt8) (l : List UInt8) (h : a.toNat < 128) : decL (a :: l) = (a.toNat, 1) := by unfold decL; rw [if_pos (by rw [lget_0]; exact h), lget_0]
theorem decL_encV (r : Int) (rest : List UInt8) (hv : Utf8.valid r = true) : decL (enc r ++ rest) = (r.toNat, (enc r).length) := by
  have h0 : 0 ≤ r := by have := hv; simp [Utf8.valid] at this; omega
  have hm : r ≤ 1114111 := by have := hv; simp [Utf8.valid] at this; omega
  generalize hn : r.toNat = n at *
  have hr : r = (n : Int) := by omega
  by_cases h1 : n < 128
  · rw [enc_n1 r hv (by omega), hn]
    rw [List.singleton_append, decL_1 _ _ (by rw [nat_byte _ (by omega)]; exact h1), nat_byte _ (by omega)]
    simp
  · by_cases h2 : n < 2048
    · rw [enc_n2 r hv (by omega) (by omega), hn]
      have b0 := nat_byte (0xC0 + n / 64) (by omega)
      have b1 := nat_byte (0x80 + n % 64) (by omega)
      generalize UInt8.ofNat (0xC0 + n / 64) = x0 at *
      generalize UInt8.ofNat (0x80 + n % 64) = x1 at *
      show decL (x0 :: x1 :: rest) = _
      have hl : (x0 :: x1 :: rest).length = rest.length + 2 := rfl
      unfold decL
      rw [lget_0, lget_1, hl, if_neg (by omega), if_pos (by simp; omega), if_pos (by omega)]
      have : x0.toNat % 32 * 64 + x1.toNat % 64 = n := by omega
      rw [this]; rfl
    · by_cases h3 : n < 65536
      · rw [enc_n3 r hv (by omega) (by omega) (by omega), hn]
        have b0 := nat_byte (0xE0 + n / 4096) (by omega)
        have b1 := nat_byte (0x80 + n / 64 % 64) (by omega)
        have b2 := nat_byte (0x80 + n % 64) (by omega)
        generalize UInt8.ofNat (0xE0 + n / 4096) = x0 at *
        generalize UInt8.ofNat (0x80 + n / 64 % 64) = x1 at *
        generalize UInt8.ofNat (0x80 + n % 64) = x2 at *
        show decL (x0 :: x1 :: x2 :: rest) = _
        have hl : (x0 :: x1 :: x2 :: rest).length = rest.length + 3 := rfl
        have e : x0.toNat % 16 * 4096 + x1.toNat % 64 * 64 + x2.toNat % 64 = n := by omega
        unfold decL
        rw [lget_0, lget_1, lget_2, hl, e, if_neg (by omega), if_neg (by simp; omega), if_pos (by simp; omega), ← hr, if_pos (by rw [hv]; simp; omega)]
        rfl
      · rw [enc_n4 r hv (by omega) (by omega) (by omega), hn]
        have b0 := nat_byte (0xF0 + n / 262144) (by omega)
        have b1 := nat_byte (0x80 + n / 4096 % 64) (by omega)
        have b2 := nat_byte (0x80 + n / 64 % 64) (by omega)
        have b3 := nat_byte (0x80 + n % 64) (by omega)
        generalize UInt8.ofNat (0xF0 + n / 262144) = x0 at *
        generalize UInt8.ofNat (0x80 + n / 4096 % 64) = x1 at *
        generalize UInt8.ofNat (0x80 + n / 64 % 64) = x2 at *
        generalize UInt8.ofNat (0x80 + n % 64) = x3 at *
        show decL (x0 :: x1 :: x2 :: x3 :: rest) = _
        have hl : (x0 :: x1 :: x2 :: x3 :: rest).length = rest.length + 4 := rfl
        have e : x0.toNat % 8 * 262144 + x1.toNat % 64 * 4096 + x2.toNat % 64 * 64 + x3.toNat % 64 = n := by omega
        unfold decL
        rw [lget_0, lget_1, lget_2, lget_3, hl, e, if_neg (by omega), if_neg (by simp; omega), if_neg (by simp; omega), if_pos (by simp; omega), ← hr, if_pos (by rw [hv]; simp; omega)]
        rfl
theorem enc_bad' (r : Int) (hv : ¬ Utf8.valid r = true) : enc r = [239, 191, 189] := bys_inj (enc_bad r (by simp [Utf8.valid] at hv; omega))
theorem enc_err : enc 65533 = [239, 191, 189] := by decide
theorem enc_fix (r : Int) : enc (fix r) = enc r := by
  unfold fix
  split
  · rfl
  · rename_i hv; rw [enc_bad' r hv, enc_err]
theorem fix_valid (r : Int) : Utf8.valid (fix r) = true := by
  unfold fix
  split
  · assumption
  · decide
theorem decL_enc (r : Int) (rest : List UInt8) : decL (enc r ++ rest) = ((fix r).toNat, (enc r).length) := by
  rw [← enc_fix r]; exact decL_encV _ _ (fix_valid r)
theorem fix_of (r : Int) (hv : Utf8.valid r = true) : fix r = r := if_pos hv
theorem valid_nonneg (r : Int) (hv : Utf8.valid r = true) : 0 ≤ r := by simp [Utf8.valid] at hv; omega
theorem enc_ne (r : Int) (rest : List UInt8) : enc r ++ rest ≠ [] := by
  intro h
  have h1 : (enc r ++ rest).length = 0 := by rw [h]; rfl
  have := enc_len_le r
  rw [List.length_append] at h1
  omega
/-- Written and read again: the same runes, those that may not be as 0xFFFD; and what stands behind is read as it is. -/
theorem runesL_text (l : List Int) (rest : List UInt8) : runesL (textOf l ++ rest) = l.map fix ++ runesL rest := by
  induction l with
  | nil => simp [textOf]
  | cons r l ih =>
    have e : textOf (r :: l) ++ rest = enc r ++ (textOf l ++ rest) := by simp [textOf]
    rw [e, runesL_cons _ (enc_ne _ _), decL_enc, List.drop_left, ih]
    simp [Int.toNat_of_nonneg (valid_nonneg _ (fix_valid r))]
theorem runesOf_text (l : List Int) : runesOf ⟨(textOf l).toArray⟩ = l.map fix := by
  rw [runesOf_L]
  have := runesL_text l []
  simpa [runesL_nil] using this

/-- What is read may be. -/
theorem decL_valid (l : List UInt8) : Utf8.valid ((decL l).1 : Int) = true := by
  have h0 := lget_lt' l 0
  unfold decL
  repeat' split
  all_goals first
    | decide
    | exact valid_of _ (by simp at *; omega)
    | (rename_i h; simp only [Bool.and_eq_true] at h; exact h.2)
theorem runesF_valid : ∀ (f : Nat) (l : List UInt8), ∀ r ∈ runesF f l, Utf8.valid r = true := by
  intro f
  induction f with
  | zero => intro l r hr; simp [runesF] at hr
  | succ f ih =>
    intro l r hr
    simp only [runesF] at hr
    split at hr
    · simp at hr
    · rcases List.mem_cons.1 hr with rfl | hr
      · exact decL_valid l
      · exact ih _ _ hr
theorem runesOf_valid (s : ByteArray) : ∀ r ∈ runesOf s, Utf8.valid r = true := by rw [runesOf_L]; exact runesF_valid _ _
theorem map_fix (l : List Int) (h : ∀ r ∈ l, Utf8.valid r = true) : l.map fix = l := by
  induction l with
  | nil => rfl
  | cons r l ih => rw [List.map_cons, fix_of r (h r (by simp)), ih (fun x hx => h x (by simp [hx]))]

/-! What is read of bytes that are no error is those very bytes. -/
theorem take_1 (l : List UInt8) (h : 0 < l.length) : l.take 1 = [l.getD 0 0] := by
  match l, h with
  | a :: t, _ => rfl
theorem take_2 (l : List UInt8) (h : 1 < l.length) : l.take 2 = [l.getD 0 0, l.getD 1 0] := by
  match l, h with
  | a :: b :: t, _ => rfl
theorem take_3 (l : List UInt8) (h : 2 < l.length) : l.take 3 = [l.getD 0 0, l.getD 1 0, l.getD 2 0] := by
  match l, h with
  | a :: b :: c :: t, _ => rfl
theorem take_4 (l : List UInt8) (h : 3 < l.length) : l.take 4 = [l.getD 0 0, l.getD 1 0, l.getD 2 0, l.getD 3 0] := by
  match l, h with
  | a :: b :: c :: d :: t, _ => rfl
theorem byte_is (l : List UInt8) (i n : Nat) (h : n = lget l i) : UInt8.ofNat n = l.getD i 0 := by
  apply UInt8.toNat_inj.1
  rw [nat_byte n (by have := lget_lt' l i; omega)]
  exact h
theorem decL_back (l : List UInt8) (hl : l ≠ []) (h : (decL l).1 ≠ 65533) : l.take (decL l).2 = enc ((decL l).1 : Int) := by
  have hv := decL_valid l
  have h0 := lget_lt' l 0
  have hpos : 0 < l.length := List.length_pos_iff.2 hl
  revert h
  revert hv
  unfold decL
  split
  · intro hv _
    rw [enc_n1 _ hv (by omega), take_1 l hpos, byte_is l 0 _ (by omega)]
  · split
    · rename_i h1 h2
      simp only [Bool.and_eq_true, decide_eq_true_eq, beq_iff_eq] at h2
      split
      · rename_i h3
        intro hv _
        rw [enc_n2 _ hv (by omega) (by omega), take_2 l h2.2.1, byte_is l 0 _ (by omega), byte_is l 1 _ (by omega)]
      · intro _ h; exact absurd rfl h
    · split
      · rename_i h1 h2 h3
        simp only [Bool.and_eq_true, decide_eq_true_eq, beq_iff_eq] at h3
        split
        · rename_i h4
          simp only [Bool.and_eq_true, decide_eq_true_eq] at h4
          intro hv _
          rw [enc_n3 _ hv (by omega) (by omega) (by omega), take_3 l h3.2.1, byte_is l 0 _ (by omega), byte_is l 1 _ (by omega), byte_is l 2 _ (by omega)]
        · intro _ h; exact absurd rfl h
      · split
        · rename_i h1 h2 h3 h4
          simp only [Bool.and_eq_true, decide_eq_true_eq, beq_iff_eq] at h4
          split
          · rename_i h5
            simp only [Bool.and_eq_true, decide_eq_true_eq] at h5
            intro hv _
            rw [enc_n4 _ hv (by omega) (by omega) (by omega), take_4 l h4.2.1, byte_is l 0 _ (by omega), byte_is l 1 _ (by omega), byte_is l 2 _ (by omega), byte_is l 3 _ (by omega)]
          · intro _ h; exact absurd rfl h
        · intro _ h; exact absurd rfl h
theorem runesF_back : ∀ (f : Nat) (l : List UInt8), l.length ≤ f → (∀ r ∈ runesF f l, r ≠ 65533) → textOf (runesF f l) = l := by
  intro f
  induction f with
  | zero => intro l hf _; rw [List.eq_nil_of_length_eq_zero (show l.length = 0 from by omega)]; rfl
  | succ f ih =>
    intro l hf h
    simp only [runesF] at h ⊢
    by_cases hl : l = []
    · rw [if_pos hl, hl]; rfl
    · rw [if_neg hl] at h ⊢
      have hp := decL_pos l
      have h1 := h _ (List.mem_cons_self)
      have h2 := ih (l.drop (decL l).2) (by rw [List.length_drop]; have := List.length_pos_iff.2 hl; omega) (fun r hr => h r (List.mem_cons_of_mem _ hr))
      have h3 := decL_back l hl (by omega)
      show textOf (_ :: _) = l
      have e : ∀ (r : Int) (m : List Int), textOf (r :: m) = enc r ++ textOf m := fun r m => by simp [textOf]
      rw [e, h2, ← h3, List.take_append_drop]
theorem runesOf_back (s : ByteArray) (h : ∀ r ∈ runesOf s, r ≠ 65533) : (⟨(textOf (runesOf s)).toArray⟩ : ByteArray) = s := by
  rw [runesOf_L] at h ⊢
  have h1 := runesF_back _ _ (Nat.le_refl _) h
  unfold runesL
  rw [h1]

/-! Behind a letter below 128. -/
def decCore (b0 b1 b2 b3 : Nat) (p1 p2 p3 : Bool) : Nat × Nat :=
    (if b0 < 0x80 then (b0, 1)
    else if (b0 / 32 == 6 && (p1 && b1 / 64 == 2)) = true then
      (if (b0 % 32) * 64 + b1 % 64 ≥ 0x80 then ((b0 % 32) * 64 + b1 % 64, 2) else (Utf8.runeError, 1))
    else if (b0 / 16 == 14 && (p1 && b1 / 64 == 2) && (p2 && b2 / 64 == 2)) = true then
      (if ((b0 % 16) * 4096 + (b1 % 64) * 64 + b2 % 64 ≥ 0x800 && Utf8.valid (((b0 % 16) * 4096 + (b1 % 64) * 64 + b2 % 64 : Nat) : Int)) = true then ((b0 % 16) * 4096 + (b1 % 64) * 64 + b2 % 64, 3) else (Utf8.runeError, 1))
    else if (b0 / 8 == 30 && (p1 && b1 / 64 == 2) && (p2 && b2 / 64 == 2) && (p3 && b3 / 64 == 2)) = true then
      (if ((b0 % 8) * 262144 + (b1 % 64) * 4096 + (b2 % 64) * 64 + b3 % 64 ≥ 0x10000 && Utf8.valid (((b0 % 8) * 262144 + (b1 % 64) * 4096 + (b2 % 64) * 64 + b3 % 64 : Nat) : Int)) = true then ((b0 % 8) * 262144 + (b1 % 64) * 4096 + (b2 % 64) * 64 + b3 % 64, 4) else (Utf8.runeError, 1))
    else (Utf8.runeError, 1))
theorem decL_core (l : List UInt8) : decL l = decCore (lget l 0) (lget l 1) (lget l 2) (lget l 3) (decide (1 < l.length)) (decide (2 < l.length)) (decide (3 < l.length)) := rfl
theorem decCore_1 {b0 b1 b2 b3 b1' b2' b3' : Nat} {p1 p2 p3 p1' p2' p3' : Bool} (h : (p1 && b1 / 64 == 2) = false) (h' : (p1' && b1' / 64 == 2) = false) : decCore b0 b1 b2 b3 p1 p2 p3 = decCore b0 b1' b2' b3' p1' p2' p3' := by
  unfold decCore; simp only [h, h', Bool.and_false, Bool.false_and, Bool.false_eq_true, if_false]
theorem decCore_2 {b0 b1 b2 b3 b2' b3' : Nat} {p1 p2 p3 p2' p3' : Bool} (h : (p2 && b2 / 64 == 2) = false) (h' : (p2' && b2' / 64 == 2) = false) : decCore b0 b1 b2 b3 p1 p2 p3 = decCore b0 b1 b2' b3' p1 p2' p3' := by
  unfold decCore; simp only [h, h', Bool.and_false, Bool.false_and, Bool.false_eq_true, if_false]
theorem decCore_3 {b0 b1 b2 b3 b3' : Nat} {p1 p2 p3 p3' : Bool} (h : (p3 && b3 / 64 == 2) = false) (h' : (p3' && b3' / 64 == 2) = false) : decCore b0 b1 b2 b3 p1 p2 p3 = decCore b0 b1 b2 b3' p1 p2 p3' := by
  unfold decCore; simp only [h, h', Bool.and_false, Bool.false_eq_true, if_false]
theorem dt (n m : Nat) (h : n < m) : decide (n < m) = true := decide_eq_true h
theorem core_eq (b0 b1 b2 b3 : Nat) {p1 p2 p3 p1' p2' p3' : Bool} (h1 : p1 = p1') (h2 : p2 = p2') (h3 : p3 = p3') : decCore b0 b1 b2 b3 p1 p2 p3 = decCore b0 b1 b2 b3 p1' p2' p3' := by rw [h1, h2, h3]
theorem decL_app (l : List UInt8) (c : UInt8) (b : List UInt8) (hl : l ≠ []) (hc : c.toNat < 128) : decL (l ++ c :: b) = decL l := by
  have h2 : (c.toNat / 64 == 2) = false := by simp; omega
  have h2' : ∀ p : Bool, (p && c.toNat / 64 == 2) = false := fun p => by rw [h2, Bool.and_false]
  match l, hl with
  | [x0], _ =>
    show decL (x0 :: c :: b) = decL [x0]
    rw [decL_core, decL_core]
    exact decCore_1 (h2' _) rfl
  | [x0, x1], _ =>
    show decL (x0 :: x1 :: c :: b) = decL [x0, x1]
    rw [decL_core, decL_core]
    exact (core_eq _ _ _ _ (dt _ _ (by simp)) rfl rfl).trans (decCore_2 (h2' _) rfl)
  | [x0, x1, x2], _ =>
    show decL (x0 :: x1 :: x2 :: c :: b) = decL [x0, x1, x2]
    rw [decL_core, decL_core]
    exact (core_eq _ _ _ _ (dt _ _ (by simp)) (dt _ _ (by simp)) rfl).trans (decCore_3 (h2' _) rfl)
  | x0 :: x1 :: x2 :: x3 :: t, _ =>
    show decL (x0 :: x1 :: x2 :: x3 :: (t ++ c :: b)) = decL (x0 :: x1 :: x2 :: x3 :: t)
    rw [decL_core, decL_core]
    exact core_eq _ _ _ _ ((dt _ _ (by simp)).trans (dt _ _ (by simp)).symm) ((dt _ _ (by simp)).trans (dt _ _ (by simp)).symm) ((dt _ _ (by simp)).trans (dt _ _ (by simp)).symm)
theorem decL_le (l : List UInt8) (hl : l ≠ []) : (decL l).2 ≤ l.length := by
  have hpos : 0 < l.length := List.length_pos_iff.2 hl
  unfold decL
  repeat' split
  all_goals (simp at *; try omega)
theorem runesL_app (n : Nat) : ∀ (l : List UInt8), l.length ≤ n → ∀ (c : UInt8) (b : List UInt8), c.toNat < 128 → runesL (l ++ c :: b) = runesL l ++ (c.toNat : Int) :: runesL b := by
  induction n with
  | zero =>
    intro l hn c b hc
    rw [List.eq_nil_of_length_eq_zero (show l.length = 0 from by omega), List.nil_append, runesL_cons _ (by simp), decL_1 c b hc, runesL_nil]
    rfl
  | succ n ih =>
    intro l hn c b hc
    by_cases hl : l = []
    · rw [hl, List.nil_append, runesL_cons _ (by simp), decL_1 c b hc, runesL_nil]; rfl
    · have h1 := decL_pos l
      have h2 := decL_le l hl
      have hpos : 0 < l.length := List.length_pos_iff.2 hl
      rw [runesL_cons (l ++ c :: b) (by simp), decL_app l c b hl hc, List.drop_append_of_le_length h2, ih _ (by rw [List.length_drop]; omega) c b hc, runesL_cons l hl]
      rfl
theorem runesOf_app (a : ByteArray) (c : UInt8) (b : ByteArray) (hc : c.toNat < 128) : runesL (a.data.toList ++ c :: b.data.toList) = runesOf a ++ (c.toNat : Int) :: runesOf b := by
  rw [runesL_app _ _ (Nat.le_refl _) c _ hc, runesOf_L, runesOf_L]
theorem runesF_many : ∀ (f : Nat) (l : List UInt8), l.length ≤ f → l.length ≤ 4 * (runesF f l).length := by
  intro f
  induction f with
  | zero => intro l h; omega
  | succ f ih =>
    intro l h
    simp only [runesF]
    by_cases hl : l = []
    · subst hl; simp
    · rw [if_neg hl]
      have h1 := decL_pos l
      have h4 : (decL l).2 ≤ 4 := by
        unfold decL
        repeat' split
        all_goals simp
      have hpos : 0 < l.length := List.length_pos_iff.2 hl
      have h2 := ih (l.drop (decL l).2) (by rw [List.length_drop]; omega)
      rw [List.length_drop] at h2
      simp only [List.length_cons]
      omega
theorem runesOf_many (s : ByteArray) : s.size ≤ 4 * (runesOf s).length := by
  rw [runesOf_L, ← len_data]; exact runesF_many _ _ (Nat.le_refl _)

/-! As much as fits. -/
def FitsAt (n : Int) (L : List Int) (k : Nat) : Prop := ((textOf (L.take k)).length : Int) ≤ n
theorem fits_less (n : Int) (L : List Int) (k : Nat) (h : ¬ FitsAt n L k) : ¬ FitsAt n L (k + 1) := by
  unfold FitsAt at *
  rcases Nat.lt_or_ge k L.length with hk | hk
  · rw [textOf_take L k hk, List.length_append]; omega
  · rw [List.take_of_length_le (by omega)] at h ⊢; exact h
theorem fits_above (n : Int) (L : List Int) (k j : Nat) (hj : k ≤ j) (h : ¬ FitsAt n L k) : ¬ FitsAt n L j := by
  induction j with
  | zero => rw [show k = 0 from by omega] at h; exact h
  | succ j ih =>
    rcases Nat.lt_or_ge j k with hlt | hge
    · rw [show k = j + 1 from by omega] at h; exact h
    · exact fits_less n L j (ih hge)
theorem bestOf_is (n : Int) (L : List Int) (m : Nat) (hm : FitsAt n L m) : ∀ K, m ≤ K → (∀ j, m < j → j ≤ K → ¬ FitsAt n L j) → bestOf n L (K + 1) = textOf (L.take m) := by
  intro K
  induction K with
  | zero => intro hK _; obtain rfl : m = 0 := by omega
            rw [bestOf, if_pos (show ((textOf (L.take 0)).length : Int) ≤ n from hm)]
  | succ K ih =>
    intro hK h
    by_cases e : m = K + 1
    · subst e; rw [bestOf, if_pos (show ((textOf (L.take (K + 1))).length : Int) ≤ n from hm)]
    · rw [bestOf, if_neg (show ¬ ((textOf (L.take (K + 1))).length : Int) ≤ n from h (K + 1) (by omega) (Nat.le_refl _))]
      exact ih (by omega) (fun j a b => h j a (by omega))
theorem bestOf_no (n : Int) (L : List Int) (h : n < 0) : ∀ K, bestOf n L K = [] := by
  intro K
  induction K with
  | zero => rfl
  | succ K ih => rw [bestOf, if_neg (by omega)]; exact ih
theorem fitL_is (n : Int) (L : List Int) (hn : 0 ≤ n) : ∀ (d k : Nat), L.length - k = d → k ≤ L.length → FitsAt n L k →
    ∃ m, m ≤ L.length ∧ FitsAt n L m ∧ (∀ j, m < j → j ≤ L.length → ¬ FitsAt n L j) ∧ fitL n (L.drop k) (textOf (L.take k)) = textOf (L.take m) := by
  intro d
  induction d with
  | zero =>
    intro k hd hk hf
    exact ⟨k, hk, hf, fun j a b => by omega, by rw [List.drop_of_length_le (by omega)]; rfl⟩
  | succ d ih =>
    intro k hd hk hf
    have hlt : k < L.length := by omega
    rw [List.drop_eq_getElem_cons hlt]
    by_cases h1 : FitsAt n L (k + 1)
    · obtain ⟨m, a, b, c, e⟩ := ih (k + 1) (by omega) (by omega) h1
      refine ⟨m, a, b, c, ?_⟩
      unfold FitsAt at h1 hf
      rw [textOf_take L k hlt, List.length_append] at h1
      rw [fitL_go n _ _ _ (by omega), ← textOf_take L k hlt]
      exact e
    · refine ⟨k, hk, hf, fun j a b => fits_above n L (k + 1) j (by omega) h1, ?_⟩
      unfold FitsAt at h1 hf
      rw [textOf_take L k hlt, List.length_append] at h1
      rw [fitL_stop n _ _ _ (by omega)]
/-- What fits is a beginning's text. -/
theorem fitL_take (n : Int) (L : List Int) : ∃ m, m ≤ L.length ∧ fitL n L [] = textOf (L.take m) ∧ bestOf n L (L.length + 1) = textOf (L.take m) ∧ (((textOf (L.take m)).length : Int) ≤ n ∨ textOf (L.take m) = []) := by
  by_cases hn : 0 ≤ n
  · obtain ⟨m, a, b, c, e⟩ := fitL_is n L hn _ 0 rfl (Nat.zero_le _) (by unfold FitsAt; simpa [textOf] using hn)
    exact ⟨m, a, by simpa [textOf] using e, bestOf_is n L m b _ a c, .inl b⟩
  · refine ⟨0, Nat.zero_le _, ?_, bestOf_no n L (by omega) _, .inr rfl⟩
    cases L with
    | nil => rfl
    | cons r l => exact fitL_stop n r l [] (.inl (by omega))
end Go.Proofs.YtmofhpebcbpccaaDoor
