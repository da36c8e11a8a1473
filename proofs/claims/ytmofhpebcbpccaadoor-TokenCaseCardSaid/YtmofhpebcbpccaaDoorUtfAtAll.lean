/- ref.at at every lead byte, and that it agrees with the model's decoding. -/
import Derived.Test.YtmofhpebcbpccaaDoorUtfAt
namespace Go.Proofs.YtmofhpebcbpccaaDoor
open Go.RowKit

def refAt (s : ByteArray) (i : Nat) : Int × Int :=
  if byteAt s i < 128 then (byteAt s i, 1)
  else if 192 ≤ byteAt s i ∧ byteAt s i < 224 then atMulti s i 2 (byteAt s i - 192)
  else if 224 ≤ byteAt s i ∧ byteAt s i < 240 then atMulti s i 3 (byteAt s i - 224)
  else if 240 ≤ byteAt s i ∧ byteAt s i < 248 then atMulti s i 4 (byteAt s i - 240)
  else (0, 0)

set_option maxHeartbeats 1000000 in
set_option maxRecDepth 100000 in
theorem at_low (s : ByteArray) (i : Nat) (w : World) (hi : i < s.size) (h : byteAt s i < 128) :
    Calls Tryd.prog 27 #[.string s, .int .i64 i] w fun e w' => e = .returned (.tuple #[.int .i32 (byteAt s i), .int .i64 1]) ∧ Below w.heap.size w w' := by
  rw [byteAt_get s i hi] at h ⊢
  go_enter Tryd.func27, Tryd.ntmps27
  go_wp2
  go_ret2
  exact ⟨rfl, Below.refl _ _⟩

set_option maxHeartbeats 1000000 in
set_option maxRecDepth 100000 in
theorem at_none (s : ByteArray) (i : Nat) (w : World) (hi : i < s.size) (h0 : 128 ≤ byteAt s i) (h : byteAt s i < 192 ∨ 248 ≤ byteAt s i) :
    Calls Tryd.prog 27 #[.string s, .int .i64 i] w fun e w' => e = .returned (.tuple #[.int .i32 0, .int .i64 0]) ∧ Below w.heap.size w w' := by
  rw [byteAt_get s i hi] at h h0
  have hby : ((s[i]'hi).toNat : Int) < 256 := by have := (s[i]'hi).toNat_lt; omega
  rcases h with h | h
  all_goals
    go_enter Tryd.func27, Tryd.ntmps27
    go_wp2
    go_ret2
    exact ⟨rfl, Below.refl _ _⟩

theorem at_any (s : ByteArray) (i : Nat) (w : World) (hi : i < s.size) (hs : s.size ≤ 1048576) :
    Calls Tryd.prog 27 #[.string s, .int .i64 i] w fun e w' => e = .returned (.tuple #[.int .i32 (refAt s i).1, .int .i64 (refAt s i).2]) ∧ Below w.heap.size w w' := by
  unfold refAt
  by_cases h1 : byteAt s i < 128
  · rw [if_pos h1]; exact at_low s i w hi h1
  · rw [if_neg h1]
    by_cases h2 : 192 ≤ byteAt s i ∧ byteAt s i < 224
    · rw [if_pos h2]; exact at_multi2 s i 2 _ w hi hs rfl h2.1 h2.2 rfl
    · rw [if_neg h2]
      by_cases h3 : 224 ≤ byteAt s i ∧ byteAt s i < 240
      · rw [if_pos h3]; exact at_multi3 s i 3 _ w hi hs rfl h3.1 h3.2 rfl
      · rw [if_neg h3]
        by_cases h4 : 240 ≤ byteAt s i ∧ byteAt s i < 248
        · rw [if_pos h4]; exact at_multi4 s i 4 _ w hi hs rfl h4.1 h4.2 rfl
        · rw [if_neg h4]; exact at_none s i w hi (by omega) (by omega)

theorem enc_len (r : Int) (hv : Utf8.valid r = true) : (enc r).length = if r < 128 then 1 else if r < 2048 then 2 else if r < 65536 then 3 else 4 := by
  have h0 : 0 ≤ r := by simp [Utf8.valid] at hv; omega
  by_cases h1 : r < 128
  · rw [enc_n1 r hv (by omega), if_pos h1]; rfl
  · by_cases h2 : r < 2048
    · rw [enc_n2 r hv (by omega) (by omega), if_neg h1, if_pos h2]; rfl
    · by_cases h3 : r < 65536
      · rw [enc_n3 r hv (by omega) (by omega) (by omega), if_neg h1, if_neg h2, if_pos h3]; rfl
      · rw [enc_n4 r hv (by omega) (by omega) (by omega), if_neg h1, if_neg h2, if_neg h3]; rfl
theorem enc_len_le (r : Int) : 1 ≤ (enc r).length ∧ (enc r).length ≤ 4 := by
  by_cases hv : Utf8.valid r = true
  · rw [enc_len r hv]; split <;> (try split) <;> (try split) <;> omega
  · have := congrArg List.length (enc_bad r (by simp [Utf8.valid] at hv; omega))
    simp [bys_length] at this
    omega

/-- Decoding, in words of byteAt. -/
theorem decode_def (s : ByteArray) (i : Nat) : Utf8.decode s i =
    (if byteAt s i < 0x80 then (byteAt s i, 1)
    else if (byteAt s i / 32 == 6 && (decide (i + 1 < s.size) && byteAt s (i + 1) / 64 == 2)) = true then
      (if (byteAt s i % 32) * 64 + byteAt s (i + 1) % 64 ≥ 0x80 then ((byteAt s i % 32) * 64 + byteAt s (i + 1) % 64, 2) else (Utf8.runeError, 1))
    else if (byteAt s i / 16 == 14 && (decide (i + 1 < s.size) && byteAt s (i + 1) / 64 == 2) && (decide (i + 2 < s.size) && byteAt s (i + 2) / 64 == 2)) = true then
      (if ((byteAt s i % 16) * 4096 + (byteAt s (i + 1) % 64) * 64 + byteAt s (i + 2) % 64 ≥ 0x800 && Utf8.valid (((byteAt s i % 16) * 4096 + (byteAt s (i + 1) % 64) * 64 + byteAt s (i + 2) % 64 : Nat) : Int)) = true then ((byteAt s i % 16) * 4096 + (byteAt s (i + 1) % 64) * 64 + byteAt s (i + 2) % 64, 3) else (Utf8.runeError, 1))
    else if (byteAt s i / 8 == 30 && (decide (i + 1 < s.size) && byteAt s (i + 1) / 64 == 2) && (decide (i + 2 < s.size) && byteAt s (i + 2) / 64 == 2) && (decide (i + 3 < s.size) && byteAt s (i + 3) / 64 == 2)) = true then
      (if ((byteAt s i % 8) * 262144 + (byteAt s (i + 1) % 64) * 4096 + (byteAt s (i + 2) % 64) * 64 + byteAt s (i + 3) % 64 ≥ 0x10000 && Utf8.valid (((byteAt s i % 8) * 262144 + (byteAt s (i + 1) % 64) * 4096 + (byteAt s (i + 2) % 64) * 64 + byteAt s (i + 3) % 64 : Nat) : Int)) = true then ((byteAt s i % 8) * 262144 + (byteAt s (i + 1) % 64) * 4096 + (byteAt s (i + 2) % 64) * 64 + byteAt s (i + 3) % 64, 4) else (Utf8.runeError, 1))
    else (Utf8.runeError, 1)) := rfl
theorem cont2 (b : Nat) : (b / 64 == 2) = decide (128 ≤ b ∧ b ≤ 191) := by rw [Bool.eq_iff_iff]; simp; omega
theorem byteAt_lt (s : ByteArray) (i : Nat) : byteAt s i < 256 := by unfold byteAt; exact (s.get! i).toNat_lt
def AtOk (x : Int × Int) (y : Nat × Nat) : Prop := (x = (0, 0) ∧ y = (0xFFFD, 1)) ∨ (x.2 ≠ 0 ∧ x = ((y.1 : Int), (y.2 : Int)))
theorem AtOk.of {X x : Int × Int} {Y y : Nat × Nat} (hA : X = x) (hD : Y = y) (h : AtOk x y) : AtOk X Y := by rw [hA, hD]; exact h
theorem AtOk.no : AtOk (0, 0) (Utf8.runeError, 1) := .inl ⟨rfl, rfl⟩
theorem at_ok2 (s : ByteArray) (i : Nat) (hi : i < s.size) (h1 : 192 ≤ byteAt s i) (h2 : byteAt s i < 224) :
    AtOk (atMulti s i 2 ((byteAt s i : Int) - 192)) (if (i + 1 < s.size ∧ 128 ≤ byteAt s (i + 1) ∧ byteAt s (i + 1) ≤ 191) then (if byteAt s i % 32 * 64 + byteAt s (i + 1) % 64 ≥ 128 then (byteAt s i % 32 * 64 + byteAt s (i + 1) % 64, 2) else (Utf8.runeError, 1)) else (Utf8.runeError, 1)) := by
  by_cases hs : s.size - i < 2
  · exact AtOk.of (atMulti_short _ _ _ _ hs) (if_neg (by omega)) AtOk.no
  · by_cases hc : (i + 1 < s.size ∧ 128 ≤ byteAt s (i + 1) ∧ byteAt s (i + 1) ≤ 191)
    · have hn : numAt s i ((byteAt s i : Int) - 192) 1 = ((byteAt s i % 32 * 64 + byteAt s (i + 1) % 64 : Nat) : Int) := by
        simp only [numAt, Nat.zero_add]; omega
      have hA := atMulti_end s i 2 1 ((byteAt s i : Int) - 192) hs rfl (fun t a b => by
        rcases (show t = 1 from by omega) with rfl
        all_goals omega)
      rw [hn] at hA
      have hlt : byteAt s i % 32 * 64 + byteAt s (i + 1) % 64 < 2048 := by omega
      have hv : Utf8.valid ((byteAt s i % 32 * 64 + byteAt s (i + 1) % 64 : Nat) : Int) = true := valid_of _ (by omega)
      by_cases hl : byteAt s i % 32 * 64 + byteAt s (i + 1) % 64 ≥ 128
      · refine AtOk.of (hA.trans (if_pos ⟨hv, by rw [enc_len _ hv, if_neg (by omega), if_pos (by omega)]⟩)) ((if_pos hc).trans (if_pos hl)) ?_
        exact .inr ⟨by simp, rfl⟩
      · exact AtOk.of (hA.trans (if_neg (fun h => by have := h.2; rw [enc_len _ hv, if_pos (by omega)] at this; omega))) ((if_pos hc).trans (if_neg hl)) AtOk.no
    · refine AtOk.of ?_ (if_neg hc) AtOk.no
      unfold atMulti
      rw [if_neg hs, if_neg]
      intro h
      have := h 1 (by omega) (by omega)
      omega
theorem at_ok3 (s : ByteArray) (i : Nat) (hi : i < s.size) (h1 : 224 ≤ byteAt s i) (h2 : byteAt s i < 240) :
    AtOk (atMulti s i 3 ((byteAt s i : Int) - 224)) (if (i + 1 < s.size ∧ 128 ≤ byteAt s (i + 1) ∧ byteAt s (i + 1) ≤ 191) ∧ (i + 2 < s.size ∧ 128 ≤ byteAt s (i + 2) ∧ byteAt s (i + 2) ≤ 191) then (if byteAt s i % 16 * 4096 + byteAt s (i + 1) % 64 * 64 + byteAt s (i + 2) % 64 ≥ 2048 ∧ Utf8.valid ((byteAt s i % 16 * 4096 + byteAt s (i + 1) % 64 * 64 + byteAt s (i + 2) % 64 : Nat) : Int) = true then (byteAt s i % 16 * 4096 + byteAt s (i + 1) % 64 * 64 + byteAt s (i + 2) % 64, 3) else (Utf8.runeError, 1)) else (Utf8.runeError, 1)) := by
  by_cases hs : s.size - i < 3
  · exact AtOk.of (atMulti_short _ _ _ _ hs) (if_neg (by omega)) AtOk.no
  · by_cases hc : (i + 1 < s.size ∧ 128 ≤ byteAt s (i + 1) ∧ byteAt s (i + 1) ≤ 191) ∧ (i + 2 < s.size ∧ 128 ≤ byteAt s (i + 2) ∧ byteAt s (i + 2) ≤ 191)
    · have hn : numAt s i ((byteAt s i : Int) - 224) 2 = ((byteAt s i % 16 * 4096 + byteAt s (i + 1) % 64 * 64 + byteAt s (i + 2) % 64 : Nat) : Int) := by
        simp only [numAt, Nat.zero_add, Nat.reduceAdd]; omega
      have hA := atMulti_end s i 3 2 ((byteAt s i : Int) - 224) hs rfl (fun t a b => by
        rcases (show t = 1 ∨ t = 2 from by omega) with rfl | rfl
        all_goals omega)
      rw [hn] at hA
      have hlt : byteAt s i % 16 * 4096 + byteAt s (i + 1) % 64 * 64 + byteAt s (i + 2) % 64 < 65536 := by omega
      by_cases hv : Utf8.valid ((byteAt s i % 16 * 4096 + byteAt s (i + 1) % 64 * 64 + byteAt s (i + 2) % 64 : Nat) : Int) = true
      · by_cases hl : byteAt s i % 16 * 4096 + byteAt s (i + 1) % 64 * 64 + byteAt s (i + 2) % 64 ≥ 2048
        · refine AtOk.of (hA.trans (if_pos ⟨hv, by rw [enc_len _ hv, if_neg (by omega), if_neg (by omega), if_pos (by omega)]⟩)) ((if_pos hc).trans (if_pos ⟨hl, hv⟩)) ?_
          exact .inr ⟨by simp, rfl⟩
        · exact AtOk.of (hA.trans (if_neg (fun h => by have := h.2; rw [enc_len _ hv] at this; split at this <;> (try split at this) <;> omega))) ((if_pos hc).trans (if_neg (fun h => hl h.1))) AtOk.no
      · exact AtOk.of (hA.trans (if_neg (fun h => hv h.1))) ((if_pos hc).trans (if_neg (fun h => hv h.2))) AtOk.no
    · refine AtOk.of ?_ (if_neg hc) AtOk.no
      unfold atMulti
      rw [if_neg hs, if_neg]
      intro h
      have := h 1 (by omega) (by omega)
      have := h 2 (by omega) (by omega)
      omega
theorem at_ok4 (s : ByteArray) (i : Nat) (hi : i < s.size) (h1 : 240 ≤ byteAt s i) (h2 : byteAt s i < 248) :
    AtOk (atMulti s i 4 ((byteAt s i : Int) - 240)) (if (i + 1 < s.size ∧ 128 ≤ byteAt s (i + 1) ∧ byteAt s (i + 1) ≤ 191) ∧ (i + 2 < s.size ∧ 128 ≤ byteAt s (i + 2) ∧ byteAt s (i + 2) ≤ 191) ∧ (i + 3 < s.size ∧ 128 ≤ byteAt s (i + 3) ∧ byteAt s (i + 3) ≤ 191) then (if byteAt s i % 8 * 262144 + byteAt s (i + 1) % 64 * 4096 + byteAt s (i + 2) % 64 * 64 + byteAt s (i + 3) % 64 ≥ 65536 ∧ Utf8.valid ((byteAt s i % 8 * 262144 + byteAt s (i + 1) % 64 * 4096 + byteAt s (i + 2) % 64 * 64 + byteAt s (i + 3) % 64 : Nat) : Int) = true then (byteAt s i % 8 * 262144 + byteAt s (i + 1) % 64 * 4096 + byteAt s (i + 2) % 64 * 64 + byteAt s (i + 3) % 64, 4) else (Utf8.runeError, 1)) else (Utf8.runeError, 1)) := by
  by_cases hs : s.size - i < 4
  · exact AtOk.of (atMulti_short _ _ _ _ hs) (if_neg (by omega)) AtOk.no
  · by_cases hc : (i + 1 < s.size ∧ 128 ≤ byteAt s (i + 1) ∧ byteAt s (i + 1) ≤ 191) ∧ (i + 2 < s.size ∧ 128 ≤ byteAt s (i + 2) ∧ byteAt s (i + 2) ≤ 191) ∧ (i + 3 < s.size ∧ 128 ≤ byteAt s (i + 3) ∧ byteAt s (i + 3) ≤ 191)
    · have hn : numAt s i ((byteAt s i : Int) - 240) 3 = ((byteAt s i % 8 * 262144 + byteAt s (i + 1) % 64 * 4096 + byteAt s (i + 2) % 64 * 64 + byteAt s (i + 3) % 64 : Nat) : Int) := by
        simp only [numAt, Nat.zero_add, Nat.reduceAdd]; omega
      have hA := atMulti_end s i 4 3 ((byteAt s i : Int) - 240) hs rfl (fun t a b => by
        rcases (show t = 1 ∨ t = 2 ∨ t = 3 from by omega) with rfl | rfl | rfl
        all_goals omega)
      rw [hn] at hA
      have hlt : byteAt s i % 8 * 262144 + byteAt s (i + 1) % 64 * 4096 + byteAt s (i + 2) % 64 * 64 + byteAt s (i + 3) % 64 < 2097152 := by omega
      by_cases hv : Utf8.valid ((byteAt s i % 8 * 262144 + byteAt s (i + 1) % 64 * 4096 + byteAt s (i + 2) % 64 * 64 + byteAt s (i + 3) % 64 : Nat) : Int) = true
      · by_cases hl : byteAt s i % 8 * 262144 + byteAt s (i + 1) % 64 * 4096 + byteAt s (i + 2) % 64 * 64 + byteAt s (i + 3) % 64 ≥ 65536
        · refine AtOk.of (hA.trans (if_pos ⟨hv, by rw [enc_len _ hv, if_neg (by omega), if_neg (by omega), if_neg (by omega)]⟩)) ((if_pos hc).trans (if_pos ⟨hl, hv⟩)) ?_
          exact .inr ⟨by simp, rfl⟩
        · exact AtOk.of (hA.trans (if_neg (fun h => by have := h.2; rw [enc_len _ hv] at this; split at this <;> (try split at this) <;> (try split at this) <;> omega))) ((if_pos hc).trans (if_neg (fun h => hl h.1))) AtOk.no
      · exact AtOk.of (hA.trans (if_neg (fun h => hv h.1))) ((if_pos hc).trans (if_neg (fun h => hv h.2))) AtOk.no
    · refine AtOk.of ?_ (if_neg hc) AtOk.no
      unfold atMulti
      rw [if_neg hs, if_neg]
      intro h
      have := h 1 (by omega) (by omega)
      have := h 2 (by omega) (by omega)
      have := h 3 (by omega) (by omega)
      omega
/-- Whatever it answers: it is the decoding, or there is none. -/
theorem refAt_decode (s : ByteArray) (i : Nat) (hi : i < s.size) : AtOk (refAt s i) (Utf8.decode s i) := by
  have hb := byteAt_lt s i
  rw [decode_def]
  unfold refAt
  by_cases h1 : byteAt s i < 128
  · rw [if_pos h1, if_pos h1]; exact .inr ⟨by simp, rfl⟩
  · rw [if_neg h1, if_neg h1]
    by_cases h2 : 192 ≤ byteAt s i ∧ byteAt s i < 224
    · rw [if_pos h2]
      have e2 : (byteAt s i / 32 == 6) = true := by simp; omega
      have e3 : (byteAt s i / 16 == 14) = false := by simp; omega
      have e4 : (byteAt s i / 8 == 30) = false := by simp; omega
      simp only [e2, e3, e4, Bool.true_and, Bool.false_and, Bool.false_eq_true, if_false, cont2, Bool.and_eq_true, decide_eq_true_eq]
      exact at_ok2 s i hi h2.1 h2.2
    · rw [if_neg h2]
      have e2 : (byteAt s i / 32 == 6) = false := by simp; omega
      by_cases h3 : 224 ≤ byteAt s i ∧ byteAt s i < 240
      · rw [if_pos h3]
        have e3 : (byteAt s i / 16 == 14) = true := by simp; omega
        have e4 : (byteAt s i / 8 == 30) = false := by simp; omega
        simp only [e2, e3, e4, Bool.true_and, Bool.false_and, Bool.false_eq_true, if_false, cont2, Bool.and_eq_true, decide_eq_true_eq]
        exact at_ok3 s i hi h3.1 h3.2
      · rw [if_neg h3]
        have e3 : (byteAt s i / 16 == 14) = false := by simp; omega
        by_cases h4 : 240 ≤ byteAt s i ∧ byteAt s i < 248
        · rw [if_pos h4]
          have e4 : (byteAt s i / 8 == 30) = true := by simp; omega
          simp only [e2, e3, e4, Bool.true_and, Bool.false_and, Bool.false_eq_true, if_false, cont2, Bool.and_eq_true, decide_eq_true_eq, and_assoc]
          have := at_ok4 s i hi h4.1 h4.2
          simp only [and_assoc] at this
          exact this
        · rw [if_neg h4]
          have e4 : (byteAt s i / 8 == 30) = false := by simp; omega
          simp only [e2, e3, e4, Bool.false_and, Bool.false_eq_true, if_false]
          exact AtOk.no
end Go.Proofs.YtmofhpebcbpccaaDoor
