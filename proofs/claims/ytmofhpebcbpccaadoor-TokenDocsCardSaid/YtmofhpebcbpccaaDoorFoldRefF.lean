/- The walk of the reference's Fold, and that it is the table's. -/
import Derived.Test.YtmofhpebcbpccaaDoorFoldFold
import Derived.Test.YtmofhpebcbpccaaDoorFoldRefC
namespace Go.Proofs.YtmofhpebcbpccaaDoor
open Go.RowKit

theorem mov_steps : ∀ k : Fin 22, mEv k ≠ 0 ∧ mLo k ≤ mHi k := by decide
theorem mov_grow : ∀ k : Fin 22, ∀ j : Fin 22, j.1 < k.1 → mHi j ≤ mHi (k.1 - 1) := by decide
theorem mov_last : ∀ j : Fin 22, mHi j ≤ mHi 21 := by decide
theorem fold_skip (r : Int) (k : Nat) (hk : k ≤ 22) (h : ∀ j, j < k → mHi j < r) : foldF r 24 0 = foldF r (24 - k) k := by
  induction k with
  | zero => rfl
  | succ k ih =>
    rw [ih (by omega) fun j hj => h j (by omega)]
    obtain ⟨f, hf⟩ : ∃ f, 24 - k = f + 1 := ⟨24 - k - 1, by omega⟩
    obtain ⟨h1, h2⟩ := mov_steps ⟨k, by omega⟩
    have h3 := h k (by omega)
    simp only at h1 h2
    rw [hf, foldF, if_neg h1, if_neg (by omega), if_pos h3, show 24 - (k + 1) = f from by omega]
theorem fold_prev (r : Int) (k : Nat) (hk : k ≤ 22) (h : k = 0 ∨ mHi (k - 1) < r) : ∀ j, j < k → mHi j < r := by
  intro j hj
  rcases h with rfl | h
  · omega
  · by_cases h22 : k = 22
    · subst h22
      have := mov_last ⟨j, hj⟩
      simp only at this
      show mHi j < r
      have h' : mHi 21 < r := h
      omega
    · have := mov_grow ⟨k, by omega⟩ ⟨j, by omega⟩ hj
      simp only at this
      omega
theorem fold_row (r : Int) (k : Nat) (hk : k < 22) (h : k = 0 ∨ mHi (k - 1) < r) (h1 : mLo k ≤ r) (h2 : r ≤ mHi k) :
    foldOf r = if mEv k = 1 ∨ (mEv k = 2 ∧ r % 2 = 0) ∨ (mEv k = 3 ∧ r % 2 = 1) then r + mBy k else r := by
  rw [foldOf, fold_skip r k (by omega) (fold_prev r k (by omega) h)]
  obtain ⟨f, hf⟩ : ∃ f, 24 - k = f + 1 := ⟨24 - k - 1, by omega⟩
  obtain ⟨h3, _⟩ := mov_steps ⟨k, hk⟩
  simp only at h3
  rw [hf, foldF, if_neg h3, if_neg (by omega), if_neg (by omega)]
theorem fold_gap (r : Int) (k : Nat) (hk : k ≤ 22) (h : k = 0 ∨ mHi (k - 1) < r) (h1 : k = 22 ∨ r < mLo k) : foldOf r = r := by
  rw [foldOf, fold_skip r k (by omega) (fold_prev r k (by omega) h)]
  obtain ⟨f, hf⟩ : ∃ f, 24 - k = f + 1 := ⟨24 - k - 1, by omega⟩
  rw [hf, foldF]
  by_cases h0 : mEv k = 0
  · rw [if_pos h0]
  · rw [if_neg h0]
    rcases h1 with rfl | h1
    · exact absurd rfl h0
    · rw [if_pos h1]

set_option maxRecDepth 100000 in
set_option maxHeartbeats 4000000 in
theorem rfold_G1 (r : Int) (w : World) (h : r ≤ 64 ∨ (91 ≤ r ∧ r ≤ 191) ∨ r = 215 ∨ (223 ≤ r ∧ r ≤ 255) ∨ r = 312 ∨ r = 329 ∨ (384 ≤ r ∧ r ≤ 901) ∨ r = 903 ∨ r = 907) :
    Calls Tryd.prog 18 #[.int .i32 r] w fun e w' => e = .returned (.int .i32 (foldOf r)) ∧ w' = w := by
  rcases h with h | h | rfl | h | rfl | rfl | h | rfl | rfl
  · rw [fold_gap r 0 (by omega) (Or.inl rfl) (Or.inr (show r < (65 : Int) by omega))]
    try have e376 : (r == 376) = false := by simp; omega
    try have e383 : (r == 383) = false := by simp; omega
    try have e902 : (r == 902) = false := by simp; omega
    try have e908 : (r == 908) = false := by simp; omega
    try have e962 : (r == 962) = false := by simp; omega
    try have n215 : (r != 215) = true := by simp; omega
    try have n930 : (r != 930) = true := by simp; omega
    go_enter Tryd.func18, Tryd.ntmps18
    go_wp2_with (first | (refine (in_yes _ _ _ _ (by first | assumption | omega)).mono ?_; rintro _ _ ⟨rfl, rfl⟩) | (refine (in_no _ _ _ _ (by first | assumption | omega)).mono ?_; rintro _ _ ⟨rfl, rfl⟩))
    go_ret
    exact ⟨rfl, rfl⟩
  · rw [fold_gap r 1 (by omega) (Or.inr (show (90 : Int) < r by omega)) (Or.inr (show r < (192 : Int) by omega))]
    try have e376 : (r == 376) = false := by simp; omega
    try have e383 : (r == 383) = false := by simp; omega
    try have e902 : (r == 902) = false := by simp; omega
    try have e908 : (r == 908) = false := by simp; omega
    try have e962 : (r == 962) = false := by simp; omega
    try have n215 : (r != 215) = true := by simp; omega
    try have n930 : (r != 930) = true := by simp; omega
    go_enter Tryd.func18, Tryd.ntmps18
    go_wp2_with (first | (refine (in_yes _ _ _ _ (by first | assumption | omega)).mono ?_; rintro _ _ ⟨rfl, rfl⟩) | (refine (in_no _ _ _ _ (by first | assumption | omega)).mono ?_; rintro _ _ ⟨rfl, rfl⟩))
    go_ret
    exact ⟨rfl, rfl⟩
  · rw [show foldOf 215 = 215 from rfl]
    try have e376 : (r == 376) = false := by simp; omega
    try have e383 : (r == 383) = false := by simp; omega
    try have e902 : (r == 902) = false := by simp; omega
    try have e908 : (r == 908) = false := by simp; omega
    try have e962 : (r == 962) = false := by simp; omega
    try have n215 : (r != 215) = true := by simp; omega
    try have n930 : (r != 930) = true := by simp; omega
    go_enter Tryd.func18, Tryd.ntmps18
    go_wp2_with (first | (refine (in_yes _ _ _ _ (by first | assumption | omega)).mono ?_; rintro _ _ ⟨rfl, rfl⟩) | (refine (in_no _ _ _ _ (by first | assumption | omega)).mono ?_; rintro _ _ ⟨rfl, rfl⟩))
    go_ret
    exact ⟨rfl, rfl⟩
  · rw [fold_gap r 3 (by omega) (Or.inr (show (222 : Int) < r by omega)) (Or.inr (show r < (256 : Int) by omega))]
    try have e376 : (r == 376) = false := by simp; omega
    try have e383 : (r == 383) = false := by simp; omega
    try have e902 : (r == 902) = false := by simp; omega
    try have e908 : (r == 908) = false := by simp; omega
    try have e962 : (r == 962) = false := by simp; omega
    try have n215 : (r != 215) = true := by simp; omega
    try have n930 : (r != 930) = true := by simp; omega
    go_enter Tryd.func18, Tryd.ntmps18
    go_wp2_with (first | (refine (in_yes _ _ _ _ (by first | assumption | omega)).mono ?_; rintro _ _ ⟨rfl, rfl⟩) | (refine (in_no _ _ _ _ (by first | assumption | omega)).mono ?_; rintro _ _ ⟨rfl, rfl⟩))
    go_ret
    exact ⟨rfl, rfl⟩
  · rw [show foldOf 312 = 312 from rfl]
    try have e376 : (r == 376) = false := by simp; omega
    try have e383 : (r == 383) = false := by simp; omega
    try have e902 : (r == 902) = false := by simp; omega
    try have e908 : (r == 908) = false := by simp; omega
    try have e962 : (r == 962) = false := by simp; omega
    try have n215 : (r != 215) = true := by simp; omega
    try have n930 : (r != 930) = true := by simp; omega
    go_enter Tryd.func18, Tryd.ntmps18
    go_wp2_with (first | (refine (in_yes _ _ _ _ (by first | assumption | omega)).mono ?_; rintro _ _ ⟨rfl, rfl⟩) | (refine (in_no _ _ _ _ (by first | assumption | omega)).mono ?_; rintro _ _ ⟨rfl, rfl⟩))
    go_ret
    exact ⟨rfl, rfl⟩
  · rw [show foldOf 329 = 329 from rfl]
    try have e376 : (r == 376) = false := by simp; omega
    try have e383 : (r == 383) = false := by simp; omega
    try have e902 : (r == 902) = false := by simp; omega
    try have e908 : (r == 908) = false := by simp; omega
    try have e962 : (r == 962) = false := by simp; omega
    try have n215 : (r != 215) = true := by simp; omega
    try have n930 : (r != 930) = true := by simp; omega
    go_enter Tryd.func18, Tryd.ntmps18
    go_wp2_with (first | (refine (in_yes _ _ _ _ (by first | assumption | omega)).mono ?_; rintro _ _ ⟨rfl, rfl⟩) | (refine (in_no _ _ _ _ (by first | assumption | omega)).mono ?_; rintro _ _ ⟨rfl, rfl⟩))
    go_ret
    exact ⟨rfl, rfl⟩
  · rw [fold_gap r 9 (by omega) (Or.inr (show (383 : Int) < r by omega)) (Or.inr (show r < (902 : Int) by omega))]
    try have e376 : (r == 376) = false := by simp; omega
    try have e383 : (r == 383) = false := by simp; omega
    try have e902 : (r == 902) = false := by simp; omega
    try have e908 : (r == 908) = false := by simp; omega
    try have e962 : (r == 962) = false := by simp; omega
    try have n215 : (r != 215) = true := by simp; omega
    try have n930 : (r != 930) = true := by simp; omega
    go_enter Tryd.func18, Tryd.ntmps18
    go_wp2_with (first | (refine (in_yes _ _ _ _ (by first | assumption | omega)).mono ?_; rintro _ _ ⟨rfl, rfl⟩) | (refine (in_no _ _ _ _ (by first | assumption | omega)).mono ?_; rintro _ _ ⟨rfl, rfl⟩))
    go_ret
    exact ⟨rfl, rfl⟩
  · rw [show foldOf 903 = 903 from rfl]
    try have e376 : (r == 376) = false := by simp; omega
    try have e383 : (r == 383) = false := by simp; omega
    try have e902 : (r == 902) = false := by simp; omega
    try have e908 : (r == 908) = false := by simp; omega
    try have e962 : (r == 962) = false := by simp; omega
    try have n215 : (r != 215) = true := by simp; omega
    try have n930 : (r != 930) = true := by simp; omega
    go_enter Tryd.func18, Tryd.ntmps18
    go_wp2_with (first | (refine (in_yes _ _ _ _ (by first | assumption | omega)).mono ?_; rintro _ _ ⟨rfl, rfl⟩) | (refine (in_no _ _ _ _ (by first | assumption | omega)).mono ?_; rintro _ _ ⟨rfl, rfl⟩))
    go_ret
    exact ⟨rfl, rfl⟩
  · rw [show foldOf 907 = 907 from rfl]
    try have e376 : (r == 376) = false := by simp; omega
    try have e383 : (r == 383) = false := by simp; omega
    try have e902 : (r == 902) = false := by simp; omega
    try have e908 : (r == 908) = false := by simp; omega
    try have e962 : (r == 962) = false := by simp; omega
    try have n215 : (r != 215) = true := by simp; omega
    try have n930 : (r != 930) = true := by simp; omega
    go_enter Tryd.func18, Tryd.ntmps18
    go_wp2_with (first | (refine (in_yes _ _ _ _ (by first | assumption | omega)).mono ?_; rintro _ _ ⟨rfl, rfl⟩) | (refine (in_no _ _ _ _ (by first | assumption | omega)).mono ?_; rintro _ _ ⟨rfl, rfl⟩))
    go_ret
    exact ⟨rfl, rfl⟩

set_option maxRecDepth 100000 in
set_option maxHeartbeats 4000000 in
theorem rfold_G2 (r : Int) (w : World) (h : r = 909 ∨ r = 912 ∨ r = 930 ∨ (940 ≤ r ∧ r ≤ 961) ∨ (963 ≤ r ∧ r ≤ 1023) ∨ (1072 ≤ r ∧ r ≤ 1119) ∨ (1154 ≤ r ∧ r ≤ 1161) ∨ (1216 ≤ r ∧ r ≤ 1231) ∨ (1328 ≤ r ∧ r ≤ 1631) ∨ 1642 ≤ r) :
    Calls Tryd.prog 18 #[.int .i32 r] w fun e w' => e = .returned (.int .i32 (foldOf r)) ∧ w' = w := by
  rcases h with rfl | rfl | rfl | h | h | h | h | h | h | h
  · rw [show foldOf 909 = 909 from rfl]
    try have e376 : (r == 376) = false := by simp; omega
    try have e383 : (r == 383) = false := by simp; omega
    try have e902 : (r == 902) = false := by simp; omega
    try have e908 : (r == 908) = false := by simp; omega
    try have e962 : (r == 962) = false := by simp; omega
    try have n215 : (r != 215) = true := by simp; omega
    try have n930 : (r != 930) = true := by simp; omega
    go_enter Tryd.func18, Tryd.ntmps18
    go_wp2_with (first | (refine (in_yes _ _ _ _ (by first | assumption | omega)).mono ?_; rintro _ _ ⟨rfl, rfl⟩) | (refine (in_no _ _ _ _ (by first | assumption | omega)).mono ?_; rintro _ _ ⟨rfl, rfl⟩))
    go_ret
    exact ⟨rfl, rfl⟩
  · rw [show foldOf 912 = 912 from rfl]
    try have e376 : (r == 376) = false := by simp; omega
    try have e383 : (r == 383) = false := by simp; omega
    try have e902 : (r == 902) = false := by simp; omega
    try have e908 : (r == 908) = false := by simp; omega
    try have e962 : (r == 962) = false := by simp; omega
    try have n215 : (r != 215) = true := by simp; omega
    try have n930 : (r != 930) = true := by simp; omega
    go_enter Tryd.func18, Tryd.ntmps18
    go_wp2_with (first | (refine (in_yes _ _ _ _ (by first | assumption | omega)).mono ?_; rintro _ _ ⟨rfl, rfl⟩) | (refine (in_no _ _ _ _ (by first | assumption | omega)).mono ?_; rintro _ _ ⟨rfl, rfl⟩))
    go_ret
    exact ⟨rfl, rfl⟩
  · rw [show foldOf 930 = 930 from rfl]
    try have e376 : (r == 376) = false := by simp; omega
    try have e383 : (r == 383) = false := by simp; omega
    try have e902 : (r == 902) = false := by simp; omega
    try have e908 : (r == 908) = false := by simp; omega
    try have e962 : (r == 962) = false := by simp; omega
    try have n215 : (r != 215) = true := by simp; omega
    try have n930 : (r != 930) = true := by simp; omega
    go_enter Tryd.func18, Tryd.ntmps18
    go_wp2_with (first | (refine (in_yes _ _ _ _ (by first | assumption | omega)).mono ?_; rintro _ _ ⟨rfl, rfl⟩) | (refine (in_no _ _ _ _ (by first | assumption | omega)).mono ?_; rintro _ _ ⟨rfl, rfl⟩))
    go_ret
    exact ⟨rfl, rfl⟩
  · rw [fold_gap r 15 (by omega) (Or.inr (show (939 : Int) < r by omega)) (Or.inr (show r < (962 : Int) by omega))]
    try have e376 : (r == 376) = false := by simp; omega
    try have e383 : (r == 383) = false := by simp; omega
    try have e902 : (r == 902) = false := by simp; omega
    try have e908 : (r == 908) = false := by simp; omega
    try have e962 : (r == 962) = false := by simp; omega
    try have n215 : (r != 215) = true := by simp; omega
    try have n930 : (r != 930) = true := by simp; omega
    go_enter Tryd.func18, Tryd.ntmps18
    go_wp2_with (first | (refine (in_yes _ _ _ _ (by first | assumption | omega)).mono ?_; rintro _ _ ⟨rfl, rfl⟩) | (refine (in_no _ _ _ _ (by first | assumption | omega)).mono ?_; rintro _ _ ⟨rfl, rfl⟩))
    go_ret
    exact ⟨rfl, rfl⟩
  · rw [fold_gap r 16 (by omega) (Or.inr (show (962 : Int) < r by omega)) (Or.inr (show r < (1024 : Int) by omega))]
    try have e376 : (r == 376) = false := by simp; omega
    try have e383 : (r == 383) = false := by simp; omega
    try have e902 : (r == 902) = false := by simp; omega
    try have e908 : (r == 908) = false := by simp; omega
    try have e962 : (r == 962) = false := by simp; omega
    try have n215 : (r != 215) = true := by simp; omega
    try have n930 : (r != 930) = true := by simp; omega
    go_enter Tryd.func18, Tryd.ntmps18
    go_wp2_with (first | (refine (in_yes _ _ _ _ (by first | assumption | omega)).mono ?_; rintro _ _ ⟨rfl, rfl⟩) | (refine (in_no _ _ _ _ (by first | assumption | omega)).mono ?_; rintro _ _ ⟨rfl, rfl⟩))
    go_ret
    exact ⟨rfl, rfl⟩
  · rw [fold_gap r 18 (by omega) (Or.inr (show (1071 : Int) < r by omega)) (Or.inr (show r < (1120 : Int) by omega))]
    try have e376 : (r == 376) = false := by simp; omega
    try have e383 : (r == 383) = false := by simp; omega
    try have e902 : (r == 902) = false := by simp; omega
    try have e908 : (r == 908) = false := by simp; omega
    try have e962 : (r == 962) = false := by simp; omega
    try have n215 : (r != 215) = true := by simp; omega
    try have n930 : (r != 930) = true := by simp; omega
    go_enter Tryd.func18, Tryd.ntmps18
    go_wp2_with (first | (refine (in_yes _ _ _ _ (by first | assumption | omega)).mono ?_; rintro _ _ ⟨rfl, rfl⟩) | (refine (in_no _ _ _ _ (by first | assumption | omega)).mono ?_; rintro _ _ ⟨rfl, rfl⟩))
    go_ret
    exact ⟨rfl, rfl⟩
  · rw [fold_gap r 19 (by omega) (Or.inr (show (1153 : Int) < r by omega)) (Or.inr (show r < (1162 : Int) by omega))]
    try have e376 : (r == 376) = false := by simp; omega
    try have e383 : (r == 383) = false := by simp; omega
    try have e902 : (r == 902) = false := by simp; omega
    try have e908 : (r == 908) = false := by simp; omega
    try have e962 : (r == 962) = false := by simp; omega
    try have n215 : (r != 215) = true := by simp; omega
    try have n930 : (r != 930) = true := by simp; omega
    go_enter Tryd.func18, Tryd.ntmps18
    go_wp2_with (first | (refine (in_yes _ _ _ _ (by first | assumption | omega)).mono ?_; rintro _ _ ⟨rfl, rfl⟩) | (refine (in_no _ _ _ _ (by first | assumption | omega)).mono ?_; rintro _ _ ⟨rfl, rfl⟩))
    go_ret
    exact ⟨rfl, rfl⟩
  · rw [fold_gap r 20 (by omega) (Or.inr (show (1215 : Int) < r by omega)) (Or.inr (show r < (1232 : Int) by omega))]
    try have e376 : (r == 376) = false := by simp; omega
    try have e383 : (r == 383) = false := by simp; omega
    try have e902 : (r == 902) = false := by simp; omega
    try have e908 : (r == 908) = false := by simp; omega
    try have e962 : (r == 962) = false := by simp; omega
    try have n215 : (r != 215) = true := by simp; omega
    try have n930 : (r != 930) = true := by simp; omega
    go_enter Tryd.func18, Tryd.ntmps18
    go_wp2_with (first | (refine (in_yes _ _ _ _ (by first | assumption | omega)).mono ?_; rintro _ _ ⟨rfl, rfl⟩) | (refine (in_no _ _ _ _ (by first | assumption | omega)).mono ?_; rintro _ _ ⟨rfl, rfl⟩))
    go_ret
    exact ⟨rfl, rfl⟩
  · rw [fold_gap r 21 (by omega) (Or.inr (show (1327 : Int) < r by omega)) (Or.inr (show r < (1632 : Int) by omega))]
    try have e376 : (r == 376) = false := by simp; omega
    try have e383 : (r == 383) = false := by simp; omega
    try have e902 : (r == 902) = false := by simp; omega
    try have e908 : (r == 908) = false := by simp; omega
    try have e962 : (r == 962) = false := by simp; omega
    try have n215 : (r != 215) = true := by simp; omega
    try have n930 : (r != 930) = true := by simp; omega
    go_enter Tryd.func18, Tryd.ntmps18
    go_wp2_with (first | (refine (in_yes _ _ _ _ (by first | assumption | omega)).mono ?_; rintro _ _ ⟨rfl, rfl⟩) | (refine (in_no _ _ _ _ (by first | assumption | omega)).mono ?_; rintro _ _ ⟨rfl, rfl⟩))
    go_ret
    exact ⟨rfl, rfl⟩
  · rw [fold_gap r 22 (by omega) (Or.inr (show (1641 : Int) < r by omega)) (Or.inl rfl)]
    try have e376 : (r == 376) = false := by simp; omega
    try have e383 : (r == 383) = false := by simp; omega
    try have e902 : (r == 902) = false := by simp; omega
    try have e908 : (r == 908) = false := by simp; omega
    try have e962 : (r == 962) = false := by simp; omega
    try have n215 : (r != 215) = true := by simp; omega
    try have n930 : (r != 930) = true := by simp; omega
    go_enter Tryd.func18, Tryd.ntmps18
    go_wp2_with (first | (refine (in_yes _ _ _ _ (by first | assumption | omega)).mono ?_; rintro _ _ ⟨rfl, rfl⟩) | (refine (in_no _ _ _ _ (by first | assumption | omega)).mono ?_; rintro _ _ ⟨rfl, rfl⟩))
    go_ret
    exact ⟨rfl, rfl⟩

set_option maxRecDepth 100000 in
set_option maxHeartbeats 4000000 in
theorem rfold_R1 (r : Int) (w : World) (h : (65 ≤ r ∧ r ≤ 90) ∨ (192 ≤ r ∧ r ≤ 214) ∨ (216 ≤ r ∧ r ≤ 222) ∨ r = 376 ∨ r = 383 ∨ r = 902 ∨ (904 ≤ r ∧ r ≤ 906) ∨ r = 908) :
    Calls Tryd.prog 18 #[.int .i32 r] w fun e w' => e = .returned (.int .i32 (foldOf r)) ∧ w' = w := by
  rcases h with h | h | h | rfl | rfl | rfl | h | rfl
  · rw [fold_row r 0 (by omega) (Or.inl rfl) (show (65 : Int) ≤ r by omega) (show r ≤ (90 : Int) by omega), if_pos (show mEv 0 = 1 ∨ mEv 0 = 2 ∧ r % 2 = 0 ∨ mEv 0 = 3 ∧ r % 2 = 1 from Or.inl rfl), show mBy 0 = 32 from rfl]
    try have e376 : (r == 376) = false := by simp; omega
    try have e383 : (r == 383) = false := by simp; omega
    try have e902 : (r == 902) = false := by simp; omega
    try have e908 : (r == 908) = false := by simp; omega
    try have e962 : (r == 962) = false := by simp; omega
    try have n215 : (r != 215) = true := by simp; omega
    try have n930 : (r != 930) = true := by simp; omega
    go_enter Tryd.func18, Tryd.ntmps18
    go_wp2_with (first | (refine (in_yes _ _ _ _ (by first | assumption | omega)).mono ?_; rintro _ _ ⟨rfl, rfl⟩) | (refine (in_no _ _ _ _ (by first | assumption | omega)).mono ?_; rintro _ _ ⟨rfl, rfl⟩))
    go_ret
    exact ⟨rfl, rfl⟩
  · rw [fold_row r 1 (by omega) (Or.inr (show (90 : Int) < r by omega)) (show (192 : Int) ≤ r by omega) (show r ≤ (214 : Int) by omega), if_pos (show mEv 1 = 1 ∨ mEv 1 = 2 ∧ r % 2 = 0 ∨ mEv 1 = 3 ∧ r % 2 = 1 from Or.inl rfl), show mBy 1 = 32 from rfl]
    try have e376 : (r == 376) = false := by simp; omega
    try have e383 : (r == 383) = false := by simp; omega
    try have e902 : (r == 902) = false := by simp; omega
    try have e908 : (r == 908) = false := by simp; omega
    try have e962 : (r == 962) = false := by simp; omega
    try have n215 : (r != 215) = true := by simp; omega
    try have n930 : (r != 930) = true := by simp; omega
    go_enter Tryd.func18, Tryd.ntmps18
    go_wp2_with (first | (refine (in_yes _ _ _ _ (by first | assumption | omega)).mono ?_; rintro _ _ ⟨rfl, rfl⟩) | (refine (in_no _ _ _ _ (by first | assumption | omega)).mono ?_; rintro _ _ ⟨rfl, rfl⟩))
    go_ret
    exact ⟨rfl, rfl⟩
  · rw [fold_row r 2 (by omega) (Or.inr (show (214 : Int) < r by omega)) (show (216 : Int) ≤ r by omega) (show r ≤ (222 : Int) by omega), if_pos (show mEv 2 = 1 ∨ mEv 2 = 2 ∧ r % 2 = 0 ∨ mEv 2 = 3 ∧ r % 2 = 1 from Or.inl rfl), show mBy 2 = 32 from rfl]
    try have e376 : (r == 376) = false := by simp; omega
    try have e383 : (r == 383) = false := by simp; omega
    try have e902 : (r == 902) = false := by simp; omega
    try have e908 : (r == 908) = false := by simp; omega
    try have e962 : (r == 962) = false := by simp; omega
    try have n215 : (r != 215) = true := by simp; omega
    try have n930 : (r != 930) = true := by simp; omega
    go_enter Tryd.func18, Tryd.ntmps18
    go_wp2_with (first | (refine (in_yes _ _ _ _ (by first | assumption | omega)).mono ?_; rintro _ _ ⟨rfl, rfl⟩) | (refine (in_no _ _ _ _ (by first | assumption | omega)).mono ?_; rintro _ _ ⟨rfl, rfl⟩))
    go_ret
    exact ⟨rfl, rfl⟩
  · rw [show foldOf 376 = 255 from rfl]
    try have e376 : (r == 376) = false := by simp; omega
    try have e383 : (r == 383) = false := by simp; omega
    try have e902 : (r == 902) = false := by simp; omega
    try have e908 : (r == 908) = false := by simp; omega
    try have e962 : (r == 962) = false := by simp; omega
    try have n215 : (r != 215) = true := by simp; omega
    try have n930 : (r != 930) = true := by simp; omega
    go_enter Tryd.func18, Tryd.ntmps18
    go_wp2_with (first | (refine (in_yes _ _ _ _ (by first | assumption | omega)).mono ?_; rintro _ _ ⟨rfl, rfl⟩) | (refine (in_no _ _ _ _ (by first | assumption | omega)).mono ?_; rintro _ _ ⟨rfl, rfl⟩))
    go_ret
    exact ⟨rfl, rfl⟩
  · rw [show foldOf 383 = 115 from rfl]
    try have e376 : (r == 376) = false := by simp; omega
    try have e383 : (r == 383) = false := by simp; omega
    try have e902 : (r == 902) = false := by simp; omega
    try have e908 : (r == 908) = false := by simp; omega
    try have e962 : (r == 962) = false := by simp; omega
    try have n215 : (r != 215) = true := by simp; omega
    try have n930 : (r != 930) = true := by simp; omega
    go_enter Tryd.func18, Tryd.ntmps18
    go_wp2_with (first | (refine (in_yes _ _ _ _ (by first | assumption | omega)).mono ?_; rintro _ _ ⟨rfl, rfl⟩) | (refine (in_no _ _ _ _ (by first | assumption | omega)).mono ?_; rintro _ _ ⟨rfl, rfl⟩))
    go_ret
    exact ⟨rfl, rfl⟩
  · rw [show foldOf 902 = 940 from rfl]
    try have e376 : (r == 376) = false := by simp; omega
    try have e383 : (r == 383) = false := by simp; omega
    try have e902 : (r == 902) = false := by simp; omega
    try have e908 : (r == 908) = false := by simp; omega
    try have e962 : (r == 962) = false := by simp; omega
    try have n215 : (r != 215) = true := by simp; omega
    try have n930 : (r != 930) = true := by simp; omega
    go_enter Tryd.func18, Tryd.ntmps18
    go_wp2_with (first | (refine (in_yes _ _ _ _ (by first | assumption | omega)).mono ?_; rintro _ _ ⟨rfl, rfl⟩) | (refine (in_no _ _ _ _ (by first | assumption | omega)).mono ?_; rintro _ _ ⟨rfl, rfl⟩))
    go_ret
    exact ⟨rfl, rfl⟩
  · rw [fold_row r 10 (by omega) (Or.inr (show (902 : Int) < r by omega)) (show (904 : Int) ≤ r by omega) (show r ≤ (906 : Int) by omega), if_pos (show mEv 10 = 1 ∨ mEv 10 = 2 ∧ r % 2 = 0 ∨ mEv 10 = 3 ∧ r % 2 = 1 from Or.inl rfl), show mBy 10 = 37 from rfl]
    try have e376 : (r == 376) = false := by simp; omega
    try have e383 : (r == 383) = false := by simp; omega
    try have e902 : (r == 902) = false := by simp; omega
    try have e908 : (r == 908) = false := by simp; omega
    try have e962 : (r == 962) = false := by simp; omega
    try have n215 : (r != 215) = true := by simp; omega
    try have n930 : (r != 930) = true := by simp; omega
    go_enter Tryd.func18, Tryd.ntmps18
    go_wp2_with (first | (refine (in_yes _ _ _ _ (by first | assumption | omega)).mono ?_; rintro _ _ ⟨rfl, rfl⟩) | (refine (in_no _ _ _ _ (by first | assumption | omega)).mono ?_; rintro _ _ ⟨rfl, rfl⟩))
    go_ret
    exact ⟨rfl, rfl⟩
  · rw [show foldOf 908 = 972 from rfl]
    try have e376 : (r == 376) = false := by simp; omega
    try have e383 : (r == 383) = false := by simp; omega
    try have e902 : (r == 902) = false := by simp; omega
    try have e908 : (r == 908) = false := by simp; omega
    try have e962 : (r == 962) = false := by simp; omega
    try have n215 : (r != 215) = true := by simp; omega
    try have n930 : (r != 930) = true := by simp; omega
    go_enter Tryd.func18, Tryd.ntmps18
    go_wp2_with (first | (refine (in_yes _ _ _ _ (by first | assumption | omega)).mono ?_; rintro _ _ ⟨rfl, rfl⟩) | (refine (in_no _ _ _ _ (by first | assumption | omega)).mono ?_; rintro _ _ ⟨rfl, rfl⟩))
    go_ret
    exact ⟨rfl, rfl⟩

set_option maxRecDepth 100000 in
set_option maxHeartbeats 4000000 in
theorem rfold_R2 (r : Int) (w : World) (h : (910 ≤ r ∧ r ≤ 911) ∨ (913 ≤ r ∧ r ≤ 929) ∨ (931 ≤ r ∧ r ≤ 939) ∨ r = 962 ∨ (1024 ≤ r ∧ r ≤ 1039) ∨ (1040 ≤ r ∧ r ≤ 1071) ∨ (1632 ≤ r ∧ r ≤ 1641)) :
    Calls Tryd.prog 18 #[.int .i32 r] w fun e w' => e = .returned (.int .i32 (foldOf r)) ∧ w' = w := by
  rcases h with h | h | h | rfl | h | h | h
  · rw [fold_row r 12 (by omega) (Or.inr (show (908 : Int) < r by omega)) (show (910 : Int) ≤ r by omega) (show r ≤ (911 : Int) by omega), if_pos (show mEv 12 = 1 ∨ mEv 12 = 2 ∧ r % 2 = 0 ∨ mEv 12 = 3 ∧ r % 2 = 1 from Or.inl rfl), show mBy 12 = 63 from rfl]
    try have e376 : (r == 376) = false := by simp; omega
    try have e383 : (r == 383) = false := by simp; omega
    try have e902 : (r == 902) = false := by simp; omega
    try have e908 : (r == 908) = false := by simp; omega
    try have e962 : (r == 962) = false := by simp; omega
    try have n215 : (r != 215) = true := by simp; omega
    try have n930 : (r != 930) = true := by simp; omega
    go_enter Tryd.func18, Tryd.ntmps18
    go_wp2_with (first | (refine (in_yes _ _ _ _ (by first | assumption | omega)).mono ?_; rintro _ _ ⟨rfl, rfl⟩) | (refine (in_no _ _ _ _ (by first | assumption | omega)).mono ?_; rintro _ _ ⟨rfl, rfl⟩))
    go_ret
    exact ⟨rfl, rfl⟩
  · rw [fold_row r 13 (by omega) (Or.inr (show (911 : Int) < r by omega)) (show (913 : Int) ≤ r by omega) (show r ≤ (929 : Int) by omega), if_pos (show mEv 13 = 1 ∨ mEv 13 = 2 ∧ r % 2 = 0 ∨ mEv 13 = 3 ∧ r % 2 = 1 from Or.inl rfl), show mBy 13 = 32 from rfl]
    try have e376 : (r == 376) = false := by simp; omega
    try have e383 : (r == 383) = false := by simp; omega
    try have e902 : (r == 902) = false := by simp; omega
    try have e908 : (r == 908) = false := by simp; omega
    try have e962 : (r == 962) = false := by simp; omega
    try have n215 : (r != 215) = true := by simp; omega
    try have n930 : (r != 930) = true := by simp; omega
    go_enter Tryd.func18, Tryd.ntmps18
    go_wp2_with (first | (refine (in_yes _ _ _ _ (by first | assumption | omega)).mono ?_; rintro _ _ ⟨rfl, rfl⟩) | (refine (in_no _ _ _ _ (by first | assumption | omega)).mono ?_; rintro _ _ ⟨rfl, rfl⟩))
    go_ret
    exact ⟨rfl, rfl⟩
  · rw [fold_row r 14 (by omega) (Or.inr (show (929 : Int) < r by omega)) (show (931 : Int) ≤ r by omega) (show r ≤ (939 : Int) by omega), if_pos (show mEv 14 = 1 ∨ mEv 14 = 2 ∧ r % 2 = 0 ∨ mEv 14 = 3 ∧ r % 2 = 1 from Or.inl rfl), show mBy 14 = 32 from rfl]
    try have e376 : (r == 376) = false := by simp; omega
    try have e383 : (r == 383) = false := by simp; omega
    try have e902 : (r == 902) = false := by simp; omega
    try have e908 : (r == 908) = false := by simp; omega
    try have e962 : (r == 962) = false := by simp; omega
    try have n215 : (r != 215) = true := by simp; omega
    try have n930 : (r != 930) = true := by simp; omega
    go_enter Tryd.func18, Tryd.ntmps18
    go_wp2_with (first | (refine (in_yes _ _ _ _ (by first | assumption | omega)).mono ?_; rintro _ _ ⟨rfl, rfl⟩) | (refine (in_no _ _ _ _ (by first | assumption | omega)).mono ?_; rintro _ _ ⟨rfl, rfl⟩))
    go_ret
    exact ⟨rfl, rfl⟩
  · rw [show foldOf 962 = 963 from rfl]
    try have e376 : (r == 376) = false := by simp; omega
    try have e383 : (r == 383) = false := by simp; omega
    try have e902 : (r == 902) = false := by simp; omega
    try have e908 : (r == 908) = false := by simp; omega
    try have e962 : (r == 962) = false := by simp; omega
    try have n215 : (r != 215) = true := by simp; omega
    try have n930 : (r != 930) = true := by simp; omega
    go_enter Tryd.func18, Tryd.ntmps18
    go_wp2_with (first | (refine (in_yes _ _ _ _ (by first | assumption | omega)).mono ?_; rintro _ _ ⟨rfl, rfl⟩) | (refine (in_no _ _ _ _ (by first | assumption | omega)).mono ?_; rintro _ _ ⟨rfl, rfl⟩))
    go_ret
    exact ⟨rfl, rfl⟩
  · rw [fold_row r 16 (by omega) (Or.inr (show (962 : Int) < r by omega)) (show (1024 : Int) ≤ r by omega) (show r ≤ (1039 : Int) by omega), if_pos (show mEv 16 = 1 ∨ mEv 16 = 2 ∧ r % 2 = 0 ∨ mEv 16 = 3 ∧ r % 2 = 1 from Or.inl rfl), show mBy 16 = 80 from rfl]
    try have e376 : (r == 376) = false := by simp; omega
    try have e383 : (r == 383) = false := by simp; omega
    try have e902 : (r == 902) = false := by simp; omega
    try have e908 : (r == 908) = false := by simp; omega
    try have e962 : (r == 962) = false := by simp; omega
    try have n215 : (r != 215) = true := by simp; omega
    try have n930 : (r != 930) = true := by simp; omega
    go_enter Tryd.func18, Tryd.ntmps18
    go_wp2_with (first | (refine (in_yes _ _ _ _ (by first | assumption | omega)).mono ?_; rintro _ _ ⟨rfl, rfl⟩) | (refine (in_no _ _ _ _ (by first | assumption | omega)).mono ?_; rintro _ _ ⟨rfl, rfl⟩))
    go_ret
    exact ⟨rfl, rfl⟩
  · rw [fold_row r 17 (by omega) (Or.inr (show (1039 : Int) < r by omega)) (show (1040 : Int) ≤ r by omega) (show r ≤ (1071 : Int) by omega), if_pos (show mEv 17 = 1 ∨ mEv 17 = 2 ∧ r % 2 = 0 ∨ mEv 17 = 3 ∧ r % 2 = 1 from Or.inl rfl), show mBy 17 = 32 from rfl]
    try have e376 : (r == 376) = false := by simp; omega
    try have e383 : (r == 383) = false := by simp; omega
    try have e902 : (r == 902) = false := by simp; omega
    try have e908 : (r == 908) = false := by simp; omega
    try have e962 : (r == 962) = false := by simp; omega
    try have n215 : (r != 215) = true := by simp; omega
    try have n930 : (r != 930) = true := by simp; omega
    go_enter Tryd.func18, Tryd.ntmps18
    go_wp2_with (first | (refine (in_yes _ _ _ _ (by first | assumption | omega)).mono ?_; rintro _ _ ⟨rfl, rfl⟩) | (refine (in_no _ _ _ _ (by first | assumption | omega)).mono ?_; rintro _ _ ⟨rfl, rfl⟩))
    go_ret
    exact ⟨rfl, rfl⟩
  · rw [fold_row r 21 (by omega) (Or.inr (show (1327 : Int) < r by omega)) (show (1632 : Int) ≤ r by omega) (show r ≤ (1641 : Int) by omega), if_pos (show mEv 21 = 1 ∨ mEv 21 = 2 ∧ r % 2 = 0 ∨ mEv 21 = 3 ∧ r % 2 = 1 from Or.inl rfl), show mBy 21 = -1584 from rfl]
    try have e376 : (r == 376) = false := by simp; omega
    try have e383 : (r == 383) = false := by simp; omega
    try have e902 : (r == 902) = false := by simp; omega
    try have e908 : (r == 908) = false := by simp; omega
    try have e962 : (r == 962) = false := by simp; omega
    try have n215 : (r != 215) = true := by simp; omega
    try have n930 : (r != 930) = true := by simp; omega
    go_enter Tryd.func18, Tryd.ntmps18
    go_wp2_with (first | (refine (in_yes _ _ _ _ (by first | assumption | omega)).mono ?_; rintro _ _ ⟨rfl, rfl⟩) | (refine (in_no _ _ _ _ (by first | assumption | omega)).mono ?_; rintro _ _ ⟨rfl, rfl⟩))
    go_ret
    exact ⟨rfl, rfl⟩

set_option maxRecDepth 100000 in
set_option maxHeartbeats 4000000 in
theorem rfold_P1 (r : Int) (w : World) (h : (256 ≤ r ∧ r ≤ 311) ∨ (313 ≤ r ∧ r ≤ 328) ∨ (330 ≤ r ∧ r ≤ 375)) :
    Calls Tryd.prog 18 #[.int .i32 r] w fun e w' => e = .returned (.int .i32 (foldOf r)) ∧ w' = w := by
  have hp : r % 2 = 0 ∨ r % 2 = 1 := by omega
  have ht : r.tmod 2 = r % 2 := Int.tmod_eq_emod_of_nonneg (by omega)
  rcases h with h | h | h
  · rw [fold_row r 3 (by omega) (Or.inr (show (222 : Int) < r by omega)) (show (256 : Int) ≤ r by omega) (show r ≤ (311 : Int) by omega)]
    rcases hp with hp | hp
    · rw [if_pos (show mEv 3 = 1 ∨ mEv 3 = 2 ∧ r % 2 = 0 ∨ mEv 3 = 3 ∧ r % 2 = 1 from Or.inr (Or.inl ⟨rfl, hp⟩)), show mBy 3 = 1 from rfl]
      rw [hp] at ht
      try have e376 : (r == 376) = false := by simp; omega
      try have e383 : (r == 383) = false := by simp; omega
      try have e902 : (r == 902) = false := by simp; omega
      try have e908 : (r == 908) = false := by simp; omega
      try have e962 : (r == 962) = false := by simp; omega
      try have n215 : (r != 215) = true := by simp; omega
      try have n930 : (r != 930) = true := by simp; omega
      go_enter Tryd.func18, Tryd.ntmps18
      go_wp2_with (first | (refine (in_yes _ _ _ _ (by first | assumption | omega)).mono ?_; rintro _ _ ⟨rfl, rfl⟩) | (refine (in_no _ _ _ _ (by first | assumption | omega)).mono ?_; rintro _ _ ⟨rfl, rfl⟩))
      go_ret
      exact ⟨rfl, rfl⟩
    · rw [if_neg (show ¬ (mEv 3 = 1 ∨ mEv 3 = 2 ∧ r % 2 = 0 ∨ mEv 3 = 3 ∧ r % 2 = 1) from by rw [show mEv 3 = 2 from rfl]; omega)]
      rw [hp] at ht
      try have e376 : (r == 376) = false := by simp; omega
      try have e383 : (r == 383) = false := by simp; omega
      try have e902 : (r == 902) = false := by simp; omega
      try have e908 : (r == 908) = false := by simp; omega
      try have e962 : (r == 962) = false := by simp; omega
      try have n215 : (r != 215) = true := by simp; omega
      try have n930 : (r != 930) = true := by simp; omega
      go_enter Tryd.func18, Tryd.ntmps18
      go_wp2_with (first | (refine (in_yes _ _ _ _ (by first | assumption | omega)).mono ?_; rintro _ _ ⟨rfl, rfl⟩) | (refine (in_no _ _ _ _ (by first | assumption | omega)).mono ?_; rintro _ _ ⟨rfl, rfl⟩))
      go_ret
      exact ⟨rfl, rfl⟩
  · rw [fold_row r 4 (by omega) (Or.inr (show (311 : Int) < r by omega)) (show (313 : Int) ≤ r by omega) (show r ≤ (328 : Int) by omega)]
    rcases hp with hp | hp
    · rw [if_neg (show ¬ (mEv 4 = 1 ∨ mEv 4 = 2 ∧ r % 2 = 0 ∨ mEv 4 = 3 ∧ r % 2 = 1) from by rw [show mEv 4 = 3 from rfl]; omega)]
      rw [hp] at ht
      try have e376 : (r == 376) = false := by simp; omega
      try have e383 : (r == 383) = false := by simp; omega
      try have e902 : (r == 902) = false := by simp; omega
      try have e908 : (r == 908) = false := by simp; omega
      try have e962 : (r == 962) = false := by simp; omega
      try have n215 : (r != 215) = true := by simp; omega
      try have n930 : (r != 930) = true := by simp; omega
      go_enter Tryd.func18, Tryd.ntmps18
      go_wp2_with (first | (refine (in_yes _ _ _ _ (by first | assumption | omega)).mono ?_; rintro _ _ ⟨rfl, rfl⟩) | (refine (in_no _ _ _ _ (by first | assumption | omega)).mono ?_; rintro _ _ ⟨rfl, rfl⟩))
      go_ret
      exact ⟨rfl, rfl⟩
    · rw [if_pos (show mEv 4 = 1 ∨ mEv 4 = 2 ∧ r % 2 = 0 ∨ mEv 4 = 3 ∧ r % 2 = 1 from Or.inr (Or.inr ⟨rfl, hp⟩)), show mBy 4 = 1 from rfl]
      rw [hp] at ht
      try have e376 : (r == 376) = false := by simp; omega
      try have e383 : (r == 383) = false := by simp; omega
      try have e902 : (r == 902) = false := by simp; omega
      try have e908 : (r == 908) = false := by simp; omega
      try have e962 : (r == 962) = false := by simp; omega
      try have n215 : (r != 215) = true := by simp; omega
      try have n930 : (r != 930) = true := by simp; omega
      go_enter Tryd.func18, Tryd.ntmps18
      go_wp2_with (first | (refine (in_yes _ _ _ _ (by first | assumption | omega)).mono ?_; rintro _ _ ⟨rfl, rfl⟩) | (refine (in_no _ _ _ _ (by first | assumption | omega)).mono ?_; rintro _ _ ⟨rfl, rfl⟩))
      go_ret
      exact ⟨rfl, rfl⟩
  · rw [fold_row r 5 (by omega) (Or.inr (show (328 : Int) < r by omega)) (show (330 : Int) ≤ r by omega) (show r ≤ (375 : Int) by omega)]
    rcases hp with hp | hp
    · rw [if_pos (show mEv 5 = 1 ∨ mEv 5 = 2 ∧ r % 2 = 0 ∨ mEv 5 = 3 ∧ r % 2 = 1 from Or.inr (Or.inl ⟨rfl, hp⟩)), show mBy 5 = 1 from rfl]
      rw [hp] at ht
      try have e376 : (r == 376) = false := by simp; omega
      try have e383 : (r == 383) = false := by simp; omega
      try have e902 : (r == 902) = false := by simp; omega
      try have e908 : (r == 908) = false := by simp; omega
      try have e962 : (r == 962) = false := by simp; omega
      try have n215 : (r != 215) = true := by simp; omega
      try have n930 : (r != 930) = true := by simp; omega
      go_enter Tryd.func18, Tryd.ntmps18
      go_wp2_with (first | (refine (in_yes _ _ _ _ (by first | assumption | omega)).mono ?_; rintro _ _ ⟨rfl, rfl⟩) | (refine (in_no _ _ _ _ (by first | assumption | omega)).mono ?_; rintro _ _ ⟨rfl, rfl⟩))
      go_ret
      exact ⟨rfl, rfl⟩
    · rw [if_neg (show ¬ (mEv 5 = 1 ∨ mEv 5 = 2 ∧ r % 2 = 0 ∨ mEv 5 = 3 ∧ r % 2 = 1) from by rw [show mEv 5 = 2 from rfl]; omega)]
      rw [hp] at ht
      try have e376 : (r == 376) = false := by simp; omega
      try have e383 : (r == 383) = false := by simp; omega
      try have e902 : (r == 902) = false := by simp; omega
      try have e908 : (r == 908) = false := by simp; omega
      try have e962 : (r == 962) = false := by simp; omega
      try have n215 : (r != 215) = true := by simp; omega
      try have n930 : (r != 930) = true := by simp; omega
      go_enter Tryd.func18, Tryd.ntmps18
      go_wp2_with (first | (refine (in_yes _ _ _ _ (by first | assumption | omega)).mono ?_; rintro _ _ ⟨rfl, rfl⟩) | (refine (in_no _ _ _ _ (by first | assumption | omega)).mono ?_; rintro _ _ ⟨rfl, rfl⟩))
      go_ret
      exact ⟨rfl, rfl⟩

set_option maxRecDepth 100000 in
set_option maxHeartbeats 4000000 in
theorem rfold_P2 (r : Int) (w : World) (h : (377 ≤ r ∧ r ≤ 382) ∨ (1120 ≤ r ∧ r ≤ 1153) ∨ (1162 ≤ r ∧ r ≤ 1215) ∨ (1232 ≤ r ∧ r ≤ 1327)) :
    Calls Tryd.prog 18 #[.int .i32 r] w fun e w' => e = .returned (.int .i32 (foldOf r)) ∧ w' = w := by
  have hp : r % 2 = 0 ∨ r % 2 = 1 := by omega
  have ht : r.tmod 2 = r % 2 := Int.tmod_eq_emod_of_nonneg (by omega)
  rcases h with h | h | h | h
  · rw [fold_row r 7 (by omega) (Or.inr (show (376 : Int) < r by omega)) (show (377 : Int) ≤ r by omega) (show r ≤ (382 : Int) by omega)]
    rcases hp with hp | hp
    · rw [if_neg (show ¬ (mEv 7 = 1 ∨ mEv 7 = 2 ∧ r % 2 = 0 ∨ mEv 7 = 3 ∧ r % 2 = 1) from by rw [show mEv 7 = 3 from rfl]; omega)]
      rw [hp] at ht
      try have e376 : (r == 376) = false := by simp; omega
      try have e383 : (r == 383) = false := by simp; omega
      try have e902 : (r == 902) = false := by simp; omega
      try have e908 : (r == 908) = false := by simp; omega
      try have e962 : (r == 962) = false := by simp; omega
      try have n215 : (r != 215) = true := by simp; omega
      try have n930 : (r != 930) = true := by simp; omega
      go_enter Tryd.func18, Tryd.ntmps18
      go_wp2_with (first | (refine (in_yes _ _ _ _ (by first | assumption | omega)).mono ?_; rintro _ _ ⟨rfl, rfl⟩) | (refine (in_no _ _ _ _ (by first | assumption | omega)).mono ?_; rintro _ _ ⟨rfl, rfl⟩))
      go_ret
      exact ⟨rfl, rfl⟩
    · rw [if_pos (show mEv 7 = 1 ∨ mEv 7 = 2 ∧ r % 2 = 0 ∨ mEv 7 = 3 ∧ r % 2 = 1 from Or.inr (Or.inr ⟨rfl, hp⟩)), show mBy 7 = 1 from rfl]
      rw [hp] at ht
      try have e376 : (r == 376) = false := by simp; omega
      try have e383 : (r == 383) = false := by simp; omega
      try have e902 : (r == 902) = false := by simp; omega
      try have e908 : (r == 908) = false := by simp; omega
      try have e962 : (r == 962) = false := by simp; omega
      try have n215 : (r != 215) = true := by simp; omega
      try have n930 : (r != 930) = true := by simp; omega
      go_enter Tryd.func18, Tryd.ntmps18
      go_wp2_with (first | (refine (in_yes _ _ _ _ (by first | assumption | omega)).mono ?_; rintro _ _ ⟨rfl, rfl⟩) | (refine (in_no _ _ _ _ (by first | assumption | omega)).mono ?_; rintro _ _ ⟨rfl, rfl⟩))
      go_ret
      exact ⟨rfl, rfl⟩
  · rw [fold_row r 18 (by omega) (Or.inr (show (1071 : Int) < r by omega)) (show (1120 : Int) ≤ r by omega) (show r ≤ (1153 : Int) by omega)]
    rcases hp with hp | hp
    · rw [if_pos (show mEv 18 = 1 ∨ mEv 18 = 2 ∧ r % 2 = 0 ∨ mEv 18 = 3 ∧ r % 2 = 1 from Or.inr (Or.inl ⟨rfl, hp⟩)), show mBy 18 = 1 from rfl]
      rw [hp] at ht
      try have e376 : (r == 376) = false := by simp; omega
      try have e383 : (r == 383) = false := by simp; omega
      try have e902 : (r == 902) = false := by simp; omega
      try have e908 : (r == 908) = false := by simp; omega
      try have e962 : (r == 962) = false := by simp; omega
      try have n215 : (r != 215) = true := by simp; omega
      try have n930 : (r != 930) = true := by simp; omega
      go_enter Tryd.func18, Tryd.ntmps18
      go_wp2_with (first | (refine (in_yes _ _ _ _ (by first | assumption | omega)).mono ?_; rintro _ _ ⟨rfl, rfl⟩) | (refine (in_no _ _ _ _ (by first | assumption | omega)).mono ?_; rintro _ _ ⟨rfl, rfl⟩))
      go_ret
      exact ⟨rfl, rfl⟩
    · rw [if_neg (show ¬ (mEv 18 = 1 ∨ mEv 18 = 2 ∧ r % 2 = 0 ∨ mEv 18 = 3 ∧ r % 2 = 1) from by rw [show mEv 18 = 2 from rfl]; omega)]
      rw [hp] at ht
      try have e376 : (r == 376) = false := by simp; omega
      try have e383 : (r == 383) = false := by simp; omega
      try have e902 : (r == 902) = false := by simp; omega
      try have e908 : (r == 908) = false := by simp; omega
      try have e962 : (r == 962) = false := by simp; omega
      try have n215 : (r != 215) = true := by simp; omega
      try have n930 : (r != 930) = true := by simp; omega
      go_enter Tryd.func18, Tryd.ntmps18
      go_wp2_with (first | (refine (in_yes _ _ _ _ (by first | assumption | omega)).mono ?_; rintro _ _ ⟨rfl, rfl⟩) | (refine (in_no _ _ _ _ (by first | assumption | omega)).mono ?_; rintro _ _ ⟨rfl, rfl⟩))
      go_ret
      exact ⟨rfl, rfl⟩
  · rw [fold_row r 19 (by omega) (Or.inr (show (1153 : Int) < r by omega)) (show (1162 : Int) ≤ r by omega) (show r ≤ (1215 : Int) by omega)]
    rcases hp with hp | hp
    · rw [if_pos (show mEv 19 = 1 ∨ mEv 19 = 2 ∧ r % 2 = 0 ∨ mEv 19 = 3 ∧ r % 2 = 1 from Or.inr (Or.inl ⟨rfl, hp⟩)), show mBy 19 = 1 from rfl]
      rw [hp] at ht
      try have e376 : (r == 376) = false := by simp; omega
      try have e383 : (r == 383) = false := by simp; omega
      try have e902 : (r == 902) = false := by simp; omega
      try have e908 : (r == 908) = false := by simp; omega
      try have e962 : (r == 962) = false := by simp; omega
      try have n215 : (r != 215) = true := by simp; omega
      try have n930 : (r != 930) = true := by simp; omega
      go_enter Tryd.func18, Tryd.ntmps18
      go_wp2_with (first | (refine (in_yes _ _ _ _ (by first | assumption | omega)).mono ?_; rintro _ _ ⟨rfl, rfl⟩) | (refine (in_no _ _ _ _ (by first | assumption | omega)).mono ?_; rintro _ _ ⟨rfl, rfl⟩))
      go_ret
      exact ⟨rfl, rfl⟩
    · rw [if_neg (show ¬ (mEv 19 = 1 ∨ mEv 19 = 2 ∧ r % 2 = 0 ∨ mEv 19 = 3 ∧ r % 2 = 1) from by rw [show mEv 19 = 2 from rfl]; omega)]
      rw [hp] at ht
      try have e376 : (r == 376) = false := by simp; omega
      try have e383 : (r == 383) = false := by simp; omega
      try have e902 : (r == 902) = false := by simp; omega
      try have e908 : (r == 908) = false := by simp; omega
      try have e962 : (r == 962) = false := by simp; omega
      try have n215 : (r != 215) = true := by simp; omega
      try have n930 : (r != 930) = true := by simp; omega
      go_enter Tryd.func18, Tryd.ntmps18
      go_wp2_with (first | (refine (in_yes _ _ _ _ (by first | assumption | omega)).mono ?_; rintro _ _ ⟨rfl, rfl⟩) | (refine (in_no _ _ _ _ (by first | assumption | omega)).mono ?_; rintro _ _ ⟨rfl, rfl⟩))
      go_ret
      exact ⟨rfl, rfl⟩
  · rw [fold_row r 20 (by omega) (Or.inr (show (1215 : Int) < r by omega)) (show (1232 : Int) ≤ r by omega) (show r ≤ (1327 : Int) by omega)]
    rcases hp with hp | hp
    · rw [if_pos (show mEv 20 = 1 ∨ mEv 20 = 2 ∧ r % 2 = 0 ∨ mEv 20 = 3 ∧ r % 2 = 1 from Or.inr (Or.inl ⟨rfl, hp⟩)), show mBy 20 = 1 from rfl]
      rw [hp] at ht
      try have e376 : (r == 376) = false := by simp; omega
      try have e383 : (r == 383) = false := by simp; omega
      try have e902 : (r == 902) = false := by simp; omega
      try have e908 : (r == 908) = false := by simp; omega
      try have e962 : (r == 962) = false := by simp; omega
      try have n215 : (r != 215) = true := by simp; omega
      try have n930 : (r != 930) = true := by simp; omega
      go_enter Tryd.func18, Tryd.ntmps18
      go_wp2_with (first | (refine (in_yes _ _ _ _ (by first | assumption | omega)).mono ?_; rintro _ _ ⟨rfl, rfl⟩) | (refine (in_no _ _ _ _ (by first | assumption | omega)).mono ?_; rintro _ _ ⟨rfl, rfl⟩))
      go_ret
      exact ⟨rfl, rfl⟩
    · rw [if_neg (show ¬ (mEv 20 = 1 ∨ mEv 20 = 2 ∧ r % 2 = 0 ∨ mEv 20 = 3 ∧ r % 2 = 1) from by rw [show mEv 20 = 2 from rfl]; omega)]
      rw [hp] at ht
      try have e376 : (r == 376) = false := by simp; omega
      try have e383 : (r == 383) = false := by simp; omega
      try have e902 : (r == 902) = false := by simp; omega
      try have e908 : (r == 908) = false := by simp; omega
      try have e962 : (r == 962) = false := by simp; omega
      try have n215 : (r != 215) = true := by simp; omega
      try have n930 : (r != 930) = true := by simp; omega
      go_enter Tryd.func18, Tryd.ntmps18
      go_wp2_with (first | (refine (in_yes _ _ _ _ (by first | assumption | omega)).mono ?_; rintro _ _ ⟨rfl, rfl⟩) | (refine (in_no _ _ _ _ (by first | assumption | omega)).mono ?_; rintro _ _ ⟨rfl, rfl⟩))
      go_ret
      exact ⟨rfl, rfl⟩

theorem fold_parts (r : Int) : (r ≤ 64 ∨ (91 ≤ r ∧ r ≤ 191) ∨ r = 215 ∨ (223 ≤ r ∧ r ≤ 255) ∨ r = 312 ∨ r = 329 ∨ (384 ≤ r ∧ r ≤ 901) ∨ r = 903 ∨ r = 907) ∨ (r = 909 ∨ r = 912 ∨ r = 930 ∨ (940 ≤ r ∧ r ≤ 961) ∨ (963 ≤ r ∧ r ≤ 1023) ∨ (1072 ≤ r ∧ r ≤ 1119) ∨ (1154 ≤ r ∧ r ≤ 1161) ∨ (1216 ≤ r ∧ r ≤ 1231) ∨ (1328 ≤ r ∧ r ≤ 1631) ∨ 1642 ≤ r) ∨ ((65 ≤ r ∧ r ≤ 90) ∨ (192 ≤ r ∧ r ≤ 214) ∨ (216 ≤ r ∧ r ≤ 222) ∨ r = 376 ∨ r = 383 ∨ r = 902 ∨ (904 ≤ r ∧ r ≤ 906) ∨ r = 908) ∨ ((910 ≤ r ∧ r ≤ 911) ∨ (913 ≤ r ∧ r ≤ 929) ∨ (931 ≤ r ∧ r ≤ 939) ∨ r = 962 ∨ (1024 ≤ r ∧ r ≤ 1039) ∨ (1040 ≤ r ∧ r ≤ 1071) ∨ (1632 ≤ r ∧ r ≤ 1641)) ∨ ((256 ≤ r ∧ r ≤ 311) ∨ (313 ≤ r ∧ r ≤ 328) ∨ (330 ≤ r ∧ r ≤ 375)) ∨ ((377 ≤ r ∧ r ≤ 382) ∨ (1120 ≤ r ∧ r ≤ 1153) ∨ (1162 ≤ r ∧ r ≤ 1215) ∨ (1232 ≤ r ∧ r ≤ 1327)) := by
  by_cases g0 : r < 65
  · omega
  by_cases k0 : r ≤ 90
  · omega
  by_cases g1 : r < 192
  · omega
  by_cases k1 : r ≤ 214
  · omega
  by_cases g2 : r < 216
  · omega
  by_cases k2 : r ≤ 222
  · omega
  by_cases g3 : r < 256
  · omega
  by_cases k3 : r ≤ 311
  · omega
  by_cases g4 : r < 313
  · omega
  by_cases k4 : r ≤ 328
  · omega
  by_cases g5 : r < 330
  · omega
  by_cases k5 : r ≤ 375
  · omega
  by_cases g6 : r < 376
  · omega
  by_cases k6 : r ≤ 376
  · omega
  by_cases g7 : r < 377
  · omega
  by_cases k7 : r ≤ 382
  · omega
  by_cases g8 : r < 383
  · omega
  by_cases k8 : r ≤ 383
  · omega
  by_cases g9 : r < 902
  · omega
  by_cases k9 : r ≤ 902
  · omega
  by_cases g10 : r < 904
  · omega
  by_cases k10 : r ≤ 906
  · omega
  by_cases g11 : r < 908
  · omega
  by_cases k11 : r ≤ 908
  · omega
  by_cases g12 : r < 910
  · omega
  by_cases k12 : r ≤ 911
  · omega
  by_cases g13 : r < 913
  · omega
  by_cases k13 : r ≤ 929
  · omega
  by_cases g14 : r < 931
  · omega
  by_cases k14 : r ≤ 939
  · omega
  by_cases g15 : r < 962
  · omega
  by_cases k15 : r ≤ 962
  · omega
  by_cases g16 : r < 1024
  · omega
  by_cases k16 : r ≤ 1039
  · omega
  by_cases g17 : r < 1040
  · omega
  by_cases k17 : r ≤ 1071
  · omega
  by_cases g18 : r < 1120
  · omega
  by_cases k18 : r ≤ 1153
  · omega
  by_cases g19 : r < 1162
  · omega
  by_cases k19 : r ≤ 1215
  · omega
  by_cases g20 : r < 1232
  · omega
  by_cases k20 : r ≤ 1327
  · omega
  by_cases g21 : r < 1632
  · omega
  by_cases k21 : r ≤ 1641
  · omega
  omega
theorem rfold_any (r : Int) (w : World) :
    Calls Tryd.prog 18 #[.int .i32 r] w fun e w' => e = .returned (.int .i32 (foldOf r)) ∧ w' = w := by
  rcases fold_parts r with h | h | h | h | h | h
  · exact rfold_G1 r w h
  · exact rfold_G2 r w h
  · exact rfold_R1 r w h
  · exact rfold_R2 r w h
  · exact rfold_P1 r w h
  · exact rfold_P2 r w h
end Go.Proofs.YtmofhpebcbpccaaDoor
