/- Images: the same but for the addresses. Plain. -/
import Derived.Test.YtbbjlijdodnjaaaImgMath
namespace Go.Proofs.Ytbbjlijdodnjaaa

theorem dir_diff (ls : List LV) (b δ : Int) (j : Nat) (h : j < 2 * ls.length) : (dirI (b + δ) ls).getD j 0 = (dirI b ls).getD j 0 + (if j % 2 = 1 then δ else 0) := by
  induction ls generalizing b j with
  | nil => simp at h
  | cons l ls ih =>
    rw [dirI, dirI]
    rcases j with _ | _ | j
    · simp
    · simp
    · have h2 := ih (b + lenE l) j (by simp only [List.length_cons] at h; omega)
      rw [show b + (lenE l : Int) + δ = b + δ + lenE l from by omega] at h2
      simp only [List.getD_cons_succ, h2]
      rw [show (j + 1 + 1) % 2 = j % 2 from by omega]
theorem getD_app (a b : List Int) (i : Nat) : (a ++ b).getD i 0 = if i < a.length then a.getD i 0 else b.getD (i - a.length) 0 := by
  simp only [List.getD, List.getElem?_append]
  split <;> rfl
theorem img_diff (at_ to : Int) (rows : List Rv) (ls : List LV) (i : Nat) :
    (imgL to rows ls).getD i 0 = (imgL at_ rows ls).getD i 0 + (if 2 + 4 * rows.length ≤ i ∧ i < 2 + 4 * rows.length + 2 * ls.length ∧ (i - (2 + 4 * rows.length)) % 2 = 1 then to - at_ else 0) := by
  have hH : (headI rows.length ls.length ++ rows.flatMap rwI).length = 2 + 4 * rows.length := by rw [List.length_append, rwI_len]; simp [headI]
  rw [imgL, imgL]
  generalize headI rows.length ls.length ++ rows.flatMap rwI = X at *
  rw [List.append_assoc, List.append_assoc, getD_app X, getD_app X, hH]
  by_cases h1 : i < 2 + 4 * rows.length
  · rw [if_pos h1, if_pos h1, if_neg (by omega)]
    omega
  · rw [if_neg h1, if_neg h1, getD_app, getD_app, dirI_len, dirI_len]
    by_cases h2 : i - (2 + 4 * rows.length) < 2 * ls.length
    · rw [if_pos h2, if_pos h2]
      have h3 := dir_diff ls (at_ + 2 + 4 * rows.length + 2 * ls.length) (to - at_) _ h2
      rw [show at_ + 2 + 4 * (rows.length : Int) + 2 * ls.length + (to - at_) = to + 2 + 4 * rows.length + 2 * ls.length from by omega] at h3
      rw [h3]
      by_cases h4 : (i - (2 + 4 * rows.length)) % 2 = 1
      · rw [if_pos h4, if_pos ⟨by omega, by omega, h4⟩]
      · rw [if_neg h4, if_neg (fun h => h4 h.2.2)]
    · rw [if_neg h2, if_neg h2, if_neg (by omega)]
      omega
theorem skips_mem (l : List En) (n : Nat) : ∀ x ∈ skipsB l n, ∃ j, j < n ∧ x = skipOf l j := by
  induction n with
  | zero => intro x hx; simp [skipsB] at hx
  | succ n ih =>
    intro x hx
    rw [skipsB] at hx
    split at hx
    · rcases List.mem_append.1 hx with hx | hx
      · obtain ⟨j, h1, h2⟩ := ih x hx
        exact ⟨j, by omega, h2⟩
      · exact ⟨n, by omega, List.mem_singleton.1 hx⟩
    · obtain ⟨j, h1, h2⟩ := ih x hx
      exact ⟨j, by omega, h2⟩
theorem cellsOf_u32 (l : List UInt8) (n : Nat) : ∀ x ∈ cellsOf l n, 0 ≤ x ∧ x < 4294967296 := by
  intro x hx
  simp only [cellsOf, List.mem_map] at hx
  obtain ⟨j, _, rfl⟩ := hx
  have h := byteD_lt l
  have h0 := h (4 * j); have h1 := h (4 * j + 1); have h2 := h (4 * j + 2); have h3 := h (4 * j + 3)
  unfold word4
  omega
theorem encL_range {V : List En} (h : MayP V) : ∀ x ∈ encL V, 0 ≤ x ∧ x < 4294967296 := by
  intro x hx
  rw [encL, List.mem_append, List.mem_cons] at hx
  rcases hx with (rfl | hx) | hx
  · have := h.len
    omega
  · obtain ⟨j, h1, rfl⟩ := skips_mem V _ x hx
    have := skip_range h j h1
    exact ⟨this.1, this.2.1⟩
  · exact cellsOf_u32 _ _ x hx
theorem dirI_range (ls : List LV) (b : Int) (h0 : 0 ≤ b) (h1 : b + (bodyI ls).length < 4294967296) (h : ∀ l ∈ ls, 0 ≤ l.2.1 ∧ l.2.1 < 4294967296) : ∀ x ∈ dirI b ls, 0 ≤ x ∧ x < 4294967296 := by
  induction ls generalizing b with
  | nil => intro x hx; simp [dirI] at hx
  | cons l ls ih =>
    have hb : (bodyI (l :: ls)).length = lenE l + (bodyI ls).length := by simp [bodyI, lenE]
    rw [hb] at h1
    intro x hx
    rw [dirI] at hx
    rcases List.mem_cons.1 hx with rfl | hx
    · exact h l (by simp)
    · rcases List.mem_cons.1 hx with rfl | hx
      · omega
      · exact ih (b + lenE l) (by omega) (by omega) (fun y hy => h y (by simp [hy])) x hx
def Rng (x : Int) : Prop := 0 ≤ x ∧ x < 4294967296
theorem imgL_range {at_ : Int} {rows : List Rv} {ls : List LV} (hm : mayI rows.length ls = true) (h0 : 0 ≤ at_) (h1 : at_ ≤ 65536) (hr : ∀ x ∈ rows.flatMap rwI, Rng x) : ∀ x ∈ imgL at_ rows ls, 0 ≤ x ∧ x < 4294967296 := by
  obtain ⟨hn1, hn2, hok⟩ := mayI_parts hm
  have hbl := bodyI_len_le (may_lens hm)
  intro x hx
  rw [imgL] at hx
  rcases List.mem_append.1 hx with hx | hx
  · rcases List.mem_append.1 hx with hx | hx
    · rcases List.mem_append.1 hx with hx | hx
      · simp only [headI, List.mem_cons, List.mem_nil_iff, or_false] at hx
        rcases hx with rfl | rfl <;> omega
      · exact hr x hx
    · refine dirI_range ls _ (by omega) (by omega) (fun l hl => ?_) x hx
      obtain ⟨i, hi, rfl⟩ := List.getElem_of_mem hl
      have h9 := (okB_parts (hok i hi)).2
      have h8 := h9.r1
      have h7 := h9.r2
      rw [lvAt_get _ _ hi] at h8 h7
      omega
  · rw [bodyI, List.mem_flatMap] at hx
    obtain ⟨l, hl, hx⟩ := hx
    obtain ⟨i, hi, rfl⟩ := List.getElem_of_mem hl
    have h9 := (okB_parts (hok i hi)).2.may
    rw [lvAt_get _ _ hi] at h9
    exact encL_range h9 x hx
end Go.Proofs.Ytbbjlijdodnjaaa
