/- The plain laws of the words. No program in sight. -/
import Derived.Test.YtmofhpebcbpccaaDoorTokMath
namespace Go.Proofs.YtmofhpebcbpccaaDoor

theorem grp_app (cur l m : List Int) : grp cur (l ++ 32 :: m) = grp cur l ++ grp [] m := by
  induction l generalizing cur with
  | nil =>
    rw [List.nil_append]
    by_cases hc : cur = []
    · rw [grp_no cur 32 m class_blank hc, hc, grp, if_pos rfl]
      rfl
    · rw [grp_end cur 32 m class_blank hc, grp_nil cur hc]
      rfl
  | cons r l ih =>
    rw [List.cons_append]
    by_cases h : classOf r = 0
    · by_cases hc : cur = []
      · rw [grp_no cur r _ h hc, grp_no cur r _ h hc, ih]
      · rw [grp_end cur r _ h hc, grp_end cur r _ h hc, ih, List.cons_append]
    · rw [grp_on cur r _ h, grp_on cur r _ h, ih]
theorem sp_data (a b : ByteArray) : (a ++ ⟨#[32]⟩ ++ b).data.toList = a.data.toList ++ 32 :: b.data.toList := by simp [ByteArray.data_append]
theorem runes_sp (a b : ByteArray) : runesOf (a ++ ⟨#[32]⟩ ++ b) = runesOf a ++ 32 :: runesOf b := by
  rw [runesOf_L, sp_data, runesOf_app _ _ _ (by decide)]
  rfl
def shift (n : Int) (x : Tok) : Tok := (x.1, x.2.1, x.2.2 + n)
theorem toks_shift (j k : Nat) (gs : List (List Int)) : toks (j + k) gs = (toks j gs).map (shift k) := by
  induction gs generalizing j with
  | nil => rfl
  | cons g gs ih =>
    rw [toks, toks, List.map_cons, show j + k + 1 = j + 1 + k from by omega, ih]
    rfl
theorem filter_shift (n : Int) (l : List Tok) : (l.map (shift n)).filter goes = (l.filter goes).map (shift n) := by
  rw [List.filter_map]
  rfl
theorem words_sp (a b : ByteArray) : wordsOf (a ++ ⟨#[32]⟩ ++ b) = wordsOf a ++ (wordsOf b).map (shift (allOf a).length) := by
  have h : allOf (a ++ ⟨#[32]⟩ ++ b) = allOf a ++ (allOf b).map (shift (allOf a).length) := by
    rw [allOf, runes_sp, grp_app, toks_app, Nat.zero_add, allOf, allOf, toks_len]
    rw [← toks_shift 0, Nat.zero_add]
  rw [wordsOf, h, List.filter_append, filter_shift]
  rfl

theorem grp_fold (cur l : List Int) : grp cur (l.map foldOf) = grp cur l := by
  induction l generalizing cur with
  | nil => rfl
  | cons r l ih => rw [List.map_cons, grp, grp, (fold_once r).1, (fold_once r).2, ih, ih]
theorem small_valid : (List.range 1700).all (fun n => Utf8.valid (foldOf (n : Nat))) = true := by decide +kernel
theorem fold_valid (r : Int) (h : Utf8.valid r = true) : Utf8.valid (foldOf r) = true := by
  by_cases hr : 0 ≤ r ∧ r < 1700
  · obtain ⟨n, rfl⟩ : ∃ n : Nat, r = n := ⟨r.toNat, by omega⟩
    exact List.all_eq_true.mp small_valid n (List.mem_range.mpr (by omega))
  · rw [fold_out r (by omega)]
    exact h
theorem case_words (s : ByteArray) : wordsOf ⟨(textOf ((runesOf s).map foldOf)).toArray⟩ = wordsOf s := by
  have h : ∀ r ∈ (runesOf s).map foldOf, Utf8.valid r = true := fun r hr => by
    obtain ⟨x, hx, rfl⟩ := List.mem_map.1 hr
    exact fold_valid x (runesOf_valid s x hx)
  rw [wordsOf, allOf, runesOf_text, map_fix _ h, grp_fold]
  rfl

/-- A rune of a term. -/
def WR (r : Int) : Prop := foldOf r = r ∧ classOf r ≠ 0 ∧ Utf8.valid r = true
theorem grp_mem (cur l : List Int) (hc : ∀ r ∈ cur, WR r) (hl : ∀ r ∈ l, Utf8.valid r = true) : ∀ g ∈ grp cur l, g ≠ [] ∧ ∀ r ∈ g, WR r := by
  induction l generalizing cur with
  | nil =>
    intro g hg
    by_cases h : cur = []
    · rw [grp, if_pos h] at hg
      cases hg
    · rw [grp_nil cur h] at hg
      obtain rfl := List.mem_singleton.1 hg
      exact ⟨h, hc⟩
  | cons r l ih =>
    have hl' : ∀ r ∈ l, Utf8.valid r = true := fun x hx => hl x (by simp [hx])
    intro g hg
    by_cases h : classOf r = 0
    · by_cases hn : cur = []
      · rw [grp_no cur r l h hn] at hg
        exact ih [] (by simp) hl' g hg
      · rw [grp_end cur r l h hn] at hg
        rcases List.mem_cons.1 hg with rfl | hg
        · exact ⟨hn, hc⟩
        · exact ih [] (by simp) hl' g hg
    · rw [grp_on cur r l h] at hg
      refine ih _ ?_ hl' g hg
      intro x hx
      rcases List.mem_append.1 hx with hx | hx
      · exact hc x hx
      · obtain rfl := List.mem_singleton.1 hx
        exact ⟨(fold_once r).1, by rw [(fold_once r).2]; exact h, fold_valid r (hl r (by simp))⟩
theorem grp_all (p cur : List Int) (h : ∀ r ∈ p, WR r) (hn : cur ++ p ≠ []) : grp cur p = [cur ++ p] := by
  induction p generalizing cur with
  | nil => rw [List.append_nil] at hn ⊢; exact grp_nil cur hn
  | cons r p ih =>
    have hr := h r (by simp)
    rw [grp_on cur r p hr.2.1, hr.1, ih _ (fun x hx => h x (by simp [hx])) (by simp)]
    simp
theorem fitL_ge (n : Int) (l : List Int) (acc : List UInt8) : acc.length ≤ (fitL n l acc).length := by
  induction l generalizing acc with
  | nil => exact Nat.le_refl _
  | cons r l ih =>
    rw [fitL]
    split
    · exact Nat.le_refl _
    · exact Nat.le_trans (by rw [List.length_append]; omega) (ih _)
theorem fitL_all (l : List Int) (acc : List UInt8) (h : acc.length + (textOf l).length ≤ 16) : fitL 16 l acc = acc ++ textOf l := by
  induction l generalizing acc with
  | nil => simp [fitL, textOf]
  | cons r l ih =>
    have e : textOf (r :: l) = enc r ++ textOf l := by simp [textOf]
    rw [e, List.length_append] at h
    rw [fitL_go _ _ _ _ (by omega), ih _ (by rw [List.length_append]; omega), e, List.append_assoc]
theorem term_ok (g : List Int) (hg : g ≠ []) (h : ∀ r ∈ g, WR r) : 1 ≤ (tb g).size ∧ (tb g).size ≤ 16 ∧ allOf (tb g) = [(0, tb g, 0)] := by
  have hsz : (tb g).size = (fitL 16 g []).length := by
    show (fitL 16 g []).toArray.size = _
    simp
  have h1 : 1 ≤ (fitL 16 g []).length := by
    obtain ⟨r, l, rfl⟩ : ∃ r l, g = r :: l := by
      cases g with
      | nil => exact absurd rfl hg
      | cons r l => exact ⟨r, l, rfl⟩
    have hl := enc_len_le r
    rw [fitL_go _ _ _ _ (by simp; omega)]
    have := fitL_ge 16 l ([] ++ enc r)
    simp only [List.nil_append] at this ⊢
    omega
  refine ⟨by omega, tb_size g, ?_⟩
  obtain ⟨m, hm, ht, _, _⟩ := fitL_take 16 g
  have hp : ∀ r ∈ g.take m, WR r := fun r hr => h r (List.mem_of_mem_take hr)
  have hne : g.take m ≠ [] := by
    intro e
    rw [ht, e] at h1
    simp [textOf] at h1
  have e1 : tb g = ⟨(textOf (g.take m)).toArray⟩ := by rw [tb, ht]
  have e2 : tb (g.take m) = tb g := by
    have hle := fitL_le g
    rw [ht] at hle
    rw [e1, tb, fitL_all _ _ (by simpa using hle), List.nil_append]
  have e3 : runesOf (tb g) = g.take m := by rw [e1, runesOf_text, map_fix _ fun r hr => (hp r hr).2.2]
  rw [allOf, e3, grp_all _ [] hp (by simpa using hne), List.nil_append, toks, toks, e2]
  rfl
theorem toks_mem (k : Nat) (gs : List (List Int)) : ∀ x ∈ toks k gs, (∃ g ∈ gs, x.2.1 = tb g) ∧ (k : Int) ≤ x.2.2 := by
  induction gs generalizing k with
  | nil => intro x hx; cases hx
  | cons g gs ih =>
    intro x hx
    rw [toks] at hx
    rcases List.mem_cons.1 hx with rfl | hx
    · exact ⟨⟨g, by simp, rfl⟩, Int.le_refl _⟩
    · obtain ⟨⟨g', hg', e⟩, hle⟩ := ih (k + 1) x hx
      exact ⟨⟨g', by simp [hg'], e⟩, by omega⟩
theorem toks_rise (k : Nat) (gs : List (List Int)) : (toks k gs).Pairwise fun x y => x.2.2 < y.2.2 := by
  induction gs generalizing k with
  | nil => exact List.Pairwise.nil
  | cons g gs ih =>
    rw [toks]
    refine List.Pairwise.cons (fun x hx => ?_) (ih (k + 1))
    have := (toks_mem (k + 1) gs x hx).2
    show (k : Int) < x.2.2
    omega
theorem words_rise (s : ByteArray) : (wordsOf s).Pairwise fun x y => x.2.2 < y.2.2 := (toks_rise 0 _).filter _
theorem words_term (s : ByteArray) (x : Tok) (hx : x ∈ wordsOf s) : 1 ≤ x.2.1.size ∧ x.2.1.size ≤ 16 ∧ 0 ≤ x.2.2 ∧ wordsOf x.2.1 = [(0, x.2.1, 0)] := by
  obtain ⟨hx, hg⟩ := List.mem_filter.1 hx
  obtain ⟨⟨g, hgm, e⟩, h0⟩ := toks_mem 0 _ x hx
  obtain ⟨hne, hw⟩ := grp_mem [] _ (by simp) (runesOf_valid s) g hgm
  obtain ⟨h1, h2, h3⟩ := term_ok g hne hw
  rw [← e] at h1 h2 h3
  refine ⟨h1, h2, h0, ?_⟩
  rw [wordsOf, h3, List.filter_cons_of_pos (by exact hg)]
  rfl

/-- " x" and " y the", so many times. -/
def repX : Nat → ByteArray
  | 0 => ⟨#[]⟩
  | n + 1 => repX n ++ ⟨#[32, 120]⟩
def repY : Nat → ByteArray
  | 0 => ⟨#[]⟩
  | n + 1 => repY n ++ ⟨#[32, 121, 32, 116, 104, 101]⟩
theorem repX_size (n : Nat) : (repX n).size = 2 * n := by
  induction n with
  | zero => rfl
  | succ n ih => rw [repX, ByteArray.size_append, ih]; rfl
theorem repY_size (n : Nat) : (repY n).size = 6 * n := by
  induction n with
  | zero => rfl
  | succ n ih => rw [repY, ByteArray.size_append, ih]; rfl
theorem one_x : (wordsOf ⟨#[120]⟩).length = 1 := by decide +kernel
theorem one_y : (wordsOf ⟨#[121, 32, 116, 104, 101]⟩).length = 1 := by decide +kernel
theorem none_0 : (wordsOf ⟨#[]⟩).length = 0 := by decide +kernel
theorem cut_sp (a : ByteArray) (l : List UInt8) : a ++ ⟨(32 :: l).toArray⟩ = a ++ ⟨#[32]⟩ ++ ⟨l.toArray⟩ := ByteArray.ext (by simp [ByteArray.data_append])
theorem repX_words (n : Nat) : (wordsOf (repX n)).length = n := by
  induction n with
  | zero => exact none_0
  | succ n ih => rw [repX, show (⟨#[32, 120]⟩ : ByteArray) = ⟨(32 :: [120]).toArray⟩ from rfl, cut_sp, words_sp, List.length_append, List.length_map, ih, one_x]
theorem repY_words (n : Nat) : (wordsOf (repY n)).length = n := by
  induction n with
  | zero => exact none_0
  | succ n ih => rw [repY, show (⟨#[32, 121, 32, 116, 104, 101]⟩ : ByteArray) = ⟨(32 :: [121, 32, 116, 104, 101]).toArray⟩ from rfl, cut_sp, words_sp, List.length_append, List.length_map, ih, one_y]
theorem many_len (n m : Nat) : (fieldToks 0 [repX n, repY m]).length = n + m := by
  rw [fieldToks, fieldToks, fieldToks, List.length_append, List.length_map, List.append_nil, List.length_map, repX_words, repY_words]
theorem many_bad (n m : Nat) (h : 64 < n + m ∨ 512 < 6 * m) : docOf [repX n, repY m] = ([], 4) := by
  rw [docOf]
  split
  · rfl
  · rename_i hn
    rcases h with h | h
    · rw [if_pos (by rw [many_len]; exact h)]
    · exact absurd (.inr ⟨repY m, by simp, by rw [repY_size]; exact h⟩) hn
theorem many_good (n m : Nat) (h : ¬ 64 < n + m) (hm : ¬ 512 < 6 * m) : (docOf [repX n, repY m]).2 = 0 ∧ (docOf [repX n, repY m]).1.length = n + m := by
  rw [docOf, if_neg, if_neg (by rw [many_len]; exact h)]
  · exact ⟨rfl, many_len n m⟩
  · rintro (h' | ⟨s, hs, h'⟩)
    · exact absurd h' (by simp)
    · simp only [List.mem_cons, List.not_mem_nil, or_false] at hs
      rcases hs with rfl | rfl
      · rw [repX_size] at h'; omega
      · rw [repY_size] at h'; omega

theorem fix_quick : wordsOf ⟨#[84, 104, 101, 32, 113, 117, 105, 99, 107, 44, 32, 81, 85, 73, 67, 75, 32, 102, 111, 120]⟩ = [(0, ⟨#[113, 117, 105, 99, 107]⟩, 1), (0, ⟨#[113, 117, 105, 99, 107]⟩, 2), (0, ⟨#[102, 111, 120]⟩, 3)] := by decide +kernel
theorem fix_a1b : wordsOf ⟨#[97, 49, 98, 32, 50]⟩ = [(0, ⟨#[97, 49, 98]⟩, 0), (0, ⟨#[50]⟩, 1)] := by decide +kernel
theorem fix_five : docOf [⟨#[]⟩, ⟨#[]⟩, ⟨#[]⟩, ⟨#[]⟩, ⟨#[]⟩] = ([], 4) := by rw [docOf, if_pos (.inl (by simp))]
end Go.Proofs.YtmofhpebcbpccaaDoor
