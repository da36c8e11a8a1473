/- Rank's plain law: insertion by a key, stable; the first greatest one taken out; lists turned. No program in sight. -/
import Derived.Test.YtdkbiimhdbnplaaKit
namespace Go.Proofs.Ytdkbiimhdbnplaa

section
variable {α β : Type} (k : α → Int)
/-- One more, ahead of the first lesser one. -/
def ins (x : α) : List α → List α
  | [] => [x]
  | y :: r => if k y < k x then x :: y :: r else y :: ins x r
def sortD (l : List α) : List α := l.foldl (fun b x => ins k x b) []

theorem ins_length (x : α) : ∀ b, (ins k x b).length = b.length + 1
  | [] => rfl
  | y :: r => by
    unfold ins
    split
    · rfl
    · simp [ins_length x r]
theorem ins_at (x : α) (p r : List α) (hp : ∀ y ∈ p, k x ≤ k y) (hr : ∀ y, r.head? = some y → k y < k x) : ins k x (p ++ r) = p ++ x :: r := by
  induction p with
  | nil =>
    cases r with
    | nil => rfl
    | cons y r => simp [ins, hr y rfl]
  | cons y p ih =>
    have h := hp y (by simp)
    have h2 := ih fun z hz => hp z (by simp [hz])
    simp only [List.cons_append, ins]
    rw [if_neg (by omega), h2]
theorem ins_front (x : α) (b : List α) (h : ∀ y ∈ b, k y < k x) : ins k x b = x :: b := by
  have := ins_at k x [] b (by simp) (fun y hy => h y (List.mem_of_mem_head? (by rw [hy]; rfl)))
  simpa using this
theorem ins_behind (x m : α) (b : List α) (h : k x ≤ k m) : ins k x (m :: b) = m :: ins k x b := by
  simp only [ins]
  rw [if_neg (by omega)]
theorem mem_ins (x y : α) : ∀ b, y ∈ ins k x b ↔ y = x ∨ y ∈ b
  | [] => by simp [ins]
  | z :: r => by
    unfold ins
    split
    · simp
    · simp [mem_ins x y r]
      constructor
      · rintro (h | h | h)
        · exact .inr (.inl h)
        · exact .inl h
        · exact .inr (.inr h)
      · rintro (h | h | h)
        · exact .inr (.inl h)
        · exact .inl h
        · exact .inr (.inr h)
theorem ins_take (x : α) : ∀ (n : Nat) (b : List α), (ins k x (b.take n)).take n = (ins k x b).take n
  | 0, b => by simp
  | n + 1, [] => by simp
  | n + 1, y :: r => by
    simp only [List.take_succ_cons, ins]
    split
    · simp only [List.take_succ_cons]
      congr 1
      cases n with
      | zero => rfl
      | succ n => simp [List.take_take]
    · simp only [List.take_succ_cons]
      rw [ins_take x n r]
theorem top_take (n : Nat) : ∀ (l b : List α), l.foldl (fun b x => (ins k x b).take n) (b.take n) = (l.foldl (fun b x => ins k x b) b).take n
  | [], b => rfl
  | x :: l, b => by
    simp only [List.foldl_cons]
    rw [ins_take, top_take n l]
theorem top_eq (n : Nat) (l : List α) : l.foldl (fun b x => (ins k x b).take n) [] = (sortD k l).take n := by
  have := top_take k n l []
  simpa [sortD] using this
theorem foldl_len : ∀ (l b : List α), (l.foldl (fun b x => ins k x b) b).length = l.length + b.length
  | [], b => by simp
  | x :: l, b => by simp [foldl_len l, ins_length]; omega
theorem sortD_len (l : List α) : (sortD k l).length = l.length := by simp [sortD, foldl_len]
theorem mem_foldl (y : α) : ∀ (l b : List α), y ∈ l.foldl (fun b x => ins k x b) b ↔ y ∈ l ∨ y ∈ b
  | [], b => by simp
  | x :: l, b => by
    simp only [List.foldl_cons, mem_foldl y l, mem_ins, List.mem_cons]
    constructor
    · rintro (h | h | h)
      · exact .inl (.inr h)
      · exact .inl (.inl h)
      · exact .inr h
    · rintro ((h | h) | h)
      · exact .inr (.inl h)
      · exact .inl h
      · exact .inr (.inr h)
theorem mem_sortD (y : α) (l : List α) : y ∈ sortD k l ↔ y ∈ l := by simp [sortD, mem_foldl]
theorem foldl_behind (m : α) : ∀ (l b : List α), (∀ y ∈ l, k y ≤ k m) → l.foldl (fun b x => ins k x b) (m :: b) = m :: l.foldl (fun b x => ins k x b) b
  | [], b, _ => rfl
  | x :: l, b, h => by
    simp only [List.foldl_cons]
    rw [ins_behind k x m b (h x (by simp)), foldl_behind m l _ fun y hy => h y (by simp [hy])]
/-- The first greatest one stands first. -/
theorem sort_pick (a : List α) (m : α) (b : List α) (ha : ∀ x ∈ a, k x < k m) (hb : ∀ y ∈ b, k y ≤ k m) : sortD k (a ++ m :: b) = m :: sortD k (a ++ b) := by
  unfold sortD
  rw [List.foldl_append, List.foldl_cons, List.foldl_append]
  rw [ins_front k m _ (fun y hy => ha y (by simpa using (mem_foldl k y a []).1 hy)), foldl_behind k m b _ hb]
theorem ins_sorted (x : α) : ∀ b : List α, b.Pairwise (fun x y => k y ≤ k x) → (ins k x b).Pairwise (fun x y => k y ≤ k x)
  | [], _ => by simp [ins]
  | y :: r, h => by
    obtain ⟨h1, h2⟩ := List.pairwise_cons.1 h
    unfold ins
    split
    · rename_i hlt
      refine List.pairwise_cons.2 ⟨fun z hz => ?_, h⟩
      rcases List.mem_cons.1 hz with rfl | hz
      · omega
      · have := h1 z hz; omega
    · rename_i hge
      refine List.pairwise_cons.2 ⟨fun z hz => ?_, ins_sorted x r h2⟩
      rcases (mem_ins k x z r).1 hz with rfl | hz
      · omega
      · exact h1 z hz
theorem sorted_foldl : ∀ (l b : List α), b.Pairwise (fun x y => k y ≤ k x) → (l.foldl (fun b x => ins k x b) b).Pairwise (fun x y => k y ≤ k x)
  | [], _, h => h
  | x :: l, b, h => sorted_foldl l _ (ins_sorted k x b h)
theorem sortD_sorted (l : List α) : (sortD k l).Pairwise (fun x y => k y ≤ k x) := sorted_foldl k l [] .nil
theorem ins_comm_lt (x y : α) (h : k y < k x) : ∀ b : List α, ins k x (ins k y b) = ins k y (ins k x b)
  | [] => by simp only [ins]; rw [if_pos h, if_neg (by omega)]
  | z :: r => by
    by_cases h1 : k z < k y
    · simp only [ins]
      rw [if_pos h1, if_pos (by omega)]
      simp only [ins]
      rw [if_pos h, if_neg (by omega), if_pos h1]
    · by_cases h2 : k z < k x
      · simp only [ins]
        rw [if_neg h1, if_pos h2]
        simp only [ins]
        rw [if_pos h2, if_neg (by omega), if_neg h1]
      · simp only [ins]
        rw [if_neg h1, if_neg h2]
        simp only [ins]
        rw [if_neg h2, if_neg h1, ins_comm_lt x y h r]
theorem ins_comm (x y : α) (h : k x ≠ k y) (b : List α) : ins k x (ins k y b) = ins k y (ins k x b) := by
  rcases Int.lt_or_gt_of_ne h with h | h
  · exact (ins_comm_lt k y x h b).symm
  · exact ins_comm_lt k x y h b
theorem ins_map (f : α → β) (k' : β → Int) (hk : ∀ a, k' (f a) = k a) (x : α) : ∀ b : List α, ins k' (f x) (b.map f) = (ins k x b).map f
  | [] => rfl
  | y :: r => by
    simp only [List.map_cons, ins, hk]
    split
    · rfl
    · simp [ins_map f k' hk x r]
theorem sortD_map (f : α → β) (k' : β → Int) (hk : ∀ a, k' (f a) = k a) (l : List α) : sortD k' (l.map f) = (sortD k l).map f := by
  unfold sortD
  suffices h : ∀ b : List α, (l.map f).foldl (fun b x => ins k' x b) (b.map f) = (l.foldl (fun b x => ins k x b) b).map f from by simpa using h []
  induction l with
  | nil => intro b; rfl
  | cons x l ih =>
    intro b
    simp only [List.map_cons, List.foldl_cons]
    rw [ins_map k f k' hk, ih]
/-- Of unlike keys the order plays no part. -/
theorem foldl_cons_comm (x : α) : ∀ (l b : List α), (∀ y ∈ l, k y ≠ k x) → l.foldl (fun b x => ins k x b) (ins k x b) = ins k x (l.foldl (fun b x => ins k x b) b)
  | [], b, _ => rfl
  | y :: l, b, h => by
    simp only [List.foldl_cons]
    rw [ins_comm k y x (h y (by simp)), foldl_cons_comm x l _ fun z hz => h z (by simp [hz])]
theorem foldl_perm {l l' : List α} (h : l.Perm l') : (l.map k).Nodup → ∀ b, l.foldl (fun b x => ins k x b) b = l'.foldl (fun b x => ins k x b) b := by
  induction h with
  | nil => intro _ b; rfl
  | cons x _ ih =>
    intro hn b
    simp only [List.foldl_cons]
    exact ih (by simp only [List.map_cons, List.nodup_cons] at hn; exact hn.2) _
  | swap x y l =>
    intro hn b
    simp only [List.foldl_cons]
    rw [ins_comm k x y]
    intro e
    simp only [List.map_cons, List.nodup_cons, List.mem_cons] at hn
    exact hn.1 (.inl e.symm)
  | trans h1 _ ih1 ih2 =>
    intro hn b
    rw [ih1 hn b, ih2 ((h1.map k).nodup_iff.1 hn) b]
theorem sortD_perm {l l' : List α} (h : l.Perm l') (hn : (l.map k).Nodup) : sortD k l = sortD k l' := foldl_perm k h hn []
end

/-- The places of two numbers and a document's: one key. -/
def rkey (place : Int) (doc : Int) : Int := place * 18446744073709551616 + doc
theorem rkey_lt {p q d e : Int} (hd : -9223372036854775808 ≤ d ∧ d ≤ 9223372036854775807) (he : -9223372036854775808 ≤ e ∧ e ≤ 9223372036854775807) : rkey p d < rkey q e ↔ p < q ∨ (p = q ∧ d < e) := by
  unfold rkey
  constructor
  · intro h
    rcases Int.lt_trichotomy p q with h1 | h1 | h1
    · exact .inl h1
    · exact .inr ⟨h1, by subst h1; omega⟩
    · omega
  · rintro (h | ⟨rfl, h⟩) <;> omega
end Go.Proofs.Ytdkbiimhdbnplaa
