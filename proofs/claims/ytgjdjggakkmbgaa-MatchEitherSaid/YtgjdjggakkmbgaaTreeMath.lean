/- Trees of queries, and what they find. Plain: no program in sight. -/
import Derived.Test.YtgjdjggakkmbgaaMatMath
namespace Go.Proofs.Ytgjdjggakkmbgaa

structure Hn where
  A : Option Addr
  n : Nat
  c : Nat
/-- A node: its kind, its field, where its terms and its kids lie, its kids. -/
inductive NodeM where
  | mk (kind : Int) (field : Int) (th kh : Hn) (kids : List NodeM) : NodeM

/-- Of a list of what was found: behind the numbers ahead of d. -/
def skipL (l : List Fd) (d : Int) : List Fd := l.dropWhile (fun f => decide (f.1 < d))
def hitL (l : List Fd) (d : Int) : Bool := match skipL l d with | [] => false | f :: _ => decide (f.1 = d)
/-- Those of all that were found, and what of the list is left. -/
def keepS (all : List Int) (l : List Fd) : Nat → List Int × List Fd
  | 0 => ([], l)
  | i + 1 => (if hitL (keepS all l i).2 (all.getD i 0) = true then (keepS all l i).1 ++ [all.getD i 0] else (keepS all l i).1, skipL (keepS all l i).2 (all.getD i 0))
def keepF (all : List Int) (l : List Fd) : List Int := (keepS all l all.length).1
def keepQ (all : List Int) (l : List Fd) (d : Int) : Bool := decide (d ∈ keepF all l)
def sel (kind : Int) (many cnt : Nat) : Bool := if kind = 2 then decide (cnt = many) else if kind = 3 then decide (0 < cnt) else if kind = 4 then decide (cnt = 0) else false
def one (b : Bool) : Nat := if b = true then 1 else 0

mutual
def evalQ (all : List Int) : NodeM → List (List Fd) → (Int → Bool) × List (List Fd)
  | .mk kind _ _ _ kids, lv =>
    if kind = 1 then (match lv with | [] => (fun _ => false, []) | f :: r => (keepQ all f, r))
    else (fun d => sel kind kids.length ((evalQs all kids lv).1 d), (evalQs all kids lv).2)
def evalQs (all : List Int) : List NodeM → List (List Fd) → (Int → Nat) × List (List Fd)
  | [], lv => (fun _ => 0, lv)
  | k :: ks, lv => (fun d => one ((evalQ all k lv).1 d) + (evalQs all ks (evalQ all k lv).2).1 d, (evalQs all ks (evalQ all k lv).2).2)
end

def Rise (all : List Int) : Prop := ∀ i j (_ : i < j) (_ : j < all.length), all[i]'(by omega) < all[j]
theorem evalQs_snoc (all : List Int) (ks : List NodeM) (k : NodeM) (lv : List (List Fd)) :
    evalQs all (ks ++ [k]) lv = (fun d => (evalQs all ks lv).1 d + one ((evalQ all k (evalQs all ks lv).2).1 d), (evalQ all k (evalQs all ks lv).2).2) := by
  induction ks generalizing lv with
  | nil => simp [evalQs]
  | cons a ks ih =>
    rw [List.cons_append, evalQs, ih, evalQs]
    simp only [Nat.add_assoc]
theorem evalQs_le (all : List Int) (ks : List NodeM) (lv : List (List Fd)) (d : Int) : (evalQs all ks lv).1 d ≤ ks.length := by
  induction ks generalizing lv with
  | nil => simp [evalQs]
  | cons a ks ih =>
    have h := ih (evalQ all a lv).2
    rw [evalQs]
    simp only [List.length_cons]
    have : one ((evalQ all a lv).1 d) ≤ 1 := by unfold one; split <;> omega
    omega
theorem eval_leaf0 (all : List Int) (f : Int) (th kh : Hn) (ks : List NodeM) : evalQ all (.mk 1 f th kh ks) [] = (fun _ => false, []) := by rw [evalQ]; simp
theorem eval_leaf (all : List Int) (f : Int) (th kh : Hn) (ks : List NodeM) (x : List Fd) (r : List (List Fd)) : evalQ all (.mk 1 f th kh ks) (x :: r) = (keepQ all x, r) := by rw [evalQ]; simp
theorem eval_in (all : List Int) (k f : Int) (th kh : Hn) (ks : List NodeM) (lv : List (List Fd)) (h : k ≠ 1) : evalQ all (.mk k f th kh ks) lv = (fun d => sel k ks.length ((evalQs all ks lv).1 d), (evalQs all ks lv).2) := by rw [evalQ.eq_def]; simp only [if_neg h]

/-! ### Numbers that rise -/
theorem Rise.take {all : List Int} (h : Rise all) (m : Nat) : Rise (all.take m) := fun i j hij hj => by
  rw [List.length_take] at hj
  rw [List.getElem_take, List.getElem_take]
  exact h i j hij (by omega)
theorem Rise.not_mem {all : List Int} (h : Rise all) (i : Nat) (hi : i < all.length) : all[i] ∉ all.take i := fun hm => by
  obtain ⟨j, hj, e⟩ := List.getElem_of_mem hm
  rw [List.length_take] at hj
  rw [List.getElem_take] at e
  have := h j i (by omega) hi
  omega
/-- The numbers of a rising list that lie in a part of it are that part. -/
theorem keepS_mem (all : List Int) (l : List Fd) (i : Nat) (hi : i ≤ all.length) : ∀ x ∈ (keepS all l i).1, x ∈ all.take i := by
  induction i with
  | zero => intro x hx; simp [keepS] at hx
  | succ i ih =>
    intro x hx
    have hg : all.getD i 0 = all[i] := by simp [List.getD, show i < all.length from hi]
    rw [List.take_succ_eq_append_getElem (show i < all.length from hi), List.mem_append]
    rw [keepS] at hx
    split at hx
    · rcases List.mem_append.1 hx with h | h
      · exact .inl (ih (by omega) x h)
      · right; rw [hg] at h; exact h
    · exact .inl (ih (by omega) x hx)
theorem filter_congr' {l : List Int} {p q : Int → Bool} (h : ∀ x ∈ l, p x = q x) : l.filter p = l.filter q := by
  induction l with
  | nil => rfl
  | cons a l ih =>
    rw [List.filter_cons, List.filter_cons, h a (by simp), ih (fun x hx => h x (by simp [hx]))]
theorem keepS_filter {all : List Int} (hr : Rise all) (l : List Fd) (i : Nat) (hi : i ≤ all.length) : (keepS all l i).1 = (all.take i).filter (fun d => decide (d ∈ (keepS all l i).1)) := by
  induction i with
  | zero => simp [keepS]
  | succ i ih =>
    have hlt : i < all.length := hi
    have hg : all.getD i 0 = all[i] := by simp [List.getD, hlt]
    have hn := hr.not_mem i hlt
    have hm := keepS_mem all l i (by omega)
    have h1 := ih (by omega)
    rw [List.take_succ_eq_append_getElem hlt, List.filter_append, keepS]
    simp only [hg]
    by_cases hh : hitL (keepS all l i).2 all[i] = true
    · rw [if_pos hh]
      have e1 : (all.take i).filter (fun d => decide (d ∈ (keepS all l i).1 ++ [all[i]])) = (all.take i).filter (fun d => decide (d ∈ (keepS all l i).1)) := filter_congr' (fun x hx => by
        have : x ≠ all[i] := fun e => hn (e ▸ hx)
        simp [this])
      rw [e1, ← h1]
      simp
    · rw [if_neg hh]
      have e2 : ([all[i]].filter (fun d => decide (d ∈ (keepS all l i).1))) = [] := by
        rw [List.filter_cons_of_neg (by simp; exact fun h => hn (hm _ h))]
        rfl
      rw [← h1, e2, List.append_nil]
theorem keep_filter {all : List Int} (hr : Rise all) (l : List Fd) : keepF all l = all.filter (keepQ all l) := by
  have := keepS_filter hr l all.length (Nat.le_refl _)
  rw [List.take_length] at this
  exact this
def bump (cs : List Int) (s : Nat) (b : Bool) : List Int := if b = true then cs.set s (cs.getD s 0 + 1) else cs
theorem bump_at (cs : List Int) (s t : Nat) (b : Bool) (hs : s < cs.length) : (bump cs s b).getD t 0 = cs.getD t 0 + (if t = s then (one b : Int) else 0) := by
  cases b
  · simp [bump, one]
  · by_cases h : t = s
    · subst h
      simp [bump, one, List.getD, hs]
    · have h2 : ¬ s = t := fun e => h e.symm
      simp [bump, List.getD, h, h2]
theorem bump_step (cs cs2 : List Int) (f : Nat → Bool) (s na : Nat) (hs : s < cs2.length) (h : ∀ t, t < na → cs2.getD t 0 = cs.getD t 0 + (if t < s then (one (f t) : Int) else 0)) (b : Bool) (hb : f s = b) :
    ∀ t, t < na → (bump cs2 s b).getD t 0 = cs.getD t 0 + (if t < s + 1 then (one (f t) : Int) else 0) := fun t ht => by
  rw [bump_at _ _ _ _ hs, h t ht]
  rcases (show t < s ∨ t = s ∨ s < t from by omega) with h1 | h1 | h1
  · have e1 : ¬ t = s := by omega
    have e2 : t < s + 1 := by omega
    simp only [h1, e1, e2, if_true, if_false]; omega
  · subst h1
    have e1 : ¬ t < t := by omega
    have e2 : t < t + 1 := by omega
    simp only [e1, e2, if_true, if_false, hb]; omega
  · have e1 : ¬ t = s := by omega
    have e2 : ¬ t < s + 1 := by omega
    have e3 : ¬ t < s := by omega
    simp only [e1, e2, e3, if_false]; omega
theorem bump_len (cs : List Int) (s : Nat) (b : Bool) : (bump cs s b).length = cs.length := by unfold bump; split <;> simp
/-- Which of the picked numbers comes next. -/
theorem mark_yes (all : List Int) (q : Int → Bool) (i : Nat) (hi : i < all.length) (h : q all[i] = true) : (all.filter q)[(all.take i).countP q]? = some all[i] := by
  have hs : all = all.take i ++ (all[i] :: all.drop (i + 1)) := by rw [← List.drop_eq_getElem_cons hi, List.take_append_drop]
  have hc : (all.take i).countP q = ((all.take i).filter q).length := List.countP_eq_length_filter
  rw [hc]
  conv => lhs; rw [hs, List.filter_append, List.filter_cons_of_pos h]
  rw [List.getElem?_append_right (by simp)]
  simp
theorem mark_no {all : List Int} (hr : Rise all) (q : Int → Bool) (i : Nat) (hi : i < all.length) (h : q all[i] = false) (x : Int) (hx : (all.filter q)[(all.take i).countP q]? = some x) : x ≠ all[i] := by
  have hs : all = all.take i ++ (all[i] :: all.drop (i + 1)) := by rw [← List.drop_eq_getElem_cons hi, List.take_append_drop]
  have hc : (all.take i).countP q = ((all.take i).filter q).length := List.countP_eq_length_filter
  rw [hc] at hx
  conv at hx => lhs; rw [hs, List.filter_append, List.filter_cons_of_neg (by rw [h]; simp)]
  rw [List.getElem?_append_right (by simp)] at hx
  have hm := List.mem_of_getElem? hx
  have hm2 := (List.mem_filter.1 hm).1
  obtain ⟨j, hj, e⟩ := List.getElem_of_mem hm2
  rw [List.length_drop] at hj
  rw [List.getElem_drop] at e
  have := hr i (i + 1 + j) (by omega) (by omega)
  omega
theorem mark_len (all : List Int) (q : Int → Bool) (i : Nat) : (all.take i).countP q ≤ i := by
  have h1 := List.countP_le_length (p := q) (l := all.take i)
  rw [List.length_take] at h1
  omega
theorem filter_s (all : List Int) (q : Int → Bool) (i : Nat) (hi : i < all.length) : (all.take (i + 1)).filter q = (all.take i).filter q ++ (if q all[i] = true then [all[i]] else []) := by
  rw [List.take_succ_eq_append_getElem hi, List.filter_append]
  by_cases h : q all[i] = true
  · rw [if_pos h, List.filter_cons_of_pos h]; rfl
  · rw [if_neg h, List.filter_cons_of_neg h]; rfl
theorem count_s' (all : List Int) (q : Int → Bool) (i : Nat) (hi : i < all.length) : (all.take (i + 1)).countP q = (all.take i).countP q + one (q all[i]) := by
  rw [List.take_succ_eq_append_getElem hi, List.countP_append, List.countP_singleton]
  rfl
end Go.Proofs.Ytgjdjggakkmbgaa
