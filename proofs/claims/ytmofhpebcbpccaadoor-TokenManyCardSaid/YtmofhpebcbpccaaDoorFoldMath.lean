/- The plain laws of fold. -/
import Derived.Test.YtmofhpebcbpccaaDoorFoldTable
import Derived.Test.YtmofhpebcbpccaaDoorFoldFold
namespace Go.Proofs.YtmofhpebcbpccaaDoor
open Go.RowKit

def smallOk (n : Nat) : Bool :=
  let r : Int := n
  let f := foldOf r
  foldOf f == f && classOf f == classOf r && (classOf r != 0 || f == r)
theorem small_all : (List.range 1700).all smallOk = true := by decide +kernel
theorem small_at (r : Int) (h : 0 ≤ r ∧ r < 1700) : foldOf (foldOf r) = foldOf r ∧ classOf (foldOf r) = classOf r ∧ (classOf r ≠ 0 ∨ foldOf r = r) := by
  obtain ⟨n, rfl⟩ : ∃ n : Nat, r = n := ⟨r.toNat, by omega⟩
  have := List.all_eq_true.mp small_all n (List.mem_range.mpr (by omega))
  simp only [smallOk, Bool.and_eq_true, Bool.or_eq_true, beq_iff_eq, bne_iff_ne] at this
  exact ⟨this.1.1, this.1.2, this.2⟩
theorem fold_out (r : Int) (h : r < 0 ∨ 1700 ≤ r) : foldOf r = r := by
  rcases h with h | h
  · rw [foldOf, foldF, if_neg (show ¬ (mEv 0 = 0) from by decide), if_pos (show r < mLo 0 from (show r < (65 : Int) by omega))]
  · have hs : ∀ k : Fin 22, mEv k ≠ 0 ∧ mHi k < 1700 := by decide
    have go : ∀ k, k ≤ 22 → foldF r 24 0 = foldF r (24 - k) k := by
      intro k hk
      induction k with
      | zero => rfl
      | succ k ih =>
        obtain ⟨f, hf⟩ : ∃ f, 24 - k = f + 1 := ⟨24 - k - 1, by omega⟩
        obtain ⟨h1, h2⟩ := hs ⟨k, by omega⟩
        simp only at h1 h2
        rw [ih (by omega), hf, foldF, if_neg h1, show 24 - (k + 1) = f from by omega]
        by_cases h3 : r < mLo k
        · have h4 : ∀ k : Fin 22, mLo k < 1700 := by decide
          have := h4 ⟨k, by omega⟩
          simp only at this
          omega
        · rw [if_neg h3, if_pos (by omega)]
    rw [foldOf, go 22 (by omega)]
    rfl
theorem fold_once (r : Int) : foldOf (foldOf r) = foldOf r ∧ classOf (foldOf r) = classOf r := by
  by_cases h : 0 ≤ r ∧ r < 1700
  · exact ⟨(small_at r h).1, (small_at r h).2.1⟩
  · have := fold_out r (by omega)
    rw [this]; exact ⟨this, rfl⟩
theorem fold_plain (r : Int) : classOf r ≠ 0 ∨ foldOf r = r := by
  by_cases h : 0 ≤ r ∧ r < 1700
  · exact (small_at r h).2.2
  · exact Or.inr (fold_out r (by omega))

/-- What folds to f, by the moves (the two odd ones apart). -/
def invL (f : Int) : List (Int × Int × Int × Int) → Int
  | [] => f
  | m :: l => if m.1 ≠ 383 ∧ m.1 ≠ 962 ∧ m.1 + m.2.2.2 ≤ f ∧ f ≤ m.2.1 + m.2.2.2 ∧ (m.2.2.1 = 1 ∨ (m.2.2.1 = 2 ∧ f % 2 = 1) ∨ (m.2.2.1 = 3 ∧ f % 2 = 0)) then f - m.2.2.2 else invL f l
def idx (r : Int) : Nat := if foldOf r = r then 0 else if r = 383 ∨ r = 962 then 2 else 1
def inv (f : Int) (i : Nat) : Int := if i = 0 then f else if i = 1 then invL f movL else if f = 115 then 383 else 962
theorem inv_all : (List.range 1700).all (fun n => inv (foldOf (n : Nat)) (idx (n : Nat)) == ((n : Nat) : Int)) = true := by decide +kernel
theorem inv_any (r : Int) : inv (foldOf r) (idx r) = r := by
  by_cases h : 0 ≤ r ∧ r < 1700
  · obtain ⟨n, rfl⟩ : ∃ n : Nat, r = n := ⟨r.toNat, by omega⟩
    have := List.all_eq_true.mp inv_all n (List.mem_range.mpr (by omega))
    exact beq_iff_eq.mp this
  · have := fold_out r (by omega)
    rw [idx, this, if_pos rfl, inv, if_pos rfl]
theorem idx_lt (r : Int) : idx r < 3 := by
  unfold idx
  split
  · omega
  · split <;> omega
theorem idx_same (a b : Int) (h : foldOf a = foldOf b) (hi : idx a = idx b) : a = b := by
  rw [← inv_any a, ← inv_any b, h, hi]
theorem fold_few (a b c d : Int) (hb : foldOf b = foldOf a) (hc : foldOf c = foldOf a) (hd : foldOf d = foldOf a) : a = b ∨ a = c ∨ a = d ∨ b = c ∨ b = d ∨ c = d := by
  have h1 := idx_lt a
  have h2 := idx_lt b
  have h3 := idx_lt c
  have h4 := idx_lt d
  rcases (show idx a = idx b ∨ idx a = idx c ∨ idx a = idx d ∨ idx b = idx c ∨ idx b = idx d ∨ idx c = idx d from by omega) with h | h | h | h | h | h
  · exact Or.inl (idx_same a b hb.symm h)
  · exact Or.inr (Or.inl (idx_same a c hc.symm h))
  · exact Or.inr (Or.inr (Or.inl (idx_same a d hd.symm h)))
  · exact Or.inr (Or.inr (Or.inr (Or.inl (idx_same b c (hb.trans hc.symm) h))))
  · exact Or.inr (Or.inr (Or.inr (Or.inr (Or.inl (idx_same b d (hb.trans hd.symm) h)))))
  · exact Or.inr (Or.inr (Or.inr (Or.inr (Or.inr (idx_same c d (hc.trans hd.symm) h)))))
end Go.Proofs.YtmofhpebcbpccaaDoor
