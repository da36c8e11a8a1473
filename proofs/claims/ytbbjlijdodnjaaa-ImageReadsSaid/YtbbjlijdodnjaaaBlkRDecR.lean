/- Lemmas for the walk of ref.Decode. -/
import Derived.Test.YtbbjlijdodnjaaaBlkDecR
namespace Go.Proofs.Ytbbjlijdodnjaaa
open Go.RowKit
/-- Blocks below h are as they were, and the rows lie there. -/
theorem OwnE.frame' {w w' : World} {B h : Nat} {v : Value} {l : List Ent} (he : OwnE w B v l) (hk : ∀ k, k < h → w'.heap[k]? = w.heap[k]?) (hv : ∀ k, v.ownBlock = some k → k < h) (hp : ∀ x ∈ l, ∀ k, (Value.slice x.1.A x.1.n x.1.c).ownBlock = some k → k < h) : OwnE w' B v l := by
  have go : ∀ {e : TypeId} {s n : Nat} {u : Value} {xs : List Value}, w.ownsRow B e s u n xs → (∀ k, u.ownBlock = some k → k < h) → w'.ownsRow B e s u n xs := by
    intro e s n u xs ho hu
    refine ⟨ho.1, ?_⟩
    rcases ho.2 with h0 | ⟨b, cap, cur, e1, hbB, hgg, h3⟩
    · exact .inl h0
    · refine .inr ⟨b, cap, cur, e1, hbB, ?_, h3⟩
      rw [hk b (hu b (by rw [e1]; rfl))]
      exact hgg
  exact ⟨go he.row hv, fun x hx => go (he.pos x hx) (hp x hx), he.ap⟩
end Go.Proofs.Ytbbjlijdodnjaaa
