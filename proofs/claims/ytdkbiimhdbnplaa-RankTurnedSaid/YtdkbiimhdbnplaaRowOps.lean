/- A whole struct stored into a block that is known as a row: the world behind it is a letter. Over any program. -/
import Derived.Laws.Tables
import Derived.Laws.Rows
import Derived.Laws.CopyOwn
import Derived.Test.YtdkbiimhdbnplaaKit
namespace Go.Proofs.Ytdkbiimhdbnplaa
open Go.RowKit
theorem wpList_store_rowO {P : Program} {ops : Array Oper} {rest : List Oper} {o : Oper} {a : Act} {w : World} {Q : Exit → Act → World → Prop} (hgd : o.guard = none) (ty : TypeId) (x y : Operand) (ho : o.op = .store ty x y)
    (g : Nat) (cells : List Value) (hx : a.eval x = .pointer (some ⟨g, 0, none⟩)) (hy : a.eval y = .agg cells.toArray)
    (t : TypeId) (old : List Value) (hg : Row w g t old) (hi : (P.info? ty).map (·.size) = some cells.length)
    (hold : old.length = cells.length) (h1 : cells.all (·.oneCell') = true) (B : Nat) (w0 : World) (hb : Below B w0 w) (hBg : B ≤ g)
    (h : ∀ w', Row w' g t cells → Below B w0 w' → w'.heap.size = w.heap.size → (∀ k, k ≠ g → w'.heap[k]? = w.heap[k]?) → wpList P ops Q rest (a.put o.dst undef) w') : wpList P ops Q (o :: rest) a w :=
  wpList_store_row hgd ty x y ho g cells.toArray hx hy t old.toArray hg (by simpa using hi) (by simpa using hold) (by simpa using h1)
    (h _ (setRow_heap w g _ _ t _ hg) (below_setRow hb hBg _) (by simp [World.setRow]) fun k hk => setRow_other w g k _ hk)
/-- What a row gives a load of a whole struct. -/
theorem Row.cells {w : World} {g : Nat} {e : TypeId} {xs : List Value} (h : Row w g e xs) : ∀ i : Nat, w.cell? ⟨g, i, none⟩ = xs[i]? := fun i => h.cell i
end Go.Proofs.Ytdkbiimhdbnplaa
