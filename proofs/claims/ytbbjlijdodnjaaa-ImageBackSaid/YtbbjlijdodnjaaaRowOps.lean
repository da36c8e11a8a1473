/- A whole struct stored into a block that is known as a row: the world behind it is a letter. Over any program. -/
import Derived.Laws.Tables
import Derived.Laws.Rows
import Derived.Laws.CopyOwn
import Derived.Test.YtbbjlijdodnjaaaKit
namespace Go.Proofs.Ytbbjlijdodnjaaa
open Go.RowKit
theorem wpList_store_rowO {P : Program} {ops : Array Oper} {rest : List Oper} {o : Oper} {a : Act} {w : World} {Q : Exit → Act → World → Prop} (hgd : o.guard = none) (ty : TypeId) (x y : Operand) (ho : o.op = .store ty x y)
    (g : Nat) (cells : List Value) (hx : a.eval x = .pointer (some ⟨g, 0, none⟩)) (hy : a.eval y = .agg cells.toArray)
    (t : TypeId) (old : List Value) (hg : Row w g t old) (hi : (P.info? ty).map (·.size) = some cells.length)
    (hold : old.length = cells.length) (h1 : cells.all (·.oneCell') = true) (B : Nat) (w0 : World) (hb : Below B w0 w) (hBg : B ≤ g)
    (h : ∀ w', Row w' g t cells → Below B w0 w' → w'.heap.size = w.heap.size → (∀ k, k ≠ g → w'.heap[k]? = w.heap[k]?) → wpList P ops Q rest (a.put o.dst undef) w') : wpList P ops Q (o :: rest) a w :=
  wpList_store_row hgd ty x y ho g cells.toArray hx hy t old.toArray hg (by simpa using hi) (by simpa using hold) (by simpa using h1)
    (h _ (setRow_heap w g _ _ t _ hg) (below_setRow hb hBg _) (by simp [World.setRow]) fun k hk => setRow_other w g k _ hk)
/-- One cell stored into a block that is known as a row. -/
theorem wpList_store_cellO {P : Program} {ops : Array Oper} {rest : List Oper} {o : Oper} {a : Act} {w : World} {Q : Exit → Act → World → Prop} (hgd : o.guard = none) (ty : TypeId) (x y : Operand) (ho : o.op = .store ty x y)
    (g j : Nat) (v : Value) (hx : a.eval x = .pointer (some ⟨g, j, none⟩)) (hy : a.eval y = v)
    (t : TypeId) (old : List Value) (hg : Row w g t old) (hj : j < old.length) (h1 : v.oneCell' = true) (hi : (P.info? ty).map (·.size) = some 1) (B : Nat) (w0 : World) (hb : Below B w0 w) (hBg : B ≤ g)
    (h : ∀ w', Row w' g t (old.set j v) → Below B w0 w' → w'.heap.size = w.heap.size → (∀ k, k ≠ g → w'.heap[k]? = w.heap[k]?) → wpList P ops Q rest (a.put o.dst undef) w') : wpList P ops Q (o :: rest) a w := by
  refine wpList_plain hgd fun _ hK => ?_
  have hst := run_storeCells_at P g j t [v] 0 old.toArray w hg (by simp; omega) (fun x hx => by simp at hx; subst hx; exact h1)
  have hc : v.cells = #[v] := by cases v <;> first | rfl | cases h1
  have hset : old.toArray.toList.take (j + 0) ++ [v] ++ old.toArray.toList.drop (j + 0 + [v].length) = old.set j v := by
    simp [List.set_eq_take_append_cons_drop, hj]
  rw [hset] at hst
  have hrun : (storeVar ty ⟨g, j, none⟩ v).run P w = .ok () (w.setRow g (old.set j v).toArray) := by
    cases hq : P.info? ty with
    | none => simp [hq] at hi
    | some i =>
      have hs : i.size = 1 := by simpa [hq] using hi
      simp [storeVar, sizeOf, typeInfo, hq, hc, hs, hst]
  unfold Oper.wp execOp
  simp only [ho, hx, hy, Instr.storeAt, Instr.sureAddr, Sem.run_bind, Sem.run_pure, Result.andThen_ok, hrun]
  exact hK _ _ (h _ (setRow_heap w g _ _ t _ hg) (below_setRow hb hBg _) (by simp [World.setRow]) fun k hk => setRow_other w g k _ hk)
/-- What a row gives a load of a whole struct. -/
theorem Row.cells {w : World} {g : Nat} {e : TypeId} {xs : List Value} (h : Row w g e xs) : ∀ i : Nat, w.cell? ⟨g, i, none⟩ = xs[i]? := fun i => h.cell i
end Go.Proofs.Ytbbjlijdodnjaaa
