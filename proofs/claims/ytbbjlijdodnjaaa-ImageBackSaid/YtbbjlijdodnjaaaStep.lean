/- A store of one cell into a block known as a row, as a step of a drawn region. Over any program. -/
import Derived.Test.YtbbjlijdodnjaaaApart
import Derived.Deep.RegionHeld3
namespace Go.Proofs.Ytbbjlijdodnjaaa
open Go.RowKit
theorem step_store_cellO {P : Program} {ops : Array Oper} {o : Oper} {a : Act} {w : World} {K : Act → World → Prop} {Q : Exit → Act → World → Prop} {E : Prop} (hgd : o.guard = none) (ty : TypeId) (x y : Operand) (ho : o.op = .store ty x y)
    (g j : Nat) (v : Value) (hx : a.eval x = .pointer (some ⟨g, j, none⟩)) (hy : a.eval y = v)
    (t : TypeId) (old : List Value) (hg : Row w g t old) (hj : j < old.length) (h1 : v.oneCell' = true) (hi : (P.info? ty).map (·.size) = some 1) (B : Nat) (w0 : World) (hb : Below B w0 w) (hBg : B ≤ g)
    (h : ∀ w', Row w' g t (old.set j v) → Below B w0 w' → w'.heap.size = w.heap.size → (∀ k, k ≠ g → w'.heap[k]? = w.heap[k]?) → K (a.put o.dst undef) w') :
    if Region.wanted o (yielded ops a.tmps) = true then Oper.wp P o a w K Q else E := by
  have hw : Region.wanted o (yielded ops a.tmps) = true := by simp [Region.wanted, hgd]
  rw [if_pos hw]
  have hst := run_storeCells_at P g j t [v] 0 old.toArray w hg (by simp; omega) (fun x hx => by simp at hx; subst hx; exact h1)
  have hc : v.cells = #[v] := by cases v <;> first | rfl | cases h1
  have hset : old.toArray.toList.take (j + 0) ++ [v] ++ old.toArray.toList.drop (j + 0 + [v].length) = old.set j v := by
    simp [List.set_eq_take_append_cons_drop, hj]
  rw [hset] at hst
  have hrun : (storeVar ty ⟨g, j, none⟩ v).run P w = .ok () (w.setRow g (old.set j v).toArray) := by
    cases hq : P.info? ty with
    | none => simp [hq] at hi
    | some i =>
      have hs : i.size = 1 := by simpa [hq] using hi
      simp [storeVar, sizeOf, typeInfo, hq, hc, hs, hst]
  unfold Oper.wp execOp
  simp only [ho, hx, hy, Instr.storeAt, Instr.sureAddr, Sem.run_bind, Sem.run_pure, Result.andThen_ok, hrun]
  exact h _ (setRow_heap w g _ _ t _ hg) (below_setRow hb hBg _) (by simp [World.setRow]) fun k hk => setRow_other w g k _ hk
theorem step_append_oneB {P : Program} {W : World} {ops : Array Oper} {o : Oper} {a : Act} {K : Act → World → Prop} {Q : Exit → Act → World → Prop} {E : Prop} (hgd : o.guard = none) (s x : Operand) (t : TypeId)
    (ho : o.op = .call { callee := .builtin .append, args := #[s, x], argTypes := #[t, t] })
    (base : Nat) (e : TypeId) (i : TypeInfo) (z : Value) (k bytes : Nat) (ht : P.underlying t = some (.slice e)) (hi : P.info? e = some i) (hz : i.zero = some z)
    (hsize : i.size = k) (hby : i.bytes = bytes) (hzs : z.cells.size = k) (h0 : 0 < k)
    (v : Value) (n : Nat) (xs us : List Value) (hus : us.length = k) (hown : W.ownsRow base e k v n xs)
    (hs : a.eval s = v) (hx : a.eval x = .slice (some ⟨W.heap.size, 0, none⟩) 1 1) (h1 : ∀ u ∈ us, u.oneCell' = true)
    (hnm : n ≤ 1099511627775) (hb8 : bytes ≤ 64) (hbase : base ≤ W.heap.size)
    (h : ∀ v' w', w'.ownsRow base e k v' (n + 1) (xs ++ us) → W.grownBy w' v.ownBlock → (v'.ownBlock = v.ownBlock ∨ v'.ownBlock = some (W.heap.size + 1)) → K (a.put o.dst v') w') :
    if Region.wanted o (yielded ops a.tmps) = true then Oper.wp P o a (W.alloc (.cells us.toArray e)) K Q else E :=
  step_append_allK hgd s x t ho base e i z k bytes ht hi hz hsize hby hzs h0 v n xs (hown.alloc _) _ _ 1 1 us (ReadsK.new W e us hus) hs hx h1 (by omega) hb8 (by simp; omega)
    fun v' w' h2 h3 h4 => h v' w' h2 (grown_of_alloc h3) (by simpa using h4)
end Go.Proofs.Ytbbjlijdodnjaaa
