/- A map of the call's own from integers to integers or bools, as a function. Over any program. -/
import Derived.Maps.OwnSet
import Derived.Test.YtkoljljflpkgnaaDoorKit
namespace Go.Proofs.YtkoljljflpkgnaaDoor
open Go.RowKit Go.ChangeMaps Go.MapKept
open Go.Maps (Keyed IsMap)

/-- Block b is a map of at most n entries; what key x gives is f x. -/
def IMap (P : Program) (k e : TypeId) (qk qe : IntKind) (w : World) (b n : Nat) (f : Int → Int) : Prop :=
  ∃ D : DataW Unit, w.ownsMap P k (plainElem P e) b n D ∧ ∀ x : Int, D.atKey (.int qk x) (.lit (.int qe 0)) = .lit (.int qe (f x))
section
variable {P : Program} {k e t : TypeId} {qk qe : IntKind} {w w' : World} {b n : Nat} {f : Int → Int}
theorem IMap.made (w : World) : IMap P k e qk qe (w.alloc (.map #[] 0)) w.heap.size 0 (fun _ => 0) :=
  ⟨.map [], World.ownsMap_made w P k _, fun x => by simp [DataW.atKey]⟩
theorem IMap.grown {row : Option Nat} (h : IMap P k e qk qe w b n f) (hg : w.grownBy w' row) (hne : some b ≠ row) : IMap P k e qk qe w' b n f := by
  obtain ⟨D, h1, h2⟩ := h
  exact ⟨D, h1.kept hg hne, h2⟩
theorem IMap.below (h : IMap P k e qk qe w b n f) {B : Nat} (hb : Below B w w') (hB : b < B) : IMap P k e qk qe w' b n f := by
  obtain ⟨D, ⟨es, clock, e1, F, hs, hD⟩, h2⟩ := h
  exact ⟨D, ⟨es, clock, (hb.block b hB).trans e1, F, hs, hD⟩, h2⟩
theorem IMap.lt (h : IMap P k e qk qe w b n f) : b < w.heap.size := by
  obtain ⟨D, h1, _⟩ := h
  exact h1.lt
theorem IMap.alloc (h : IMap P k e qk qe w b n f) (o : Obj) : IMap P k e qk qe (w.alloc o) b n f := h.grown (World.grownBy_alloc w o none) (by simp)
theorem IMap.keep (h : IMap P k e qk qe w b n f) {q : Nat} (hk : ∀ i, i ≠ q → w'.heap[i]? = w.heap[i]?) (hne : b ≠ q) : IMap P k e qk qe w' b n f := by
  obtain ⟨D, ⟨es, clock, e1, F, hs, hD⟩, h2⟩ := h
  exact ⟨D, ⟨es, clock, (hk b hne).trans e1, F, hs, hD⟩, h2⟩
theorem IMap.mono (h : IMap P k e qk qe w b n f) {n' : Nat} (hn : n ≤ n') : IMap P k e qk qe w b n' f := by
  obtain ⟨D, h1, h2⟩ := h
  exact ⟨D, h1.mono hn, h2⟩
theorem IMap.drew (h : IMap P k e qk qe w b n f) : IMap P k e qk qe w.drew b n f := h
theorem IMap.drewN (h : IMap P k e qk qe w b n f) (q : Nat) : IMap P k e qk qe (w.drewN q) b n f := h
theorem IMap.look (h : IMap P k e qk qe w b n f) (ht : P.underlying t = some (.map k e)) (hk : P.underlying k = some (.int qk)) (he : P.underlying e = some (.int qe)) (hz : ∀ w : World, (zeroValue e).run P w = .ok (.int qe 0) w)
    (x : Int) (hx : (Lit.int qk x).wf = true) : (Instr.lookup t (.map (some b)) (.int qk x) false).run P w = .ok (.int qe (f x)) w := by
  obtain ⟨D, h1, h2⟩ := h
  obtain ⟨c, hrun, hat, _⟩ := h1.lookup_int (Maps.int_keyed hk) ht he (hz w) (Maps.keyOf_int_mk hk hx)
  rw [h2 x] at hat
  injection hat with hat
  injection hat with _ hat
  rw [hat]
  exact hrun
theorem wpList_mapUpdate_int {ops : Array Oper} {rest : List Oper} {o : Oper} {a : Act} {Q : Exit → Act → World → Prop}
    (hg : o.guard = none) (m x v : Operand) (t : TypeId) (hop : o.op = Op.mapUpdate t m x v) (k e : TypeId) (qk qe : IntKind) (ht : P.underlying t = some (.map k e)) (hk : P.underlying k = some (.int qk)) (he : P.underlying e = some (.int qe))
    (b n : Nat) (f : Int → Int) (hm : a.eval m = .map (some b)) (h : IMap P k e qk qe w b n f) (hn : n < maxLen) (y z : Int) (hx : a.eval x = .int qk y) (hv : a.eval v = .int qe z) (hy : (Lit.int qk y).wf = true) (hz : (Lit.int qe z).wf = true)
    (hK : ∀ w', IMap P k e qk qe w' b (n + 1) (fun i => if i = y then z else f i) → w.grownBy w' (some b) → wpList P ops Q rest (a.put o.dst undef) w') : wpList P ops Q (o :: rest) a w := by
  obtain ⟨D, h1, h2⟩ := h
  refine wpList_mapUpdate_own w hg m x v t hop k e (Maps.int_keyed hk) ht _ b n D hm h1 hn _ _ _ hx hv (Maps.keyOf_int_mk hk hy) _ [] (plainElem_int he hz) fun w' r1 r2 => hK w' ⟨_, r1, fun i => ?_⟩ r2
  show _ = DataW.lit (.int qe (if i = y then z else f i))
  by_cases hi : i = y
  · subst hi
    rw [if_pos rfl, Maps.atKey_put_same h1.isMap (show WideAt.IsKeyLit (.int qk i) from trivial)]
  · rw [if_neg hi, Maps.atKey_put_other (fun e => hi (by injection e)), h2 i]
end
end Go.Proofs.YtkoljljflpkgnaaDoor
