/- A map of the call's own from integers to bools, as a function. Over any program. -/
import Derived.Maps.OwnSet
import Derived.Test.YtdkbiimhdbnplaaKit
namespace Go.Proofs.Ytdkbiimhdbnplaa
open Go.RowKit Go.ChangeMaps Go.MapKept
open Go.Maps (Keyed IsMap)

/-- Block b is a map of at most n entries; what key x gives is f x. -/
def BMap (P : Program) (k e : TypeId) (qk : IntKind) (w : World) (b n : Nat) (f : Int → Bool) : Prop :=
  ∃ D : DataW Unit, w.ownsMap P k (plainElem P e) b n D ∧ ∀ x : Int, D.atKey (.int qk x) (.lit (.bool false)) = .lit (.bool (f x))
section
variable {P : Program} {k e t : TypeId} {qk : IntKind} {w w' : World} {b n : Nat} {f : Int → Bool}
theorem BMap.made (w : World) : BMap P k e qk (w.alloc (.map #[] 0)) w.heap.size 0 (fun _ => false) :=
  ⟨.map [], World.ownsMap_made w P k _, fun x => by simp [DataW.atKey]⟩
theorem BMap.below (h : BMap P k e qk w b n f) {B : Nat} (hb : Below B w w') (hB : b < B) : BMap P k e qk w' b n f := by
  obtain ⟨D, ⟨es, clock, e1, F, hs, hD⟩, h2⟩ := h
  exact ⟨D, ⟨es, clock, (hb.block b hB).trans e1, F, hs, hD⟩, h2⟩
theorem BMap.lt (h : BMap P k e qk w b n f) : b < w.heap.size := by
  obtain ⟨D, h1, _⟩ := h
  exact h1.lt
theorem BMap.alloc (h : BMap P k e qk w b n f) (o : Obj) : BMap P k e qk (w.alloc o) b n f := by
  obtain ⟨D, h1, h2⟩ := h
  exact ⟨D, h1.alloc o, h2⟩
theorem BMap.drew (h : BMap P k e qk w b n f) : BMap P k e qk w.drew b n f := h
theorem bool_of {v : Value} {x : Bool} {ps : List MemPlace} (he : P.underlying e = some .bool) (h : plainElem (H := Unit) P e v = some (.lit (.bool x), ps)) : v = .bool x := by
  unfold plainElem at h
  rw [he] at h
  cases v <;> simp at h
  rw [h.1]
theorem BMap.look (h : BMap P k e qk w b n f) (ht : P.underlying t = some (.map k e)) (hk : P.underlying k = some (.int qk)) (he : P.underlying e = some .bool) (hz : ∀ w : World, (zeroValue e).run P w = .ok (.bool false) w)
    (x : Int) (hx : (Lit.int qk x).wf = true) : (Instr.lookup t (.map (some b)) (.int qk x) false).run P w = .ok (.bool (f x)) w := by
  obtain ⟨D, h1, h2⟩ := h
  obtain ⟨v, ps, hrun, hv⟩ := h1.lookup (Maps.int_keyed hk) ht (hz w) (plainElem_bool he false) (Maps.keyOf_int_mk hk hx)
  rw [h2 x] at hv
  rw [bool_of he hv] at hrun
  exact hrun
theorem wpList_mapUpdate_bool {ops : Array Oper} {rest : List Oper} {o : Oper} {a : Act} {Q : Exit → Act → World → Prop}
    (hg : o.guard = none) (m x v : Operand) (t : TypeId) (hop : o.op = Op.mapUpdate t m x v) (k e : TypeId) (qk : IntKind) (ht : P.underlying t = some (.map k e)) (hk : P.underlying k = some (.int qk)) (he : P.underlying e = some .bool)
    (b n : Nat) (f : Int → Bool) (hm : a.eval m = .map (some b)) (h : BMap P k e qk w b n f) (hn : n < maxLen) (y : Int) (z : Bool) (hx : a.eval x = .int qk y) (hv : a.eval v = .bool z) (hy : (Lit.int qk y).wf = true)
    (hK : ∀ w', BMap P k e qk w' b (n + 1) (fun i => if i = y then z else f i) → w.grownBy w' (some b) → wpList P ops Q rest (a.put o.dst undef) w') : wpList P ops Q (o :: rest) a w := by
  obtain ⟨D, h1, h2⟩ := h
  refine wpList_mapUpdate_own w hg m x v t hop k e (Maps.int_keyed hk) ht _ b n D hm h1 hn _ _ _ hx hv (Maps.keyOf_int_mk hk hy) _ [] (plainElem_bool he z) fun w' r1 r2 => hK w' ⟨_, r1, fun i => ?_⟩ r2
  show _ = DataW.lit (.bool (if i = y then z else f i))
  by_cases hi : i = y
  · subst hi
    rw [if_pos rfl, Maps.atKey_put_same h1.isMap (show WideAt.IsKeyLit (.int qk i) from trivial)]
  · rw [if_neg hi, Maps.atKey_put_other (fun e => hi (by injection e)), h2 i]
end
end Go.Proofs.Ytdkbiimhdbnplaa
