/- What a listed package-level variable of arrays, structs and numbers holds, cell by cell: its data laid flat. Over any program. -/
import Derived.LaidLaws
import Derived.ChangeArms
import Derived.OpenShut
import Derived.Stop.LaidErr
import Derived.Test.YtmofhpebcbpccaaDoorKit
namespace Go.Proofs.YtmofhpebcbpccaaDoor
open Go.RowKit

/-- Data of numbers, structs and arrays, as cells. -/
def flatF {H : Type} : Nat → DataW H → List Value
  | 0, _ => []
  | f + 1, d => match d with
    | .lit (.int k n) => [.int k n]
    | .agg ds => ds.flatMap (flatF f)
    | _ => []
def fieldsFit (P : Program) : List Field → Nat → Nat → Bool
  | [], o, tot => o == tot
  | fl :: r, o, tot => fl.offset == o && fieldsFit P r (o + P.cellsOf fl.type) tot
/-- A type of numbers, structs and arrays of such. -/
def intsT (P : Program) : Nat → TypeId → Bool
  | 0, _ => false
  | f + 1, t => match P.underlying t with
    | some (.int _) => true
    | some (.array n e) => intsT P f e && P.cellsOf t == n * P.cellsOf e
    | some (.struct fs) => (fs.toList.all fun fl => intsT P f fl.type) && fieldsFit P fs.toList 0 (P.cellsOf t)
    | _ => false

theorem chunks {α β : Type} (c : Nat) (g : β → List α) : ∀ (xs : List β) (cs : List α), cs.length = xs.length * c → (∀ (i : Nat) (h : i < xs.length), (cs.drop (i * c)).take c = g xs[i]) → cs = xs.flatMap g := by
  intro xs
  induction xs with
  | nil => intro cs h _; exact List.eq_nil_of_length_eq_zero (by simpa using h)
  | cons y r ih =>
    intro cs hl h
    have h0 := h 0 (by simp)
    simp only [Nat.zero_mul, List.drop_zero, List.getElem_cons_zero] at h0
    have hr := ih (cs.drop c) (by rw [List.length_drop, hl, List.length_cons, Nat.add_mul]; omega) (fun i hi => by
      have := h (i + 1) (by simp; omega)
      rw [List.getElem_cons_succ, Nat.add_mul, Nat.one_mul] at this
      rw [List.drop_drop, Nat.add_comm c]
      exact this)
    rw [List.flatMap_cons, ← h0, ← hr, List.take_append_drop]
theorem fieldChunks {P : Program} {β : Type} (g : β → List Value) : ∀ (fs : List Field) (xs : List β) (cs : List Value) (o : Nat), xs.length = fs.length → fieldsFit P fs o cs.length = true →
    (∀ (i : Nat) (fl : Field) (y : β), fs[i]? = some fl → xs[i]? = some y → (cs.drop fl.offset).take (P.cellsOf fl.type) = g y) → cs.drop o = xs.flatMap g := by
  intro fs
  induction fs with
  | nil =>
    intro xs cs o hl hf _
    have : xs = [] := List.eq_nil_of_length_eq_zero hl
    subst this
    simp only [fieldsFit, beq_iff_eq] at hf
    rw [hf, List.drop_length]
    rfl
  | cons fl r ih =>
    intro xs cs o hl hf h
    cases xs with
    | nil => simp at hl
    | cons y ys =>
      simp only [fieldsFit, Bool.and_eq_true, beq_iff_eq] at hf
      have h0 := h 0 fl y rfl rfl
      rw [hf.1] at h0
      have hr := ih ys cs (o + P.cellsOf fl.type) (by simpa using hl) hf.2 (fun i fl' y' a b => h (i + 1) fl' y' (by simpa using a) (by simpa using b))
      rw [List.flatMap_cons, ← h0, ← hr, ← List.drop_drop, List.take_append_drop]
section
variable {H : Type} {enc : TypeId × Value → H} {P : Program} {w : World} {base : Nat} {spare : Nat → Bool} {held : Bool}
theorem flat_of : ∀ (f : Nat) (t : TypeId), intsT P f t = true → ∀ {fuel : Nat} {cs : List Value} {x : DataW H × List MemPlace}, DataW.trod enc P w base spare held fuel t cs = some x → cs = flatF f x.1 := by
  intro f
  induction f with
  | zero => intro t h; simp [intsT] at h
  | succ f ih =>
    intro t ht fuel cs x h
    unfold intsT at ht
    split at ht
    · rename_i k hu
      obtain ⟨n, rfl, rfl, _⟩ := DataW.trod_int hu h
      rfl
    · rename_i n e hu
      simp only [Bool.and_eq_true, beq_iff_eq] at ht
      obtain ⟨xs, m, _, rfl, hlen, hxl, hi⟩ := DataW.trod_array hu h
      have hc := chunks (P.cellsOf e) (fun y : DataW H × List MemPlace => flatF f y.1) xs cs (by rw [hlen, ht.2, hxl]) (fun i hi' => by
        have := hi i (by omega)
        rw [List.getElem?_eq_getElem hi'] at this
        exact ih e ht.1 this)
      rw [hc]
      simp [flatF, List.flatMap_map]
    · rename_i fs hu
      simp only [Bool.and_eq_true, List.all_eq_true] at ht
      obtain ⟨xs, m, _, rfl, hlen, hxl, hi⟩ := DataW.trod_struct hu h
      have hc := fieldChunks (P := P) (fun y : DataW H × List MemPlace => flatF f y.1) fs.toList xs cs 0 (by simpa using hxl) (by rw [hlen]; exact ht.2) (fun i fl y a b => by
        have h1 := hi i fl (by simpa using a)
        rw [b] at h1
        exact ih fl.type (ht.1 fl (List.mem_of_getElem? a)) h1)
      rw [List.drop_zero] at hc
      rw [hc]
      simp [flatF, List.flatMap_map]
    · cases ht
end
/-- The first variable of a list holds its data, laid flat. -/
theorem laid_head {P : Program} {W : World} {name : String} {d : DataW Unit} {rest : List (String × DataW Unit)} {g t : Nat} (f : Nat) (hg : P.globalNamed name = some g) (hty : (P.globals[g]?).map (·.type) = some t) (ht : intsT P f t = true)
    (h : laidMet P ((name, d) :: rest) W) : W.var? P name = some (flatF f d).toArray := by
  obtain ⟨ps, ⟨g', t', cs, fuel, p, q, hg', ht', hvar, hd, _, _⟩, _⟩ := h
  obtain rfl := Option.some.inj (hg.symm.trans hg')
  obtain rfl := Option.some.inj (hty.symm.trans ht')
  rw [hvar, ← flat_of f t ht hd]
theorem var_heap {P : Program} {W : World} {name : String} {g : Nat} {cs : Array Value} (hg : P.globalNamed name = some g) (h : W.var? P name = some cs) : ∃ t fr, W.heap[g]? = some (.cells cs t fr) := by
  unfold World.var? at h
  rw [hg] at h
  simp only [Option.bind_some] at h
  cases hh : W.heap[g]? with
  | none => rw [hh] at h; simp at h
  | some o =>
    rw [hh] at h
    cases o with
    | cells cs' t fr => simp at h; subst h; exact ⟨t, fr, rfl⟩
    | _ => simp at h
end Go.Proofs.YtmofhpebcbpccaaDoor
