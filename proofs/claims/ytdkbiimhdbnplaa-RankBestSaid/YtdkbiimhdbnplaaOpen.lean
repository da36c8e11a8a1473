/- A struct's or an array's cells, each with the reading of its own type. Over any program. -/
import Derived.ChangeArms
import Derived.OpenShut
import Derived.Laws.Cover2
import Derived.Test.YtdkbiimhdbnplaaKit
import Derived.Test.YtdkbiimhdbnplaaFrame
namespace Go.Proofs.Ytdkbiimhdbnplaa
open Go.RowKit Go.WideShapes

def Fit (R : Value → TypeId → Prop) : List Value → List TypeId → Prop
  | [], [] => True
  | v :: vs, t :: ts => R v t ∧ Fit R vs ts
  | _, _ => False
theorem Fit.append {R : Value → TypeId → Prop} {b : List Value} {d : List TypeId} (h' : Fit R b d) : ∀ {a : List Value} {c : List TypeId}, Fit R a c → Fit R (a ++ b) (c ++ d)
  | [], [], _ => h'
  | _ :: _, _ :: _, h => ⟨h.1, Fit.append h' h.2⟩
  | [], _ :: _, h => h.elim
  | _ :: _, [], h => h.elim
/-- The types of a type's cells. -/
def leafT (P : Program) : Nat → TypeId → List TypeId
  | 0, _ => []
  | f + 1, t => match P.underlying t with
    | some (.array n e) => (List.replicate n (leafT P f e)).flatten
    | some (.struct fs) => fs.toList.flatMap fun fl => leafT P f fl.type
    | _ => [t]
def leafOk (P : Program) : Nat → TypeId → Bool
  | 0, _ => false
  | f + 1, t => match P.underlying t with
    | some (.array n e) => leafOk P f e && P.cellsOf t == n * P.cellsOf e
    | some (.struct fs) => (fs.toList.all fun fl => leafOk P f fl.type) && fieldsGo P fs.toList 0 (P.cellsOf t)
    | _ => P.cellsOf t == 1
where
  fieldsGo (P : Program) : List Field → Nat → Nat → Bool
    | [], o, tot => o == tot
    | fl :: r, o, tot => fl.offset == o && fieldsGo P r (o + P.cellsOf fl.type) tot
theorem fit_chunks {R : Value → TypeId → Prop} (c : Nat) (ts : List TypeId) : ∀ (n : Nat) (cs : List Value), cs.length = n * c → (∀ i, i < n → Fit R ((cs.drop (i * c)).take c) ts) → Fit R cs (List.replicate n ts).flatten := by
  intro n
  induction n with
  | zero => intro cs h _; obtain rfl : cs = [] := List.eq_nil_of_length_eq_zero (by simpa using h); exact trivial
  | succ n ih =>
    intro cs hl h
    have h0 := h 0 (by omega)
    simp only [Nat.zero_mul, List.drop_zero] at h0
    have hr := ih (cs.drop c) (by rw [List.length_drop, hl, Nat.add_mul]; omega) (fun i hi => by
      have := h (i + 1) (by omega)
      rw [Nat.add_mul, Nat.one_mul] at this
      rw [List.drop_drop, Nat.add_comm c]
      exact this)
    rw [List.replicate_succ, List.flatten_cons, ← List.take_append_drop c cs]
    exact Fit.append hr h0
theorem fit_fields {P : Program} {R : Value → TypeId → Prop} (g : TypeId → List TypeId) : ∀ (fs : List Field) (cs : List Value) (o : Nat), leafOk.fieldsGo P fs o cs.length = true →
    (∀ fl ∈ fs, Fit R ((cs.drop fl.offset).take (P.cellsOf fl.type)) (g fl.type)) → Fit R (cs.drop o) (fs.flatMap fun fl => g fl.type) := by
  intro fs
  induction fs with
  | nil =>
    intro cs o hf _
    simp only [leafOk.fieldsGo, beq_iff_eq] at hf
    rw [hf, List.drop_length]
    exact trivial
  | cons fl r ih =>
    intro cs o hf h
    simp only [leafOk.fieldsGo, Bool.and_eq_true, beq_iff_eq] at hf
    have h0 := h fl (by simp)
    rw [hf.1] at h0
    have hr := ih cs (o + P.cellsOf fl.type) hf.2 (fun fl' h' => h fl' (by simp [h']))
    rw [List.flatMap_cons, ← List.take_append_drop (P.cellsOf fl.type) (cs.drop o), List.drop_drop]
    exact Fit.append hr h0
section
variable {H : Type} {enc : TypeId × Value → H} {P : Program} {w : World} {base : Nat} {spare : Nat → Bool} {held : Bool}
/-- A cell reads as data of its type. -/
def CellR (enc : TypeId × Value → H) (P : Program) (w : World) (base : Nat) (spare : Nat → Bool) (held : Bool) (v : Value) (t : TypeId) : Prop := ∃ (m : Nat) (y : DataW H × List MemPlace), DataW.trod enc P w base spare held m t [v] = some y
theorem fit_of : ∀ (f : Nat) (t : TypeId), leafOk P f t = true → ∀ {fuel : Nat} {cs : List Value} {x : DataW H × List MemPlace}, cs.length = P.cellsOf t → DataW.trod enc P w base spare held fuel t cs = some x → Fit (CellR enc P w base spare held) cs (leafT P f t) := by
  intro f
  induction f with
  | zero => intro t h; simp [leafOk] at h
  | succ f ih =>
    intro t ht fuel cs x hl h
    unfold leafOk at ht
    split at ht
    · rename_i n e hu
      simp only [Bool.and_eq_true, beq_iff_eq] at ht
      rw [show leafT P (f + 1) t = (List.replicate n (leafT P f e)).flatten from by simp [leafT, hu]]
      obtain ⟨xs, m, _, rfl, hlen, hxl, hi⟩ := DataW.trod_array hu h
      refine fit_chunks (P.cellsOf e) _ n cs (by rw [hlen, ht.2]) fun i hi' => ?_
      have := hi i hi'
      rw [List.getElem?_eq_getElem (by omega)] at this
      refine ih e ht.1 ?_ this
      rw [List.length_take, List.length_drop, hlen, ht.2]
      have : (i + 1) * P.cellsOf e ≤ n * P.cellsOf e := Nat.mul_le_mul_right _ (by omega)
      rw [Nat.add_mul] at this
      omega
    · rename_i fs hu
      simp only [Bool.and_eq_true, List.all_eq_true] at ht
      rw [show leafT P (f + 1) t = fs.toList.flatMap fun fl => leafT P f fl.type from by simp [leafT, hu]]
      obtain ⟨xs, m, _, rfl, hlen, hxl, hi⟩ := DataW.trod_struct hu h
      have := fit_fields (P := P) (R := CellR enc P w base spare held) (leafT P f) fs.toList cs 0 (by rw [hlen]; exact ht.2) (fun fl hfl => by
        obtain ⟨i, hil, rfl⟩ := List.getElem_of_mem hfl
        have hil' : i < fs.size := by simpa using hil
        have h1 := hi i fs[i] (by simp [hil'])
        rw [List.getElem?_eq_getElem (by omega)] at h1
        refine ih _ (ht.1 _ (by simp)) ?_ (by simpa using h1)
        rw [List.length_take, List.length_drop, hlen]
        have hb := offs_le fs.toList 0 (P.cellsOf t) ht.2 i hil
        simp only [Array.getElem_toList] at hb ⊢
        omega)
      rw [List.drop_zero] at this
      exact this
    · rename_i h1 h2
      simp only [beq_iff_eq] at ht
      have : ∃ v, cs = [v] := by
        match cs, hl with
        | [v], _ => exact ⟨v, rfl⟩
        | [], hl => simp [ht] at hl
        | a :: b :: c, hl => simp [ht] at hl
      obtain ⟨v, rfl⟩ := this
      have e1 : leafT P (f + 1) t = [t] := by
        unfold leafT
        split
        · rename_i n e hu; exact absurd hu (h1 n e)
        · rename_i fs hu; exact absurd hu (h2 fs)
        · rfl
      rw [e1]
      exact ⟨⟨_, _, h⟩, trivial⟩
where
  offs_le : ∀ (fs : List Field) (o tot : Nat), leafOk.fieldsGo P fs o tot = true → ∀ (i : Nat) (h : i < fs.length), fs[i].offset + P.cellsOf fs[i].type ≤ tot := by
    intro fs
    induction fs with
    | nil => intro o tot _ i h; simp at h
    | cons fl r ih =>
      intro o tot hf i h
      simp only [leafOk.fieldsGo, Bool.and_eq_true, beq_iff_eq] at hf
      cases i with
      | zero =>
        simp only [List.getElem_cons_zero]
        have := tot_ge r _ _ hf.2
        omega
      | succ i =>
        simp only [List.getElem_cons_succ]
        exact ih _ _ hf.2 i (by simpa using h)
  tot_ge : ∀ (fs : List Field) (o tot : Nat), leafOk.fieldsGo P fs o tot = true → o ≤ tot := by
    intro fs
    induction fs with
    | nil => intro o tot hf; simp only [leafOk.fieldsGo, beq_iff_eq] at hf; omega
    | cons fl r ih =>
      intro o tot hf
      simp only [leafOk.fieldsGo, Bool.and_eq_true, beq_iff_eq] at hf
      have := ih _ _ hf.2
      omega
theorem CellR.int {v : Value} {t : TypeId} {k : IntKind} (ht : P.underlying t = some (.int k)) (h : CellR enc P w base spare held v t) : ∃ n, v = .int k n ∧ (Lit.int k n).wf = true := by
  obtain ⟨m, y, h⟩ := h
  obtain ⟨n, h1, _, h2⟩ := DataW.trod_int ht h
  exact ⟨n, by simpa using h1, h2⟩
theorem CellR.bool {v : Value} {t : TypeId} (ht : P.underlying t = some .bool) (h : CellR enc P w base spare held v t) : ∃ b, v = .bool b := by
  obtain ⟨m, y, h⟩ := h
  obtain ⟨n, h1, _⟩ := DataW.trod_bool ht h
  exact ⟨n, by simpa using h1⟩
theorem CellR.float {v : Value} {t : TypeId} {k : FloatKind} (ht : P.underlying t = some (.float k)) (h : CellR enc P w base spare held v t) : ∃ b, v = .float k b ∧ (Lit.float k b).wf = true := by
  obtain ⟨m, y, h⟩ := h
  cases m with
  | zero => simp [DataW.trod] at h
  | succ m =>
    unfold DataW.trod at h
    rw [ht] at h
    split at h <;> simp_all
theorem okWide_array {n : Nat} {e t : TypeId} {r : Reach} {v : Value} (ht : P.underlying t = some (.array n e)) (h : Value.okWide P w r base t v) : ∃ cs, v = .agg cs ∧ cs.size = P.cellsOf t := by
  simp only [Value.okWide, ht] at h
  obtain ⟨cs, h1, h2, _⟩ := h
  exact ⟨cs, h1, h2⟩
theorem open_struct_cells {fs : Array Field} {t : TypeId} {r : Reach} {b0 : Nat} {v : Value} {d : DataW H} {p : List MemPlace} (f : Nat) (ht : P.underlying t = some (.struct fs)) (hk : leafOk P f t = true)
    (hval : Value.okWide P w r b0 t v) (h : DataW.Trod enc P w base spare held t v d p) : ∃ cs, v = .agg cs ∧ Fit (CellR enc P w base spare held) cs.toList (leafT P f t) := by
  obtain ⟨cs, rfl, hs⟩ := okWide_struct ht hval
  obtain ⟨fuel, hf⟩ := h
  exact ⟨cs, rfl, fit_of f t hk (by simpa using hs) hf⟩
theorem open_array_cells {n : Nat} {e t : TypeId} {r : Reach} {b0 : Nat} {v : Value} {d : DataW H} {p : List MemPlace} (f : Nat) (ht : P.underlying t = some (.array n e)) (hk : leafOk P f t = true)
    (hval : Value.okWide P w r b0 t v) (h : DataW.Trod enc P w base spare held t v d p) : ∃ cs, v = .agg cs ∧ Fit (CellR enc P w base spare held) cs.toList (leafT P f t) := by
  obtain ⟨cs, rfl, hs⟩ := okWide_array ht hval
  obtain ⟨fuel, hf⟩ := h
  exact ⟨cs, rfl, fit_of f t hk (by simpa using hs) hf⟩
end
end Go.Proofs.Ytdkbiimhdbnplaa
