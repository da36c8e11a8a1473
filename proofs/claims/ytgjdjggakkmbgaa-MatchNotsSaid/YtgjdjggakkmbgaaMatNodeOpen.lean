/- Nodes as they come in. -/
import Derived.Test.YtgjdjggakkmbgaaMatOpen
import Derived.Test.YtgjdjggakkmbgaaMatGreat
import Derived.Test.YtgjdjggakkmbgaaOpenD
namespace Go.Proofs.Ytgjdjggakkmbgaa
open Go.RowKit Go.ChangeShapes Go.WideShapes Go.Deep

section
variable {H : Type} {enc : TypeId × Value → H} {P : Program} {w : World} {base : Nat} {spare : Nat → Bool} {held : Bool}
/-- A slice of records, its elements' data known to lie in its own. -/
theorem open_recsS {α : Type} {f : α → List Value} {k : Nat} (hk : ∀ x, (f x).length = k) (h0 : 0 < k) {t e : TypeId} (Q : α → Prop) {fuel : Nat} {cs : List Value} {x : DataW H × List MemPlace} (ht : P.underlying t = some (.slice e)) (hC : P.cellsOf e = k)
    (hel : ∀ (cs' : List Value) (n : Nat) (y : DataW H × List MemPlace), (∃ ds sp, x.1 = .slice ds sp ∧ y.1 ∈ ds) → DataW.trod enc P w base spare held n e cs' = some y → ∃ x, cs' = f x ∧ Q x)
    (h : DataW.trod enc P w base spare held fuel t cs = some x) :
    ∃ A n c, ∃ l : List α, cs = [.slice A n c] ∧ ReadsK k w w.heap.size A n c (l.flatMap f) ∧ c ≤ maxLen ∧ (∀ x ∈ l, Q x) := by
  rcases open_slice ht h with ⟨rfl, _⟩ | ⟨a, len, cap, m, n, D, Pl, rfl, hb, hl, hm, hmm, hx1, hi⟩
  · exact ⟨none, 0, 0, [], rfl, ⟨by simp, Nat.le_refl _, fun h => absurd h (by omega)⟩, by simp [maxLen], by simp⟩
  · have hlm : len ≤ m := by rw [hmm]; split <;> omega
    obtain ⟨l, hll, hlx⟩ := exists_list (R := fun i x => w.cells? base (a.add (i * k)) k = some (f x) ∧ Q x) len fun i hlt => by
      obtain ⟨cs', hc, htr⟩ := hi i (by omega)
      obtain ⟨x, rfl, hq⟩ := hel cs' n _ ⟨_, _, by rw [hx1], List.mem_map.2 ⟨i, List.mem_range.2 hlt, rfl⟩⟩ htr
      rw [hC] at hc
      exact ⟨x, hc, hq⟩
    refine ⟨some a, len, cap, l, rfl, ⟨by rw [rec_len hk, hll], hl, fun hn => ⟨a, rfl, ?_, fun j u hu => ?_⟩⟩, hm, fun x hx => ?_⟩
    · have hx := hlx 0 _ (List.getElem?_eq_getElem (by omega))
      obtain ⟨_, hcl, hat⟩ := World.cells?_some hx.1
      have := hat 0 h0
      rw [List.getElem?_eq_getElem (by rw [hk]; exact h0)] at this
      have := cell_lt this
      simpa [add_block] using this
    · have hjl : j < l.length * k := by
        have := (List.getElem?_eq_some_iff.1 hu).1
        rwa [rec_len hk] at this
      have hjd : j / k < l.length := Nat.div_lt_of_lt_mul (by rw [Nat.mul_comm]; exact hjl)
      have hjm : j % k < k := Nat.mod_lt _ h0
      have ej : j / k * k + j % k = j := by rw [Nat.mul_comm]; exact Nat.div_add_mod j k
      have hx := hlx (j / k) _ (List.getElem?_eq_getElem hjd)
      obtain ⟨_, hcl, hat⟩ := World.cells?_some hx.1
      have h1 := hat (j % k) hjm
      rw [Go.Proofs.Ytgjdjggakkmbgaa.add_add, ej] at h1
      rw [h1, ← hu, ← rec_get hk l (j / k) (j % k) hjm hjd, ej]
    · obtain ⟨i, hi2, rfl⟩ := List.getElem_of_mem hx
      exact (hlx i _ (List.getElem?_eq_getElem hi2)).2
end
section
variable {H : Type} {enc : TypeId × Value → H} {w : World} {base : Nat} {spare : Nat → Bool} {held : Bool} {r : Reach} {b0 : Nat} {v : Value} {d : DataW H} {p : List MemPlace}
theorem cells_node : ∀ (m : Nat) (fuel : Nat) (cs : List Value) (x : DataW H × List MemPlace), SizeOf.sizeOf x.1 < m → DataW.trod enc Try.prog w base spare held fuel 31 cs = some x → ∃ nd : NodeM, cs = ndC nd ∧ ReadsNd w w.heap.size nd ∧ TermsOk nd := by
  intro m
  induction m with
  | zero => intro _ _ _ h; omega
  | succ m ih =>
    intro fuel cs x hm hx
    obtain ⟨hl, parts, hpa, hf⟩ := open_cellsD Try.underlying31 (by kernel_rfl) (by kernel_rfl) hx
    obtain ⟨v0, m0, y0, e0, t0, _⟩ := hf 0 _ rfl
    obtain ⟨v1, m1, y1, e1, t1, _⟩ := hf 1 _ rfl
    obtain ⟨v2, m2, y2, e2, t2, _⟩ := hf 2 _ rfl
    obtain ⟨v3, m3, y3, e3, t3, hp3⟩ := hf 3 _ rfl
    obtain ⟨x0, hx0, -, _⟩ := DataW.trod_int Try.underlying3 t0
    obtain ⟨x1, hx1, -, _⟩ := DataW.trod_int Try.underlying5 t1
    obtain ⟨A2, n2, c2, l2, hcs2, hr2, hc2⟩ := cells_toks t2
    obtain ⟨A3, n3, c3, l3, hcs3, hr3, hc3, hq3⟩ := open_recsS (f := ndC) ndC_len (by omega) (fun k => ReadsNd w w.heap.size k ∧ TermsOk k) Try.underlying29 (by kernel_rfl) (fun cs' n y hy ht => by
      refine ih n cs' y ?_ ht
      obtain ⟨ds, sp, hd, hy⟩ := hy
      have h1 := List.sizeOf_lt_of_mem hy
      have h2 := List.sizeOf_lt_of_mem (List.mem_of_getElem? hp3)
      rw [hpa] at hm
      rw [hd] at h2
      simp at hm h2
      omega) t3
    simp at hx0 hx1 hcs2 hcs3
    subst hx0 hx1 hcs2 hcs3
    refine ⟨.mk x0 x1 ⟨A2, n2, c2⟩ ⟨A3, n3, c3⟩ l3, ?_, .mk l2 hr2 hr3 hc3 (fun k h => (hq3 k h).1), .mk hc2 (fun k h => (hq3 k h).2)⟩
    match cs, hl, e0, e1, e2, e3 with
    | [q0, q1, q2, q3], _, e0, e1, e2, e3 =>
      simp at e0 e1 e2 e3
      subst e0 e1 e2 e3
      rfl
theorem cells_nodes {fuel : Nat} {cs : List Value} {x : DataW H × List MemPlace} (h : DataW.trod enc Try.prog w base spare held fuel 29 cs = some x) : ∃ A n c, ∃ l : List NodeM, cs = [.slice A n c] ∧ ReadsK 4 w w.heap.size A n c (l.flatMap ndC) ∧ c ≤ maxLen ∧ (∀ k ∈ l, ReadsNd w w.heap.size k ∧ TermsOk k) :=
  open_recsS (f := ndC) ndC_len (by omega) (fun k => ReadsNd w w.heap.size k ∧ TermsOk k) Try.underlying29 (by kernel_rfl) (fun cs' n y _ ht => cells_node _ n cs' y (Nat.lt_succ_self _) ht) h
theorem reads_nodes (hval : Value.okWide Try.prog w r b0 29 v) (h : DataW.Trod enc Try.prog w base spare held 29 v d p) :
    ∃ A n c, ∃ l : List NodeM, v = .slice A n c ∧ ReadsK 4 w w.heap.size A n c (l.flatMap ndC) ∧ c ≤ maxLen ∧ (∀ k ∈ l, ReadsNd w w.heap.size k ∧ TermsOk k) := by
  obtain ⟨a0, len0, cap0, rfl⟩ := okWide_slice Try.underlying29 hval
  obtain ⟨fuel, hf⟩ := h
  obtain ⟨A, n, c, l, hcs, hr, hm, hq⟩ := cells_nodes hf
  simp [Value.cells] at hcs
  obtain ⟨rfl, rfl, rfl⟩ := hcs
  exact ⟨_, _, _, l, rfl, hr, hm, hq⟩
theorem reads_node (hval : Value.okWide Try.prog w r b0 31 v) (h : DataW.Trod enc Try.prog w base spare held 31 v d p) :
    ∃ nd : NodeM, v = .agg (ndC nd).toArray ∧ ReadsNd w w.heap.size nd ∧ TermsOk nd := by
  obtain ⟨cs, rfl, _⟩ := okWide_struct Try.underlying31 hval
  obtain ⟨fuel, hf⟩ := h
  obtain ⟨nd, hcs, hr, ht⟩ := cells_node _ _ _ _ (Nat.lt_succ_self _) hf
  simp [Value.cells] at hcs
  exact ⟨nd, by rw [← hcs], hr, ht⟩
end
end Go.Proofs.Ytgjdjggakkmbgaa
