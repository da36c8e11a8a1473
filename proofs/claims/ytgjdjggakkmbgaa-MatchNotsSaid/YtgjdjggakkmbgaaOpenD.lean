/- A slice of records opened with its data. Over any program. -/
import Derived.Test.YtgjdjggakkmbgaaReadsK
import Derived.SizedLaws
namespace Go.Proofs.Ytgjdjggakkmbgaa
open Go.RowKit Go.ChangeShapes Go.WideShapes Go.Deep

theorem weightsAll_mem {H : Type} {P : Program} {e : TypeId} : ∀ {ds : List (DataW H)} {d : DataW H}, d ∈ ds → ∀ n ∈ d.weights P e, n ∈ DataW.weightsAll P e ds
  | d0 :: ds, d, hd, n, hn => by
    simp only [DataW.weightsAll, List.mem_append]
    rcases List.mem_cons.1 hd with rfl | hd
    · exact .inl hn
    · exact .inr (weightsAll_mem hd n hn)
section
variable {H : Type} {enc : TypeId × Value → H} {P : Program} {w : World} {base : Nat} {spare : Nat → Bool} {held : Bool}
/-- A slice of elements of k cells, by its elements' own law, which tells of the element's data, too. -/
theorem open_recsD {α : Type} {f : α → List Value} {k : Nat} (hk : ∀ x, (f x).length = k) (h0 : 0 < k) {t e : TypeId} (Q : α → DataW H → Prop) {fuel : Nat} {cs : List Value} {x : DataW H × List MemPlace} (ht : P.underlying t = some (.slice e)) (hC : P.cellsOf e = k)
    (hel : ∀ (cs' : List Value) (n : Nat) (y : DataW H × List MemPlace), DataW.trod enc P w base spare held n e cs' = some y → ∃ x, cs' = f x ∧ Q x y.1)
    (h : DataW.trod enc P w base spare held fuel t cs = some x) :
    ∃ A n c, ∃ l : List α, cs = [.slice A n c] ∧ ReadsK k w w.heap.size A n c (l.flatMap f) ∧ c ≤ maxLen ∧ l.length = n ∧ (l = [] ∨ ∃ ds sp, x.1 = .slice ds sp ∧ ds.length = n ∧ ∀ x ∈ l, ∃ d ∈ ds, Q x d) := by
  rcases open_slice ht h with ⟨rfl, _⟩ | ⟨a, len, cap, m, n, D, Pl, rfl, hb, hl, hm, hmm, hx1, hi⟩
  · exact ⟨none, 0, 0, [], rfl, ⟨by simp, Nat.le_refl _, fun h => absurd h (by omega)⟩, by simp [maxLen], rfl, .inl rfl⟩
  · have hlm : len ≤ m := by rw [hmm]; split <;> omega
    obtain ⟨l, hll, hlx⟩ := exists_list (R := fun i x => w.cells? base (a.add (i * k)) k = some (f x) ∧ Q x (D i)) len fun i hlt => by
      obtain ⟨cs', hc, htr⟩ := hi i (by omega)
      obtain ⟨x, rfl, hq⟩ := hel cs' n _ htr
      rw [hC] at hc
      exact ⟨x, hc, hq⟩
    refine ⟨some a, len, cap, l, rfl, ⟨by rw [rec_len hk, hll], hl, fun hn => ⟨a, rfl, ?_, fun j u hu => ?_⟩⟩, hm, hll, .inr ⟨_, _, by rw [hx1], by simp, fun x hx => ?_⟩⟩
    · have hx := hlx 0 _ (List.getElem?_eq_getElem (by omega))
      obtain ⟨_, hcl, hat⟩ := World.cells?_some hx.1
      have := hat 0 h0
      rw [List.getElem?_eq_getElem (by rw [hk]; exact h0)] at this
      have := cell_lt this
      simpa [add_block] using this
    · have hjl : j < l.length * k := by
        have := (List.getElem?_eq_some_iff.1 hu).1
        rwa [rec_len hk] at this
      have hjd : j / k < l.length := Nat.div_lt_of_lt_mul (by rw [Nat.mul_comm]; exact hjl)
      have hjm : j % k < k := Nat.mod_lt _ h0
      have ej : j / k * k + j % k = j := by rw [Nat.mul_comm]; exact Nat.div_add_mod j k
      have hx := hlx (j / k) _ (List.getElem?_eq_getElem hjd)
      obtain ⟨_, hcl, hat⟩ := World.cells?_some hx.1
      have h1 := hat (j % k) hjm
      rw [Go.Proofs.Ytgjdjggakkmbgaa.add_add, ej] at h1
      rw [h1, ← hu, ← rec_get hk l (j / k) (j % k) hjm hjd, ej]
    · obtain ⟨i, hi2, rfl⟩ := List.getElem_of_mem hx
      exact ⟨D i, List.mem_map_of_mem (by simp; omega), (hlx i _ (List.getElem?_eq_getElem hi2)).2⟩
/-- A struct's cells, each with its field's reading, and its data. -/
theorem open_cellsD {e : TypeId} {fs : Array Field} {n : Nat} {cs : List Value} {y : DataW H × List MemPlace} (he : P.underlying e = some (.struct fs)) (hone : oneCellFields P fs = true) (hC : P.cellsOf e = fs.size)
    (h : DataW.trod enc P w base spare held n e cs = some y) :
    cs.length = fs.size ∧ ∃ parts, y.1 = .agg parts ∧ ∀ (j : Nat) (f : Field), fs[j]? = some f → ∃ (v : Value) (m : Nat) (z : DataW H × List MemPlace), cs[j]? = some v ∧ DataW.trod enc P w base spare held m f.type [v] = some z ∧ parts[j]? = some z.1 := by
  obtain ⟨ys, n', _, hy, hlen, hyl, hf⟩ := DataW.trod_struct he h
  rw [hC] at hlen
  refine ⟨hlen, _, by rw [hy], fun j f hj => ?_⟩
  obtain ⟨ho, hk⟩ := hone_of hone j f hj
  have hjl : j < fs.size := (Array.getElem?_eq_some_iff.1 hj).1
  have h1 := hf j f hj
  rw [ho, hk] at h1
  have hone' : (cs.drop j).take 1 = [cs[j]'(by omega)] := by
    rw [List.drop_eq_getElem_cons (by omega)]
    rfl
  rw [hone', List.getElem?_eq_getElem (show j < ys.length by omega)] at h1
  exact ⟨_, n', _, List.getElem?_eq_getElem (by omega), h1, by rw [List.getElem?_map, List.getElem?_eq_getElem (show j < ys.length by omega)]; rfl⟩
end
end Go.Proofs.Ytgjdjggakkmbgaa
