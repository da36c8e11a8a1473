/- A slice whose elements have k cells each, as a list; an argument opened so. Over any program. -/
import Derived.Test.YtbbjlijdodnjaaaKit
import Derived.Deep.Slices
import Derived.Deep.Fields
import Derived.ChangeSame
namespace Go.Proofs.Ytbbjlijdodnjaaa
open Go.RowKit Go.ChangeShapes Go.WideShapes Go.Deep

theorem rec_get {α : Type} {f : α → List Value} {k : Nat} (hk : ∀ x, (f x).length = k) (l : List α) (i j : Nat) (hj : j < k) (hi : i < l.length) : (l.flatMap f)[i * k + j]? = (f l[i])[j]? := by
  induction l generalizing i with
  | nil => simp at hi
  | cons a l ih =>
    rw [List.flatMap_cons]
    cases i with
    | zero => rw [Nat.zero_mul, Nat.zero_add, List.getElem?_append_left (by rw [hk]; exact hj)]; rfl
    | succ i =>
      rw [List.getElem?_append_right (by rw [hk]; have := Nat.le_mul_of_pos_left k (show 0 < i + 1 by omega); omega), hk, show (i + 1) * k + j - k = i * k + j from by rw [Nat.add_mul]; omega]
      exact ih i (by simpa using hi)
theorem rec_len {α : Type} {f : α → List Value} {k : Nat} (hk : ∀ x, (f x).length = k) (l : List α) : (l.flatMap f).length = l.length * k := by
  induction l with
  | nil => simp
  | cons a l ih => rw [List.flatMap_cons, List.length_append, ih, hk, List.length_cons, Nat.add_mul]; omega

/-- The slice value '.slice A n c', its elements of k cells each, reads as the cells xs, all below block B. -/
structure ReadsK (k : Nat) (w : World) (B : Nat) (A : Option Addr) (n c : Nat) (xs : List Value) : Prop where
  len : xs.length = n * k
  cap : n ≤ c
  at_ : 0 < n → ∃ ad, A = some ad ∧ ad.block < B ∧ ∀ j u, xs[j]? = some u → w.cell? (ad.add j) = some u
section
variable {w w' : World} {B B' n n' c k : Nat} {A : Option Addr} {xs : List Value} {α : Type} {f : α → List Value} {l : List α}
theorem ReadsK.keep (h : ReadsK k w B A n c xs) (hk : ∀ p : Addr, p.block < B → w'.cell? p = w.cell? p) : ReadsK k w' B A n c xs :=
  ⟨h.len, h.cap, fun hn => by
    obtain ⟨ad, e, hb, hc⟩ := h.at_ hn
    exact ⟨ad, e, hb, fun j u hu => (hk _ (by rw [add_block]; exact hb)).trans (hc j u hu)⟩⟩
theorem ReadsK.more (h : ReadsK k w B A n c xs) (hB : B ≤ B') : ReadsK k w B' A n c xs :=
  ⟨h.len, h.cap, fun hn => by
    obtain ⟨ad, e, hb, hc⟩ := h.at_ hn
    exact ⟨ad, e, by omega, hc⟩⟩
theorem ReadsK.below (h : ReadsK k w B A n c xs) (hb : Below B w w') : ReadsK k w' B A n c xs := h.keep fun _ hp => hb.cell hp
theorem ReadsK.drew (h : ReadsK k w B A n c xs) : ReadsK k w.drew B A n c xs := h.keep fun _ _ => rfl
theorem ReadsK.drewN (h : ReadsK k w B A n c xs) (m : Nat) : ReadsK k (w.drewN m) B A n c xs := h.keep fun _ _ => rfl
theorem ReadsK.alloc (h : ReadsK k w B A n c xs) (hB : B ≤ w.heap.size) (o : Obj) : ReadsK k (w.alloc o) B A n c xs := h.keep fun p hp => World.cell?_alloc_lt w o p (by omega)
theorem ReadsK.count (h : ReadsK k w B A n c (l.flatMap f)) (hk : ∀ x, (f x).length = k) (h0 : 0 < k) : l.length = n := by
  have := h.len
  rw [rec_len hk] at this
  exact Nat.eq_of_mul_eq_mul_right h0 this
theorem ReadsK.elem (h : ReadsK k w B A n c (l.flatMap f)) (hk : ∀ x, (f x).length = k) (h0 : 0 < k) {i : Nat} (hi : i < n) :
    ∃ (ad : Addr) (hl : i < l.length), A = some ad ∧ ad.block < B ∧ ∀ j u, j < k → (f l[i])[j]? = some u → w.cell? (ad.add (i * k + j)) = some u := by
  have hl : i < l.length := by rw [h.count hk h0]; exact hi
  obtain ⟨ad, e, hb, hc⟩ := h.at_ (by omega)
  exact ⟨ad, hl, e, hb, fun j u hj hu => hc _ u (by rw [rec_get hk l i j hj hl]; exact hu)⟩
/-- The same in the walk's spelling. -/
theorem ReadsK.at' (h : ReadsK k w B A n c (l.flatMap f)) (hk : ∀ x, (f x).length = k) (h0 : 0 < k) {i : Nat} (hi : i < n) :
    ∃ (ad : Addr) (hl : i < l.length), A = some ad ∧ ad.block < B ∧ (∀ u, (f l[i])[0]? = some u → w.cell? (ad.add (i * k)) = some u) ∧ ∀ j u, j < k → (f l[i])[j]? = some u → w.cell? ⟨(ad.add (i * k)).block, (ad.add (i * k)).off + j, none⟩ = some u := by
  obtain ⟨ad, hl, e, hb, hc⟩ := h.elem hk h0 hi
  have h1 : ∀ u, (f l[i])[0]? = some u → w.cell? (ad.add (i * k)) = some u := fun u hu => hc 0 u h0 hu
  refine ⟨ad, hl, e, hb, h1, fun j u hj hu => ?_⟩
  have h2 := h1 _ (List.getElem?_eq_getElem (by rw [hk]; exact h0))
  have h3 : (ad.add (i * k)).spot = none := World.cell?_spot h2
  have h4 : (⟨(ad.add (i * k)).block, (ad.add (i * k)).off + j, none⟩ : Addr) = ad.add (i * k + j) := by
    rw [← Go.Proofs.Ytbbjlijdodnjaaa.add_add]
    generalize ad.add (i * k) = p at h3
    obtain ⟨pb, po, ps⟩ := p
    simp only at h3
    subst h3
    unfold Addr.add
    split
    · subst_vars; rfl
    · rfl
  rw [h4]
  exact hc j u hj hu
theorem ReadsK.cut (h : ReadsK k w B A n c xs) {m : Nat} (hm : m ≤ n) :
    ReadsK k w B (if c = m then A else A.map (·.add (m * k))) (n - m) (c - m) (xs.drop (m * k)) := by
  refine ⟨by rw [List.length_drop, h.len, Nat.sub_mul], by have := h.cap; omega, fun hn => ?_⟩
  have hc := h.cap
  obtain ⟨ad, rfl, hb, hcell⟩ := h.at_ (by omega)
  rw [if_neg (by omega)]
  refine ⟨ad.add (m * k), rfl, by rw [add_block]; exact hb, fun j u hu => ?_⟩
  rw [Go.Proofs.Ytbbjlijdodnjaaa.add_add]
  exact hcell _ u (by rw [← hu, List.getElem?_drop])
theorem ReadsK.front (h : ReadsK k w B A n c xs) {m : Nat} (hm : m ≤ n) : ReadsK k w B A m c (xs.take (m * k)) := by
  refine ⟨by rw [List.length_take, h.len]; exact Nat.min_eq_left (Nat.mul_le_mul_right _ hm), by have := h.cap; omega, fun hn => ?_⟩
  obtain ⟨ad, e, hb, hcell⟩ := h.at_ (by omega)
  refine ⟨ad, e, hb, fun j u hu => hcell j u ?_⟩
  rw [List.getElem?_take] at hu
  split at hu
  · exact hu
  · cases hu
theorem ReadsK.far (h : ReadsK k w B A n c xs) {p : Addr} (hp : ∀ ad, A = some ad → ad.block ≠ p.block) (u : Value) : ReadsK k (w.setCell p u) B A n c xs :=
  ⟨h.len, h.cap, fun hn => by
    obtain ⟨ad, e, hb, hc⟩ := h.at_ hn
    exact ⟨ad, e, hb, fun j u hu => (World.cell?_setCell_other _ _ _ _ (fun e' => hp ad e (by rw [← add_block ad j, e']))).trans (hc j u hu)⟩⟩
theorem own_from {base : Nat} {e : TypeId} (h : w.ownsRow base e k (.slice A n' c) n xs) : ∀ ad, A = some ad → base ≤ ad.block := by
  intro ad hA
  subst hA
  rcases h.2 with ⟨h1, _⟩ | ⟨g, cap, cur, h1, hbg, _⟩
  · cases h1
  · injection h1 with h1 _ _
    injection h1 with h1
    rw [h1]
    exact hbg
theorem ReadsK.of_own {base : Nat} {e : TypeId} {v : Value} (h : w.ownsRow base e k v n xs) : ∃ A c, v = .slice A n c ∧ ReadsK k w w.heap.size A n c xs ∧ c ≤ maxLen ∧ (A = none → n = 0 ∧ c = 0) := by
  have hlen : xs.length = n * k := h.1
  rcases h.2 with ⟨rfl, rfl⟩ | ⟨g, cap, cur, rfl, hbg, hg, hnc, hcm, hcs, htake⟩
  · exact ⟨none, 0, rfl, ⟨hlen, Nat.le_refl _, fun hn => absurd hn (by omega)⟩, by simp [maxLen], fun _ => ⟨rfl, rfl⟩⟩
  · refine ⟨_, cap, rfl, ⟨hlen, hnc, fun hn => ⟨_, rfl, ?_, h.cells (g := g) rfl⟩⟩, hcm, fun e => by cases e⟩
    rcases Nat.lt_or_ge g w.heap.size with hl | hl
    · exact hl
    · rw [Array.getElem?_eq_none hl] at hg; cases hg
end

section
variable {P : Program} {W : World}
theorem ReadsK.new {k : Nat} (w : World) (e : TypeId) (us : List Value) (h : us.length = k) : ReadsK k (w.alloc (.cells us.toArray e)) (w.heap.size + 1) (some ⟨w.heap.size, 0, none⟩) 1 1 us :=
  ⟨by omega, Nat.le_refl _, fun _ => ⟨_, rfl, Nat.lt_succ_self _, fun j u hu => by
    have := cell_of_row (w.alloc (.cells us.toArray e)) w.heap.size j us.toArray e (0, 0) (heap_alloc_new w _)
    rw [List.getElem?_toArray, hu] at this
    rw [← this]
    congr 1
    unfold Addr.add
    split
    · subst_vars; rfl
    · simp⟩⟩
/-- append(out, xs...): elements of k cells, nil let in. -/
theorem wpList_append_allK {ops : Array Oper} {rest : List Oper} {o : Oper} {a : Act} {Q : Exit → Act → World → Prop} (hgd : o.guard = none) (s x : Operand) (t : TypeId)
    (ho : o.op = .call { callee := .builtin .append, args := #[s, x], argTypes := #[t, t] })
    (base : Nat) (e : TypeId) (i : TypeInfo) (z : Value) (k bytes : Nat) (ht : P.underlying t = some (.slice e)) (hi : P.info? e = some i) (hz : i.zero = some z)
    (hsize : i.size = k) (hby : i.bytes = bytes) (hzs : z.cells.size = k) (h0 : 0 < k)
    (v : Value) (n : Nat) (xs : List Value) (hown : W.ownsRow base e k v n xs) (B : Nat) (A : Option Addr) (m c : Nat) (news : List Value) (hr : ReadsK k W B A m c news)
    (hs : a.eval s = v) (hx : a.eval x = .slice A m c) (h1 : ∀ u ∈ news, u.oneCell' = true)
    (hnm : n + m ≤ 1099511627776) (hb8 : bytes ≤ 64) (hbase : base ≤ W.heap.size)
    (h : ∀ v' w', w'.ownsRow base e k v' (n + m) (xs ++ news) → W.grownBy w' v.ownBlock → (v'.ownBlock = v.ownBlock ∨ v'.ownBlock = some W.heap.size) → wpList P ops Q rest (a.put o.dst v') w') : wpList P ops Q (o :: rest) a W := by
  have h63 : n + m ≤ maxLen := by simp only [maxLen]; omega
  have hbytes : (n + m) * bytes ≤ 140737488355328 := by
    have : (n + m) * bytes ≤ 1099511627776 * 64 := Nat.mul_le_mul (by omega) hb8
    omega
  obtain ⟨v', w', hrun, h2, h3, h4⟩ : ∃ v' w', (Builtin.append_ #[t, t] o.type #[v, .slice A m c]).run P W = .ok v' w' ∧ w'.ownsRow base e k v' (n + m) (xs ++ news) ∧ W.grownBy w' v.ownBlock ∧ (v'.ownBlock = v.ownBlock ∨ v'.ownBlock = some W.heap.size) := by
    rcases A with _ | ad
    · have hm : m = 0 := by
        rcases Nat.eq_zero_or_pos m with h0 | h0
        · exact h0
        · obtain ⟨ad, h, _⟩ := hr.at_ h0
          cases h
      subst hm
      have hn : news = [] := List.eq_nil_of_length_eq_zero (by rw [hr.len]; simp)
      subst hn
      refine ⟨v, W, ?_, by simpa using hown, World.grownBy.refl W _, .inl rfl⟩
      rcases hown.2 with ⟨rfl, rfl⟩ | ⟨g, cap, cur, rfl, _, _, hnc, _⟩
      · simp [Builtin.append_, run_underlying ht, sizeOf, typeInfo, hi, Builtin.lenOf, Builtin.firstCells]
      · simp [Builtin.append_, run_underlying ht, sizeOf, typeInfo, hi, Builtin.lenOf, Builtin.firstCells, hnc, storeCells]
    · have hcells : ∀ j u, news[j]? = some u → W.cell? (ad.add j) = some u := by
        intro j u hu
        rcases Nat.eq_zero_or_pos m with h0 | h0
        · subst h0
          have hn : news = [] := List.eq_nil_of_length_eq_zero (by rw [hr.len]; simp)
          subst hn
          simp at hu
        · obtain ⟨ad', h, _, hc⟩ := hr.at_ h0
          injection h with h
          subst h
          exact hc j u hu
      obtain ⟨v', w', hrun, h2, h3, _, h4⟩ := run_append_own_at (P := P) W base t o.type e i z k bytes ht hi hz hsize hby hzs h0 v n xs hown ad m c news (by rw [hr.len]) hcells h1 h63 hbytes hbase
      exact ⟨v', w', hrun, h2, h3, h4⟩
  refine wpList_plain hgd fun _ hK => ?_
  unfold Oper.wp execOp
  simp only [ho, resolve, invoke, builtin, Sem.run_bind, Sem.run_pure, Result.andThen_ok, List.map_toArray, List.map_cons, List.map_nil, hs, hx, hrun]
  exact hK _ _ (h v' w' h2 h3 h4)
/-- append(out, x): one element of k cells, laid in a new block ahead. -/
theorem wpList_append_oneK {ops : Array Oper} {rest : List Oper} {o : Oper} {a : Act} {Q : Exit → Act → World → Prop} (hgd : o.guard = none) (s x : Operand) (t : TypeId)
    (ho : o.op = .call { callee := .builtin .append, args := #[s, x], argTypes := #[t, t] })
    (base : Nat) (e : TypeId) (i : TypeInfo) (z : Value) (k bytes : Nat) (ht : P.underlying t = some (.slice e)) (hi : P.info? e = some i) (hz : i.zero = some z)
    (hsize : i.size = k) (hby : i.bytes = bytes) (hzs : z.cells.size = k) (h0 : 0 < k)
    (v : Value) (n : Nat) (xs us : List Value) (hus : us.length = k) (hown : W.ownsRow base e k v n xs)
    (hs : a.eval s = v) (hx : a.eval x = .slice (some ⟨W.heap.size, 0, none⟩) 1 1) (h1 : ∀ u ∈ us, u.oneCell' = true)
    (hnm : n ≤ 1099511627775) (hb8 : bytes ≤ 64) (hbase : base ≤ W.heap.size)
    (h : ∀ v' w', w'.ownsRow base e k v' (n + 1) (xs ++ us) → W.grownBy w' v.ownBlock → wpList P ops Q rest (a.put o.dst v') w') : wpList P ops Q (o :: rest) a (W.alloc (.cells us.toArray e)) :=
  wpList_append_allK hgd s x t ho base e i z k bytes ht hi hz hsize hby hzs h0 v n xs (hown.alloc _) _ _ 1 1 us (ReadsK.new W e us hus) hs hx h1 (by omega) hb8 (by simp; omega)
    fun v' w' h2 h3 _ => h v' w' h2 (grown_of_alloc h3)
end

theorem exists_list {α : Type} {R : Nat → α → Prop} (n : Nat) (h : ∀ i, i < n → ∃ x, R i x) : ∃ l : List α, l.length = n ∧ ∀ (i : Nat) (x : α), l[i]? = some x → R i x := by
  induction n with
  | zero => exact ⟨[], rfl, fun i x hx => by simp at hx⟩
  | succ n ih =>
    obtain ⟨l, hl, hr⟩ := ih fun i hi => h i (by omega)
    obtain ⟨x, hx⟩ := h n (by omega)
    refine ⟨l ++ [x], by simp [hl], fun i y hy => ?_⟩
    by_cases hi : i < n
    · rw [List.getElem?_append_left (by omega)] at hy
      exact hr i y hy
    · have : i = n := by
        have := (List.getElem?_eq_some_iff.1 hy).1
        simp at this; omega
      subst this
      rw [List.getElem?_append_right (by omega), hl, Nat.sub_self] at hy
      simp at hy
      exact hy ▸ hx

section
variable {H : Type} {enc : TypeId × Value → H} {P : Program} {w : World} {base : Nat} {spare : Nat → Bool} {held : Bool}
theorem cell_lt {w : World} {a : Addr} {v : Value} (h : w.cell? a = some v) : a.block < w.heap.size := by
  rcases Nat.lt_or_ge a.block w.heap.size with hl | hl
  · exact hl
  · simp [World.cell?, Array.getElem?_eq_none hl] at h
/-- A slice of elements of k cells, by its elements' own law. -/
theorem open_recs {α : Type} {f : α → List Value} {k : Nat} (hk : ∀ x, (f x).length = k) (h0 : 0 < k) {t e : TypeId} (Q : α → Prop) {fuel : Nat} {cs : List Value} {x : DataW H × List MemPlace} (ht : P.underlying t = some (.slice e)) (hC : P.cellsOf e = k)
    (hel : ∀ (cs' : List Value) (n : Nat) (y : DataW H × List MemPlace), DataW.trod enc P w base spare held n e cs' = some y → ∃ x, cs' = f x ∧ Q x)
    (h : DataW.trod enc P w base spare held fuel t cs = some x) :
    ∃ A n c, ∃ l : List α, cs = [.slice A n c] ∧ ReadsK k w w.heap.size A n c (l.flatMap f) ∧ c ≤ maxLen ∧ (∀ x ∈ l, Q x) ∧ (A = none → n = 0 ∧ c = 0) := by
  rcases open_slice ht h with ⟨rfl, _⟩ | ⟨a, len, cap, m, n, D, Pl, rfl, hb, hl, hm, hmm, _, hi⟩
  · exact ⟨none, 0, 0, [], rfl, ⟨by simp, Nat.le_refl _, fun h => absurd h (by omega)⟩, by simp [maxLen], by simp, fun _ => ⟨rfl, rfl⟩⟩
  · have hlm : len ≤ m := by rw [hmm]; split <;> omega
    obtain ⟨l, hll, hlx⟩ := exists_list (R := fun i x => w.cells? base (a.add (i * k)) k = some (f x) ∧ Q x) len fun i hlt => by
      obtain ⟨cs', hc, htr⟩ := hi i (by omega)
      obtain ⟨x, rfl, hq⟩ := hel cs' n _ htr
      rw [hC] at hc
      exact ⟨x, hc, hq⟩
    refine ⟨some a, len, cap, l, rfl, ⟨by rw [rec_len hk, hll], hl, fun hn => ⟨a, rfl, ?_, fun j u hu => ?_⟩⟩, hm, fun x hx => ?_, fun e => by cases e⟩
    · have hx := hlx 0 _ (List.getElem?_eq_getElem (by omega))
      obtain ⟨_, hcl, hat⟩ := World.cells?_some hx.1
      have := hat 0 h0
      rw [List.getElem?_eq_getElem (by rw [hk]; exact h0)] at this
      have := cell_lt this
      simpa [add_block] using this
    · have hjl : j < l.length * k := by
        have := (List.getElem?_eq_some_iff.1 hu).1
        rwa [rec_len hk] at this
      have hjd : j / k < l.length := Nat.div_lt_of_lt_mul (by rw [Nat.mul_comm]; exact hjl)
      have hjm : j % k < k := Nat.mod_lt _ h0
      have ej : j / k * k + j % k = j := by rw [Nat.mul_comm]; exact Nat.div_add_mod j k
      have hx := hlx (j / k) _ (List.getElem?_eq_getElem hjd)
      obtain ⟨_, hcl, hat⟩ := World.cells?_some hx.1
      have h1 := hat (j % k) hjm
      rw [Go.Proofs.Ytbbjlijdodnjaaa.add_add, ej] at h1
      rw [h1, ← hu, ← rec_get hk l (j / k) (j % k) hjm hjd, ej]
    · obtain ⟨i, hi2, rfl⟩ := List.getElem_of_mem hx
      exact (hlx i _ (List.getElem?_eq_getElem hi2)).2
/-- A struct's cells, each with its field's reading. -/
theorem open_cells {e : TypeId} {fs : Array Field} {n : Nat} {cs : List Value} {y : DataW H × List MemPlace} (he : P.underlying e = some (.struct fs)) (hone : oneCellFields P fs = true) (hC : P.cellsOf e = fs.size)
    (h : DataW.trod enc P w base spare held n e cs = some y) :
    cs.length = fs.size ∧ ∀ (j : Nat) (f : Field), fs[j]? = some f → ∃ (v : Value) (m : Nat) (y : DataW H × List MemPlace), cs[j]? = some v ∧ DataW.trod enc P w base spare held m f.type [v] = some y := by
  obtain ⟨ys, n', _, _, hlen, hyl, hf⟩ := DataW.trod_struct he h
  rw [hC] at hlen
  refine ⟨hlen, fun j f hj => ?_⟩
  obtain ⟨ho, hk⟩ := hone_of hone j f hj
  have hjl : j < fs.size := (Array.getElem?_eq_some_iff.1 hj).1
  have h1 := hf j f hj
  rw [ho, hk] at h1
  have hone' : (cs.drop j).take 1 = [cs[j]'(by omega)] := by
    rw [List.drop_eq_getElem_cons (by omega)]
    rfl
  rw [hone', List.getElem?_eq_getElem (show j < ys.length by omega)] at h1
  exact ⟨_, n', _, List.getElem?_eq_getElem (by omega), h1⟩
end
end Go.Proofs.Ytbbjlijdodnjaaa
