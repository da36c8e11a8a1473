/- Rows of the call's own in blocks apart. Over any program. -/
import Derived.Test.YtbbjlijdodnjaaaReadsK
import Derived.Test.YtbbjlijdodnjaaaRowOps
namespace Go.Proofs.Ytbbjlijdodnjaaa
open Go.RowKit

section
variable {P : Program} {W : World}
theorem own_empty (w : World) (e : TypeId) (k : Nat) : (w.alloc (.cells #[] e)).ownsRow w.heap.size e k (.slice (some ⟨w.heap.size, 0, none⟩) 0 0) 0 [] :=
  ⟨by simp, .inr ⟨w.heap.size, 0, #[], rfl, Nat.le_refl _, heap_alloc_new _ _, Nat.le_refl _, by simp [maxLen], by simp, by simp⟩⟩
theorem ReadsK.of_reads {w : World} {B n c : Nat} {A : Option Addr} {xs : List Value} (h : Reads w B A n c xs) : ReadsK 1 w B A n c xs := ⟨by rw [h.len]; omega, h.cap, h.at_⟩
/-- append(out, x) of one element, with the block told. -/
theorem wpList_append_oneB {ops : Array Oper} {rest : List Oper} {o : Oper} {a : Act} {Q : Exit → Act → World → Prop} (hgd : o.guard = none) (s x : Operand) (t : TypeId)
    (ho : o.op = .call { callee := .builtin .append, args := #[s, x], argTypes := #[t, t] })
    (base : Nat) (e : TypeId) (i : TypeInfo) (z : Value) (k bytes : Nat) (ht : P.underlying t = some (.slice e)) (hi : P.info? e = some i) (hz : i.zero = some z)
    (hsize : i.size = k) (hby : i.bytes = bytes) (hzs : z.cells.size = k) (h0 : 0 < k)
    (v : Value) (n : Nat) (xs us : List Value) (hus : us.length = k) (hown : W.ownsRow base e k v n xs)
    (hs : a.eval s = v) (hx : a.eval x = .slice (some ⟨W.heap.size, 0, none⟩) 1 1) (h1 : ∀ u ∈ us, u.oneCell' = true)
    (hnm : n ≤ 1099511627775) (hb8 : bytes ≤ 64) (hbase : base ≤ W.heap.size)
    (h : ∀ v' w', w'.ownsRow base e k v' (n + 1) (xs ++ us) → W.grownBy w' v.ownBlock → (v'.ownBlock = v.ownBlock ∨ v'.ownBlock = some (W.heap.size + 1)) → wpList P ops Q rest (a.put o.dst v') w') : wpList P ops Q (o :: rest) a (W.alloc (.cells us.toArray e)) :=
  wpList_append_allK hgd s x t ho base e i z k bytes ht hi hz hsize hby hzs h0 v n xs (hown.alloc _) _ _ 1 1 us (ReadsK.new W e us hus) hs hx h1 (by omega) hb8 (by simp; omega)
    fun v' w' h2 h3 h4 => h v' w' h2 (grown_of_alloc h3) (by simpa using h4)
end
/-- Two slices of the call's own in blocks apart. -/
def AP (v v' : Value) : Prop := ∀ g, v.ownBlock = some g → v'.ownBlock = some g → False
theorem AP.ne {v v' : Value} (h : AP v v') : v.ownBlock = none ∨ v.ownBlock ≠ v'.ownBlock := by
  cases hv : v.ownBlock with
  | none => exact .inl rfl
  | some g => exact .inr fun e => h g hv e.symm
theorem AP.symm {v v' : Value} (h : AP v v') : AP v' v := fun g h1 h2 => h g h2 h1
theorem AP.step {v v' u : Value} (h : AP v v') {W : World} {base : Nat} {e : TypeId} {k n : Nat} {xs : List Value} (hown : W.ownsRow base e k v n xs) {m : Nat} (hm : W.heap.size ≤ m) (hu : u.ownBlock = v'.ownBlock ∨ u.ownBlock = some m) : AP v u := fun g h1 h2 => by
  rcases hu with hu | hu
  · exact h g h1 (by rw [← hu]; exact h2)
  · have := (hown.lt g h1).2
    rw [hu] at h2
    injection h2 with h2
    omega
theorem own_reads {w : World} {base k : Nat} {e : TypeId} {A : Option Addr} {n n' c : Nat} {xs : List Value} (h : w.ownsRow base e k (.slice A n' c) n xs) : ReadsK k w w.heap.size A n c xs := by
  obtain ⟨A', c', e', hr, _⟩ := ReadsK.of_own h
  injection e' with e1 e2 e3
  subst e1 e2 e3
  exact hr
theorem grown_of {W w' w0 : World} {B g : Nat} (hb : Below B w0 W) (hb' : Below B w0 w') (hs : w'.heap.size = W.heap.size) (hk : ∀ k, k ≠ g → w'.heap[k]? = W.heap[k]?) : W.grownBy w' (some g) :=
  ⟨hb'.os.trans hb.os.symm, hb'.tape.trans hb.tape.symm, hb'.output.trans hb.output.symm, by omega, fun i _ hne => hk i (fun e => hne (by rw [e]))⟩
theorem own_apart {W w' w0 : World} {B : Nat} {o : Obj} {base k n : Nat} {e : TypeId} {v : Value} {xs : List Value} (h : W.ownsRow base e k v n xs) (hb : Below B w0 (W.alloc o)) (hb' : Below B w0 w') (hs : w'.heap.size = (W.alloc o).heap.size) (hk : ∀ k, k ≠ W.heap.size → w'.heap[k]? = (W.alloc o).heap[k]?) : w'.ownsRow base e k v n xs :=
  (h.alloc o).kept (grown_of hb hb' hs hk) (.inr fun e => by have := (h.lt _ e).2; omega)
section
variable {P : Program} {W : World}
theorem run_append_allK (t ty : TypeId) (base : Nat) (e : TypeId) (i : TypeInfo) (z : Value) (k bytes : Nat) (ht : P.underlying t = some (.slice e)) (hi : P.info? e = some i) (hz : i.zero = some z)
    (hsize : i.size = k) (hby : i.bytes = bytes) (hzs : z.cells.size = k) (h0 : 0 < k)
    (v : Value) (n : Nat) (xs : List Value) (hown : W.ownsRow base e k v n xs) (B : Nat) (A : Option Addr) (m c : Nat) (news : List Value) (hr : ReadsK k W B A m c news)
    (h1 : ∀ u ∈ news, u.oneCell' = true) (hnm : n + m ≤ 1099511627776) (hb8 : bytes ≤ 64) (hbase : base ≤ W.heap.size) :
    ∃ v' w', (Builtin.append_ #[t, t] ty #[v, .slice A m c]).run P W = .ok v' w' ∧ w'.ownsRow base e k v' (n + m) (xs ++ news) ∧ W.grownBy w' v.ownBlock ∧ (v'.ownBlock = v.ownBlock ∨ v'.ownBlock = some W.heap.size) := by
  have h63 : n + m ≤ maxLen := by simp only [maxLen]; omega
  have hbytes : (n + m) * bytes ≤ 140737488355328 := by
    have : (n + m) * bytes ≤ 1099511627776 * 64 := Nat.mul_le_mul (by omega) hb8
    omega
  rcases A with _ | ad
  · have hm : m = 0 := by
      rcases Nat.eq_zero_or_pos m with h0 | h0
      · exact h0
      · obtain ⟨ad, h, _⟩ := hr.at_ h0
        cases h
    subst hm
    have hn : news = [] := List.eq_nil_of_length_eq_zero (by rw [hr.len]; simp)
    subst hn
    refine ⟨v, W, ?_, by simpa using hown, World.grownBy.refl W _, .inl rfl⟩
    rcases hown.2 with ⟨rfl, rfl⟩ | ⟨g, cap, cur, rfl, _, _, hnc, _⟩
    · simp [Builtin.append_, run_underlying ht, sizeOf, typeInfo, hi, Builtin.lenOf, Builtin.firstCells]
    · simp [Builtin.append_, run_underlying ht, sizeOf, typeInfo, hi, Builtin.lenOf, Builtin.firstCells, hnc, storeCells]
  · have hcells : ∀ j u, news[j]? = some u → W.cell? (ad.add j) = some u := by
      intro j u hu
      rcases Nat.eq_zero_or_pos m with h0 | h0
      · subst h0
        have hn : news = [] := List.eq_nil_of_length_eq_zero (by rw [hr.len]; simp)
        subst hn
        simp at hu
      · obtain ⟨ad', h, _, hc⟩ := hr.at_ h0
        injection h with h
        subst h
        exact hc j u hu
    obtain ⟨v', w', hrun, h2, h3, _, h4⟩ := run_append_own_at (P := P) W base t ty e i z k bytes ht hi hz hsize hby hzs h0 v n xs hown ad m c news (by rw [hr.len]) hcells h1 h63 hbytes hbase
    exact ⟨v', w', hrun, h2, h3, h4⟩
theorem step_append_allK {ops : Array Oper} {o : Oper} {a : Act} {K : Act → World → Prop} {Q : Exit → Act → World → Prop} {E : Prop} (hgd : o.guard = none) (s x : Operand) (t : TypeId)
    (ho : o.op = .call { callee := .builtin .append, args := #[s, x], argTypes := #[t, t] })
    (base : Nat) (e : TypeId) (i : TypeInfo) (z : Value) (k bytes : Nat) (ht : P.underlying t = some (.slice e)) (hi : P.info? e = some i) (hz : i.zero = some z)
    (hsize : i.size = k) (hby : i.bytes = bytes) (hzs : z.cells.size = k) (h0 : 0 < k)
    (v : Value) (n : Nat) (xs : List Value) (hown : W.ownsRow base e k v n xs) (B : Nat) (A : Option Addr) (m c : Nat) (news : List Value) (hr : ReadsK k W B A m c news)
    (hs : a.eval s = v) (hx : a.eval x = .slice A m c) (h1 : ∀ u ∈ news, u.oneCell' = true)
    (hnm : n + m ≤ 1099511627776) (hb8 : bytes ≤ 64) (hbase : base ≤ W.heap.size)
    (h : ∀ v' w', w'.ownsRow base e k v' (n + m) (xs ++ news) → W.grownBy w' v.ownBlock → (v'.ownBlock = v.ownBlock ∨ v'.ownBlock = some W.heap.size) → K (a.put o.dst v') w') :
    if Region.wanted o (yielded ops a.tmps) = true then Oper.wp P o a W K Q else E := by
  have hw : Region.wanted o (yielded ops a.tmps) = true := by simp [Region.wanted, hgd]
  rw [if_pos hw]
  obtain ⟨v', w', hrun, h2, h3, h4⟩ := run_append_allK t o.type base e i z k bytes ht hi hz hsize hby hzs h0 v n xs hown B A m c news hr h1 hnm hb8 hbase
  unfold Oper.wp
  simp [execOp, ho, resolve, invoke, builtin, hs, hx, hrun, Result.andThen]
  exact h v' w' h2 h3 h4
end
end Go.Proofs.Ytbbjlijdodnjaaa
