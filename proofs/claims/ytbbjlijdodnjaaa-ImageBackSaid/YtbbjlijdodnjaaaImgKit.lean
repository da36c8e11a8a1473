/- Appends of literals; what the program says of its types. -/
import Derived.Test.YtbbjlijdodnjaaaImgMem
import Derived.Test.YtbbjlijdodnjaaaRows
namespace Go.Proofs.Ytbbjlijdodnjaaa
open Go.RowKit

theorem info_w32 : (Try.prog.info? 30).map (fun i => (i.zero, i.size, i.bytes)) = some (some (.int .u32 0), 1, 4) := by kernel_rfl
theorem lit_reads (w : World) (e : TypeId) (cs : List Value) : Reads (w.alloc (.cells cs.toArray e)) (w.heap.size + 1) (some ⟨w.heap.size, 0, none⟩) cs.length cs.length cs := by
  refine ⟨rfl, Nat.le_refl _, fun _ => ⟨_, rfl, Nat.lt_succ_self _, ?_⟩⟩
  exact World.news_of_block (cs := cs.toArray) (fr := (0, 0)) (heap_alloc_new w _)
section
variable {P : Program} {W : World}
/-- append(out, a, b, ..): a literal of elements of one cell. -/
theorem wpList_append_lit {ops : Array Oper} {rest : List Oper} {o : Oper} {a : Act} {Q : Exit → Act → World → Prop} (hgd : o.guard = none) (s x : Operand) (t : TypeId)
    (ho : o.op = .call { callee := .builtin .append, args := #[s, x], argTypes := #[t, t] })
    (base : Nat) (e : TypeId) (i : TypeInfo) (z : Value) (bytes : Nat) (ht : P.underlying t = some (.slice e)) (hi : P.info? e = some i) (hz : i.zero = some z)
    (hsize : i.size = 1) (hby : i.bytes = bytes) (hzs : z.cells.size = 1)
    (v : Value) (n : Nat) (xs us : List Value) (m : Nat) (hm : us.length = m) (hown : W.ownsRow base e 1 v n xs)
    (hs : a.eval s = v) (hx : a.eval x = .slice (some ⟨W.heap.size, 0, none⟩) m m) (h1 : ∀ u ∈ us, u.oneCell' = true)
    (hnm : n + m ≤ 1099511627776) (hb8 : bytes ≤ 64) (hbase : base ≤ W.heap.size)
    (h : ∀ v' w', w'.ownsRow base e 1 v' (n + m) (xs ++ us) → W.grownBy w' v.ownBlock → wpList P ops Q rest (a.put o.dst v') w') : wpList P ops Q (o :: rest) a (W.alloc (.cells us.toArray e)) := by
  subst hm
  exact wpList_append_all hgd s x t ho base e i z bytes ht hi hz hsize hby hzs v n xs (hown.alloc _) _ _ _ _ us (lit_reads W e us) hs hx h1 hnm hb8 (by simp; omega) fun v' w' h2 h3 => h v' w' h2 (grown_of_alloc h3)
/-- The same as a step of a drawn region. -/
theorem step_append_lit {ops : Array Oper} {o : Oper} {a : Act} {K : Act → World → Prop} {Q : Exit → Act → World → Prop} {E : Prop} (hgd : o.guard = none) (s x : Operand) (t : TypeId)
    (ho : o.op = .call { callee := .builtin .append, args := #[s, x], argTypes := #[t, t] })
    (base : Nat) (e : TypeId) (i : TypeInfo) (z : Value) (bytes : Nat) (ht : P.underlying t = some (.slice e)) (hi : P.info? e = some i) (hz : i.zero = some z)
    (hsize : i.size = 1) (hby : i.bytes = bytes) (hzs : z.cells.size = 1)
    (v : Value) (n : Nat) (xs us : List Value) (m : Nat) (hm : us.length = m) (hown : W.ownsRow base e 1 v n xs)
    (hs : a.eval s = v) (hx : a.eval x = .slice (some ⟨W.heap.size, 0, none⟩) m m) (h1 : ∀ u ∈ us, u.oneCell' = true)
    (hnm : n + m ≤ 1099511627776) (hb8 : bytes ≤ 64) (hbase : base ≤ W.heap.size)
    (h : ∀ v' w', w'.ownsRow base e 1 v' (n + m) (xs ++ us) → W.grownBy w' v.ownBlock → (v'.ownBlock = v.ownBlock ∨ v'.ownBlock = some (W.heap.size + 1)) → K (a.put o.dst v') w') :
    if Region.wanted o (yielded ops a.tmps) = true then Oper.wp P o a (W.alloc (.cells us.toArray e)) K Q else E := by
  subst hm
  exact step_append_allK hgd s x t ho base e i z 1 bytes ht hi hz hsize hby hzs (by omega) v n xs (hown.alloc _) _ _ _ _ us (ReadsK.of_reads (lit_reads W e us)) hs hx h1 hnm hb8 (by simp; omega) fun v' w' h2 h3 h4 => h v' w' h2 (grown_of_alloc h3) (by simpa using h4)
/-- With the block told. -/
theorem wpList_append_litB {ops : Array Oper} {rest : List Oper} {o : Oper} {a : Act} {Q : Exit → Act → World → Prop} (hgd : o.guard = none) (s x : Operand) (t : TypeId)
    (ho : o.op = .call { callee := .builtin .append, args := #[s, x], argTypes := #[t, t] })
    (base : Nat) (e : TypeId) (i : TypeInfo) (z : Value) (bytes : Nat) (ht : P.underlying t = some (.slice e)) (hi : P.info? e = some i) (hz : i.zero = some z)
    (hsize : i.size = 1) (hby : i.bytes = bytes) (hzs : z.cells.size = 1)
    (v : Value) (n : Nat) (xs us : List Value) (m : Nat) (hm : us.length = m) (hown : W.ownsRow base e 1 v n xs)
    (hs : a.eval s = v) (hx : a.eval x = .slice (some ⟨W.heap.size, 0, none⟩) m m) (h1 : ∀ u ∈ us, u.oneCell' = true)
    (hnm : n + m ≤ 1099511627776) (hb8 : bytes ≤ 64) (hbase : base ≤ W.heap.size)
    (h : ∀ v' w', w'.ownsRow base e 1 v' (n + m) (xs ++ us) → W.grownBy w' v.ownBlock → (v'.ownBlock = v.ownBlock ∨ v'.ownBlock = some (W.heap.size + 1)) → wpList P ops Q rest (a.put o.dst v') w') : wpList P ops Q (o :: rest) a (W.alloc (.cells us.toArray e)) := by
  subst hm
  exact wpList_append_allK hgd s x t ho base e i z 1 bytes ht hi hz hsize hby hzs (by omega) v n xs (hown.alloc _) _ _ _ _ us (ReadsK.of_reads (lit_reads W e us)) hs hx h1 hnm hb8 (by simp; omega) fun v' w' h2 h3 h4 => h v' w' h2 (grown_of_alloc h3) (by simpa using h4)
end
def sizeI (nr : Nat) (ls : List LV) : Int := if mayI nr ls = true then 2 + 4 * nr + 2 * ls.length + (bodyI ls).length else 0
theorem body_take (ls : List LV) (k : Nat) (h : k < ls.length) : (bodyI (ls.take (k + 1))).length = (bodyI (ls.take k)).length + (encL (lvAt ls k).2.2).length := by
  rw [List.take_succ_eq_append_getElem h, bodyI_snoc, List.length_append, lvAt_get ls k h]
theorem body_take_le (ls : List LV) (k : Nat) (h : ∀ l ∈ ls, lenE l ≤ 20000) : (bodyI (ls.take k)).length ≤ 20000 * ls.length := by
  have h1 := bodyI_len_le (ls := ls.take k) (fun l hl => h l (List.mem_of_mem_take hl))
  have h2 : (ls.take k).length ≤ ls.length := List.length_take_le' _ _
  have h3 : 20000 * (ls.take k).length ≤ 20000 * ls.length := Nat.mul_le_mul_left _ h2
  omega
theorem cl_at {cl : List Cl} {ls : List LV} (h : cl.map (·.2) = ls.map (fun l => encL l.2.2)) (k : Nat) (hk : k < cl.length) : cl[k].2 = encL (lvAt ls k).2.2 ∧ k < ls.length := by
  have hl : cl.length = ls.length := by simpa using congrArg List.length h
  have hk2 : k < ls.length := by omega
  have h1 : (cl.map (·.2))[k]'(by simpa using hk) = (ls.map (fun l => encL l.2.2))[k]'(by simpa using hk2) := by simp only [h]
  rw [List.getElem_map, List.getElem_map] at h1
  exact ⟨by rw [h1, lvAt_get ls k hk2], hk2⟩
end Go.Proofs.Ytbbjlijdodnjaaa
