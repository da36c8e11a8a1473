/- Words for memory that all walks of this seat use: a slice that reads as a list; appends onto a row of the call's own. Over any program. -/
import Derived.WalkKit
import Derived.WalkSpells
import Derived.WalkLawsBesides
import Derived.Lib.OthersKept
import Derived.Lib.Hide
import Derived.Maps.AppendAt
import Derived.Deep.AppendLies
import Derived.Deep.Draws
import Derived.Lib.AppendStr
import Derived.Laws.BytesArg
import Derived.Laws.CopyOwn
namespace Go.Proofs.Ytbbjlijdodnjaaa
open Go.RowKit

/-- Numbers of one kind as cells. -/
def ints (k : IntKind) (l : List Int) : List Value := l.map (Value.int k)
@[simp] theorem ints_length (k : IntKind) (l : List Int) : (ints k l).length = l.length := by simp [ints]
theorem ints_nil (k : IntKind) : ints k [] = [] := rfl
theorem ints_append (k : IntKind) (a b : List Int) : ints k (a ++ b) = ints k a ++ ints k b := by simp [ints]
theorem ints_one (k : IntKind) (l : List Int) : ∀ u ∈ ints k l, u.oneCell' = true := by
  intro u hu
  simp only [ints, List.mem_map] at hu
  obtain ⟨_, _, rfl⟩ := hu
  rfl
theorem ints_get (k : IntKind) (l : List Int) (i : Nat) (h : i < (ints k l).length) : (ints k l)[i] = .int k (l[i]'(by simpa using h)) := by simp [ints]
theorem ints_get? (k : IntKind) (l : List Int) (i : Nat) (h : i < l.length) : (ints k l)[i]? = some (.int k l[i]) := by simp [ints, h]

theorem add_block (a : Addr) (n : Nat) : (a.add n).block = a.block := by unfold Addr.add; split <;> rfl
theorem add_add (a : Addr) (i j : Nat) : (a.add i).add j = a.add (i + j) := by
  unfold Addr.add
  by_cases hi : i = 0 <;> by_cases hj : j = 0 <;> simp [hi, hj, Nat.add_assoc]

/-- The slice value '.slice A n c' reads as the one-cell elements xs, all below block B. -/
structure Reads (w : World) (B : Nat) (A : Option Addr) (n c : Nat) (xs : List Value) : Prop where
  len : xs.length = n
  cap : n ≤ c
  at_ : 0 < n → ∃ ad, A = some ad ∧ ad.block < B ∧ ∀ j u, xs[j]? = some u → w.cell? (ad.add j) = some u

section
variable {w w' : World} {B B' n c : Nat} {A : Option Addr} {xs : List Value}
theorem Reads.nil_ (w : World) (B : Nat) : Reads w B none 0 0 [] := ⟨rfl, Nat.le_refl _, fun h => absurd h (by omega)⟩
theorem Reads.get (h : Reads w B A n c xs) {k : Nat} (hk : k < n) : ∃ ad, A = some ad ∧ ad.block < B ∧ w.cell? (ad.add k) = some (xs[k]'(by have := h.len; omega)) := by
  obtain ⟨ad, e, hb, hc⟩ := h.at_ (by omega)
  exact ⟨ad, e, hb, hc k _ (List.getElem?_eq_getElem (by have := h.len; omega))⟩
theorem Reads.int {k : IntKind} {l : List Int} (h : Reads w B A n c (ints k l)) {i : Nat} (hi : i < n) : ∃ (ad : Addr) (hl : i < l.length), A = some ad ∧ ad.block < B ∧ w.cell? (ad.add i) = some (.int k l[i]) := by
  have hl : i < l.length := by have := h.len; simp at this; omega
  obtain ⟨ad, e, hb, hc⟩ := h.get hi
  exact ⟨ad, hl, e, hb, by rw [hc, ints_get]⟩
theorem Reads.keep (h : Reads w B A n c xs) (hk : ∀ p : Addr, p.block < B → w'.cell? p = w.cell? p) : Reads w' B A n c xs :=
  ⟨h.len, h.cap, fun hn => by
    obtain ⟨ad, e, hb, hc⟩ := h.at_ hn
    exact ⟨ad, e, hb, fun j u hu => (hk _ (by rw [add_block]; exact hb)).trans (hc j u hu)⟩⟩
theorem Reads.more (h : Reads w B A n c xs) (hB : B ≤ B') : Reads w B' A n c xs :=
  ⟨h.len, h.cap, fun hn => by
    obtain ⟨ad, e, hb, hc⟩ := h.at_ hn
    exact ⟨ad, e, by omega, hc⟩⟩
theorem Reads.below (h : Reads w B A n c xs) (hb : Below B w w') : Reads w' B A n c xs := h.keep fun _ hp => hb.cell hp
theorem Reads.drew (h : Reads w B A n c xs) : Reads w.drew B A n c xs := h.keep fun _ _ => rfl
theorem Reads.drewN (h : Reads w B A n c xs) (k : Nat) : Reads (w.drewN k) B A n c xs := h.keep fun _ _ => rfl
theorem Reads.alloc (h : Reads w B A n c xs) (hB : B ≤ w.heap.size) (o : Obj) : Reads (w.alloc o) B A n c xs := h.keep fun p hp => World.cell?_alloc_lt w o p (by omega)
theorem Reads.setCell (h : Reads w B A n c xs) {p : Addr} (hB : B ≤ p.block) (u : Value) : Reads (w.setCell p u) B A n c xs :=
  h.keep fun q hq => World.cell?_setCell_other w p q u (fun e => by subst e; omega)
theorem Reads.cut (h : Reads w B A n c xs) {k : Nat} (hk : k ≤ n) :
    Reads w B (if c = k then A else A.map (·.add k)) (n - k) (c - k) (xs.drop k) := by
  refine ⟨by rw [List.length_drop, h.len], by have := h.cap; omega, fun hn => ?_⟩
  have hc := h.cap
  obtain ⟨ad, rfl, hb, hcell⟩ := h.at_ (by omega)
  rw [if_neg (by omega)]
  refine ⟨ad.add k, rfl, by rw [add_block]; exact hb, fun j u hu => ?_⟩
  rw [add_add]
  exact hcell _ u (by rw [← hu, List.getElem?_drop])
theorem Reads.front (h : Reads w B A n c xs) {k : Nat} (hk : k ≤ n) : Reads w B A k c (xs.take k) := by
  refine ⟨by rw [List.length_take, h.len]; omega, by have := h.cap; omega, fun hn => ?_⟩
  obtain ⟨ad, e, hb, hcell⟩ := h.at_ (by omega)
  refine ⟨ad, e, hb, fun j u hu => hcell j u ?_⟩
  rw [List.getElem?_take] at hu
  split at hu
  · exact hu
  · cases hu
theorem ownsRow_slice {base : Nat} {e : TypeId} {v : Value} (h : w.ownsRow base e 1 v n xs) : ∃ A c, v = .slice A n c ∧ Reads w w.heap.size A n c xs ∧ c ≤ maxLen ∧ (A = none → n = 0 ∧ c = 0) := by
  have hlen : xs.length = n := by have := h.1; omega
  rcases h.2 with ⟨rfl, rfl⟩ | ⟨g, cap, cur, rfl, hbg, hg, hnc, hcm, hcs, htake⟩
  · refine ⟨none, 0, rfl, ⟨hlen, Nat.le_refl _, fun hn => absurd hn (by omega)⟩, by simp [maxLen], fun _ => ⟨rfl, rfl⟩⟩
  · refine ⟨_, cap, rfl, ⟨hlen, hnc, fun _ => ⟨_, rfl, ?_, h.cells (g := g) rfl⟩⟩, hcm, fun e => by cases e⟩
    rcases Nat.lt_or_ge g w.heap.size with hl | hl
    · exact hl
    · rw [Array.getElem?_eq_none hl] at hg; cases hg
theorem ownsRow_below {base : Nat} {e : TypeId} {size : Nat} {v : Value} (h : w.ownsRow base e size v n xs) (hb : Below w.heap.size w w') : w'.ownsRow base e size v n xs :=
  h.kept (row := none) ⟨hb.os, hb.tape, hb.output, hb.size, fun k hk _ => hb.block k hk⟩ (by cases v.ownBlock <;> simp)
theorem ownsRow_base {base base' : Nat} {e : TypeId} {size : Nat} {v : Value} (h : w.ownsRow base e size v n xs) (hb : base' ≤ base) : w.ownsRow base' e size v n xs := by
  refine ⟨h.1, ?_⟩
  rcases h.2 with h | ⟨g, cap, cur, e1, hbg, h2⟩
  · exact .inl h
  · exact .inr ⟨g, cap, cur, e1, by omega, h2⟩
/-- Below the base of an owned row, an append to it has changed nothing. -/
theorem below_grown {a : World} {base : Nat} {e : TypeId} {size : Nat} {v : Value} (hb : Below B a w) (hown : w.ownsRow base e size v n xs) (hB : B ≤ base) (hBw : B ≤ w.heap.size) (hg : w.grownBy w' v.ownBlock) : Below B a w' :=
  hb.grown hg hBw fun k hk => by have := (hown.lt k hk).1; omega
end

section
variable {P : Program} {W : World}
theorem grown_of_alloc {w' : World} {o : Obj} {row : Option Nat} (h : (W.alloc o).grownBy w' row) : W.grownBy w' row :=
  (World.grownBy_alloc W o row).trans h
/-- append(out, x): one element, laid in a new block ahead. -/
theorem wpList_append_one {ops : Array Oper} {rest : List Oper} {o : Oper} {a : Act} {Q : Exit → Act → World → Prop} (hgd : o.guard = none) (s x : Operand) (t : TypeId)
    (ho : o.op = .call { callee := .builtin .append, args := #[s, x], argTypes := #[t, t] })
    (base : Nat) (e : TypeId) (i : TypeInfo) (z : Value) (bytes : Nat) (ht : P.underlying t = some (.slice e)) (hi : P.info? e = some i) (hz : i.zero = some z)
    (hsize : i.size = 1) (hby : i.bytes = bytes) (hzs : z.cells.size = 1)
    (v : Value) (n : Nat) (xs : List Value) (u : Value) (hown : W.ownsRow base e 1 v n xs) (hs : a.eval s = v) (hx : a.eval x = .slice (some ⟨W.heap.size, 0, none⟩) 1 1)
    (h1 : u.oneCell' = true) (hn : n ≤ 1099511627776) (hb8 : bytes ≤ 64) (hbase : base ≤ W.heap.size)
    (h : ∀ v' w', w'.ownsRow base e 1 v' (n + 1) (xs ++ [u]) → W.grownBy w' v.ownBlock → wpList P ops Q rest (a.put o.dst v') w') : wpList P ops Q (o :: rest) a (W.alloc (.cells #[u] e)) := by
  refine wpList_append_own _ hgd s x t ho base e i z 1 bytes ht hi hz hsize hby hzs (by decide) v n xs hs (hown.alloc _) ⟨W.heap.size, 0, none⟩ 1 1 [u] hx rfl (cell_one_new _ _ _) ?_ ?_ ?_ ?_ ?_
  · intro y hy; simp at hy; subst hy; exact h1
  · simp [maxLen]; omega
  · have : (n + 1) * bytes ≤ 1099511627777 * 64 := Nat.mul_le_mul (by omega) hb8
    omega
  · simp; omega
  · intro v' w' h2 h3 _
    exact h v' w' h2 (grown_of_alloc h3)

theorem run_append_none (w : World) (base : Nat) (t ty e : TypeId) (i : TypeInfo) (ht : P.underlying t = some (.slice e)) (hi : P.info? e = some i)
    (v : Value) (n : Nat) (xs : List Value) (hown : w.ownsRow base e 1 v n xs) (c : Nat) : (Builtin.append_ #[t, t] ty #[v, .slice none 0 c]).run P w = .ok v w := by
  rcases hown.2 with ⟨rfl, rfl⟩ | ⟨g, cap, cur, rfl, _, _, hnc, _⟩
  · simp [Builtin.append_, run_underlying ht, sizeOf, typeInfo, hi, Builtin.lenOf, Builtin.firstCells]
  · simp [Builtin.append_, run_underlying ht, sizeOf, typeInfo, hi, Builtin.lenOf, Builtin.firstCells, hnc, storeCells]

/-- append(out, xs...): xs a slice that reads as a list, nil let in. -/
theorem wpList_append_all {ops : Array Oper} {rest : List Oper} {o : Oper} {a : Act} {Q : Exit → Act → World → Prop} (hgd : o.guard = none) (s x : Operand) (t : TypeId)
    (ho : o.op = .call { callee := .builtin .append, args := #[s, x], argTypes := #[t, t] })
    (base : Nat) (e : TypeId) (i : TypeInfo) (z : Value) (bytes : Nat) (ht : P.underlying t = some (.slice e)) (hi : P.info? e = some i) (hz : i.zero = some z)
    (hsize : i.size = 1) (hby : i.bytes = bytes) (hzs : z.cells.size = 1)
    (v : Value) (n : Nat) (xs : List Value) (hown : W.ownsRow base e 1 v n xs) (B : Nat) (A : Option Addr) (m c : Nat) (news : List Value) (hr : Reads W B A m c news)
    (hs : a.eval s = v) (hx : a.eval x = .slice A m c) (h1 : ∀ u ∈ news, u.oneCell' = true)
    (hnm : n + m ≤ 1099511627776) (hb8 : bytes ≤ 64) (hbase : base ≤ W.heap.size)
    (h : ∀ v' w', w'.ownsRow base e 1 v' (n + m) (xs ++ news) → W.grownBy w' v.ownBlock → wpList P ops Q rest (a.put o.dst v') w') : wpList P ops Q (o :: rest) a W := by
  have h63 : n + m ≤ maxLen := by simp only [maxLen]; omega
  have hbytes : (n + m) * bytes ≤ 140737488355328 := by
    have : (n + m) * bytes ≤ 1099511627776 * 64 := Nat.mul_le_mul (by omega) hb8
    omega
  obtain ⟨v', w', hrun, h2, h3⟩ : ∃ v' w', (Builtin.append_ #[t, t] o.type #[v, .slice A m c]).run P W = .ok v' w' ∧ w'.ownsRow base e 1 v' (n + m) (xs ++ news) ∧ W.grownBy w' v.ownBlock := by
    rcases A with _ | ad
    · have hm : m = 0 := by
        rcases Nat.eq_zero_or_pos m with h0 | h0
        · exact h0
        · obtain ⟨ad, h, _⟩ := hr.at_ h0
          cases h
      subst hm
      have hn : news = [] := List.eq_nil_of_length_eq_zero hr.len
      subst hn
      exact ⟨v, W, run_append_none W base t o.type e i ht hi v n xs hown c, by simpa using hown, World.grownBy.refl W _⟩
    · have hcells : ∀ j u, news[j]? = some u → W.cell? (ad.add j) = some u := by
        intro j u hu
        rcases Nat.eq_zero_or_pos m with h0 | h0
        · subst h0
          have hn : news = [] := List.eq_nil_of_length_eq_zero hr.len
          subst hn
          simp at hu
        · obtain ⟨ad', h, _, hc⟩ := hr.at_ h0
          injection h with h
          subst h
          exact hc j u hu
      obtain ⟨v', w', hrun, h2, h3, _⟩ := run_append_own (P := P) W base t o.type e i z 1 bytes ht hi hz hsize hby hzs (by decide) v n xs hown ad m c news (by rw [hr.len]; omega) hcells h1 h63 hbytes hbase
      exact ⟨v', w', hrun, h2, h3⟩
  refine wpList_plain hgd fun _ hK => ?_
  unfold Oper.wp execOp
  simp only [ho, resolve, invoke, builtin, Sem.run_bind, Sem.run_pure, Result.andThen_ok, List.map_toArray, List.map_cons, List.map_nil, hs, hx, hrun]
  exact hK _ _ (h v' w' h2 h3)

/-- Two calls, one behind the other. -/
theorem then_ {a b c : World} (h : Below a.heap.size a b) (k : Below b.heap.size b c) : Below a.heap.size a c := h.trans (k.mono h.size)
theorem al_ {a b : World} (h : Below a.heap.size a b) (o : Obj) : Below a.heap.size a (b.alloc o) := h.alloc h.size o

/-- Bytes as cells. -/
def bys (l : List UInt8) : List Value := l.map fun b => .int .u8 b.toNat
theorem bys_length (l : List UInt8) : (bys l).length = l.length := by simp [bys]
theorem bys_append (a b : List UInt8) : bys (a ++ b) = bys a ++ bys b := by simp [bys]
theorem bys_one (l : List UInt8) : ∀ u ∈ bys l, u.oneCell' = true := by
  intro u hu
  simp only [bys, List.mem_map] at hu
  obtain ⟨_, _, rfl⟩ := hu
  rfl
theorem bys_inj {a b : List UInt8} (h : bys a = bys b) : a = b := by
  induction a generalizing b with
  | nil => cases b with | nil => rfl | cons _ _ => simp [bys] at h
  | cons x a ih =>
    cases b with
    | nil => simp [bys] at h
    | cons y b =>
      simp only [bys, List.map_cons, List.cons.injEq] at h
      have : x = y := by
        have h1 := h.1
        injection h1 with _ h1
        exact UInt8.toNat_inj.1 (by omega)
      rw [this, ih h.2]
theorem strCells_bys (s : ByteArray) : Lib.strCells s = bys s.data.toList := rfl

/-- append(out, s...): s a string. -/
theorem wpList_append_str {ops : Array Oper} {rest : List Oper} {o : Oper} {a : Act} {Q : Exit → Act → World → Prop} (hgd : o.guard = none) (sl x : Operand) (t u : TypeId)
    (ho : o.op = .call { callee := .builtin .append, args := #[sl, x], argTypes := #[t, u] })
    (base : Nat) (e : TypeId) (i : TypeInfo) (ht : P.underlying t = some (.slice e)) (hu : P.underlying u = some .string) (hi : P.info? e = some i) (hz : i.zero = some (.int .u8 0))
    (hsize : i.size = 1) (hby : i.bytes = 1)
    (v : Value) (n : Nat) (l : List UInt8) (hown : W.ownsRow base e 1 v n (bys l)) (s : ByteArray) (hs : a.eval sl = v) (hx : a.eval x = .string s)
    (hb : n + s.size ≤ 1099511627776) (hbase : base ≤ W.heap.size)
    (h : ∀ v' w', w'.ownsRow base e 1 v' (n + s.size) (bys (l ++ s.data.toList)) → W.grownBy w' v.ownBlock → wpList P ops Q rest (a.put o.dst v') w') : wpList P ops Q (o :: rest) a W :=
  Lib.wpList_append_own_string W hgd sl x t u ho base e i ht hu hi hz hsize hby v n _ hs hown s hx (by simp only [maxLen]; omega) (by omega) hbase
    fun v' w' h2 h3 _ => h v' w' (by rw [bys_append]; exact h2) h3

/-- A new row that was built of its elements. -/
theorem built_new (w : World) (e : TypeId) (cs : List Value) (h : cs.length ≤ 1048576) : (w.alloc (.cells cs.toArray e)).ownsRow w.heap.size e 1 (.slice (some ⟨w.heap.size, 0, none⟩) cs.length cs.length) cs.length cs :=
  ⟨by simp, .inr ⟨w.heap.size, cs.length, cs.toArray, rfl, Nat.le_refl _, heap_alloc_new w _, Nat.le_refl _, by simp only [maxLen]; omega, by simp, by simp⟩⟩
theorem bytes_new (w : World) (e : TypeId) (cs : List Value) (l : List UInt8) (h : bys l = cs) (hl : cs.length ≤ 1048576) :
    (w.alloc (.cells cs.toArray e)).ownsRow w.heap.size e 1 (.slice (some ⟨w.heap.size, 0, none⟩) cs.length cs.length) l.length (bys l) := by
  have e1 : l.length = cs.length := by rw [← h, bys_length]
  rw [e1, h]
  exact built_new w e cs hl

theorem foldl_push (l : List UInt8) (s : ByteArray) : (l.map fun b => (b.toNat : Int)).foldl (fun r n => r.push (UInt8.ofNat n.toNat)) s = ⟨s.data ++ l.toArray⟩ := by
  induction l generalizing s with
  | nil => simp
  | cons b l ih =>
    rw [List.map_cons, List.foldl_cons, ih]
    simp [ByteArray.push]
/-- string(b): b a slice of bytes that reads as a list. -/
theorem run_string_of (src dst e : TypeId) (hs : P.underlying src = some (.slice e)) (he : P.underlying e = some (.int .u8)) (hd : P.underlying dst = some .string)
    {B n c : Nat} {A : Option Addr} {l : List UInt8} (h : Reads W B A n c (bys l)) : (convert src dst (.slice A n c)).run P W = .ok (.string ⟨l.toArray⟩) W := by
  rw [run_convert_bytes_string W src dst e A n c hs he hd]
  have hl : l.length = n := by simpa [bys_length] using h.len
  rcases A with _ | ad
  · have : n = 0 := by
      rcases Nat.eq_zero_or_pos n with h0 | h0
      · exact h0
      · obtain ⟨ad, h, _⟩ := h.at_ h0
        cases h
    have : l = [] := List.eq_nil_of_length_eq_zero (by omega)
    subst this
    simp [Conv.bytesToString, Sem.run_pure]; rfl
  · have hcells : ∀ j u, (bys l)[j]? = some u → W.cell? (ad.add j) = some u := by
      intro j u hu
      have : j < n := by
        have := (List.getElem?_eq_some_iff.1 hu).1
        rw [bys_length] at this
        omega
      obtain ⟨ad', h, _, hc⟩ := h.at_ (by omega)
      injection h with h
      subst h
      exact hc j u hu
    have hns : (l.map fun b => (b.toNat : Int)).map (Value.int .u8) = bys l := by simp [bys]
    rw [run_bytesToString W ad n c (l.map fun b => (b.toNat : Int)) (by rw [hns, ← hl, ← bys_length l]; exact run_loadCells_list W ad (bys l) hcells)]
    rw [foldl_push]; simp
end

/-! A row that lies in a block of its own and is known whole. -/
def Row (w : World) (g : Nat) (e : TypeId) (xs : List Value) : Prop := w.heap[g]? = some (.cells xs.toArray e (0, 0))
/-- n times one value, as a row's cells. -/
def zeros (z : Value) (n : Nat) : Array Value := (List.replicate n z).toArray
section
variable {w w' : World} {g n : Nat} {e : TypeId} {xs : List Value}
theorem Row.lt (h : Row w g e xs) : g < w.heap.size := by
  rcases Nat.lt_or_ge g w.heap.size with hl | hl
  · exact hl
  · unfold Row at h; rw [Array.getElem?_eq_none hl] at h; cases h
theorem Row.cell (h : Row w g e xs) (i : Nat) : w.cell? ⟨g, i, none⟩ = xs[i]? := by
  have := cell_of_row w g i xs.toArray e (0, 0) h
  simpa using this
theorem Row.frozen (h : Row w g e xs) (i : Nat) : w.frozen? ⟨g, i, none⟩ = false := by
  unfold Row at h
  simp [World.frozen?, h]
theorem Row.new (w : World) (e : TypeId) (xs : List Value) : Row (w.alloc (.cells xs.toArray e)) w.heap.size e xs := heap_alloc_new w _
theorem Row.zeros (w : World) (e : TypeId) (z : Value) (n : Nat) : Row (w.alloc (.cells (zeros z n) e)) w.heap.size e (List.replicate n z) := heap_alloc_new w _
theorem Row.drew (h : Row w g e xs) : Row w.drew g e xs := h
theorem Row.drewN (h : Row w g e xs) (k : Nat) : Row (w.drewN k) g e xs := h
theorem Row.alloc (h : Row w g e xs) (o : Obj) : Row (w.alloc o) g e xs := (Below.heap_alloc w o g h.lt).trans h
theorem Row.set (h : Row w g e xs) (i : Nat) (u : Value) : Row (w.setCell ⟨g, i, none⟩ u) g e (xs.set i u) := by
  unfold Row at h ⊢
  simp [World.setCell, Array.getElem?_modify, h]
theorem Row.far (h : Row w g e xs) {p : Addr} (hp : g ≠ p.block) (u : Value) : Row (w.setCell p u) g e xs := (Below.heap_setCell w p u g hp).trans h
theorem Row.below {B : Nat} (h : Row w g e xs) (hb : Below B w w') (hg : g < B) : Row w' g e xs := (hb.block g hg).trans h
theorem Row.call (h : Row w g e xs) (hb : Below w.heap.size w w') : Row w' g e xs := h.below hb h.lt
theorem Row.grown {row : Option Nat} (h : Row w g e xs) (hb : w.grownBy w' row) (hg : some g ≠ row) : Row w' g e xs := (hb.block g h.lt hg).trans h
theorem Row.reads (h : Row w g e xs) (hn : xs.length = n) : Reads w w.heap.size (some ⟨g, 0, none⟩) n n xs :=
  ⟨hn, Nat.le_refl _, fun _ => ⟨_, rfl, h.lt, fun j u hu => by
    have := h.cell j
    rw [hu] at this
    rw [← this]
    congr 1
    unfold Addr.add
    split
    · subst_vars; rfl
    · simp⟩⟩
theorem Row.owns {base : Nat} (h : Row w g e xs) (hn : xs.length = n) (hb : base ≤ g) (hm : n ≤ maxLen) : w.ownsRow base e 1 (.slice (some ⟨g, 0, none⟩) n n) n xs :=
  ⟨by omega, .inr ⟨g, n, xs.toArray, rfl, hb, h, Nat.le_refl _, hm, by simpa using hn, by simpa using List.take_of_length_le (by omega)⟩⟩
end
theorem made_zeros (z : Value) (hz : z.cells = #[z]) (n : Nat) : madeCells z.cells n = zeros z n := by
  apply Array.ext'
  simp only [madeCells, zeros, hz]
  apply List.ext_getElem?
  intro i
  by_cases hi : i < n
  · simp [hi, Nat.mod_one]
  · simp [hi]
/-- make([]T, n): one-cell elements. -/
theorem run_make_row1 {P : Program} (t e : TypeId) (i : TypeInfo) (z : Value) (ht : P.underlying t = some (.slice e)) (hi : P.info? e = some i) (hz : i.zero = some z) (hsize : i.size = 1) (hby : i.bytes ≤ 64) (hzc : z.cells = #[z])
    (C : Int) (n : Nat) (hC : C = (n : Int)) (hn : n ≤ 1099511627776) (W : World) :
    (Instr.makeSlice t (.int .i64 C) (.int .i64 C)).run P W = .ok (.slice (some ⟨W.heap.size, 0, none⟩) n n) (W.alloc (.cells (zeros z n) e)) := by
  subst hC
  have hb : (i.bytes : Int) * (n : Int) ≤ 281474976710656 := by
    have h1 : i.bytes * n ≤ 64 * 1099511627776 := Nat.mul_le_mul hby hn
    have h2 : ((i.bytes * n : Nat) : Int) ≤ 281474976710656 := by omega
    rwa [Int.natCast_mul] at h2
  have hr := run_make (P := P) W t e i z ht hi hz .i64 .i64 n n (by omega) (by omega) hb (by omega)
  simp only [Int.toNat_natCast, hsize, Nat.mul_one, made_zeros z hzc] at hr
  exact hr

/-- copy(dst, src): dst a row of the call's own, as long as src. -/
theorem wpList_copy_full {P : Program} {W : World} {ops : Array Oper} {rest : List Oper} {o : Oper} {a : Act} {Q : Exit → Act → World → Prop} (hgd : o.guard = none) (d s : Operand) (T : TypeId)
    (ho : o.op = .call { callee := .builtin .copy, args := #[d, s], argTypes := #[T, T] }) (e : TypeId) (hu : P.underlying T = some (.slice e)) (hsz : (P.info? e).map (·.size) = some 1)
    (g : Nat) (cur xs : List Value) (n c : Nat) (hrow : Row W g e cur) (hcl : cur.length = n) (B : Nat) (A : Option Addr) (hr : Reads W B A n c xs)
    (hd : a.eval d = .slice (some ⟨g, 0, none⟩) n n) (hs : a.eval s = .slice A n c) (h1 : ∀ v ∈ xs, v.oneCell' = true) (B0 : Nat) (w0 : World) (hb : Below B0 w0 W) (hBg : B0 ≤ g)
    (h : ∀ w', Row w' g e xs → Below B0 w0 w' → wpList P ops Q rest (a.put o.dst (goInt xs.length)) w') : wpList P ops Q (o :: rest) a W := by
  have hl := hr.len
  refine wpList_copy_splice hgd d s T T ho e hu hsz (some ⟨g, 0, none⟩) A n n n c hd hs g 0 cur e hrow xs (by rw [hl]; exact (Nat.min_self n).symm) (fun hp => ?_) (by omega) h1 B0 w0 hb hBg ?_
  · obtain ⟨ad, e1, _, hc⟩ := hr.at_ (by omega)
    exact ⟨rfl, ad, e1, hc⟩
  · intro w' h2 h3
    refine h w' ?_ h3
    have h4 := h2.out
    unfold Row
    rw [h4]
    unfold splice
    simp [hl, hcl]
end Go.Proofs.Ytbbjlijdodnjaaa
