/- Lists of entries in memory. Over any program. -/
import Derived.Test.YtbbjlijdodnjaaaBlkMath
import Derived.Test.YtbbjlijdodnjaaaReadsK
import Derived.Test.YtbbjlijdodnjaaaRowOps
import Derived.Laws.OwnMore
namespace Go.Proofs.Ytbbjlijdodnjaaa
open Go.RowKit

structure Hd where
  A : Option Addr
  n : Nat
  c : Nat
/-- An entry with where its places lie. -/
abbrev Ent := Hd × En
def enC (x : Ent) : List Value := [.int .i64 x.2.1, .slice x.1.A x.1.n x.1.c]
theorem enC_len (x : Ent) : (enC x).length = 2 := rfl
theorem enC_one (l : List Ent) : ∀ u ∈ l.flatMap enC, u.oneCell' = true := by
  intro u hu
  obtain ⟨x, _, hx⟩ := List.mem_flatMap.1 hu
  simp only [enC, List.mem_cons, List.mem_nil_iff, or_false] at hx
  rcases hx with rfl | rfl <;> rfl
def vals (l : List Ent) : List En := l.map (·.2)
/-- The slice value '.slice A n c' reads as the entries l, all of it below block B. -/
structure ReadsE (w : World) (B : Nat) (A : Option Addr) (n c : Nat) (l : List Ent) : Prop where
  row : ReadsK 2 w B A n c (l.flatMap enC)
  pos : ∀ x ∈ l, Reads w B x.1.A x.1.n x.1.c (ints .i64 x.2.2)
section
variable {w w' : World} {B B' n c : Nat} {A : Option Addr} {l : List Ent}
theorem ReadsE.keep (h : ReadsE w B A n c l) (hk : ∀ p : Addr, p.block < B → w'.cell? p = w.cell? p) : ReadsE w' B A n c l :=
  ⟨h.row.keep hk, fun x hx => (h.pos x hx).keep hk⟩
theorem ReadsE.more (h : ReadsE w B A n c l) (hB : B ≤ B') : ReadsE w B' A n c l := ⟨h.row.more hB, fun x hx => (h.pos x hx).more hB⟩
theorem ReadsE.below (h : ReadsE w B A n c l) (hb : Below B w w') : ReadsE w' B A n c l := h.keep fun _ hp => hb.cell hp
theorem ReadsE.drewN (h : ReadsE w B A n c l) (k : Nat) : ReadsE (w.drewN k) B A n c l := h.keep fun _ _ => rfl
theorem ReadsE.alloc (h : ReadsE w B A n c l) (hB : B ≤ w.heap.size) (o : Obj) : ReadsE (w.alloc o) B A n c l := h.keep fun p hp => World.cell?_alloc_lt w o p (by omega)
theorem ReadsE.count (h : ReadsE w B A n c l) : l.length = n := h.row.count enC_len (by omega)
theorem ReadsE.vlen (h : ReadsE w B A n c l) : (vals l).length = n := by rw [vals, List.length_map]; exact h.count
theorem ReadsE.at' (h : ReadsE w B A n c l) {i : Nat} (hi : i < n) :
    ∃ (ad : Addr) (d : Int) (P : List Int) (A' : Option Addr) (c' : Nat), A = some ad ∧ ad.block < B ∧ enAt (vals l) i = (d, P) ∧ w.cell? (ad.add (i * 2)) = some (.int .i64 d) ∧ w.cell? ⟨(ad.add (i * 2)).block, (ad.add (i * 2)).off + 1, none⟩ = some (.slice A' P.length c') ∧ Reads w B A' P.length c' (ints .i64 P) := by
  obtain ⟨ad, hl, e, hb, c0, c1⟩ := h.row.at' enC_len (by omega) hi
  have hp := h.pos _ (List.getElem_mem hl)
  have hlen : l[i].2.2.length = l[i].1.n := by simpa using hp.len
  refine ⟨ad, l[i].2.1, l[i].2.2, l[i].1.A, l[i].1.c, e, hb, ?_, c0 _ rfl, ?_, ?_⟩
  · rw [enAt_get _ _ (by rw [vals, List.length_map]; exact hl)]
    simp [vals]
  · rw [hlen]; exact c1 1 _ (by omega) rfl
  · rw [hlen]; exact hp
theorem flat_take (l : List Ent) (m : Nat) : (l.flatMap enC).take (m * 2) = (l.take m).flatMap enC := by
  induction l generalizing m with
  | nil => simp
  | cons a l ih =>
    cases m with
    | zero => simp
    | succ m =>
      rw [List.take_succ_cons, List.flatMap_cons, List.flatMap_cons, show (m + 1) * 2 = (enC a).length + m * 2 from by rw [enC_len]; omega, List.take_length_add_append, ih]
theorem flat_drop (l : List Ent) (m : Nat) : (l.flatMap enC).drop (m * 2) = (l.drop m).flatMap enC := by
  induction l generalizing m with
  | nil => simp
  | cons a l ih =>
    cases m with
    | zero => simp
    | succ m =>
      rw [List.drop_succ_cons, List.flatMap_cons, show (m + 1) * 2 = (enC a).length + m * 2 from by rw [enC_len]; omega, List.drop_length_add_append, ih]
theorem ReadsE.front (h : ReadsE w B A n c l) {m : Nat} (hm : m ≤ n) : ReadsE w B A m c (l.take m) :=
  ⟨by rw [← flat_take]; exact h.row.front hm, fun x hx => h.pos x (List.mem_of_mem_take hx)⟩
theorem ReadsE.cut (h : ReadsE w B A n c l) {m : Nat} (hm : m ≤ n) : ReadsE w B (if c = m then A else A.map (·.add (m * 2))) (n - m) (c - m) (l.drop m) :=
  ⟨by rw [← flat_drop]; exact h.row.cut hm, fun x hx => h.pos x (List.mem_of_mem_drop hx)⟩
theorem vals_take (l : List Ent) (m : Nat) : vals (l.take m) = (vals l).take m := by rw [vals, vals, List.map_take]
theorem vals_drop (l : List Ent) (m : Nat) : vals (l.drop m) = (vals l).drop m := by rw [vals, vals, List.map_drop]
theorem ReadsE.nil_ (w : World) (B c : Nat) (A : Option Addr) : ReadsE w B A 0 c [] := ⟨⟨rfl, Nat.zero_le _, fun h => absurd h (by omega)⟩, by simp⟩
end
end Go.Proofs.Ytbbjlijdodnjaaa
