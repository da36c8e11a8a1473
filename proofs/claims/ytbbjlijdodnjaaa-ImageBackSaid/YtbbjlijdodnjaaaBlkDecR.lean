/- Lemmas for the walk of block.Decode. -/
import Derived.Test.YtbbjlijdodnjaaaBlkNext
import Derived.Test.YtbbjlijdodnjaaaBlkEnc
import Derived.Test.YtbbjlijdodnjaaaBlkEqual
import Derived.Laws.IdiomStrings
namespace Go.Proofs.Ytbbjlijdodnjaaa
open Go.RowKit

/-- Entries of the call's own: the row, and every list of places in a block apart from it. -/
structure OwnE (w : World) (B : Nat) (v : Value) (l : List Ent) : Prop where
  row : w.ownsRow B 52 2 v l.length (l.flatMap enC)
  pos : ∀ x ∈ l, w.ownsRow B 3 1 (.slice x.1.A x.1.n x.1.c) x.1.n (ints .i64 x.2.2)
  ap : ∀ x ∈ l, AP v (.slice x.1.A x.1.n x.1.c)
theorem OwnE.nil_ (w : World) (B : Nat) : OwnE w B (.slice none 0 0) [] := ⟨World.ownsRow_nil _ _ _ _, by simp, by simp⟩
/-- Blocks that are as they were: the rows lie below h, none of them in block g. -/
theorem OwnE.frame {w w' : World} {B h g : Nat} {v : Value} {l : List Ent} (he : OwnE w B v l) (hB : g < B) (hv : ∀ k, v.ownBlock = some k → k < h) (hp : ∀ x ∈ l, ∀ k, (Value.slice x.1.A x.1.n x.1.c).ownBlock = some k → k < h)
    (hk : ∀ k, k < h → k ≠ g → w'.heap[k]? = w.heap[k]?) : OwnE w' B v l := by
  have go : ∀ {e : TypeId} {s n : Nat} {u : Value} {xs : List Value}, w.ownsRow B e s u n xs → (∀ k, u.ownBlock = some k → k < h) → w'.ownsRow B e s u n xs := by
    intro e s n u xs ho hu
    refine ⟨ho.1, ?_⟩
    rcases ho.2 with h0 | ⟨b, cap, cur, e1, hbB, hgg, h3⟩
    · exact .inl h0
    · refine .inr ⟨b, cap, cur, e1, hbB, ?_, h3⟩
      rw [hk b (hu b (by rw [e1]; rfl)) (by omega)]
      exact hgg
  exact ⟨go he.row hv, fun x hx => go (he.pos x hx) (hp x hx), he.ap⟩
theorem OwnE.lt {w : World} {B : Nat} {v : Value} {l : List Ent} (he : OwnE w B v l) : (∀ k, v.ownBlock = some k → k < w.heap.size) ∧ ∀ x ∈ l, ∀ k, (Value.slice x.1.A x.1.n x.1.c).ownBlock = some k → k < w.heap.size :=
  ⟨fun k h => (he.row.lt k h).2, fun x hx k h => ((he.pos x hx).lt k h).2⟩
theorem OwnE.at_ {w w' : World} {B g : Nat} {v : Value} {l : List Ent} (he : OwnE w B v l) (hB : g < B) (hk : ∀ k, k ≠ g → w'.heap[k]? = w.heap[k]?) : OwnE w' B v l :=
  he.frame hB he.lt.1 he.lt.2 fun k _ h => hk k h
theorem OwnE.below {w w' : World} {B : Nat} {v : Value} {l : List Ent} (h : OwnE w B v l) (hb : Below w.heap.size w w') : OwnE w' B v l :=
  ⟨ownsRow_below h.row hb, fun x hx => ownsRow_below (h.pos x hx) hb, h.ap⟩
theorem OwnE.base {w : World} {B B' : Nat} {v : Value} {l : List Ent} (h : OwnE w B v l) (hB : B' ≤ B) : OwnE w B' v l :=
  ⟨ownsRow_base h.row hB, fun x hx => ownsRow_base (h.pos x hx) hB, h.ap⟩
theorem OwnE.drewN {w : World} {B : Nat} {v : Value} {l : List Ent} (h : OwnE w B v l) (q : Nat) : OwnE (w.drewN q) B v l := ⟨h.row, h.pos, h.ap⟩
theorem OwnE.reads {w : World} {B : Nat} {A : Option Addr} {n c : Nat} {l : List Ent} (h : OwnE w B (.slice A n c) l) (hn : n = l.length) : ReadsE w w.heap.size A n c l := by
  subst hn
  exact ⟨own_reads h.row, fun x hx => by
    obtain ⟨A', c', e, hr, _⟩ := ownsRow_slice (h.pos x hx)
    injection e with e1 e2 e3
    rw [e1, e3]
    exact hr⟩
theorem grown_at {w w' : World} {g : Nat} (hb : Below g w w') (hs : w'.heap.size = w.heap.size) (hk : ∀ k, k ≠ g → w'.heap[k]? = w.heap[k]?) : w.grownBy w' (some g) :=
  ⟨hb.os, hb.tape, hb.output, by omega, fun i _ hne => hk i (fun e => hne (by rw [e]))⟩
theorem conv_reads (w : World) (tb : List UInt8) (cap : Nat) (hcap : tb.length ≤ cap) (e : TypeId) (fr : Nat × Nat) : Reads (w.alloc (.cells (bytesRow ⟨tb.toArray⟩ cap) e fr)) (w.heap.size + 1) (some ⟨w.heap.size, 0, none⟩) tb.length cap (bys tb) := by
  refine ⟨bys_length tb, hcap, fun _ => ⟨_, rfl, Nat.lt_succ_self _, fun j u hu => ?_⟩⟩
  refine World.news_of_block (cs := bytesRow ⟨tb.toArray⟩ cap) (fr := fr) (heap_alloc_new w _) j u ?_
  have hj : j < tb.length := by
    have := (List.getElem?_eq_some_iff.1 hu).1
    rwa [bys_length] at this
  have h1 := bytesRow_at ⟨tb.toArray⟩ cap j (by simpa using hj)
  rw [Array.getElem?_toList, h1, ← hu]
  simp [bys, hj]
theorem pos_bd (b : List UInt8) (s : Nat × Bool) (k : Nat) : 0 ≤ (posSt b s k).2.1 ∧ (posSt b s k).2.1 ≤ 65536 * (k : Int) := by
  induction k with
  | zero => simp [posSt]
  | succ k ih =>
    have := next_bd b (posSt b s k).2.2
    rw [posSt]
    simp only
    omega
theorem pos_place (b : List UInt8) (s : Nat × Bool) (h : s.1 ≤ b.length) (k : Nat) : (posSt b s k).2.2.1 ≤ b.length := by
  induction k with
  | zero => exact h
  | succ k ih => rw [posSt]; exact next_le b _ ih
theorem pos_count (b : List UInt8) (s : Nat × Bool) (k : Nat) : (posSt b s k).1.length = k := by
  induction k with
  | zero => rfl
  | succ k ih => rw [posSt, List.length_append, ih]; rfl
theorem encA_len (l : List En) : (encA l).1.length ≤ 20000 := by
  rw [encA]
  split
  · rename_i h
    have hm := may_parts h
    have h1 := bodyB_len hm l.length (Nat.le_refl _)
    have h2 := hm.len
    rw [encL_len]
    omega
  · simp
theorem ent_count (b : List UInt8) (k : Nat) : (entSt b k).1.length = k := by
  induction k with
  | zero => rfl
  | succ k ih => rw [entSt, List.length_append, ih]; rfl
theorem ent_bd (b : List UInt8) (k : Nat) : 0 ≤ (entSt b k).2.1 ∧ (entSt b k).2.1 ≤ 65536 * (k : Int) := by
  induction k with
  | zero => simp [entSt]
  | succ k ih =>
    have := next_bd b (entSt b k).2.2
    rw [entSt]
    simp only [entR]
    split <;> omega
theorem ent_place (b : List UInt8) (k : Nat) : (entSt b k).2.2.1 ≤ b.length := by
  induction k with
  | zero => exact Nat.zero_le _
  | succ k ih =>
    rw [entSt]
    simp only [entR]
    exact pos_place b _ (next_le b _ (next_le b _ ih)) _
/-- An entry read, its parts named. -/
theorem ent_step (b : List UInt8) (k : Nat) (W x : Int) (s1 : Nat × Bool) (y : Int) (s2 : Nat × Bool) (hW : W = (if k % 4 = 0 then 0 else (entSt b k).2.1)) (h1 : nextR b (entSt b k).2.2 = (x, s1)) (h2 : nextR b s1 = (y, s2)) (M : Nat) (hM : M = (min y 257).toNat) :
    entSt b (k + 1) = ((entSt b k).1 ++ [(W + x, (posSt b s2 M).1)], W + x, (posSt b s2 M).2.2) := by
  rw [entSt, ← hW]
  simp only [entR, h1, h2, ← hM]
theorem decB_short {cells : List Int} (h : ¬ headOk cells) : decB cells = ([], 11) := by
  rw [decB, if_neg (fun k => h k.1)]
end Go.Proofs.Ytbbjlijdodnjaaa
