/- Rows, lists with keys, lists of cells: in memory. Over any program. -/
import Derived.Test.YtbbjlijdodnjaaaImgMath
import Derived.Test.YtbbjlijdodnjaaaBlkMem
import Derived.Test.YtbbjlijdodnjaaaApart
namespace Go.Proofs.Ytbbjlijdodnjaaa
open Go.RowKit

def rwC (r : Rv) : List Value := [.int .u32 r.1, .int .u32 r.2.1, .int .u32 r.2.2.1, .int .u32 r.2.2.2]
theorem rwC_len (r : Rv) : (rwC r).length = 4 := rfl
theorem rwC_ints (l : List Rv) : l.flatMap rwC = ints .u32 (l.flatMap rwI) := by
  induction l with
  | nil => rfl
  | cons a l ih => rw [List.flatMap_cons, List.flatMap_cons, ints_append, ih]; rfl
/-- A list with where its entries lie. -/
structure Lt where
  key : ByteArray
  rc : Int
  h : Hd
  es : List Ent
def ltC (x : Lt) : List Value := [.string x.key, .int .i64 x.rc, .slice x.h.A x.h.n x.h.c]
theorem ltC_len (x : Lt) : (ltC x).length = 3 := rfl
def ltV (l : List Lt) : List LV := l.map fun x => (x.key, x.rc, vals x.es)
structure ReadsL (w : World) (B : Nat) (A : Option Addr) (n c : Nat) (l : List Lt) : Prop where
  row : ReadsK 3 w B A n c (l.flatMap ltC)
  ent : ∀ x ∈ l, ReadsE w B x.h.A x.h.n x.h.c x.es
  cap : ∀ x ∈ l, x.h.c ≤ maxLen
  ks : ∀ x ∈ l, x.key.size ≤ maxLen
section
variable {w w' : World} {B B' n c : Nat} {A : Option Addr} {l : List Lt}
theorem ReadsL.keep (h : ReadsL w B A n c l) (hk : ∀ p : Addr, p.block < B → w'.cell? p = w.cell? p) : ReadsL w' B A n c l :=
  ⟨h.row.keep hk, fun x hx => (h.ent x hx).keep hk, h.cap, h.ks⟩
theorem ReadsL.more (h : ReadsL w B A n c l) (hB : B ≤ B') : ReadsL w B' A n c l := ⟨h.row.more hB, fun x hx => (h.ent x hx).more hB, h.cap, h.ks⟩
theorem ReadsL.below (h : ReadsL w B A n c l) (hb : Below B w w') : ReadsL w' B A n c l := h.keep fun _ hp => hb.cell hp
theorem ReadsL.drewN (h : ReadsL w B A n c l) (k : Nat) : ReadsL (w.drewN k) B A n c l := h.keep fun _ _ => rfl
theorem ReadsL.nil_ (w : World) (B c : Nat) (A : Option Addr) : ReadsL w B A 0 c [] := ⟨⟨rfl, Nat.zero_le _, fun h => absurd h (by omega)⟩, by simp, by simp, by simp⟩
theorem ReadsL.count (h : ReadsL w B A n c l) : l.length = n := h.row.count ltC_len (by omega)
theorem ReadsL.vlen (h : ReadsL w B A n c l) : (ltV l).length = n := by rw [ltV, List.length_map]; exact h.count
theorem ReadsL.ksz (h : ReadsL w B A n c l) (i : Nat) (hi : i < n) : (lvAt (ltV l) i).1.size ≤ maxLen := by
  have hl : i < l.length := by rw [h.count]; exact hi
  rw [lvAt_get _ _ (by rw [ltV, List.length_map]; exact hl)]
  simpa [ltV] using h.ks _ (List.getElem_mem hl)
theorem ReadsL.at' (h : ReadsL w B A n c l) {i : Nat} (hi : i < n) :
    ∃ (ad : Addr) (k : ByteArray) (r : Int) (A' : Option Addr) (n' c' : Nat) (es : List Ent), A = some ad ∧ ad.block < B ∧ lvAt (ltV l) i = (k, r, vals es) ∧ w.cell? (ad.add (i * 3)) = some (.string k) ∧ w.cell? ⟨(ad.add (i * 3)).block, (ad.add (i * 3)).off + 1, none⟩ = some (.int .i64 r) ∧ w.cell? ⟨(ad.add (i * 3)).block, (ad.add (i * 3)).off + 2, none⟩ = some (.slice A' n' c') ∧ ReadsE w B A' n' c' es ∧ c' ≤ maxLen := by
  obtain ⟨ad, hl, e, hb, c0, c1⟩ := h.row.at' ltC_len (by omega) hi
  refine ⟨ad, l[i].key, l[i].rc, l[i].h.A, l[i].h.n, l[i].h.c, l[i].es, e, hb, ?_, c0 _ rfl, c1 1 _ (by omega) rfl, c1 2 _ (by omega) rfl, h.ent _ (List.getElem_mem hl), h.cap _ (List.getElem_mem hl)⟩
  rw [lvAt_get _ _ (by rw [ltV, List.length_map]; exact hl)]
  simp [ltV]
end
section
variable {w w' : World} {B n c : Nat} {A : Option Addr} {l : List Rv}
theorem ReadsK.rw_ (h : ReadsK 4 w B A n c (l.flatMap rwC)) {i : Nat} (hi : i < n) :
    ∃ (ad : Addr) (hl : i < l.length), A = some ad ∧ ad.block < B ∧ w.cell? (ad.add (i * 4)) = some (.int .u32 l[i].1) ∧ w.cell? ⟨(ad.add (i * 4)).block, (ad.add (i * 4)).off + 1, none⟩ = some (.int .u32 l[i].2.1) ∧ w.cell? ⟨(ad.add (i * 4)).block, (ad.add (i * 4)).off + 2, none⟩ = some (.int .u32 l[i].2.2.1) ∧ w.cell? ⟨(ad.add (i * 4)).block, (ad.add (i * 4)).off + 3, none⟩ = some (.int .u32 l[i].2.2.2) := by
  obtain ⟨ad, hl, e, hb, c0, c1⟩ := h.at' rwC_len (by omega) hi
  exact ⟨ad, hl, e, hb, c0 _ rfl, c1 1 _ (by omega) rfl, c1 2 _ (by omega) rfl, c1 3 _ (by omega) rfl⟩
end
/-- A list of cells, with where it lies. -/
abbrev Cl := Hd × List Int
def clC (x : Cl) : List Value := [.slice x.1.A x.1.n x.1.c]
theorem clC_len (x : Cl) : (clC x).length = 1 := rfl
/-- Lists of cells of the call's own: the row, and every list in a block apart from it. -/
structure OwnC (t e : TypeId) (w : World) (B : Nat) (v : Value) (l : List Cl) : Prop where
  row : w.ownsRow B t 1 v l.length (l.flatMap clC)
  cell : ∀ x ∈ l, w.ownsRow B e 1 (.slice x.1.A x.1.n x.1.c) x.2.length (ints .u32 x.2)
  ap : ∀ x ∈ l, AP v (.slice x.1.A x.1.n x.1.c)
theorem OwnC.nil_ (t e : TypeId) (w : World) (B : Nat) : OwnC t e w B (.slice none 0 0) [] := ⟨World.ownsRow_nil _ _ _ _, by simp, by simp⟩
theorem OwnC.below {t e : TypeId} {w w' : World} {B : Nat} {v : Value} {l : List Cl} (h : OwnC t e w B v l) (hb : Below w.heap.size w w') : OwnC t e w' B v l :=
  ⟨ownsRow_below h.row hb, fun x hx => ownsRow_below (h.cell x hx) hb, h.ap⟩
theorem OwnC.drew {t e : TypeId} {w : World} {B : Nat} {v : Value} {l : List Cl} (h : OwnC t e w B v l) : OwnC t e w.drew B v l := ⟨h.row, h.cell, h.ap⟩
structure ReadsC (w : World) (B : Nat) (A : Option Addr) (n c : Nat) (l : List Cl) : Prop where
  row : ReadsK 1 w B A n c (l.flatMap clC)
  cell : ∀ x ∈ l, Reads w B x.1.A x.1.n x.1.c (ints .u32 x.2)
theorem OwnC.reads {t e : TypeId} {w : World} {B : Nat} {A : Option Addr} {n c : Nat} {l : List Cl} (h : OwnC t e w B (.slice A n c) l) (hn : n = l.length) : ReadsC w w.heap.size A n c l := by
  subst hn
  exact ⟨own_reads h.row, fun x hx => by
    obtain ⟨A', c', e, hr, _⟩ := ownsRow_slice (h.cell x hx)
    injection e with e1 e2 e3
    have hl := hr.len
    rw [ints_length] at hl
    rw [e1, e2, e3]
    exact hr⟩
section
variable {w w' : World} {B B' n c : Nat} {A : Option Addr} {l : List Cl}
theorem ReadsC.keep (h : ReadsC w B A n c l) (hk : ∀ p : Addr, p.block < B → w'.cell? p = w.cell? p) : ReadsC w' B A n c l :=
  ⟨h.row.keep hk, fun x hx => (h.cell x hx).keep hk⟩
theorem ReadsC.more (h : ReadsC w B A n c l) (hB : B ≤ B') : ReadsC w B' A n c l := ⟨h.row.more hB, fun x hx => (h.cell x hx).more hB⟩
theorem ReadsC.below (h : ReadsC w B A n c l) (hb : Below B w w') : ReadsC w' B A n c l := h.keep fun _ hp => hb.cell hp
theorem ReadsC.count (h : ReadsC w B A n c l) : l.length = n := h.row.count clC_len (by omega)
theorem ReadsC.at' (h : ReadsC w B A n c l) {i : Nat} (hi : i < n) :
    ∃ (ad : Addr) (A' : Option Addr) (n' c' : Nat) (hl : i < l.length), A = some ad ∧ ad.block < B ∧ w.cell? (ad.add i) = some (.slice A' n' c') ∧ n' = l[i].2.length ∧ Reads w B A' n' c' (ints .u32 l[i].2) := by
  obtain ⟨ad, hl, e, hb, c0, _⟩ := h.row.at' clC_len (by omega) hi
  have hr := h.cell _ (List.getElem_mem hl)
  exact ⟨ad, l[i].1.A, l[i].1.n, l[i].1.c, hl, e, hb, by have := c0 _ rfl; rwa [Nat.mul_one] at this, by have := hr.len; rw [ints_length] at this; exact this.symm, hr⟩
end
end Go.Proofs.Ytbbjlijdodnjaaa
