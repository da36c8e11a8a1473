/- Terms, lists of lists, what is found: in memory. Over any program. -/
import Derived.Test.YtgjdjggakkmbgaaMatMath
import Derived.Test.YtgjdjggakkmbgaaEntMem
import Derived.Test.YtgjdjggakkmbgaaApart
namespace Go.Proofs.Ytgjdjggakkmbgaa
open Go.RowKit

structure Tk where
  f : Int
  s : ByteArray
  p : Int
def tkC (x : Tk) : List Value := [.int .u8 x.f, .string x.s, .int .i64 x.p]
theorem tkC_len (x : Tk) : (tkC x).length = 3 := rfl
def tkP (l : List Tk) : List Int := l.map (·.p)
abbrev ReadsT (w : World) (B : Nat) (A : Option Addr) (n c : Nat) (l : List Tk) : Prop := ReadsK 3 w B A n c (l.flatMap tkC)
section
variable {w w' : World} {B B' n c : Nat} {A : Option Addr} {l : List Tk}
theorem ReadsK.tk (h : ReadsT w B A n c l) {i : Nat} (hi : i < n) :
    ∃ (ad : Addr) (f : Int) (s : ByteArray), A = some ad ∧ ad.block < B ∧ i < (tkP l).length ∧ w.cell? (ad.add (i * 3)) = some (.int .u8 f) ∧ w.cell? ⟨(ad.add (i * 3)).block, (ad.add (i * 3)).off + 1, none⟩ = some (.string s) ∧ w.cell? ⟨(ad.add (i * 3)).block, (ad.add (i * 3)).off + 2, none⟩ = some (.int .i64 ((tkP l).getD i 0)) := by
  obtain ⟨ad, hl, e, hb, c0, c1⟩ := h.at' tkC_len (by omega) hi
  refine ⟨ad, l[i].f, l[i].s, e, hb, by rw [tkP, List.length_map]; exact hl, c0 _ rfl, c1 1 _ (by omega) rfl, ?_⟩
  rw [tkP, List.getD, List.getElem?_map, List.getElem?_eq_getElem hl]
  exact c1 2 _ (by omega) rfl
theorem ReadsK.tkLen (h : ReadsT w B A n c l) : (tkP l).length = n := by rw [tkP, List.length_map]; exact h.count tkC_len (by omega)
end
/-- A list of lists: each with where it lies. -/
abbrev Ln := Hd × List Ent
def lnC (x : Ln) : List Value := [.slice x.1.A x.1.n x.1.c]
theorem lnC_len (x : Ln) : (lnC x).length = 1 := rfl
def lnV (l : List Ln) : List (List En) := l.map fun x => vals x.2
structure ReadsL (w : World) (B : Nat) (A : Option Addr) (n c : Nat) (l : List Ln) : Prop where
  row : ReadsK 1 w B A n c (l.flatMap lnC)
  ent : ∀ x ∈ l, ReadsE w B x.1.A x.1.n x.1.c x.2
section
variable {w w' : World} {B B' n c : Nat} {A : Option Addr} {l : List Ln}
theorem ReadsL.keep (h : ReadsL w B A n c l) (hk : ∀ p : Addr, p.block < B → w'.cell? p = w.cell? p) : ReadsL w' B A n c l :=
  ⟨h.row.keep hk, fun x hx => (h.ent x hx).keep hk⟩
theorem ReadsL.more (h : ReadsL w B A n c l) (hB : B ≤ B') : ReadsL w B' A n c l := ⟨h.row.more hB, fun x hx => (h.ent x hx).more hB⟩
theorem ReadsL.below (h : ReadsL w B A n c l) (hb : Below B w w') : ReadsL w' B A n c l := h.keep fun _ hp => hb.cell hp
theorem ReadsL.drewN (h : ReadsL w B A n c l) (k : Nat) : ReadsL (w.drewN k) B A n c l := h.keep fun _ _ => rfl
theorem ReadsL.count (h : ReadsL w B A n c l) : l.length = n := h.row.count lnC_len (by omega)
theorem ReadsL.vlen (h : ReadsL w B A n c l) : (lnV l).length = n := by rw [lnV, List.length_map]; exact h.count
theorem ReadsL.at' (h : ReadsL w B A n c l) {i : Nat} (hi : i < n) :
    ∃ (ad : Addr) (A' : Option Addr) (n' c' : Nat) (l' : List Ent), A = some ad ∧ ad.block < B ∧ w.cell? (ad.add i) = some (.slice A' n' c') ∧ ReadsE w B A' n' c' l' ∧ vals l' = (lnV l).getD i [] ∧ (l[i]?).map (·.2) = some l' := by
  obtain ⟨ad, hl, e, hb, c0, _⟩ := h.row.at' lnC_len (by omega) hi
  refine ⟨ad, _, _, _, l[i].2, e, hb, by have := c0 _ rfl; rwa [Nat.mul_one] at this, h.ent _ (List.getElem_mem hl), ?_, ?_⟩
  · rw [lnV, List.getD, List.getElem?_map, List.getElem?_eq_getElem hl]
    rfl
  · rw [List.getElem?_eq_getElem hl]; rfl
end
/-- What is found. -/
def fdC (x : Fd) : List Value := [.int .i64 x.1, .int .i64 x.2]
theorem fdC_len (x : Fd) : (fdC x).length = 2 := rfl
theorem ReadsK.fd {w : World} {B n c : Nat} {A : Option Addr} {l : List Fd} (h : ReadsK 2 w B A n c (l.flatMap fdC)) {i : Nat} (hi : i < n) :
    ∃ (ad : Addr) (hl : i < l.length), A = some ad ∧ ad.block < B ∧ w.cell? (ad.add (i * 2)) = some (.int .i64 l[i].1) ∧ w.cell? ⟨(ad.add (i * 2)).block, (ad.add (i * 2)).off + 1, none⟩ = some (.int .i64 l[i].2) := by
  obtain ⟨ad, hl, e, hb, c0, c1⟩ := h.at' fdC_len (by omega) hi
  exact ⟨ad, hl, e, hb, c0 _ rfl, c1 1 _ (by omega) rfl⟩
end Go.Proofs.Ytgjdjggakkmbgaa
