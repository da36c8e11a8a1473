/- Nodes, lists of what was found: in memory. Over any program. -/
import Derived.Test.YtgjdjggakkmbgaaTreeMath
import Derived.Test.YtgjdjggakkmbgaaMatMem
namespace Go.Proofs.Ytgjdjggakkmbgaa
open Go.RowKit

def ndC : NodeM → List Value
  | .mk kind field th kh _ => [.int .i64 kind, .int .u8 field, .slice th.A th.n th.c, .slice kh.A kh.n kh.c]
theorem ndC_len (x : NodeM) : (ndC x).length = 4 := by cases x; rfl
inductive ReadsNd (w : World) (B : Nat) : NodeM → Prop where
  | mk {kind field : Int} {th kh : Hn} {kids : List NodeM} (l : List Tk) (ht : ReadsT w B th.A th.n th.c l) (hk : ReadsK 4 w B kh.A kh.n kh.c (kids.flatMap ndC)) (hc : kh.c ≤ maxLen) (hr : ∀ k ∈ kids, ReadsNd w B k) : ReadsNd w B (.mk kind field th kh kids)
theorem ReadsNd.keep {w w' : World} {B : Nat} {nd : NodeM} (h : ReadsNd w B nd) (hk : ∀ p : Addr, p.block < B → w'.cell? p = w.cell? p) : ReadsNd w' B nd := by
  induction h with
  | mk l ht hK hc _ ih => exact .mk l (ReadsK.keep ht hk) (hK.keep hk) hc (fun k hm => ih k hm)
theorem ReadsNd.more {w : World} {B B' : Nat} {nd : NodeM} (h : ReadsNd w B nd) (hB : B ≤ B') : ReadsNd w B' nd := by
  induction h with
  | mk l ht hK hc _ ih => exact .mk l (ReadsK.more ht hB) (hK.more hB) hc (fun k hm => ih k hm)
theorem ReadsNd.blw {w w' : World} {B : Nat} {nd : NodeM} (h : ReadsNd w B nd) (hb : Below B w w') : ReadsNd w' B nd := h.keep fun _ hp => hb.cell hp

/-- What a leaf has found, with where it lies. -/
abbrev Lf := Hd × List Fd
def lfC (x : Lf) : List Value := [.slice x.1.A x.1.n x.1.c]
theorem lfC_len (x : Lf) : (lfC x).length = 1 := rfl
def lfV (l : List Lf) : List (List Fd) := l.map (·.2)
structure ReadsF (w : World) (B : Nat) (A : Option Addr) (n c : Nat) (l : List Lf) : Prop where
  row : ReadsK 1 w B A n c (l.flatMap lfC)
  fnd : ∀ x ∈ l, ReadsK 2 w B x.1.A x.1.n x.1.c (x.2.flatMap fdC)
section
variable {w w' : World} {B B' n c : Nat} {A : Option Addr} {l : List Lf}
theorem ReadsF.keep (h : ReadsF w B A n c l) (hk : ∀ p : Addr, p.block < B → w'.cell? p = w.cell? p) : ReadsF w' B A n c l :=
  ⟨h.row.keep hk, fun x hx => (h.fnd x hx).keep hk⟩
theorem ReadsF.more (h : ReadsF w B A n c l) (hB : B ≤ B') : ReadsF w B' A n c l := ⟨h.row.more hB, fun x hx => (h.fnd x hx).more hB⟩
theorem ReadsF.below (h : ReadsF w B A n c l) (hb : Below B w w') : ReadsF w' B A n c l := h.keep fun _ hp => hb.cell hp
theorem ReadsF.drew (h : ReadsF w B A n c l) : ReadsF w.drew B A n c l := h.keep fun _ _ => rfl
theorem ReadsF.count (h : ReadsF w B A n c l) : l.length = n := h.row.count lfC_len (by omega)
theorem ReadsF.vlen (h : ReadsF w B A n c l) : (lfV l).length = n := by rw [lfV, List.length_map]; exact h.count
theorem ReadsF.at' (h : ReadsF w B A n c l) {i : Nat} (hi : i < n) :
    ∃ (ad : Addr) (A' : Option Addr) (n' c' : Nat) (f : List Fd), A = some ad ∧ ad.block < B ∧ w.cell? (ad.add i) = some (.slice A' n' c') ∧ ReadsK 2 w B A' n' c' (f.flatMap fdC) ∧ (lfV l)[i]? = some f := by
  obtain ⟨ad, hl, e, hb, c0, _⟩ := h.row.at' lfC_len (by omega) hi
  refine ⟨ad, _, _, _, l[i].2, e, hb, by have := c0 _ rfl; rwa [Nat.mul_one] at this, h.fnd _ (List.getElem_mem hl), ?_⟩
  rw [lfV, List.getElem?_map, List.getElem?_eq_getElem hl]
  rfl
theorem flatF_drop (l : List Lf) (m : Nat) : (l.flatMap lfC).drop (m * 1) = (l.drop m).flatMap lfC := by
  induction l generalizing m with
  | nil => simp
  | cons a l ih =>
    cases m with
    | zero => simp
    | succ m =>
      rw [List.drop_succ_cons, List.flatMap_cons, ← ih m]
      rfl
theorem ReadsF.tail (h : ReadsF w B A n c l) (hn : 1 ≤ n) : ReadsF w B (if c = 1 then A else A.map (·.add 1)) (n - 1) (c - 1) (l.drop 1) :=
  ⟨by rw [← flatF_drop]; exact h.row.cut hn, fun x hx => h.fnd x (List.mem_of_mem_drop hx)⟩
theorem ReadsF.nil_ (w : World) (B c : Nat) (A : Option Addr) : ReadsF w B A 0 c [] := ⟨⟨rfl, Nat.zero_le _, fun h => absurd h (by omega)⟩, by simp⟩
end
end Go.Proofs.Ytgjdjggakkmbgaa
