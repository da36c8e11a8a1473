/- Arguments of layer 14 as they come in. -/
import Derived.Test.YtbbjlijdodnjaaaFrame
import Derived.Test.YtbbjlijdodnjaaaImgMem
namespace Go.Proofs.Ytbbjlijdodnjaaa
open Go.RowKit Go.ChangeShapes Go.WideShapes Go.Deep

theorem flat_one {α β : Type} (f : α → β) (l : List α) : l.flatMap (fun x => [f x]) = l.map f := by
  induction l with
  | nil => rfl
  | cons a l ih => rw [List.flatMap_cons, ih]; rfl
def U32 (x : Int) : Prop := 0 ≤ x ∧ x < 4294967296
theorem wf_u32i {x : Int} (h : (Lit.int .u32 x).wf = true) : U32 x := by simp [Lit.wf, IntKind.min, IntKind.max, IntKind.signed, IntKind.bits] at h; unfold U32; omega
def RvOk (r : Rv) : Prop := U32 r.1 ∧ U32 r.2.1 ∧ U32 r.2.2.1 ∧ U32 r.2.2.2
section
variable {H : Type} {enc : TypeId × Value → H} {w : World} {base : Nat} {spare : Nat → Bool} {held : Bool} {r : Reach} {b0 : Nat} {v : Value} {d : DataW H} {p : List MemPlace}
theorem cells_ents {fuel : Nat} {cs : List Value} {x : DataW H × List MemPlace} (h : DataW.trod enc Try.prog w base spare held fuel 31 cs = some x) :
    ∃ A n c, ∃ l : List Ent, cs = [.slice A n c] ∧ ReadsE w w.heap.size A n c l ∧ c ≤ maxLen := by
  obtain ⟨A, n, c, l, hcs, hr, hm, hq, -⟩ := open_recs (f := enC) enC_len (by omega) (fun o : Ent => Reads w w.heap.size o.1.A o.1.n o.1.c (ints .i64 o.2.2)) Try.underlying31 (by kernel_rfl) (fun cs n y hy => by
    obtain ⟨hl, hf⟩ := open_cells Try.underlying52 (by kernel_rfl) (by kernel_rfl) hy
    obtain ⟨v0, m0, y0, e0, t0⟩ := hf 0 _ rfl
    obtain ⟨v1, m1, y1, e1, t1⟩ := hf 1 _ rfl
    obtain ⟨x0, hx0, -, g0⟩ := DataW.trod_int Try.underlying3 t0
    obtain ⟨A', n', c', P, hcs', hr', hm', -, -⟩ := open_recs (f := fun x : Int => [Value.int .i64 x]) (k := 1) (fun _ => rfl) (by omega) (fun _ => True) Try.underlying50 (by kernel_rfl) (fun cs n y hy => by
      obtain ⟨x, hx, -, _⟩ := DataW.trod_int Try.underlying3 hy
      exact ⟨x, hx, trivial⟩) t1
    simp at hx0 hcs'
    subst hx0 hcs'
    refine ⟨(⟨A', n', c'⟩, (x0, P)), ?_, ⟨by simpa [flat_one, ints] using hr'.len, hr'.cap, by simpa [flat_one, ints] using hr'.at_⟩⟩
    match cs, hl, e0, e1 with
    | [q0, q1], _, e0, e1 =>
      simp at e0 e1
      subst e0 e1
      rfl) h
  exact ⟨A, n, c, l, hcs, ⟨hr, hq⟩, hm⟩
theorem reads_rows (hval : Value.okWide Try.prog w r b0 22 v) (h : DataW.Trod enc Try.prog w base spare held 22 v d p) :
    ∃ A n c, ∃ l : List Rv, v = .slice A n c ∧ ReadsK 4 w w.heap.size A n c (l.flatMap rwC) ∧ c ≤ maxLen ∧ (∀ x ∈ l, RvOk x) := by
  obtain ⟨a0, len0, cap0, rfl⟩ := okWide_slice Try.underlying22 hval
  obtain ⟨fuel, hf⟩ := h
  obtain ⟨A, n, c, l, hcs, hr, hm, hq, -⟩ := open_recs (f := rwC) rwC_len (by omega) (fun o : Rv => RvOk o) Try.underlying22 (by kernel_rfl) (fun cs n y hy => by
    obtain ⟨hl, hf⟩ := open_cells Try.underlying54 (by kernel_rfl) (by kernel_rfl) hy
    obtain ⟨v0, m0, y0, e0, t0⟩ := hf 0 _ rfl
    obtain ⟨v1, m1, y1, e1, t1⟩ := hf 1 _ rfl
    obtain ⟨v2, m2, y2, e2, t2⟩ := hf 2 _ rfl
    obtain ⟨v3, m3, y3, e3, t3⟩ := hf 3 _ rfl
    obtain ⟨x0, hx0, -, g0⟩ := DataW.trod_int Try.underlying30 t0
    obtain ⟨x1, hx1, -, g1⟩ := DataW.trod_int Try.underlying30 t1
    obtain ⟨x2, hx2, -, g2⟩ := DataW.trod_int Try.underlying30 t2
    obtain ⟨x3, hx3, -, g3⟩ := DataW.trod_int Try.underlying30 t3
    simp at hx0 hx1 hx2 hx3
    subst hx0 hx1 hx2 hx3
    refine ⟨(x0, x1, x2, x3), ?_, wf_u32i g0, wf_u32i g1, wf_u32i g2, wf_u32i g3⟩
    match cs, hl, e0, e1, e2, e3 with
    | [q0, q1, q2, q3], _, e0, e1, e2, e3 =>
      simp at e0 e1 e2 e3
      subst e0 e1 e2 e3
      rfl) hf
  simp [Value.cells] at hcs
  obtain ⟨rfl, rfl, rfl⟩ := hcs
  exact ⟨_, _, _, l, rfl, hr, hm, hq⟩
theorem reads_lists (hval : Value.okWide Try.prog w r b0 23 v) (h : DataW.Trod enc Try.prog w base spare held 23 v d p) :
    ∃ A n c, ∃ l : List Lt, v = .slice A n c ∧ ReadsL w w.heap.size A n c l ∧ c ≤ maxLen ∧ True := by
  obtain ⟨a0, len0, cap0, rfl⟩ := okWide_slice Try.underlying23 hval
  obtain ⟨fuel, hf⟩ := h
  obtain ⟨A, n, c, l, hcs, hr, hm, hq, -⟩ := open_recs (f := ltC) ltC_len (by omega) (fun o : Lt => ReadsE w w.heap.size o.h.A o.h.n o.h.c o.es ∧ o.h.c ≤ maxLen ∧ o.key.size ≤ maxLen) Try.underlying23 (by kernel_rfl) (fun cs n y hy => by
    obtain ⟨hl, hf⟩ := open_cells Try.underlying47 (by kernel_rfl) (by kernel_rfl) hy
    obtain ⟨v0, m0, y0, e0, t0⟩ := hf 0 _ rfl
    obtain ⟨v1, m1, y1, e1, t1⟩ := hf 1 _ rfl
    obtain ⟨v2, m2, y2, e2, t2⟩ := hf 2 _ rfl
    obtain ⟨x0, hx0, _, hs0⟩ := DataW.trod_string Try.underlying9 t0
    obtain ⟨x1, hx1, -, _⟩ := DataW.trod_int Try.underlying3 t1
    obtain ⟨A', n', c', es, hcs', hr', hm'⟩ := cells_ents t2
    simp at hx0 hx1 hcs'
    subst hx0 hx1 hcs'
    refine ⟨⟨x0, x1, ⟨A', n', c'⟩, es⟩, ?_, hr', hm', hs0⟩
    match cs, hl, e0, e1, e2 with
    | [q0, q1, q2], _, e0, e1, e2 =>
      simp at e0 e1 e2
      subst e0 e1 e2
      rfl) hf
  simp [Value.cells] at hcs
  obtain ⟨rfl, rfl, rfl⟩ := hcs
  exact ⟨_, _, _, l, rfl, ⟨hr, fun x hx => (hq x hx).1, fun x hx => (hq x hx).2.1, fun x hx => (hq x hx).2.2⟩, hm, trivial⟩
end
end Go.Proofs.Ytbbjlijdodnjaaa
