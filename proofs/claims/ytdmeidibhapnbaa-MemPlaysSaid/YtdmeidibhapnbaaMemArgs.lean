/- A []Op that came in, as a list. -/
import Derived.Test.YtdmeidibhapnbaaMemLaws
import Derived.Test.YtdmeidibhapnbaaFrame
namespace Go.Proofs.Ytdmeidibhapnbaa
open Go.RowKit Go.ChangeShapes Go.WideShapes Go.Deep

theorem reads_ops {H : Type} {enc : TypeId × Value → H} {w : World} {base : Nat} {spare : Nat → Bool} {held : Bool} {r : Reach} {b0 : Nat} {v : Value} {d : DataW H} {p : List MemPlace}
    (hval : Value.okWide Try.prog w r b0 23 v) (h : DataW.Trod enc Try.prog w base spare held 23 v d p) :
    ∃ A n c, ∃ l : List (Bool × Int × Int), v = .slice A n c ∧ ReadsK 3 w w.heap.size A n c (l.flatMap opCells) ∧ c ≤ maxLen ∧ ∀ o ∈ l, (Lit.int .i64 o.2.1).wf = true ∧ (Lit.int .u32 o.2.2).wf = true := by
  obtain ⟨a0, len0, cap0, rfl⟩ := okWide_slice Try.underlying23 hval
  obtain ⟨fuel, hf⟩ := h
  obtain ⟨A, n, c, l, hcs, hr, hm, hq, -⟩ := open_recs (f := opCells) opCells_len (by omega) (fun o => (Lit.int .i64 o.2.1).wf = true ∧ (Lit.int .u32 o.2.2).wf = true) Try.underlying23 (by kernel_rfl) (fun cs n y hy => by
    obtain ⟨hl, hf⟩ := open_cells Try.underlying36 (by kernel_rfl) (by kernel_rfl) hy
    obtain ⟨v0, m0, y0, e0, t0⟩ := hf 0 _ rfl
    obtain ⟨v1, m1, y1, e1, t1⟩ := hf 1 _ rfl
    obtain ⟨v2, m2, y2, e2, t2⟩ := hf 2 _ rfl
    obtain ⟨b0, hb0, -⟩ := DataW.trod_bool Try.underlying4 t0
    obtain ⟨x1, hx1, -, g1⟩ := DataW.trod_int Try.underlying3 t1
    obtain ⟨x2, hx2, -, g2⟩ := DataW.trod_int Try.underlying34 t2
    simp at hb0 hx1 hx2
    subst hb0 hx1 hx2
    refine ⟨(b0, x1, x2), ?_, g1, g2⟩
    match cs, hl, e0, e1, e2 with
    | [q0, q1, q2], _, e0, e1, e2 =>
      simp at e0 e1 e2
      subst e0 e1 e2
      rfl) hf
  simp [Value.cells] at hcs
  obtain ⟨rfl, rfl, rfl⟩ := hcs
  exact ⟨_, _, _, l, rfl, hr, hm, hq⟩
end Go.Proofs.Ytdmeidibhapnbaa
