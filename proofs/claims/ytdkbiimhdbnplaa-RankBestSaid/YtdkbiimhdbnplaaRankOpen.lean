/- Documents that were found, as they come in. -/
import Derived.Test.YtdkbiimhdbnplaaRankSame
import Derived.Test.YtdkbiimhdbnplaaOpen
import Derived.Test.YtdkbiimhdbnplaaFrame
namespace Go.Proofs.Ytdkbiimhdbnplaa
open Go.RowKit Go.ChangeShapes Go.WideShapes Go.Deep

theorem wf64 {x : Int} (h : (Lit.int .i64 x).wf = true) : -9223372036854775808 ≤ x ∧ x ≤ 9223372036854775807 := by
  simp [Lit.wf, IntKind.min, IntKind.max, IntKind.signed, IntKind.bits] at h; omega
section
variable {H : Type} {enc : TypeId × Value → H} {w : World} {base : Nat} {spare : Nat → Bool} {held : Bool} {r : Reach} {b0 : Nat} {v : Value} {d : DataW H} {p : List MemPlace}
theorem sc_of {cs : List Value} (hf : Fit (CellR enc Try.prog w base spare held) cs [3, 24, 25]) : ∃ x : Sc, cs = scC x ∧ ScOk x := by
  match cs, hf with
  | [v0, v1, v2], hf =>
    obtain ⟨h0, h1, h2, _⟩ := hf
    obtain ⟨x0, rfl, g0⟩ := h0.int Try.underlying3
    obtain ⟨x1, rfl, _⟩ := h1.int Try.underlying24
    obtain ⟨x2, rfl, g2⟩ := h2.float Try.underlying25
    exact ⟨(x0, x1, x2), rfl, (wf64 g0).1, (wf64 g0).2, wfF g2⟩
theorem open_sc (hval : Value.okWide Try.prog w r b0 27 v) (h : DataW.Trod enc Try.prog w base spare held 27 v d p) : ∃ x : Sc, v = scV x ∧ ScOk x := by
  obtain ⟨cs, rfl, hf⟩ := open_struct_cells 6 Try.underlying27 (by kernel_rfl) hval h
  rw [show leafT Try.prog 6 27 = [3, 24, 25] from by kernel_rfl] at hf
  obtain ⟨x, hx, ho⟩ := sc_of hf
  refine ⟨x, ?_, ho⟩
  obtain ⟨l⟩ := cs
  simp only at hx
  rw [hx]
  rfl
theorem reads_scs (hval : Value.okWide Try.prog w r b0 22 v) (h : DataW.Trod enc Try.prog w base spare held 22 v d p) :
    ∃ A n c, ∃ l : List Sc, v = .slice A n c ∧ ReadsK 3 w w.heap.size A n c (l.flatMap scC) ∧ c ≤ maxLen ∧ ∀ o ∈ l, ScOk o := by
  obtain ⟨a0, len0, cap0, rfl⟩ := okWide_slice Try.underlying22 hval
  obtain ⟨fuel, hf⟩ := h
  obtain ⟨A, n, c, l, hcs, hr, hm, hq, -⟩ := open_recs (f := scC) scC_len (by omega) ScOk Try.underlying22 (by kernel_rfl) (fun cs n y hy => by
    have hl : cs.length = Try.prog.cellsOf 27 := by
      obtain ⟨xs, m, _, _, hlen, _⟩ := DataW.trod_struct Try.underlying27 hy
      exact hlen
    have hfit := fit_of 6 27 (by kernel_rfl) hl hy
    rw [show leafT Try.prog 6 27 = [3, 24, 25] from by kernel_rfl] at hfit
    exact sc_of hfit) hf
  simp [Value.cells] at hcs
  obtain ⟨rfl, rfl, rfl⟩ := hcs
  exact ⟨_, _, _, l, rfl, hr, hm, hq⟩
end
end Go.Proofs.Ytdkbiimhdbnplaa
