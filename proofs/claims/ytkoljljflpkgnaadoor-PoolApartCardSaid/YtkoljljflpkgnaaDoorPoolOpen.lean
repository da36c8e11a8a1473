/- A configuration, six numbers, wants: as they come in. -/
import Derived.Test.YtkoljljflpkgnaaDoorPoolLaws
import Derived.Test.YtkoljljflpkgnaaDoorOpen
import Derived.Test.YtkoljljflpkgnaaDoorReadsK
namespace Go.Proofs.YtkoljljflpkgnaaDoor
open Go.RowKit Go.ChangeShapes Go.WideShapes Go.Deep

def six4 (a b c d : Int) : Nat → Int | 0 => a | 1 => b | 2 => c | _ => d
def six6 (a b c d e f : Int) : Nat → Int | 0 => a | 1 => b | 2 => c | 3 => d | 4 => e | _ => f
section
variable {H : Type} {enc : TypeId × Value → H} {w : World} {base : Nat} {spare : Nat → Bool} {held : Bool} {r : Reach} {b0 : Nat} {v : Value} {d : DataW H} {p : List MemPlace}
theorem open_conf (hval : Value.okWide Tryd.prog w r b0 25 v) (h : DataW.Trod enc Tryd.prog w base spare held 25 v d p) : ∃ c : Cf, v = c.val ∧ c.Wf := by
  obtain ⟨cs, rfl, hf⟩ := open_struct_cells 6 Tryd.underlying25 (by kernel_rfl) hval h
  rw [show leafT Tryd.prog 6 25 = [3, 3, 3, 3, 3, 3, 3, 3, 23, 23] from by kernel_rfl] at hf
  obtain ⟨l⟩ := cs
  match l, hf with
  | [v0, v1, v2, v3, v4, v5, v6, v7, v8, v9], hf =>
    obtain ⟨h0, h1, h2, h3, h4, h5, h6, h7, h8, h9, _⟩ := hf
    obtain ⟨x0, rfl, _⟩ := h0.int Tryd.underlying3
    obtain ⟨x1, rfl, _⟩ := h1.int Tryd.underlying3
    obtain ⟨x2, rfl, g2⟩ := h2.int Tryd.underlying3
    obtain ⟨x3, rfl, g3⟩ := h3.int Tryd.underlying3
    obtain ⟨x4, rfl, g4⟩ := h4.int Tryd.underlying3
    obtain ⟨x5, rfl, g5⟩ := h5.int Tryd.underlying3
    obtain ⟨x6, rfl, _⟩ := h6.int Tryd.underlying3
    obtain ⟨x7, rfl, _⟩ := h7.int Tryd.underlying3
    obtain ⟨x8, rfl, _⟩ := h8.float Tryd.underlying23
    obtain ⟨x9, rfl, _⟩ := h9.float Tryd.underlying23
    refine ⟨⟨x0, x1, six4 x2 x3 x4 x5, x6, x7, x8, x9⟩, rfl, fun j hj => ?_⟩
    rcases (show j = 0 ∨ j = 1 ∨ j = 2 ∨ j = 3 from by omega) with rfl | rfl | rfl | rfl
    · exact g2
    · exact g3
    · exact g4
    · exact g5
theorem open_six (hval : Value.okWide Tryd.prog w r b0 26 v) (h : DataW.Trod enc Tryd.prog w base spare held 26 v d p) : ∃ u : Nat → Int, v = sixV u ∧ True := by
  obtain ⟨cs, rfl, hf⟩ := open_array_cells 6 Tryd.underlying26 (by kernel_rfl) hval h
  rw [show leafT Tryd.prog 6 26 = [3, 3, 3, 3, 3, 3] from by kernel_rfl] at hf
  obtain ⟨l⟩ := cs
  match l, hf with
  | [v0, v1, v2, v3, v4, v5], hf =>
    obtain ⟨h0, h1, h2, h3, h4, h5, _⟩ := hf
    obtain ⟨x0, rfl, _⟩ := h0.int Tryd.underlying3
    obtain ⟨x1, rfl, _⟩ := h1.int Tryd.underlying3
    obtain ⟨x2, rfl, _⟩ := h2.int Tryd.underlying3
    obtain ⟨x3, rfl, _⟩ := h3.int Tryd.underlying3
    obtain ⟨x4, rfl, _⟩ := h4.int Tryd.underlying3
    obtain ⟨x5, rfl, _⟩ := h5.int Tryd.underlying3
    exact ⟨six6 x0 x1 x2 x3 x4 x5, rfl, trivial⟩
def wantC (x : Int × Int) : List Value := [.int .i64 x.1, .int .i64 x.2]
theorem wantC_len (x : Int × Int) : (wantC x).length = 2 := rfl
theorem reads_wants (hval : Value.okWide Tryd.prog w r b0 36 v) (h : DataW.Trod enc Tryd.prog w base spare held 36 v d p) :
    ∃ A n c, ∃ l : List (Int × Int), v = .slice A n c ∧ ReadsK 2 w w.heap.size A n c (l.flatMap wantC) ∧ c ≤ maxLen ∧ ∀ o ∈ l, (Lit.int .i64 o.1).wf = true ∧ (Lit.int .i64 o.2).wf = true := by
  obtain ⟨a0, len0, cap0, rfl⟩ := okWide_slice Tryd.underlying36 hval
  obtain ⟨fuel, hf⟩ := h
  obtain ⟨A, n, c, l, hcs, hr, hm, hq, -⟩ := open_recs (f := wantC) wantC_len (by omega) (fun o => (Lit.int .i64 o.1).wf = true ∧ (Lit.int .i64 o.2).wf = true) Tryd.underlying36 (by kernel_rfl) (fun cs n y hy => by
    obtain ⟨hl, hf⟩ := open_cells Tryd.underlying39 (by kernel_rfl) (by kernel_rfl) hy
    obtain ⟨v0, m0, y0, e0, t0⟩ := hf 0 _ rfl
    obtain ⟨v1, m1, y1, e1, t1⟩ := hf 1 _ rfl
    obtain ⟨x0, hx0, -, g0⟩ := DataW.trod_int Tryd.underlying3 t0
    obtain ⟨x1, hx1, -, g1⟩ := DataW.trod_int Tryd.underlying3 t1
    simp at hx0 hx1
    subst hx0 hx1
    refine ⟨(x0, x1), ?_, g0, g1⟩
    match cs, hl, e0, e1 with
    | [q0, q1], _, e0, e1 =>
      simp at e0 e1
      subst e0 e1
      rfl) hf
  simp [Value.cells] at hcs
  obtain ⟨rfl, rfl, rfl⟩ := hcs
  exact ⟨_, _, _, l, rfl, hr, hm, hq⟩
end
end Go.Proofs.YtkoljljflpkgnaaDoor
