/- Arguments of layer 18 as they come in. -/
import Derived.Test.YtgjdjggakkmbgaaFrame
import Derived.Test.YtgjdjggakkmbgaaNodeMem
namespace Go.Proofs.Ytgjdjggakkmbgaa
open Go.RowKit Go.ChangeShapes Go.WideShapes Go.Deep

theorem flat_one {α β : Type} (f : α → β) (l : List α) : l.flatMap (fun x => [f x]) = l.map f := by
  induction l with
  | nil => rfl
  | cons a l ih => rw [List.flatMap_cons, ih]; rfl
section
variable {H : Type} {enc : TypeId × Value → H} {w : World} {base : Nat} {spare : Nat → Bool} {held : Bool} {r : Reach} {b0 : Nat} {v : Value} {d : DataW H} {p : List MemPlace}
theorem cells_toks {fuel : Nat} {cs : List Value} {x : DataW H × List MemPlace} (h : DataW.trod enc Try.prog w base spare held fuel 22 cs = some x) :
    ∃ A n c, ∃ l : List Tk, cs = [.slice A n c] ∧ ReadsT w w.heap.size A n c l ∧ c ≤ maxLen := by
  obtain ⟨A, n, c, l, hcs, hr, hm, -, -⟩ := open_recs (f := tkC) tkC_len (by omega) (fun _ => True) Try.underlying22 (by kernel_rfl) (fun cs n y hy => by
    obtain ⟨hl, hf⟩ := open_cells Try.underlying41 (by kernel_rfl) (by kernel_rfl) hy
    obtain ⟨v0, m0, y0, e0, t0⟩ := hf 0 _ rfl
    obtain ⟨v1, m1, y1, e1, t1⟩ := hf 1 _ rfl
    obtain ⟨v2, m2, y2, e2, t2⟩ := hf 2 _ rfl
    obtain ⟨x0, hx0, -, _⟩ := DataW.trod_int Try.underlying5 t0
    obtain ⟨x1, hx1, _⟩ := DataW.trod_string Try.underlying9 t1
    obtain ⟨x2, hx2, -, _⟩ := DataW.trod_int Try.underlying3 t2
    simp at hx0 hx1 hx2
    subst hx0 hx1 hx2
    refine ⟨⟨x0, x1, x2⟩, ?_, trivial⟩
    match cs, hl, e0, e1, e2 with
    | [q0, q1, q2], _, e0, e1, e2 =>
      simp at e0 e1 e2
      subst e0 e1 e2
      rfl) h
  exact ⟨A, n, c, l, hcs, hr, hm⟩
theorem cells_ents {fuel : Nat} {cs : List Value} {x : DataW H × List MemPlace} (h : DataW.trod enc Try.prog w base spare held fuel 42 cs = some x) :
    ∃ A n c, ∃ l : List Ent, cs = [.slice A n c] ∧ ReadsE w w.heap.size A n c l ∧ c ≤ maxLen := by
  obtain ⟨A, n, c, l, hcs, hr, hm, hq, -⟩ := open_recs (f := enC) enC_len (by omega) (fun o : Ent => Reads w w.heap.size o.1.A o.1.n o.1.c (ints .i64 o.2.2)) Try.underlying42 (by kernel_rfl) (fun cs n y hy => by
    obtain ⟨hl, hf⟩ := open_cells Try.underlying46 (by kernel_rfl) (by kernel_rfl) hy
    obtain ⟨v0, m0, y0, e0, t0⟩ := hf 0 _ rfl
    obtain ⟨v1, m1, y1, e1, t1⟩ := hf 1 _ rfl
    obtain ⟨x0, hx0, -, g0⟩ := DataW.trod_int Try.underlying3 t0
    obtain ⟨A', n', c', P, hcs', hr', hm', -, -⟩ := open_recs (f := fun x : Int => [Value.int .i64 x]) (k := 1) (fun _ => rfl) (by omega) (fun _ => True) Try.underlying32 (by kernel_rfl) (fun cs n y hy => by
      obtain ⟨x, hx, -, _⟩ := DataW.trod_int Try.underlying3 hy
      exact ⟨x, hx, trivial⟩) t1
    simp at hx0 hcs'
    subst hx0 hcs'
    refine ⟨(⟨A', n', c'⟩, (x0, P)), ?_, ⟨by simpa [flat_one, ints] using hr'.len, hr'.cap, by simpa [flat_one, ints] using hr'.at_⟩⟩
    match cs, hl, e0, e1 with
    | [q0, q1], _, e0, e1 =>
      simp at e0 e1
      subst e0 e1
      rfl) h
  exact ⟨A, n, c, l, hcs, ⟨hr, hq⟩, hm⟩
theorem cells_fnds {fuel : Nat} {cs : List Value} {x : DataW H × List MemPlace} (h : DataW.trod enc Try.prog w base spare held fuel 27 cs = some x) :
    ∃ A n c, ∃ l : List Fd, cs = [.slice A n c] ∧ ReadsK 2 w w.heap.size A n c (l.flatMap fdC) ∧ c ≤ maxLen := by
  obtain ⟨A, n, c, l, hcs, hr, hm, -, -⟩ := open_recs (f := fdC) fdC_len (by omega) (fun _ => True) Try.underlying27 (by kernel_rfl) (fun cs n y hy => by
    obtain ⟨hl, hf⟩ := open_cells Try.underlying44 (by kernel_rfl) (by kernel_rfl) hy
    obtain ⟨v0, m0, y0, e0, t0⟩ := hf 0 _ rfl
    obtain ⟨v1, m1, y1, e1, t1⟩ := hf 1 _ rfl
    obtain ⟨x0, hx0, -, _⟩ := DataW.trod_int Try.underlying3 t0
    obtain ⟨x1, hx1, -, _⟩ := DataW.trod_int Try.underlying3 t1
    simp at hx0 hx1
    subst hx0 hx1
    refine ⟨(x0, x1), ?_, trivial⟩
    match cs, hl, e0, e1 with
    | [q0, q1], _, e0, e1 =>
      simp at e0 e1
      subst e0 e1
      rfl) h
  exact ⟨A, n, c, l, hcs, hr, hm⟩
theorem reads_toks (hval : Value.okWide Try.prog w r b0 22 v) (h : DataW.Trod enc Try.prog w base spare held 22 v d p) :
    ∃ A n c, ∃ l : List Tk, v = .slice A n c ∧ ReadsT w w.heap.size A n c l ∧ c ≤ maxLen ∧ True := by
  obtain ⟨a0, len0, cap0, rfl⟩ := okWide_slice Try.underlying22 hval
  obtain ⟨fuel, hf⟩ := h
  obtain ⟨A, n, c, l, hcs, hr, hm⟩ := cells_toks hf
  simp [Value.cells] at hcs
  obtain ⟨rfl, rfl, rfl⟩ := hcs
  exact ⟨_, _, _, l, rfl, hr, hm, trivial⟩
theorem reads_lists (hval : Value.okWide Try.prog w r b0 23 v) (h : DataW.Trod enc Try.prog w base spare held 23 v d p) :
    ∃ A n c, ∃ l : List Ln, v = .slice A n c ∧ ReadsL w w.heap.size A n c l ∧ c ≤ maxLen ∧ True := by
  obtain ⟨a0, len0, cap0, rfl⟩ := okWide_slice Try.underlying23 hval
  obtain ⟨fuel, hf⟩ := h
  obtain ⟨A, n, c, l, hcs, hr, hm, hq, -⟩ := open_recs (f := lnC) lnC_len (by omega) (fun o : Ln => ReadsE w w.heap.size o.1.A o.1.n o.1.c o.2) Try.underlying23 (by kernel_rfl) (fun cs n y hy => by
    obtain ⟨A', n', c', l', hcs', hr', _⟩ := cells_ents hy
    exact ⟨(⟨A', n', c'⟩, l'), hcs', hr'⟩) hf
  simp [Value.cells] at hcs
  obtain ⟨rfl, rfl, rfl⟩ := hcs
  exact ⟨_, _, _, l, rfl, ⟨hr, hq⟩, hm, trivial⟩
theorem reads_fnds (hval : Value.okWide Try.prog w r b0 33 v) (h : DataW.Trod enc Try.prog w base spare held 33 v d p) :
    ∃ A n c, ∃ l : List Lf, v = .slice A n c ∧ ReadsF w w.heap.size A n c l ∧ c ≤ maxLen ∧ (∀ x ∈ l, x.1.c ≤ maxLen) := by
  obtain ⟨a0, len0, cap0, rfl⟩ := okWide_slice Try.underlying33 hval
  obtain ⟨fuel, hf⟩ := h
  obtain ⟨A, n, c, l, hcs, hr, hm, hq, -⟩ := open_recs (f := lfC) lfC_len (by omega) (fun o : Lf => ReadsK 2 w w.heap.size o.1.A o.1.n o.1.c (o.2.flatMap fdC) ∧ o.1.c ≤ maxLen) Try.underlying33 (by kernel_rfl) (fun cs n y hy => by
    obtain ⟨A', n', c', l', hcs', hr', hm'⟩ := cells_fnds hy
    exact ⟨(⟨A', n', c'⟩, l'), hcs', hr', hm'⟩) hf
  simp [Value.cells] at hcs
  obtain ⟨rfl, rfl, rfl⟩ := hcs
  exact ⟨_, _, _, l, rfl, ⟨hr, fun x hx => (hq x hx).1⟩, hm, fun x hx => (hq x hx).2⟩
end
end Go.Proofs.Ytgjdjggakkmbgaa
