/- What fold's three tables hold, of the token rows' list. -/
import Derived.Test.YtmofhpebcbpccaaDoorLaid
import Derived.Test.YtmofhpebcbpccaaDoorFoldTable
import Derived.Test.YtmofhpebcbpccaaDoorFoldMath
namespace Go.Proofs.YtmofhpebcbpccaaDoor
open Go.RowKit

/-- All three tables as they lie. -/
structure LaidF (w : World) : Prop where
  tabs : Tabs w
  moves : ∃ t fr, w.heap[(2 : Nat)]? = some (.cells movC.toArray t fr)
theorem cell_of {w : World} {b o : Nat} {cs : Array Value} {t fr} (h : w.heap[b]? = some (.cells cs t fr)) : w.cell? ⟨b, o, none⟩ = cs[o]? := by
  simp [World.cell?, h]
theorem laidF_of {W : World} (h : laidMet Tryd.prog Rows.tokenWordsRow.laid W) : LaidF W := by
  have h1 := laid_head 4 (by kernel_rfl) (by kernel_rfl) (t := 53) (g := 1) (by kernel_rfl) h
  have h2 := laid_head 4 (by kernel_rfl) (by kernel_rfl) (t := 52) (g := 0) (by kernel_rfl) h.tail
  have h3 := laid_head 5 (by kernel_rfl) (by kernel_rfl) (t := 56) (g := 2) (by kernel_rfl) h.tail.tail
  have e1 := var_heap (g := 1) (by kernel_rfl) h1
  have e2 := var_heap (g := 0) (by kernel_rfl) h2
  have e3 := var_heap (g := 2) (by kernel_rfl) h3
  obtain ⟨t2, f2, e2⟩ := e2
  exact ⟨⟨e1, (cell_of e2).trans rfl, (cell_of e2).trans rfl, (cell_of e2).trans rfl, (cell_of e2).trans rfl⟩, e3⟩
theorem LaidF.size {w : World} (h : LaidF w) : 2 < w.heap.size := by
  obtain ⟨t, fr, h⟩ := h.moves
  exact (Array.getElem?_eq_some_iff.mp h).1
theorem LaidF.below {W w : World} (h : LaidF W) (hb : Below W.heap.size W w) : LaidF w := by
  have hs := h.size
  obtain ⟨⟨⟨t1, f1, l1⟩, c0, c1, c2, c3⟩, ⟨t2, f2, l2⟩⟩ := h
  exact ⟨⟨⟨t1, f1, by rw [hb.block _ (by omega)]; exact l1⟩, by rw [hb.cell (by show 0 < _; omega)]; exact c0, by rw [hb.cell (by show 0 < _; omega)]; exact c1, by rw [hb.cell (by show 0 < _; omega)]; exact c2, by rw [hb.cell (by show 0 < _; omega)]; exact c3⟩, t2, f2, by rw [hb.block _ (by omega)]; exact l2⟩
/-- The two walks, in the middle of a law. -/
theorem class_go {W w : World} (r : Int) (hL : LaidF W) (hb : Below W.heap.size W w) :
    Calls Tryd.prog 22 #[.int .i32 r] w fun e w' => e = .returned (.int .i64 (classOf r)) ∧ Below W.heap.size W w' :=
  (class_any r w (hL.below hb).tabs).mono fun _ _ ⟨h1, h2⟩ => ⟨h1, hb.trans (h2.mono hb.size)⟩
theorem fold_go {W w : World} (r : Int) (hr : -2147483648 ≤ r ∧ r ≤ 2147483647) (hL : LaidF W) (hb : Below W.heap.size W w) :
    Calls Tryd.prog 23 #[.int .i32 r] w fun e w' => e = .returned (.int .i32 (foldOf r)) ∧ Below W.heap.size W w' :=
  (fold_any r w hr (hL.below hb).moves).mono fun _ _ ⟨h1, h2⟩ => ⟨h1, hb.trans (h2.mono hb.size)⟩
end Go.Proofs.YtmofhpebcbpccaaDoor
