/- What every proof of a row of this seat shares: two closed facts, and arguments opened into the walks' words. -/
import Derived.Test.YtbbjlijdodnjaaaRows
import Derived.WalkKit
import Derived.ProofKit
import Derived.OpenShut
import Derived.ShutString
import Derived.ChangeOld
import Derived.Below
import Derived.Test.YtbbjlijdodnjaaaKit
namespace Go.Proofs.Ytbbjlijdodnjaaa
open Go.ChangeShapes Go.WideShapes Go.ChangeAt Go.RowKit
open Go.ChangeMaps (open_string shut_string)

theorem own : ownKnob Try.prog.godebug = none := by kernel_rfl
theorem laidOut : laidOutB Try.prog = true := by kernel_rfl

theorem lt_of_cell {w : World} {a : Addr} {v : Value} (h : w.cell? a = some v) : a.block < w.heap.size := by
  rcases Nat.lt_or_ge a.block w.heap.size with hl | hl
  · exact hl
  · simp [World.cell?, Array.getElem?_eq_none hl] at h

section
variable {H : Type} {enc : TypeId × Value → H} {P : Program} {w : World} {base : Nat} {spare : Nat → Bool} {held : Bool}
/-- A slice of integers that came in reads as a list. -/
theorem reads_ints {t e : TypeId} {k : IntKind} {r : Reach} {b0 : Nat} {v : Value} {d : DataW H} {p : List MemPlace} (ht : P.underlying t = some (.slice e)) (he : P.underlying e = some (.int k)) (hc : P.cellsOf e = 1)
    (hval : Value.okWide P w r b0 t v) (h : DataW.Trod enc P w base spare held t v d p) :
    ∃ A n c l, v = .slice A n c ∧ Reads w w.heap.size A n c (ints k l) ∧ c ≤ maxLen ∧ ∀ x ∈ l, (Lit.int k x).wf = true := by
  obtain ⟨a0, len0, cap0, rfl⟩ := okWide_slice ht hval
  obtain ⟨fuel, hf⟩ := h
  rcases open_ints ht he hc hf with ⟨hcs, _⟩ | ⟨x, l, c, zs, hcs, _, hl, hm, hz, _, hcell, hwz⟩
  · simp [Value.cells] at hcs
    obtain ⟨rfl, rfl, rfl⟩ := hcs
    exact ⟨none, 0, 0, [], rfl, Reads.nil_ _ _, by simp [maxLen], by simp⟩
  · simp [Value.cells] at hcs
    obtain ⟨rfl, rfl, rfl⟩ := hcs
    have hz' : len0 ≤ zs.length := by
      have : zs.length = if spare x.block = true then cap0 else len0 := by simpa using hz
      rw [this]; split <;> omega
    refine ⟨_, _, _, zs.take len0, rfl, ⟨by simp [ints]; omega, hl, fun h0 => ⟨x, rfl, ?_, ?_⟩⟩, hm, fun y hy => hwz y (List.mem_of_mem_take hy)⟩
    · have := lt_of_cell (hcell 0 (by omega))
      rwa [add_block] at this
    · intro j u hu
      have hj : j < len0 := by
        have := (List.getElem?_eq_some_iff.1 hu).1
        simp [ints] at this
        omega
      rw [hcell j (by omega)]
      simp only [ints, List.getElem?_map, List.getElem?_take, if_pos hj] at hu
      rw [List.getElem?_eq_getElem (by omega)] at hu
      simp at hu
      rw [← hu]
      simp [List.getD, List.getElem?_eq_getElem (show j < zs.length from by omega)]
end
end Go.Proofs.Ytbbjlijdodnjaaa
