/- The walk of utf.Runes: its answer is the list of the runes, in new memory. -/
import Derived.Test.YtmofhpebcbpccaaDoorRows
import Derived.Test.YtmofhpebcbpccaaDoorKit
import Derived.Test.YtmofhpebcbpccaaDoorUtfPlain
namespace Go.Proofs.YtmofhpebcbpccaaDoor
open Go.RowKit

theorem info_rune : (Tryd.prog.info? 21).map (fun i => (i.zero, i.size, i.bytes)) = some (some (.int .i32 0), 1, 4) := by kernel_rfl

set_option maxHeartbeats 400000 in
theorem runes_any (s : ByteArray) (w : World) (hs : s.size ≤ 1048576) :
    Calls Tryd.prog 21 #[.string s] w fun e w' => ∃ v, e = .returned v ∧ w'.ownsRow w.heap.size 21 1 v (runesOf s).length (ints .i32 (runesOf s)) ∧ Below w.heap.size w w' := by
  obtain ⟨i0, hi0, hz0, hz1, hz2⟩ := info_parts info_rune
  go_enter Tryd.func21, Tryd.ntmps21
  go_wp2
  go_loopw [3] (fun v wr => ∃ (p : Nat) (acc : List Int), wr.heap[w.heap.size]? = some (.stringIter s p) ∧ acc.length ≤ p ∧ acc ++ runesAt s (s.size - p) p = runesOf s ∧
      wr.ownsRow (w.heap.size + 1) 21 1 v acc.length (ints .i32 acc) ∧ Below w.heap.size w wr ∧ w.heap.size < wr.heap.size) (fun _ wr => s.size - wr.iterPos w.heap.size)
  case atStart => exact ⟨0, [], by simp [World.iter_heap], by simp, by simp [runesOf], World.ownsRow_nil _ _ _ _, (Below.refl _ _).alloc (Nat.le_refl _) _, by simp [World.iter]⟩
  case round =>
    obtain ⟨p, acc, hit, hl, hacc, hown, hb, hsz⟩ := hrel
    by_cases hp : p < s.size
    · have hnx := fun ty => Lib.run_next_any_at (P := Tryd.prog) wr w.heap.size s p ty hit hp
      have hown0 := ownsRow_iterAt hown (by omega) s (p + (Utf8.decode s p).2) (k := w.heap.size)
      have hb0 := Lib.below_iterAt hb (Nat.le_refl _) s (p + (Utf8.decode s p).2)
      have hit0 := Lib.iterAt_heap wr w.heap.size s p (p + (Utf8.decode s p).2) hit
      have hz0' := Lib.iterAt_size wr w.heap.size s (p + (Utf8.decode s p).2)
      generalize wr.iterAt w.heap.size s (p + (Utf8.decode s p).2) = w0 at *
      have Hz : Hid (w0.heap.size = wr.heap.size) := hz0'
      clear hz0'
      have hdl : acc.length < 1048576 := by omega
      go_wp2_with (at_builtin; go_loud (refine wpList_append_one rfl _ _ 35 rfl (w.heap.size + 1) 21 i0 (.int .i32 0) 4 Tryd.underlying35 hi0 hz0 hz1 hz2 rfl _ _ _ (.int .i32 ((Utf8.decode s p).1 : Nat)) hown0 rfl rfl rfl (by omega) (by omega) (by have := Hz.out; omega) ?_); intro v1 w1 hown1 hg1)
      have hb1 := below_grown hb0 hown0 (by omega) (by have := Hz.out; omega) hg1
      have hit1 : w1.heap[w.heap.size]? = some (.stringIter s (p + (Utf8.decode s p).2)) := by
        rw [hg1.block _ (by have := Hz.out; omega) (fun e => by have := (hown0.lt _ e.symm).1; omega)]; exact hit0
      have hw := width_pos s p
      go_roundw
      case rel =>
        refine ⟨p + (Utf8.decode s p).2, acc ++ [((Utf8.decode s p).1 : Int)], hit1, by simp; omega, ?_, by rw [List.length_append, ints_append]; exact hown1, hb1, by have := hg1.size; have := Hz.out; omega⟩
        rw [List.append_assoc, List.singleton_append, ← runesAt_step s p hp]; exact hacc
      case measure => rw [iterPos_of hit1, iterPos_of hit]; omega
    · have hnx := fun ty => Lib.run_next_end_at (P := Tryd.prog) wr w.heap.size s p ty hit hp
      have hfin : acc = runesOf s := by rw [runesAt_end s _ p (by omega)] at hacc; simpa using hacc
      have Hf : Hid (acc = runesOf s) := hfin
      clear hfin
      go_wp2
      go_ret
      refine ⟨_, rfl, ?_, hb⟩
      rw [← Hf.out]; exact ownsRow_base hown (by omega)
end Go.Proofs.YtmofhpebcbpccaaDoor
