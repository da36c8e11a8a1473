/- The walk of utf.Fit. -/
import Derived.Test.YtmofhpebcbpccaaDoorUtfTexts
namespace Go.Proofs.YtmofhpebcbpccaaDoor
open Go.RowKit

/-- What utf.Fit gathers: runes as long as they fit. -/
def fitL (n : Int) : List Int → List UInt8 → List UInt8
  | [], acc => acc
  | r :: l, acc => if n < 0 ∨ n - acc.length < (enc r).length then acc else fitL n l (acc ++ enc r)
/-- What ref.Fit gathers: the longest of the first beginnings that fits. -/
def bestOf (n : Int) (l : List Int) : Nat → List UInt8
  | 0 => []
  | k + 1 => if ((textOf (l.take k)).length : Int) ≤ n then textOf (l.take k) else bestOf n l k

theorem fitL_stop (n : Int) (r : Int) (l : List Int) (acc : List UInt8) (h : n < 0 ∨ n - acc.length < (enc r).length) : fitL n (r :: l) acc = acc := by rw [fitL, if_pos h]
theorem fitL_go (n : Int) (r : Int) (l : List Int) (acc : List UInt8) (h : ¬ (n < 0 ∨ n - acc.length < (enc r).length)) : fitL n (r :: l) acc = fitL n l (acc ++ enc r) := by rw [fitL, if_neg h]

set_option maxHeartbeats 1000000 in
theorem fit_any (s : ByteArray) (n : Int) (w : World) (hs : s.size ≤ 1048576) (hn0 : -9223372036854775808 ≤ n) (hn1 : n ≤ 9223372036854775807) :
    Calls Tryd.prog 24 #[.string s, .int .i64 n] w fun e w' => e = .returned (.string ⟨(fitL n (runesOf s) []).toArray⟩) ∧ Below w.heap.size w w' := by
  obtain ⟨i0, hi0, hz0, hz1, hz2⟩ := info_parts info_byte
  go_enter Tryd.func24, Tryd.ntmps24
  go_wp2
  go_loopw [5] (fun v wr => ∃ (p : Nat) (acc : List UInt8), wr.heap[w.heap.size]? = some (.stringIter s p) ∧ p ≤ s.size + 4 ∧ acc.length ≤ 4 * p ∧ fitL n (runesAt s (s.size - p) p) acc = fitL n (runesOf s) [] ∧
      wr.ownsRow (w.heap.size + 1) 5 1 v acc.length (bys acc) ∧ Below w.heap.size w wr ∧ w.heap.size < wr.heap.size) (fun _ wr => s.size + 4 - wr.iterPos w.heap.size)
  case atStart => exact ⟨0, [], by simp [World.iter_heap], by omega, by simp, by simp [runesOf], World.ownsRow_nil _ _ _ _, (Below.refl _ _).alloc (Nat.le_refl _) _, by simp [World.iter]⟩
  case round =>
    obtain ⟨p, acc, hit, hp4, hl, hacc, hown, hb, hsz⟩ := hrel
    have Hacc := Lib.hid hacc
    clear hacc
    by_cases hp : p < s.size
    · have hnx := fun ty => Lib.run_next_any_at (P := Tryd.prog) wr w.heap.size s p ty hit hp
      have hown0 := ownsRow_iterAt hown (by omega) s (p + (Utf8.decode s p).2) (k := w.heap.size)
      have hb0 := Lib.below_iterAt hb (Nat.le_refl _) s (p + (Utf8.decode s p).2)
      have hit0 := Lib.iterAt_heap wr w.heap.size s p (p + (Utf8.decode s p).2) hit
      have hz0' := Lib.iterAt_size wr w.heap.size s (p + (Utf8.decode s p).2)
      generalize wr.iterAt w.heap.size s (p + (Utf8.decode s p).2) = w0 at *
      have hz00 : wr.heap.size ≤ w0.heap.size := by omega
      clear hz0'
      have hw := width_pos s p
      have hw4 := width_le s p
      have hstep := Lib.hid (runesAt_step s p hp)
      have hel := enc_len_le ((Utf8.decode s p).1 : Int)
      have hes := Lib.hid (enc_size ((Utf8.decode s p).1 : Int))
      have Hit := Lib.hid hit
      have Hit0 := Lib.hid hit0
      clear hit hit0
      by_cases hstop : n < 0 ∨ n - acc.length < (enc ((Utf8.decode s p).1 : Int)).length
      · have HF := Lib.hid (fitL_stop n _ (runesAt s (s.size - (p + (Utf8.decode s p).2)) (p + (Utf8.decode s p).2)) acc hstop)
        obtain ⟨A', c', hv, hr, -⟩ := ownsRow_slice hown0
        rw [hv]
        have hcv := run_string_of (P := Tryd.prog) 48 9 5 Tryd.underlying48 Tryd.underlying5 Tryd.underlying9 hr
        have Hv := Lib.hid hv
        clear hv
        by_cases hneg : n < 0
        · go_wp2
          go_ret
          exact ⟨by rw [← Hacc.out, hstep.out, HF.out]; rfl, hb0⟩
        · have hlt : n - (acc.length : Int) < ((Utf8.encode ((Utf8.decode s p).1 : Int)).size : Int) := by rw [hes.out]; omega
          go_wp2
          go_ret
          exact ⟨by rw [← Hacc.out, hstep.out, HF.out]; rfl, hb0⟩
      · have HF := Lib.hid (fitL_go n _ (runesAt s (s.size - (p + (Utf8.decode s p).2)) (p + (Utf8.decode s p).2)) acc hstop)
        have hneg : ¬ n < 0 := by omega
        have hlt : ¬ n - (acc.length : Int) < ((Utf8.encode ((Utf8.decode s p).1 : Int)).size : Int) := by rw [hes.out]; omega
        obtain ⟨A', c', hv, hr, -⟩ := ownsRow_slice hown0
        rw [hv]
        rw [hv] at hown0
        have Hv := Lib.hid hv
        clear hv hown
        go_wp2_with (at_builtin; refine wpList_append_str rfl _ _ 48 9 rfl (w.heap.size + 1) 5 i0 Tryd.underlying48 Tryd.underlying9 hi0 hz0 hz1 hz2 _ _ _ hown0 (Utf8.encode ((Utf8.decode s p).1 : Int)) rfl rfl (by rw [hes.out]; omega) (by omega) ?_; intro v1 w1 hown1 hg1)
        have hit1 : w1.heap[w.heap.size]? = some (.stringIter s (p + (Utf8.decode s p).2)) := by
          rw [hg1.block _ (by omega) (fun e => by have := (hown0.lt _ e.symm).1; omega)]; exact Hit0.out
        go_roundw
        case rel =>
          refine ⟨p + (Utf8.decode s p).2, acc ++ enc ((Utf8.decode s p).1 : Int), hit1, by omega, by rw [List.length_append]; omega, ?_, ?_, below_grown hb0 hown0 (by omega) (by omega) hg1, by have := hg1.size; omega⟩
          · rw [← Hacc.out, hstep.out, HF.out]
          · rw [List.length_append, ← hes.out, ← enc_data]; exact hown1
        case measure => rw [iterPos_of hit1, iterPos_of Hit.out]; omega
    · have hnx := fun ty => Lib.run_next_end_at (P := Tryd.prog) wr w.heap.size s p ty hit hp
      have hend := Lib.hid (runesAt_end s (s.size - p) p (by omega))
      obtain ⟨A', c', hv, hr, -⟩ := ownsRow_slice hown
      rw [hv]
      have hcv := run_string_of (P := Tryd.prog) 48 9 5 Tryd.underlying48 Tryd.underlying5 Tryd.underlying9 hr
      have Hv := Lib.hid hv
      clear hv
      go_wp2
      go_ret
      exact ⟨by rw [← Hacc.out, hend.out]; rfl, hb⟩
end Go.Proofs.YtmofhpebcbpccaaDoor
