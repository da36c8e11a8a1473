/- The walk of pack.Cells. -/
import Derived.Test.YtbbjlijdodnjaaaRows
import Derived.Deep.QuietTactic
import Derived.BigQuiet
import Derived.StillTailTactics
import Derived.Test.YtbbjlijdodnjaaaKit
import Derived.Test.YtbbjlijdodnjaaaVlqPlain
namespace Go.Proofs.Ytbbjlijdodnjaaa
open Go.RowKit

theorem info_u32 : (Try.prog.info? 30).map (fun i => (i.zero, i.size, i.bytes)) = some (some (.int .u32 0), 1, 4) := by kernel_rfl

/-- Four bytes as one number. -/
def word4 (l : List UInt8) (j : Nat) : Nat := byteD l (4 * j) + 256 * byteD l (4 * j + 1) + 65536 * byteD l (4 * j + 2) + 16777216 * byteD l (4 * j + 3)
/-- The cells of bytes. -/
def cellsOf (l : List UInt8) (n : Nat) : List Int := (List.range n).map fun j => (word4 l j : Int)
theorem byteD_take (l : List UInt8) (k i : Nat) : byteD (l.take k) i = if i < k then byteD l i else 0 := by
  unfold byteD
  rw [List.getD, List.getElem?_take]
  split <;> simp [List.getD]
theorem word4_other (l : List UInt8) (k j : Nat) (h : j ≠ k / 4) : word4 (l.take (k + 1)) j = word4 (l.take k) j := by
  unfold word4
  simp only [byteD_take]
  have e : ∀ i, i < 4 → (if 4 * j + i < k + 1 then byteD l (4 * j + i) else 0) = (if 4 * j + i < k then byteD l (4 * j + i) else 0) := by
    intro i hi
    by_cases h1 : 4 * j + i < k
    · rw [if_pos h1, if_pos (by omega)]
    · rw [if_neg h1, if_neg (by omega)]
  have e0 := e 0 (by omega)
  rw [Nat.add_zero] at e0
  rw [e0, e 1 (by omega), e 2 (by omega), e 3 (by omega)]
theorem word4_same (l : List UInt8) (k : Nat) : word4 (l.take (k + 1)) (k / 4) = word4 (l.take k) (k / 4) ||| (byteD l k * 2 ^ (8 * (k % 4))) ∧ word4 (l.take k) (k / 4) < 4294967296 := by
  have hb := byteD_lt l
  unfold word4
  simp only [byteD_take]
  rcases (show k % 4 = 0 ∨ k % 4 = 1 ∨ k % 4 = 2 ∨ k % 4 = 3 from by omega) with h | h | h | h
  · rw [h, show 4 * (k / 4) = k from by omega]
    have := hb k
    rw [if_pos (by omega), if_neg (by omega), if_neg (by omega), if_neg (by omega), if_neg (by omega), if_neg (by omega), if_neg (by omega), if_neg (by omega)]
    simp
  · rw [h, show 4 * (k / 4) = k - 1 from by omega, show k - 1 + 1 = k from by omega]
    have h0 := hb k; have h1 := hb (k - 1)
    rw [if_pos (by omega), if_pos (by omega), if_neg (by omega), if_neg (by omega), if_pos (by omega), if_neg (by omega), if_neg (by omega), if_neg (by omega)]
    rw [Nat.or_comm, nat_join 8 _ _ (by omega) (by omega)]
    omega
  · rw [h, show 4 * (k / 4) = k - 2 from by omega, show k - 2 + 2 = k from by omega]
    have h0 := hb k; have h1 := hb (k - 2); have h2 := hb (k - 2 + 1)
    rw [if_pos (by omega), if_pos (by omega), if_pos (by omega), if_neg (by omega), if_pos (by omega), if_pos (by omega), if_neg (by omega), if_neg (by omega)]
    rw [Nat.or_comm, nat_join 16 _ _ (by omega) (by omega)]
    omega
  · rw [h, show 4 * (k / 4) = k - 3 from by omega, show k - 3 + 3 = k from by omega]
    have h0 := hb k; have h1 := hb (k - 3); have h2 := hb (k - 3 + 1); have h3 := hb (k - 3 + 2)
    rw [if_pos (by omega), if_pos (by omega), if_pos (by omega), if_pos (by omega), if_pos (by omega), if_pos (by omega), if_pos (by omega), if_neg (by omega)]
    rw [Nat.or_comm, nat_join 24 _ _ (by omega) (by omega)]
    omega
theorem cellsOf_nil (n : Nat) : ints .u32 (cellsOf [] n) = List.replicate n (.int .u32 0) := by
  apply List.ext_getElem?
  intro i
  by_cases h : i < n
  · simp [ints, cellsOf, word4, byteD, h]
  · simp [ints, cellsOf, h]
theorem cellsOf_set (l : List UInt8) (k n : Nat) (h : k / 4 < n) :
    (ints .u32 (cellsOf (l.take k) n)).set (k / 4) (.int .u32 (word4 (l.take (k + 1)) (k / 4) : Nat)) = ints .u32 (cellsOf (l.take (k + 1)) n) := by
  apply List.ext_getElem?
  intro i
  rw [List.getElem?_set]
  by_cases hi : i < n
  · by_cases e : k / 4 = i
    · subst e
      simp [ints, cellsOf, hi]
    · rw [if_neg e]
      simp [ints, cellsOf, hi, word4_other l k i (Ne.symm e)]
  · simp [ints, cellsOf, hi]
    omega
theorem cellsOf_length (l : List UInt8) (n : Nat) : (cellsOf l n).length = n := by simp [cellsOf]

theorem byteD_get (s : ByteArray) (k : Nat) (h : k < s.size) : byteD s.data.toList k = (s[k]'h).toNat := by
  have h' : k < s.data.size := h
  unfold byteD
  rw [List.getD, Array.getElem?_toList, Array.getElem?_eq_getElem h']; rfl
theorem pow_lt4 (k b : Nat) (hb : b < 256) : b * 2 ^ (8 * (k % 4)) < 4294967296 := by
  rcases (show k % 4 = 0 ∨ k % 4 = 1 ∨ k % 4 = 2 ∨ k % 4 = 3 from by omega) with h | h | h | h <;> rw [h] <;> simp <;> omega
theorem or_cell (l : List UInt8) (k b : Nat) (hb : b = byteD l k) :
    bits .or .u32 ((word4 (l.take k) (k / 4) : Nat) : Int) ((b : Int) * 2 ^ (8 * (k % 4)) % 4294967296) = ((word4 (l.take (k + 1)) (k / 4) : Nat) : Int) := by
  subst hb
  obtain ⟨h1, h2⟩ := word4_same l k
  have h3 := pow_lt4 k (byteD l k) (byteD_lt l k)
  have e : ((byteD l k : Nat) : Int) * 2 ^ (8 * (k % 4)) % 4294967296 = ((byteD l k * 2 ^ (8 * (k % 4)) : Nat) : Int) := by
    rw [show ((byteD l k : Nat) : Int) * 2 ^ (8 * (k % 4)) = ((byteD l k * 2 ^ (8 * (k % 4)) : Nat) : Int) from by push_cast; rfl]
    omega
  rw [e, u32_or_nat _ _ h2 h3, h1]
theorem cellsOf_get (l : List UInt8) (n j : Nat) (h : j < (cellsOf l n).length) : (cellsOf l n)[j] = (word4 l j : Int) := by simp [cellsOf]

set_option maxHeartbeats 400000 in
theorem cells_any (s : ByteArray) (w : World) (hs : s.size ≤ 1048576) :
    Calls Try.prog 40 #[.string s] w fun e w' => ∃ g, e = .returned (.slice (some ⟨g, 0, none⟩) ((s.size + 3) / 4) ((s.size + 3) / 4)) ∧ Row w' g 30 (ints .u32 (cellsOf s.data.toList ((s.size + 3) / 4))) ∧ Below w.heap.size w w' := by
  obtain ⟨i0, hi0, hz0, hz1, hz2⟩ := info_parts info_u32
  have hmk := run_make_row1 (P := Try.prog) 26 30 i0 _ Try.underlying26 hi0 hz0 hz1 (by omega) rfl (((s.size : Int) + 3) / 4) ((s.size + 3) / 4) (by omega) (by omega)
  clear hi0 hz0 hz1 hz2
  go_enter Try.func40, Try.ntmps40
  go_wp2
  clear hmk
  go_loopw [12] (fun i wr => ∃ k : Nat, k ≤ s.size ∧ i = .int .i64 k ∧ Row wr w.heap.size 30 (ints .u32 (cellsOf (s.data.toList.take k) ((s.size + 3) / 4))) ∧ Below w.heap.size w wr) (fun i _ => s.size - (intOf i).toNat)
  case atStart => exact ⟨0, Nat.zero_le _, rfl, by rw [List.take_zero, cellsOf_nil]; exact Row.zeros _ _ _ _, (Below.refl _ _).alloc (Nat.le_refl _) _⟩
  case round =>
    obtain ⟨k, hk, rfl, hrow, hb⟩ := hrel
    by_cases hlt : k < s.size
    · have hc := hrow.cell (k / 4)
      have hf := hrow.frozen (k / 4)
      rw [ints_get? _ _ _ (by rw [cellsOf_length]; omega), cellsOf_get] at hc
      have hor := or_cell s.data.toList k _ (byteD_get s k hlt).symm
      have hidx : (k : Int) / 4 < (((s.size + 3) / 4 : Nat) : Int) := by omega
      have hidx0 : (0 : Int) ≤ (k : Int) / 4 := by omega
      have hby : ((s[k]'hlt).toNat : Int) < 256 := by have := (s[k]'hlt).toNat_lt; omega
      have hsh : 0 ≤ 8 * ((k : Int) % 4) ∧ 8 * ((k : Int) % 4) ≤ 24 := by omega
      go_wp2
      go_region
      go_wp2
      go_roundw
      case rel =>
        refine ⟨k + 1, by omega, by go_num, ?_, (hb.setCell (Nat.le_refl _) _).drew⟩
        rw [← cellsOf_set s.data.toList k _ (by omega)]
        exact (hrow.set _ _).drew
      case measure => simp [intOf]; omega
    · have hf : Hid (s.data.toList.take k = s.data.toList) := Lib.hid (List.take_of_length_le (by simp; omega))
      rw [hf.out] at hrow
      go_wp2
      go_ret
      exact ⟨_, rfl, hrow, hb⟩
end Go.Proofs.Ytbbjlijdodnjaaa
