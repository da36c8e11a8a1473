/- The walk of pack.Bytes. -/
import Derived.Test.YtbbjlijdodnjaaaPackCells
import Derived.Test.YtbbjlijdodnjaaaInfoU8
namespace Go.Proofs.Ytbbjlijdodnjaaa
open Go.RowKit

/-- Byte i of numbers' bytes, the lowest first. -/
def byteOf (l : List Int) (i : Nat) : UInt8 := UInt8.ofNat ((l.getD (i / 4) 0).toNat / 256 ^ (i % 4) % 256)
def bytesUp (l : List Int) (n : Nat) : List UInt8 := (List.range n).map (byteOf l)
theorem bytesUp_snoc (l : List Int) (n : Nat) : bytesUp l (n + 1) = bytesUp l n ++ [byteOf l n] := by simp [bytesUp, List.range_succ]
theorem bytesUp_length (l : List Int) (n : Nat) : (bytesUp l n).length = n := by simp [bytesUp]
theorem byteOf_nat (l : List Int) (i : Nat) : (byteOf l i).toNat = (l.getD (i / 4) 0).toNat / 256 ^ (i % 4) % 256 := by
  unfold byteOf
  rw [UInt8.toNat_ofNat']
  omega
/-- The row of bytes after k stores. -/
def filled (l : List Int) (k n : Nat) : List Value := bys (bytesUp l k) ++ List.replicate (n - k) (.int .u8 0)
theorem filled_0 (l : List Int) (n : Nat) : filled l 0 n = List.replicate n (.int .u8 0) := by simp [filled, bytesUp, bys]
theorem filled_n (l : List Int) (n : Nat) : filled l n n = bys (bytesUp l n) := by simp [filled]
theorem filled_length (l : List Int) (k n : Nat) (h : k ≤ n) : (filled l k n).length = n := by simp [filled, bys_length, bytesUp_length]; omega
theorem filled_set (l : List Int) (k n : Nat) (h : k < n) : (filled l k n).set k (.int .u8 ((byteOf l k).toNat : Nat)) = filled l (k + 1) n := by
  unfold filled
  rw [bytesUp_snoc, bys_append, List.set_append_right _ _ (by rw [bys_length, bytesUp_length]; omega), bys_length, bytesUp_length, Nat.sub_self,
    show n - k = (n - (k + 1)) + 1 from by omega, List.replicate_succ, List.set_cons_zero, List.append_assoc]
  rfl
theorem filled_get (l : List Int) (k n : Nat) (h : k < n) : (filled l k n)[k]? = some (.int .u8 0) := by
  unfold filled
  rw [List.getElem?_append_right (by rw [bys_length, bytesUp_length]; omega), bys_length, bytesUp_length, Nat.sub_self, List.getElem?_replicate, if_pos (by omega)]

theorem shr_byte (l : List Int) (k : Nat) (h : k / 4 < l.length) (h0 : 0 ≤ l[k / 4]) :
    l[k / 4] / 2 ^ (8 * (k % 4)) % 256 = (((byteOf l k).toNat : Nat) : Int) := by
  rw [byteOf_nat, List.getD, List.getElem?_eq_getElem h, Option.getD_some]
  obtain ⟨x, hx⟩ := Int.eq_ofNat_of_zero_le h0
  have e : (256 : Nat) ^ (k % 4) = 2 ^ (8 * (k % 4)) := by rw [show (256 : Nat) = 2 ^ 8 from rfl, ← Nat.pow_mul]
  rw [hx, Int.toNat_natCast, e, Int.natCast_emod, Int.natCast_ediv, Int.natCast_pow]
  rfl

set_option maxHeartbeats 1000000 in
theorem bytes_ok (l : List Int) (hl : ∀ x ∈ l, 0 ≤ x ∧ x < 4294967296) (A : Option Addr) (m c n : Nat) (w : World) (hx : Reads w w.heap.size A m c (ints .u32 l)) (hm : m ≤ 65536) (hn : n ≤ 4 * m) :
    Calls Try.prog 34 #[.slice A m c, .int .i64 n] w fun e w' => e = .returned (.tuple #[.string ⟨(bytesUp l n).toArray⟩, .int .i64 0]) ∧ Below w.heap.size w w' := by
  obtain ⟨i0, hi0, hz0, hz1, hz2⟩ := info_parts info_u8
  have hmk := run_make_row1 (P := Try.prog) 49 5 i0 _ Try.underlying49 hi0 hz0 hz1 (by omega) rfl (n : Int) n rfl (by omega)
  clear hi0 hz0 hz1 hz2
  have lx : l.length = m := by simpa using hx.len
  have Lx := Lib.hid lx
  have hd1 : decide ((m : Int) < (n : Int) / 4) = false := by simp; omega
  have hn4 : (0 : Int) ≤ (n : Int) / 4 := by omega
  have hd2 : (((n : Int) / 4 == (m : Int)) && ((n : Int) % 4 != 0)) = false := by
    by_cases h : n / 4 = m
    · have : n % 4 = 0 := by omega
      have h2 : ((n : Int) % 4 != 0) = false := by simp; omega
      rw [h2, Bool.and_false]
    · have h2 : ((n : Int) / 4 == (m : Int)) = false := by simp; omega
      rw [h2, Bool.false_and]
  clear lx
  have hd0 : decide ((n : Int) < 0) = false := by simp
  rcases (show n / 4 = m ∨ n / 4 < m from by omega) with hq | hq
  · have h2 : ((n : Int) / 4 == (m : Int)) = true := by simp; omega
    have h3 : ((n : Int) % 4 != 0) = false := by simp; omega
    have Hq := Lib.hid hq
    clear hq hd2
    go_enter Try.func34, Try.ntmps34
    go_wp2
    clear hmk
    go_loopw [33] (fun i wr => ∃ k : Nat, k ≤ n ∧ i = .int .i64 k ∧ Row wr w.heap.size 5 (filled l k n) ∧ Below w.heap.size w wr) (fun i _ => n - (intOf i).toNat)
    case atStart => exact ⟨0, Nat.zero_le _, rfl, by rw [filled_0]; exact Row.zeros _ _ _ _, (Below.refl _ _).alloc (Nat.le_refl _) _⟩
    case round =>
      obtain ⟨k, hk, rfl, hrow, hb⟩ := hrel
      by_cases hlt : k < n
      · obtain ⟨ad, h1, rfl, hbl, hc⟩ := hx.int (i := k / 4) (by omega)
        have hc' : wr.cell? (ad.add (k / 4)) = some (.int .u32 l[k / 4]) := by rw [hb.cell (by rw [add_block]; exact hbl)]; exact hc
        have hr := hl _ (List.getElem_mem h1)
        have hf := hrow.frozen k
        have hcu := hrow.cell k
        rw [filled_get l k n hlt] at hcu
        have HB := Lib.hid (shr_byte l k h1 hr.1)
        have hidx : (k : Int) / 4 < (m : Int) := by omega
        have hidx0 : (0 : Int) ≤ (k : Int) / 4 := by omega
        have hlt' : (k : Int) < (n : Int) := by omega
        clear hc
        go_wp2
        rw [HB.out]
        go_roundw
        case rel =>
          refine ⟨k + 1, by omega, by go_num, ?_, hb.setCell (Nat.le_refl _) _⟩
          rw [← filled_set l k n hlt]
          exact hrow.set _ _
        case measure => simp [intOf]; omega
      · have hkn : Hid (k = n) := Lib.hid (by omega)
        rw [hkn.out, filled_n] at hrow
        have hcv := run_string_of (P := Try.prog) 49 9 5 Try.underlying49 Try.underlying5 Try.underlying9 (hrow.reads (n := n) (by rw [bys_length, bytesUp_length]))
        have hlt' : ¬ (k : Int) < (n : Int) := by omega
        go_wp2
        go_ret2
        exact ⟨rfl, hb⟩
  · have h2 : ((n : Int) / 4 == (m : Int)) = false := by simp; omega
    clear hd2
    go_enter Try.func34, Try.ntmps34
    go_wp2
    clear hmk
    go_loopw [33] (fun i wr => ∃ k : Nat, k ≤ n ∧ i = .int .i64 k ∧ Row wr w.heap.size 5 (filled l k n) ∧ Below w.heap.size w wr) (fun i _ => n - (intOf i).toNat)
    case atStart => exact ⟨0, Nat.zero_le _, rfl, by rw [filled_0]; exact Row.zeros _ _ _ _, (Below.refl _ _).alloc (Nat.le_refl _) _⟩
    case round =>
      obtain ⟨k, hk, rfl, hrow, hb⟩ := hrel
      by_cases hlt : k < n
      · obtain ⟨ad, h1, rfl, hbl, hc⟩ := hx.int (i := k / 4) (by omega)
        have hc' : wr.cell? (ad.add (k / 4)) = some (.int .u32 l[k / 4]) := by rw [hb.cell (by rw [add_block]; exact hbl)]; exact hc
        have hr := hl _ (List.getElem_mem h1)
        have hf := hrow.frozen k
        have hcu := hrow.cell k
        rw [filled_get l k n hlt] at hcu
        have HB := Lib.hid (shr_byte l k h1 hr.1)
        have hidx : (k : Int) / 4 < (m : Int) := by omega
        have hidx0 : (0 : Int) ≤ (k : Int) / 4 := by omega
        have hlt' : (k : Int) < (n : Int) := by omega
        clear hc
        go_wp2
        rw [HB.out]
        go_roundw
        case rel =>
          refine ⟨k + 1, by omega, by go_num, ?_, hb.setCell (Nat.le_refl _) _⟩
          rw [← filled_set l k n hlt]
          exact hrow.set _ _
        case measure => simp [intOf]; omega
      · have hkn : Hid (k = n) := Lib.hid (by omega)
        rw [hkn.out, filled_n] at hrow
        have hcv := run_string_of (P := Try.prog) 49 9 5 Try.underlying49 Try.underlying5 Try.underlying9 (hrow.reads (n := n) (by rw [bys_length, bytesUp_length]))
        have hlt' : ¬ (k : Int) < (n : Int) := by omega
        go_wp2
        go_ret2
        exact ⟨rfl, hb⟩
end Go.Proofs.Ytbbjlijdodnjaaa
