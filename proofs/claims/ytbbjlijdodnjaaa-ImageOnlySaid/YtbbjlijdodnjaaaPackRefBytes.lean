/- The walks of ref.Bytes, and of pack.Bytes where it refuses. -/
import Derived.Test.YtbbjlijdodnjaaaPackBytesA
namespace Go.Proofs.Ytbbjlijdodnjaaa
open Go.RowKit

theorem low_byte (l : List Int) (i k : Nat) (hk : k < 4) (h : i < l.length) :
    ((l[i].toNat / 256 ^ k : Nat) : Int) % 256 = (((byteOf l (4 * i + k)).toNat : Nat) : Int) := by
  rw [byteOf_nat, show (4 * i + k) / 4 = i from by omega, show (4 * i + k) % 4 = k from by omega, List.getD, List.getElem?_eq_getElem h, Option.getD_some]
  omega
theorem next_div (x k : Nat) : x / 256 ^ k / 256 = x / 256 ^ (k + 1) := by rw [Nat.div_div_eq_div_mul, Nat.pow_succ]

/-- What Bytes answers of so many numbers, at a number that is no less than 0. -/
def bytesAns (l : List Int) (m n : Nat) : Value := if n ≤ 4 * m then .tuple #[.string ⟨(bytesUp l n).toArray⟩, .int .i64 0] else .tuple #[.string ⟨#[]⟩, .int .i64 12]

set_option maxHeartbeats 1000000 in
theorem refBytes_all (l : List Int) (hl : ∀ x ∈ l, 0 ≤ x ∧ x < 4294967296) (A : Option Addr) (m c n : Nat) (w : World) (hx : Reads w w.heap.size A m c (ints .u32 l)) (hm : m ≤ 65536) :
    Calls Try.prog 36 #[.slice A m c, .int .i64 n] w fun e w' => e = .returned (bytesAns l m n) ∧ Below w.heap.size w w' := by
  obtain ⟨i0, hi0, hz0, hz1, hz2⟩ := info_parts info_u8
  have lx : l.length = m := by simpa using hx.len
  have Lx := Lib.hid lx
  clear lx
  go_enter Try.func36, Try.ntmps36
  go_wp2
  go_loopw [6, 15] (fun v i wr => ∃ k : Nat, k ≤ m ∧ i = .int .i64 k ∧ wr.ownsRow w.heap.size 5 1 v (4 * k) (bys (bytesUp l (4 * k))) ∧ Below w.heap.size w wr) (fun _ i _ => m - (intOf i).toNat)
  case atStart => exact ⟨0, Nat.zero_le _, rfl, built_new w _ [] (by simp), (Below.refl _ _).alloc (Nat.le_refl _) _⟩
  case round =>
    obtain ⟨k, hk, rfl, hown, hb⟩ := hrel
    have hsz := hb.size
    by_cases hlt : k < m
    · obtain ⟨ad, h1, rfl, hbl, hc⟩ := hx.int (i := k) (by omega)
      have hc' : wr.cell? (ad.add k) = some (.int .u32 l[k]) := by rw [hb.cell (by rw [add_block]; exact hbl)]; exact hc
      have hr := hl _ (List.getElem_mem h1)
      have hlt' : (k : Int) < (m : Int) := by omega
      have hq0 : Hid (l[k] = ((l[k].toNat / 256 ^ 0 : Nat) : Int)) := Lib.hid (by simp; omega)
      clear hc
      go_wp2
      obtain ⟨wo, rfl⟩ : ∃ wo : World, wo = wr := ⟨_, rfl⟩
      go_loopw [6, 8, 9] (fun v x j wr => ∃ q : Nat, q ≤ 4 ∧ j = .int .i64 q ∧ x = .int .u32 ((l[k].toNat / 256 ^ q : Nat) : Int) ∧ wr.ownsRow w.heap.size 5 1 v (4 * k + q) (bys (bytesUp l (4 * k + q))) ∧ Below w.heap.size w wr) (fun _ _ j _ => 4 - (intOf j).toNat)
      case atStart => exact ⟨0, by omega, rfl, by rw [← hq0.out], hown, hb⟩
      case round =>
        obtain ⟨q, hq, rfl, rfl, hown2, hb2⟩ := hrel
        have hsz2 := hb2.size
        have hx0 : l[k].toNat < 4294967296 := by omega
        have hx1 : l[k].toNat / 256 ^ q < 4294967296 := Nat.lt_of_le_of_lt (Nat.div_le_self _ _) hx0
        by_cases hq4 : q < 4
        · have HB := Lib.hid (low_byte l k q hq4 h1)
          have HS := Lib.hid (bytesUp_snoc l (4 * k + q))
          have HN := Lib.hid (next_div l[k].toNat q)
          generalize l[k].toNat / 256 ^ q = y at *
          go_wp2_with (at_builtin; refine wpList_append_one rfl _ _ 49 rfl w.heap.size 5 i0 (.int .u8 0) 1 Try.underlying49 hi0 hz0 hz1 hz2 rfl _ _ _ (.int .u8 ((y : Int) % 256)) hown2 rfl rfl rfl (by omega) (by omega) hsz2 ?_; intro v3 w3 hown3 hg3)
          go_roundw
          case rel =>
            refine ⟨q + 1, by omega, by go_num, ?_, ?_, below_grown hb2 hown2 (Nat.le_refl _) hsz2 hg3⟩
            · rw [← HN.out]; exact congrArg (Value.int .u32) (by omega)
            · rw [show 4 * k + (q + 1) = 4 * k + q + 1 from rfl, HS.out, bys_append]
              rw [HB.out] at hown3; exact hown3
          case measure => simp [intOf]; omega
        · have hq4' : Hid (4 * k + q = 4 * (k + 1)) := Lib.hid (by omega)
          rw [hq4'.out] at hown2
          go_wp2
          go_roundw
          case rel => exact ⟨k + 1, by omega, by go_num, hown2, hb2⟩
          case measure => simp [intOf]; omega
    · have hkm : Hid (k = m) := Lib.hid (by omega)
      rw [hkm.out] at hown
      obtain ⟨A', c', hv, hr, -⟩ := ownsRow_slice hown
      rw [hv]
      have Hv := Lib.hid hv
      clear hv hown
      have hlt' : ¬ (k : Int) < (m : Int) := by omega
      by_cases hnm : n ≤ 4 * m
      · have HF : Hid (bytesAns l m n = .tuple #[.string ⟨(bytesUp l n).toArray⟩, .int .i64 0]) := Lib.hid (if_pos hnm)
        have hr2 := hr.front (k := n) hnm
        rw [show (bys (bytesUp l (4 * m))).take n = bys (bytesUp l n) from by
          simp only [bys, bytesUp, ← List.map_take, List.take_range, show min n (4 * m) = n from by omega]] at hr2
        have hcv := run_string_of (P := Try.prog) 49 9 5 Try.underlying49 Try.underlying5 Try.underlying9 hr2
        have hle : ¬ 4 * (m : Int) < (n : Int) := by omega
        have hcap : n ≤ c' := by have := hr.cap; omega
        go_wp2
        go_ret2
        exact ⟨by rw [HF.out]; rfl, hb⟩
      · have HF : Hid (bytesAns l m n = .tuple #[.string ⟨#[]⟩, .int .i64 12]) := Lib.hid (if_neg hnm)
        have hgt : 4 * (m : Int) < (n : Int) := by omega
        go_wp2
        go_ret2
        exact ⟨by rw [HF.out]; rfl, hb⟩

set_option maxHeartbeats 1000000 in
theorem bytes_neg (A : Option Addr) (m c : Nat) (n : Int) (w : World) (hn : n < 0) :
    Calls Try.prog 34 #[.slice A m c, .int .i64 n] w fun e w' => e = .returned (.tuple #[.string ⟨#[]⟩, .int .i64 1]) ∧ Below w.heap.size w w' := by
  go_enter Try.func34, Try.ntmps34
  go_wp2
  go_ret2
  exact ⟨rfl, Below.refl _ _⟩
set_option maxHeartbeats 1000000 in
theorem refBytes_neg (A : Option Addr) (m c : Nat) (n : Int) (w : World) (hn : n < 0) :
    Calls Try.prog 36 #[.slice A m c, .int .i64 n] w fun e w' => e = .returned (.tuple #[.string ⟨#[]⟩, .int .i64 1]) ∧ Below w.heap.size w w' := by
  go_enter Try.func36, Try.ntmps36
  go_wp2
  go_ret2
  exact ⟨rfl, Below.refl _ _⟩
set_option maxHeartbeats 1000000 in
theorem bytes_short (A : Option Addr) (m c n : Nat) (w : World) (hm : m ≤ 65536) (hn : 4 * m < n) (hmax : n ≤ 9223372036854775807) :
    Calls Try.prog 34 #[.slice A m c, .int .i64 n] w fun e w' => e = .returned (.tuple #[.string ⟨#[]⟩, .int .i64 12]) ∧ Below w.heap.size w w' := by
  rcases (show m < n / 4 ∨ n / 4 = m from by omega) with h | h
  · have h1 : (m : Int) < (n : Int) / 4 := by omega
    go_enter Try.func34, Try.ntmps34
    go_wp2
    go_ret2
    exact ⟨rfl, Below.refl _ _⟩
  · have h1 : ¬ (m : Int) < (n : Int) / 4 := by omega
    have h2 : ((n : Int) / 4 == (m : Int)) = true := by simp; omega
    have h3 : ((n : Int) % 4 != 0) = true := by simp; omega
    have H := Lib.hid h
    clear h
    go_enter Try.func34, Try.ntmps34
    go_wp2
    go_ret2
    exact ⟨rfl, Below.refl _ _⟩
theorem bytes_all (l : List Int) (hl : ∀ x ∈ l, 0 ≤ x ∧ x < 4294967296) (A : Option Addr) (m c n : Nat) (w : World) (hx : Reads w w.heap.size A m c (ints .u32 l)) (hm : m ≤ 65536) (hmax : n ≤ 9223372036854775807) :
    Calls Try.prog 34 #[.slice A m c, .int .i64 n] w fun e w' => e = .returned (bytesAns l m n) ∧ Below w.heap.size w w' := by
  unfold bytesAns
  by_cases h : n ≤ 4 * m
  · rw [if_pos h]; exact bytes_ok l hl A m c n w hx hm h
  · rw [if_neg h]; exact bytes_short A m c n w hm (by omega) hmax
end Go.Proofs.Ytbbjlijdodnjaaa
