/- The walks of ref.Put, vlq.Get. -/
import Derived.Test.YtbbjlijdodnjaaaVlqWalks
namespace Go.Proofs.Ytbbjlijdodnjaaa
open Go.RowKit

set_option maxHeartbeats 400000 in
theorem refPut_any (n : Nat) (w : World) (hn : n < 4294967296) :
    Calls Try.prog 41 #[.int .u32 n] w fun e w' => ∃ v, e = .returned v ∧ w'.ownsRow w.heap.size 5 1 v (putL n).length (bys (putL n)) ∧ Below w.heap.size w w' := by
  obtain ⟨i0, hi0, hz0, hz1, hz2⟩ := info_parts info_u8
  have Hput : Hid (putL n = putF 4 n) := Lib.hid rfl
  generalize putL n = L at *
  go_enter Try.func41, Try.ntmps41
  go_wp2
  go_loopw [0, 3] (fun x v wr => ∃ (f m : Nat) (acc : List UInt8), f ≤ 4 ∧ x = .int .u32 m ∧ m < 16 * 128 ^ f ∧ acc.length + f = 4 ∧ L = acc ++ putF f m ∧ wr.ownsRow w.heap.size 5 1 v acc.length (bys acc) ∧ Below w.heap.size w wr) (fun x _ _ => (intOf x).toNat)
  case atStart => exact ⟨4, n, [], by omega, rfl, by omega, rfl, Hput.out, built_new w _ [] (by simp), (Below.refl _ _).alloc (Nat.le_refl _) _⟩
  case round =>
    obtain ⟨f, m, acc, hf, rfl, hm, hl, hL, hown, hb⟩ := hrel
    have HL := Lib.hid hL
    have Hl := Lib.hid hl
    have hal : acc.length ≤ 4 := by omega
    have hm32 : m < 4294967296 := Nat.lt_of_lt_of_le hm (by rcases (show f = 0 ∨ f = 1 ∨ f = 2 ∨ f = 3 ∨ f = 4 from by omega) with rfl | rfl | rfl | rfl | rfl <;> decide)
    have hsz := hb.size
    clear hL hl
    by_cases hge : 128 ≤ m
    · have hge' : (127 : Int) < (m : Int) := by omega
      have Hm := Lib.hid hm
      clear hm
      go_wp2_with (at_builtin; refine wpList_append_one rfl _ _ 49 rfl w.heap.size 5 i0 (.int .u8 0) 1 Try.underlying49 hi0 hz0 hz1 hz2 rfl _ _ _ (.int .u8 ((m : Int) % 128 + 128)) hown rfl rfl rfl (by omega) (by omega) hsz ?_; intro v1 w1 hown1 hg1)
      have hf0 : f ≠ 0 := by
        rintro rfl
        have := Hm.out
        omega
      obtain ⟨f', rfl⟩ : ∃ f', f = f' + 1 := ⟨f - 1, by omega⟩
      go_roundw
      case rel =>
        have e : bys [UInt8.ofNat (m % 128 + 128)] = [.int .u8 ((m : Int) % 128 + 128)] := by
          simp only [bys, List.map_cons, List.map_nil]
          rw [UInt8.toNat_ofNat', show (m % 128 + 128) % 2 ^ 8 = m % 128 + 128 from by omega]
          rfl
        refine ⟨f', m / 128, acc ++ [UInt8.ofNat (m % 128 + 128)], by omega, by go_num, ?_, by have := Hl.out; simp; omega, ?_, by rw [bys_append, List.length_append, e]; exact hown1, below_grown hb hown (Nat.le_refl _) hsz hg1⟩
        · have := Hm.out
          rw [Nat.pow_succ] at this
          omega
        · rw [HL.out, putF, if_pos hge, List.append_assoc]; rfl
      case measure => simp [intOf]; omega
    · have H7 := Lib.hid (one7 m)
      have hge' : ¬ (127 : Int) < (m : Int) := by omega
      have hm127 : (m : Int) ≤ 127 := by omega
      have HF : Hid (putF f m = [UInt8.ofNat m]) := Lib.hid (by cases f with | zero => rfl | succ f => rw [putF, if_neg hge])
      clear hm
      go_wp2_with (at_builtin; refine wpList_append_one rfl _ _ 49 rfl w.heap.size 5 i0 (.int .u8 0) 1 Try.underlying49 hi0 hz0 hz1 hz2 rfl _ _ _ (.int .u8 (m : Int)) hown rfl rfl rfl (by omega) (by omega) hsz ?_; intro v1 w1 hown1 hg1)
      go_ret
      refine ⟨_, rfl, ?_, below_grown hb hown (Nat.le_refl _) hsz hg1⟩
      have e : bys [UInt8.ofNat m] = [.int .u8 (m : Int)] := by
        simp only [bys, List.map_cons, List.map_nil]
        rw [← H7.out, Int.emod_eq_of_lt (by omega) (by omega)]
      rw [HL.out, HF.out, bys_append, List.length_append, e]
      exact hown1

theorem cell_byteD {w : World} {B m c : Nat} {A : Option Addr} {b : List UInt8} (h : Reads w B A m c (bys b)) {i : Nat} (hi : i < m) : ∃ ad, A = some ad ∧ ad.block < B ∧ w.cell? (ad.add i) = some (.int .u8 ((byteD b i : Nat) : Int)) := by
  obtain ⟨ad, e, hb, hc⟩ := h.get hi
  have hl : i < b.length := by have := h.len; rw [bys_length] at this; omega
  refine ⟨ad, e, hb, ?_⟩
  rw [hc]
  unfold byteD
  rw [List.getD, List.getElem?_eq_getElem hl, Option.getD_some]
  simp [bys]
def gotV (g : Got) : Value := .tuple #[.int .u32 (g.n : Nat), .int .i64 (g.next : Nat), .int .i64 (g.err : Nat)]

set_option maxRecDepth 100000 in
set_option maxHeartbeats 1000000 in
theorem get_any (b : List UInt8) (A : Option Addr) (m c p : Nat) (w : World) (hx : Reads w w.heap.size A m c (bys b)) (hm : m ≤ 1048576) (hp : p ≤ m) :
    Calls Try.prog 42 #[.slice A m c, .int .i64 p] w fun e w' => e = .returned (gotV (getL b p)) ∧ w = w' := by
  have hbl : b.length = m := by have := hx.len; rwa [bys_length] at this
  have Hbl := Lib.hid hbl
  clear hbl
  have hpm : ¬ (m : Int) < (p : Int) := by omega
  go_enter Try.func42, Try.ntmps42
  go_wp2
  go_loop [7, 18] (fun n i => ∃ k : Nat, k ≤ 4 ∧ i = .int .i64 k ∧ n = .int .u32 (accV b p k : Nat) ∧ Cont b p k ∧ p + k ≤ m) (fun _ i => 5 - (intOf i).toNat)
  case atStart => exact ⟨0, by omega, rfl, rfl, fun t ht => by omega, hp⟩
  case round =>
    obtain ⟨k, hk, rfl, rfl, hc, hpk⟩ := hrel
    have hk5 : (k : Int) < 5 := by omega
    by_cases hend : p + k = m
    · have HG := Lib.hid (get_short b p k hk hc (by rw [Hbl.out]; exact hend))
      have h1 : (m : Int) - (p : Int) ≤ (k : Int) := by omega
      clear hend
      go_wp2
      go_ret3
      exact ⟨by rw [HG.out]; rfl, rfl⟩
    · have h1 : ¬ (m : Int) - (p : Int) ≤ (k : Int) := by omega
      have hlt : p + k < m := by omega
      obtain ⟨ad, rfl, _, hcell⟩ := cell_byteD hx hlt
      have hx256 := byteD_lt b (p + k)
      have hacc := accV_lt b p k
      have hacc32 : accV b p k < 4294967296 := Nat.lt_of_lt_of_le hacc (by rcases (show k = 0 ∨ k = 1 ∨ k = 2 ∨ k = 3 ∨ k = 4 from by omega) with rfl | rfl | rfl | rfl | rfl <;> decide)
      by_cases hform : (byteD b (p + k) = 0 ∧ 0 < k) ∨ (k = 4 ∧ 15 < byteD b (p + k))
      · have HG := Lib.hid (get_form b p k hk hc (by rw [Hbl.out]; exact hlt) hform)
        generalize byteD b (p + k) = x at *
        by_cases hz : x = 0 ∧ 0 < k
        · obtain ⟨rfl, h0⟩ := hz
          clear hform hacc
          go_wp2
          go_ret3
          exact ⟨by rw [HG.out]; rfl, rfl⟩
        · have h4 : k = 4 := by omega
          have h15 : 15 < x := by omega
          have hz0 : ((x : Int) == 0) = false := by simp; omega
          have hk4 : ((k : Int) == 4) = true := by simp; omega
          have H4 := Lib.hid h4
          clear hform hacc hz h4
          go_wp2
          go_ret3
          exact ⟨by rw [HG.out]; rfl, rfl⟩
      · by_cases hx128 : byteD b (p + k) < 128
        · have HG := Lib.hid (get_ok b p k hk hc (by rw [Hbl.out]; exact hlt) hform hx128)
          obtain ⟨hf1, hf2⟩ := acc_fits b p k hk _ hx128 (fun h => by omega)
          have hor := or_vlq (accV b p k) (byteD b (p + k)) k hacc hf1 hacc32
          generalize byteD b (p + k) = x at *
          generalize accV b p k = v at *
          clear hacc hf1
          have HF := Lib.hid hform
          have Hor := hor
          clear hor
          by_cases hz : x = 0
          · have hk0 : Hid (k = 0) := Lib.hid (by omega)
            have hk0' : ¬ (0 : Int) < (k : Int) := by omega
            have hz0 : ((x : Int) == 0) = true := by simp; omega
            have hk4 : ((k : Int) == 4) = false := by simp; omega
            have HZ := Lib.hid hz
            clear hform hz
            go_wp2
            go_ret3
            exact ⟨by rw [HG.out]; rfl, rfl⟩
          · have hz0 : ((x : Int) == 0) = false := by simp; omega
            have HZ := Lib.hid hz
            by_cases hk4 : k = 4
            · have hk4b : ((k : Int) == 4) = true := by simp; omega
              have h15 : ¬ 15 < (x : Int) := by omega
              have H4 := Lib.hid hk4
              clear hform hz hk4
              go_wp2
              go_ret3
              exact ⟨by rw [HG.out]; rfl, rfl⟩
            · have hk4b : ((k : Int) == 4) = false := by simp; omega
              clear hform hz
              go_wp2
              go_ret3
              exact ⟨by rw [HG.out]; rfl, rfl⟩
        · have hge : 128 ≤ byteD b (p + k) := by omega
          have hk4 : k < 4 := by omega
          have hc' := Lib.hid (hc.succ hge)
          have hst : Hid (accV b p (k + 1) = accV b p k + (byteD b (p + k) - 128) * 2 ^ (7 * k)) := Lib.hid rfl
          obtain ⟨hf1, hf2⟩ := acc_fits b p k hk (byteD b (p + k) - 128) (by omega) (fun h => by omega)
          have hor := or_vlq (accV b p k) (byteD b (p + k) - 128) k hacc hf1 hacc32
          have hand := u8_and_nat (byteD b (p + k)) 127 hx256 (by omega)
          rw [nat_mask7, show byteD b (p + k) % 128 = byteD b (p + k) - 128 from by omega] at hand
          have hand' : bits .and .u8 ((byteD b (p + k) : Nat) : Int) 127 = ((byteD b (p + k) - 128 : Nat) : Int) := hand
          have hz0 : (((byteD b (p + k) : Nat) : Int) == 0) = false := by simp; omega
          have hk4b : ((k : Int) == 4) = false := by simp; omega
          clear hform hacc hf1 hf2 hand
          generalize hy : byteD b (p + k) - 128 = y at *
          have Hy := Lib.hid hy
          have hy' : y < 128 := by omega
          clear hy
          generalize byteD b (p + k) = x at *
          generalize accV b p k = v at *
          go_wp2
          go_round
          case rel => exact ⟨k + 1, by omega, by go_num, by rw [hst.out]; exact congrArg (Value.int .u32) (by rw [Int.natCast_add, Int.natCast_mul, Int.natCast_pow]; rfl), hc'.out, by omega⟩
          case measure => simp [intOf]; omega

set_option maxRecDepth 100000 in
set_option maxHeartbeats 1000000 in
theorem get_out (A : Option Addr) (m c : Nat) (p : Int) (w : World) (hp : p < 0 ∨ (m : Int) < p) :
    Calls Try.prog 42 #[.slice A m c, .int .i64 p] w fun e w' => e = .returned (gotV ⟨0, 0, 1⟩) ∧ w = w' := by
  rcases (show p < 0 ∨ (0 ≤ p ∧ (m : Int) < p) from by omega) with h | ⟨h, h'⟩
  all_goals
    go_enter Try.func42, Try.ntmps42
    go_wp2
    go_ret3
    exact ⟨rfl, rfl⟩
end Go.Proofs.Ytbbjlijdodnjaaa
