/- The walks of vlq.Put, ref.Put, vlq.Get. -/
import Derived.Test.YtbbjlijdodnjaaaRows
import Derived.Deep.QuietTactic
import Derived.BigQuiet
import Derived.Test.YtbbjlijdodnjaaaKit
import Derived.Test.YtbbjlijdodnjaaaVlqPlain
import Derived.Test.YtbbjlijdodnjaaaInfoU8
namespace Go.Proofs.Ytbbjlijdodnjaaa
open Go.RowKit

theorem low7 (n : Nat) : bits .or .u8 ((n : Int) % 256) 128 = ((UInt8.ofNat (n % 128 + 128)).toNat : Int) := by
  have h := u8_or_nat (n % 256) 128 (by omega) (by omega)
  rw [UInt8.toNat_ofNat']
  by_cases hb : n % 256 < 128
  · rw [Nat.or_comm, nat_join 7 128 (n % 256) (by omega) (by omega)] at h
    rw [show ((n : Int) % 256) = ((n % 256 : Nat) : Int) from by omega]
    exact h.trans (by omega)
  · have e : n % 256 = 128 + n % 128 := by omega
    have e2 : (n % 256) ||| 128 = n % 256 := by
      rw [e, ← nat_join 7 128 (n % 128) (by omega) (by omega), Nat.or_assoc, Nat.or_comm (n % 128) 128, ← Nat.or_assoc, Nat.or_self]
    rw [e2] at h
    rw [show ((n : Int) % 256) = ((n % 256 : Nat) : Int) from by omega]
    exact h.trans (by omega)
theorem one7 (n : Nat) : (n : Int) % 256 = ((UInt8.ofNat n).toNat : Int) := by
  rw [UInt8.toNat_ofNat']; omega

set_option maxHeartbeats 400000 in
theorem put_any (n : Nat) (w : World) (hn : n < 4294967296) :
    Calls Try.prog 39 #[.int .u32 n] w fun e w' => ∃ v, e = .returned v ∧ w'.ownsRow w.heap.size 5 1 v (putL n).length (bys (putL n)) ∧ Below w.heap.size w w' := by
  obtain ⟨i0, hi0, hz0, hz1, hz2⟩ := info_parts info_u8
  have Hput : Hid (putL n = putF 4 n) := Lib.hid rfl
  generalize putL n = L at *
  go_enter Try.func39, Try.ntmps39
  go_wp2
  go_loopw [0, 3] (fun x v wr => ∃ (f m : Nat) (acc : List UInt8), f ≤ 4 ∧ x = .int .u32 m ∧ m < 16 * 128 ^ f ∧ acc.length + f = 4 ∧ L = acc ++ putF f m ∧ wr.ownsRow w.heap.size 5 1 v acc.length (bys acc) ∧ Below w.heap.size w wr) (fun x _ _ => (intOf x).toNat)
  case atStart => exact ⟨4, n, [], by omega, rfl, by omega, rfl, Hput.out, World.ownsRow_nil _ _ _ _, Below.refl _ _⟩
  case round =>
    obtain ⟨f, m, acc, hf, rfl, hm, hl, hL, hown, hb⟩ := hrel
    have HL := Lib.hid hL
    have Hl := Lib.hid hl
    have hal : acc.length ≤ 4 := by omega
    have hm32 : m < 4294967296 := Nat.lt_of_lt_of_le hm (by rcases (show f = 0 ∨ f = 1 ∨ f = 2 ∨ f = 3 ∨ f = 4 from by omega) with rfl | rfl | rfl | rfl | rfl <;> decide)
    have hsz := hb.size
    clear hL hl
    by_cases hge : 128 ≤ m
    · have H7 := low7 m
      generalize hu : UInt8.ofNat (m % 128 + 128) = u at *
      have Hu := Lib.hid hu
      clear hu
      have hge' : (128 : Int) ≤ (m : Int) := by omega
      have Hm := Lib.hid hm
      clear hm
      go_wp2_with (at_builtin; refine wpList_append_one rfl _ _ 49 rfl w.heap.size 5 i0 (.int .u8 0) 1 Try.underlying49 hi0 hz0 hz1 hz2 rfl _ _ _ (.int .u8 ((u.toNat : Nat) : Int)) hown rfl rfl rfl (by omega) (by omega) hsz ?_; intro v1 w1 hown1 hg1)
      have hf0 : f ≠ 0 := by
        rintro rfl
        have := Hm.out
        omega
      obtain ⟨f', rfl⟩ : ∃ f', f = f' + 1 := ⟨f - 1, by omega⟩
      go_roundw
      case rel =>
        refine ⟨f', m / 128, acc ++ [u], by omega, by go_num, ?_, by have := Hl.out; simp; omega, ?_, by rw [bys_append, List.length_append]; exact hown1, below_grown hb hown (Nat.le_refl _) hsz hg1⟩
        · have := Hm.out
          rw [Nat.pow_succ] at this
          omega
        · rw [HL.out, putF, if_pos hge, List.append_assoc, Hu.out]; rfl
      case measure => simp [intOf]; omega
    · have H7 := Lib.hid (one7 m)
      have hge' : ¬ (128 : Int) ≤ (m : Int) := by omega
      have hm127 : (m : Int) ≤ 127 := by omega
      have HF : Hid (putF f m = [UInt8.ofNat m]) := Lib.hid (by cases f with | zero => rfl | succ f => rw [putF, if_neg hge])
      clear hm
      go_wp2_with (at_builtin; refine wpList_append_one rfl _ _ 49 rfl w.heap.size 5 i0 (.int .u8 0) 1 Try.underlying49 hi0 hz0 hz1 hz2 rfl _ _ _ (.int .u8 (m : Int)) hown rfl rfl rfl (by omega) (by omega) hsz ?_; intro v1 w1 hown1 hg1)
      go_ret
      refine ⟨_, rfl, ?_, below_grown hb hown (Nat.le_refl _) hsz hg1⟩
      have e : bys [UInt8.ofNat m] = [.int .u8 (m : Int)] := by
        simp only [bys, List.map_cons, List.map_nil]
        rw [← H7.out, Int.emod_eq_of_lt (by omega) (by omega)]
      rw [HL.out, HF.out, bys_append, List.length_append, e]
      exact hown1
end Go.Proofs.Ytbbjlijdodnjaaa
