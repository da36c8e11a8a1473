/- The walk of ref14's less. -/
import Derived.Test.YtbbjlijdodnjaaaImgMath
import Derived.Test.YtbbjlijdodnjaaaRows
import Derived.Test.YtbbjlijdodnjaaaKit
import Derived.Deep.QuietTactic
import Derived.BigQuiet
namespace Go.Proofs.Ytbbjlijdodnjaaa
open Go.RowKit

theorem less_same (l a b : List UInt8) : Op.bytesLess (l ++ a) (l ++ b) = Op.bytesLess a b := by
  induction l with
  | nil => rfl
  | cons x l ih =>
    rw [List.cons_append, List.cons_append, Op.bytesLess, ih]
    have : ¬ x < x := by simp
    simp [this]
theorem less_at {a b : List UInt8} (k : Nat) (ha : k < a.length) (hb : k < b.length) (h : a.take k = b.take k) (hne : a[k] ≠ b[k]) : Op.bytesLess a b = decide (a[k] < b[k]) := by
  conv => lhs; rw [← List.take_append_drop k a, ← List.take_append_drop k b, h, less_same, List.drop_eq_getElem_cons ha, List.drop_eq_getElem_cons hb, Op.bytesLess]
  simp [hne]
theorem less_end {a b : List UInt8} (k : Nat) (h : a.take k = b.take k) (ha : k ≤ a.length) (hb : k ≤ b.length) (he : k = a.length ∨ k = b.length) : Op.bytesLess a b = decide (a.length < b.length) := by
  conv => lhs; rw [← List.take_append_drop k a, ← List.take_append_drop k b, h, less_same]
  rcases he with rfl | rfl
  · rw [List.drop_length]
    by_cases hl : a.length < b.length
    · rw [List.drop_eq_getElem_cons hl, Op.bytesLess]
      simp [hl]
    · rw [List.drop_of_length_le (show b.length ≤ a.length by omega), Op.bytesLess]
      simp [hl]
  · rw [List.drop_length]
    have : ¬ a.length < b.length := by omega
    simp [Op.bytesLess, this]
set_option maxHeartbeats 1000000 in
theorem less_any (a b : ByteArray) (ha : a.size ≤ maxLen) (hb : b.size ≤ maxLen) (w : World) :
    Calls Try.prog 29 #[.string a, .string b] w fun e w' => e = .returned (.bool (keyLt a b)) ∧ ∃ q, w' = w.drewN q := by
  simp only [maxLen] at ha hb
  have ea : a.data.toList.length = a.size := by simp
  have eb : b.data.toList.length = b.size := by simp
  have Ea := Lib.hid ea
  have Eb := Lib.hid eb
  have HK : Hid (keyLt a b = Op.bytesLess a.data.toList b.data.toList) := Lib.hid (by rw [keyLt, ByteArray.toList_eq, ByteArray.toList_eq])
  clear ea eb
  go_enter Try.func29, Try.ntmps29
  go_wp2
  go_loopw [5] (fun i wr => ∃ k : Nat, k ≤ a.size ∧ k ≤ b.size ∧ i = .int .i64 (k : Int) ∧ Hid (a.data.toList.take k = b.data.toList.take k) ∧ ∃ q, wr = w.drewN q) (fun i _ => a.size - (intOf i).toNat)
  case atStart => exact ⟨0, by omega, by omega, rfl, Lib.hid rfl, 0, rfl⟩
  case round =>
    obtain ⟨k, hka, hkb, rfl, HT, q, rfl⟩ := hrel
    by_cases h1 : k < a.size
    · by_cases h2 : k < b.size
      · have h1' : (k : Int) < (a.size : Int) := by omega
        have h2' : (k : Int) < (b.size : Int) := by omega
        have hk0 : (0 : Int) ≤ (k : Int) := by omega
        by_cases he : a[k] = b[k]
        · have hne : (((a[k]'h1).toNat : Int) != ((b[k]'h2).toNat : Int)) = false := by rw [he]; simp
          have HT2 : Hid (a.data.toList.take (k + 1) = b.data.toList.take (k + 1)) := Lib.hid (by
            rw [List.take_succ_eq_append_getElem (by rw [Ea.out]; exact h1), List.take_succ_eq_append_getElem (by rw [Eb.out]; exact h2), HT.out]
            exact congrArg (fun x => _ ++ [x]) he)
          clear he
          go_wp2
          go_quiet (fail)
          go_wp2
          go_roundw
          case rel => exact ⟨k + 1, by omega, by omega, by go_num, HT2, _, rfl⟩
          case measure => simp [intOf]; omega
        · have hne : (((a[k]'h1).toNat : Int) != ((b[k]'h2).toNat : Int)) = true := by
            simp only [bne_iff_ne, ne_eq]
            exact fun e => he (UInt8.toNat_inj.1 (by omega))
          have HL : Hid (keyLt a b = decide ((a[k]'h1).toNat < (b[k]'h2).toNat)) := Lib.hid (by
            rw [HK.out, less_at k (by rw [Ea.out]; exact h1) (by rw [Eb.out]; exact h2) HT.out he]
            show decide (a[k] < b[k]) = _
            simp only [UInt8.lt_iff_toNat_lt])
          clear he
          go_wp2
          go_quiet (fail)
          go_wp2
          go_quiet (fail)
          go_wp2
          go_ret
          exact ⟨by rw [HL.out]; rfl, _, by simp only [World.drewN_drewN]; rfl⟩
      · have h1' : (k : Int) < (a.size : Int) := by omega
        have h2' : ¬ (k : Int) < (b.size : Int) := by omega
        have HL : Hid (keyLt a b = decide (a.size < b.size)) := Lib.hid (by
          rw [HK.out, less_end k HT.out (by rw [Ea.out]; omega) (by rw [Eb.out]; omega) (by rw [Eb.out]; omega), Ea.out, Eb.out])
        go_wp2
        go_ret
        exact ⟨by rw [HL.out]; rfl, _, rfl⟩
    · have h1' : ¬ (k : Int) < (a.size : Int) := by omega
      have HL : Hid (keyLt a b = decide (a.size < b.size)) := Lib.hid (by
        rw [HK.out, less_end k HT.out (by rw [Ea.out]; omega) (by rw [Eb.out]; omega) (by rw [Ea.out]; omega), Ea.out, Eb.out])
      go_wp2
      go_ret
      exact ⟨by rw [HL.out]; rfl, _, rfl⟩
end Go.Proofs.Ytbbjlijdodnjaaa
