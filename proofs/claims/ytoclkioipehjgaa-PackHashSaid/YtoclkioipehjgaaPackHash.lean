/- The walks of pack.Hash and ref.Hash. -/
import Derived.Test.YtoclkioipehjgaaRows
import Derived.Deep.QuietTactic
import Derived.BigQuiet
import Derived.Test.YtoclkioipehjgaaKit
namespace Go.Proofs.Ytoclkioipehjgaa
open Go.RowKit

def hashOf (l : List UInt8) : Nat := l.foldl (fun h b => (h ^^^ b.toNat) * 16777619 % 4294967296) 2166136261
theorem hash_lt (l : List UInt8) : hashOf l < 4294967296 := by
  unfold hashOf
  suffices ∀ h, h < 4294967296 → l.foldl (fun h b => (h ^^^ b.toNat) * 16777619 % 4294967296) h < 4294967296 from this _ (by decide)
  induction l with
  | nil => intro h hh; exact hh
  | cons b l ih => intro h _; exact ih _ (Nat.mod_lt _ (by decide))
theorem hash_snoc (l : List UInt8) (b : UInt8) : hashOf (l ++ [b]) = (hashOf l ^^^ b.toNat) * 16777619 % 4294967296 := by unfold hashOf; rw [List.foldl_append, List.foldl_cons, List.foldl_nil]
theorem hash_take (s : ByteArray) (k : Nat) (h : k < s.size) : hashOf (s.data.toList.take (k + 1)) = (hashOf (s.data.toList.take k) ^^^ (s[k]'h).toNat) * 16777619 % 4294967296 := by
  rw [List.take_succ_eq_append_getElem (by simpa using h), hash_snoc]; rfl
theorem xor_lt (h : Nat) (b : UInt8) (hh : h < 4294967296) : h ^^^ b.toNat < 4294967296 := Nat.xor_lt_two_pow (n := 32) hh (by have := b.toNat_lt; omega)

set_option maxHeartbeats 400000 in
theorem hash_any (s : ByteArray) (w : World) (hs : s.size ≤ 1048576) :
    Calls Try.prog 10 #[.string s] w fun e w' => e = .returned (.int .u32 (hashOf s.data.toList : Nat)) ∧ w = w' := by
  go_enter Try.func10, Try.ntmps10
  go_wp2
  go_loop [3, 7] (fun h i => ∃ k : Nat, k ≤ s.size ∧ i = .int .i64 k ∧ h = .int .u32 (hashOf (s.data.toList.take k) : Nat)) (fun _ i => s.size - (intOf i).toNat)
  case atStart => exact ⟨0, Nat.zero_le _, rfl, rfl⟩
  case round =>
    obtain ⟨k, hk, rfl, rfl⟩ := hrel
    by_cases hlt : k < s.size
    · have hst := Lib.hid (hash_take s k hlt)
      have hl := hash_lt (s.data.toList.take k)
      have hx := xor_lt (hashOf (s.data.toList.take k)) (s[k]'hlt) hl
      have hby : ((s[k]'hlt).toNat : Int) < 256 := by have := (s[k]'hlt).toNat_lt; omega
      have hb := u32_xor_nat (hashOf (s.data.toList.take k)) (s[k]'hlt).toNat hl (by omega)
      generalize hashOf (s.data.toList.take k) = h at *
      go_wp2
      go_round
      case rel => 
        refine ⟨k + 1, by omega, by go_num, ?_⟩
        rw [hst.out]
        exact congrArg (Value.int .u32) (by omega)
      case measure => simp [intOf]; omega
    · have hf : Hid (s.data.toList.take k = s.data.toList) := Lib.hid (List.take_of_length_le (by simp; omega))
      rw [hf.out]
      go_wp2
      go_ret
      exact ⟨rfl, rfl⟩

theorem xor_lt64 (h : Nat) (b : UInt8) (hh : h < 4294967296) : h < 18446744073709551616 ∧ b.toNat < 18446744073709551616 := by have := b.toNat_lt; omega

set_option maxHeartbeats 400000 in
theorem refHash_any (s : ByteArray) (w : World) (hs : s.size ≤ 1048576) :
    Calls Try.prog 11 #[.string s] w fun e w' => e = .returned (.int .u32 (hashOf s.data.toList : Nat)) ∧ w = w' := by
  go_enter Try.func11, Try.ntmps11
  go_wp2
  go_loop [3, 4] (fun h i => ∃ k : Nat, k ≤ s.size ∧ i = .int .i64 k ∧ h = .int .u64 (hashOf (s.data.toList.take k) : Nat)) (fun _ i => s.size - (intOf i).toNat)
  case atStart => exact ⟨0, Nat.zero_le _, rfl, rfl⟩
  case round =>
    obtain ⟨k, hk, rfl, rfl⟩ := hrel
    by_cases hlt : k < s.size
    · have hst := Lib.hid (hash_take s k hlt)
      have hl := hash_lt (s.data.toList.take k)
      have hx := xor_lt (hashOf (s.data.toList.take k)) (s[k]'hlt) hl
      have hby : ((s[k]'hlt).toNat : Int) < 256 := by have := (s[k]'hlt).toNat_lt; omega
      have hb := u64_xor_nat (hashOf (s.data.toList.take k)) (s[k]'hlt).toNat (xor_lt64 _ s[k] hl).1 (xor_lt64 _ s[k] hl).2
      generalize hashOf (s.data.toList.take k) = h at *
      go_wp2
      go_round
      case rel =>
        refine ⟨k + 1, by omega, by go_num, ?_⟩
        rw [hst.out]
        exact congrArg (Value.int .u64) (by omega)
      case measure => simp [intOf]; omega
    · have hf : Hid (s.data.toList.take k = s.data.toList) := Lib.hid (List.take_of_length_le (by simp; omega))
      have hl := hash_lt s.data.toList
      rw [hf.out]
      generalize hh : hashOf s.data.toList = h at *
      have HH := Lib.hid hh
      clear hh
      go_wp2
      go_ret
      exact ⟨by rw [HH.out]; rfl, rfl⟩
end Go.Proofs.Ytoclkioipehjgaa
