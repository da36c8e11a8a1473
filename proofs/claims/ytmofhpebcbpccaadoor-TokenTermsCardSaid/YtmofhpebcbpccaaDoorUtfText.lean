/- The walks of ref.May, ref.Bytes, utf.Text and ref.Text: the bytes of runes. -/
import Derived.Test.YtmofhpebcbpccaaDoorRows
import Derived.Deep.QuietTactic
import Derived.BigQuiet
import Derived.Test.YtmofhpebcbpccaaDoorKit
import Derived.Test.YtmofhpebcbpccaaDoorUtfPlain
namespace Go.Proofs.YtmofhpebcbpccaaDoor
open Go.RowKit

set_option maxHeartbeats 400000 in
theorem may_any (r : Int) (w : World) : Calls Tryd.prog 31 #[.int .i32 r] w fun e w' => e = .returned (.bool (Utf8.valid r)) ∧ w = w' := by
  rcases (show r < 0 ∨ (0 ≤ r ∧ r < 55296) ∨ (55296 ≤ r ∧ r < 57344) ∨ (57344 ≤ r ∧ r ≤ 1114111) ∨ 1114111 < r from by omega) with h | ⟨h, h'⟩ | ⟨h, h'⟩ | ⟨h, h'⟩ | h
  all_goals
    go_enter Tryd.func31, Tryd.ntmps31
    go_wp2
    go_ret
    refine ⟨congrArg (fun b => Ending.returned (.bool b)) ?_, rfl⟩
    rw [Bool.eq_iff_iff]; simp [Utf8.valid]; try omega
theorem info_byte : (Tryd.prog.info? 5).map (fun i => (i.zero, i.size, i.bytes)) = some (some (.int .u8 0), 1, 1) := by kernel_rfl

def enc (r : Int) : List UInt8 := (Utf8.encode r).data.toList
theorem valid_of (r : Int) (h : (0 ≤ r ∧ r < 55296) ∨ (57344 ≤ r ∧ r ≤ 1114111)) : Utf8.valid r = true := by simp [Utf8.valid]; omega
theorem valid_not (r : Int) (h : r < 0 ∨ (55296 ≤ r ∧ r < 57344) ∨ 1114111 < r) : Utf8.valid r = false := by simp [Utf8.valid]; omega

theorem enc_bad (r : Int) (h : r < 0 ∨ (55296 ≤ r ∧ r < 57344) ∨ 1114111 < r) : bys (enc r) = [.int .u8 239, .int .u8 191, .int .u8 189] := by
  have hv := valid_not r h
  simp [enc, Utf8.encode, hv, Utf8.runeError, bys]
theorem byteVal (n : Nat) (h : n < 256) : Value.int .u8 ((UInt8.ofNat n).toNat : Int) = Value.int .u8 (n : Int) := by
  rw [UInt8.toNat_ofNat', Nat.mod_eq_of_lt (by simpa using h)]
theorem enc_n1 (r : Int) (hv : Utf8.valid r = true) (h' : r.toNat < 128) : enc r = [UInt8.ofNat r.toNat] := by
  unfold enc Utf8.encode
  simp only [hv, if_true, h']
theorem enc_n2 (r : Int) (hv : Utf8.valid r = true) (h : ¬ r.toNat < 128) (h' : r.toNat < 2048) : enc r = [UInt8.ofNat (0xC0 + r.toNat / 64), UInt8.ofNat (0x80 + r.toNat % 64)] := by
  unfold enc Utf8.encode
  simp only [hv, if_true, h, h', if_false]
theorem enc_n3 (r : Int) (hv : Utf8.valid r = true) (h : ¬ r.toNat < 128) (h0 : ¬ r.toNat < 2048) (h' : r.toNat < 65536) : enc r = [UInt8.ofNat (0xE0 + r.toNat / 4096), UInt8.ofNat (0x80 + r.toNat / 64 % 64), UInt8.ofNat (0x80 + r.toNat % 64)] := by
  unfold enc Utf8.encode
  simp only [hv, if_true, h, h0, h', if_false]
theorem enc_n4 (r : Int) (hv : Utf8.valid r = true) (h : ¬ r.toNat < 128) (h0 : ¬ r.toNat < 2048) (h' : ¬ r.toNat < 65536) : enc r = [UInt8.ofNat (0xF0 + r.toNat / 262144), UInt8.ofNat (0x80 + r.toNat / 4096 % 64), UInt8.ofNat (0x80 + r.toNat / 64 % 64), UInt8.ofNat (0x80 + r.toNat % 64)] := by
  unfold enc Utf8.encode
  simp only [hv, if_true, h, h0, h', if_false]
theorem cell_eq {a b : Int} (h : a = b) : Value.int .u8 a = Value.int .u8 b := by rw [h]
theorem enc_1 (r : Int) (h : 0 ≤ r) (h' : r < 128) : bys (enc r) = [.int .u8 r] := by
  rw [enc_n1 r (valid_of r (by omega)) (by omega)]
  simp only [bys, List.map_cons, List.map_nil]
  rw [byteVal _ (by omega), cell_eq (a := (r.toNat : Int)) (b := r) (by omega)]
theorem enc_2 (r : Int) (h : 128 ≤ r) (h' : r < 2048) : bys (enc r) = [.int .u8 (192 + r / 64), .int .u8 (128 + r % 64)] := by
  rw [enc_n2 r (valid_of r (by omega)) (by omega) (by omega)]
  simp only [bys, List.map_cons, List.map_nil]
  rw [byteVal _ (by omega), byteVal _ (by omega), cell_eq (a := ((0xC0 + r.toNat / 64 : Nat) : Int)) (b := 192 + r / 64) (by omega), cell_eq (a := ((0x80 + r.toNat % 64 : Nat) : Int)) (b := 128 + r % 64) (by omega)]
theorem enc_3 (r : Int) (h : 2048 ≤ r) (h' : r < 65536) (h'' : r < 55296 ∨ 57344 ≤ r) : bys (enc r) = [.int .u8 (224 + r / 4096), .int .u8 (128 + r / 64 % 64), .int .u8 (128 + r % 64)] := by
  rw [enc_n3 r (valid_of r (by omega)) (by omega) (by omega) (by omega)]
  simp only [bys, List.map_cons, List.map_nil]
  rw [byteVal _ (by omega), byteVal _ (by omega), byteVal _ (by omega), cell_eq (a := ((0xE0 + r.toNat / 4096 : Nat) : Int)) (b := 224 + r / 4096) (by omega), cell_eq (a := ((0x80 + r.toNat / 64 % 64 : Nat) : Int)) (b := 128 + r / 64 % 64) (by omega), cell_eq (a := ((0x80 + r.toNat % 64 : Nat) : Int)) (b := 128 + r % 64) (by omega)]
theorem enc_4 (r : Int) (h : 65536 ≤ r) (h' : r ≤ 1114111) : bys (enc r) = [.int .u8 (240 + r / 262144), .int .u8 (128 + r / 4096 % 64), .int .u8 (128 + r / 64 % 64), .int .u8 (128 + r % 64)] := by
  rw [enc_n4 r (valid_of r (by omega)) (by omega) (by omega) (by omega)]
  simp only [bys, List.map_cons, List.map_nil]
  rw [byteVal _ (by omega), byteVal _ (by omega), byteVal _ (by omega), byteVal _ (by omega), cell_eq (a := ((0xF0 + r.toNat / 262144 : Nat) : Int)) (b := 240 + r / 262144) (by omega), cell_eq (a := ((0x80 + r.toNat / 4096 % 64 : Nat) : Int)) (b := 128 + r / 4096 % 64) (by omega), cell_eq (a := ((0x80 + r.toNat / 64 % 64 : Nat) : Int)) (b := 128 + r / 64 % 64) (by omega), cell_eq (a := ((0x80 + r.toNat % 64 : Nat) : Int)) (b := 128 + r % 64) (by omega)]

set_option maxHeartbeats 1000000 in
theorem bytes_any (r : Int) (w : World) : Calls Tryd.prog 29 #[.int .i32 r] w fun e w' => ∃ v, e = .returned v ∧ w'.ownsRow w.heap.size 5 1 v (enc r).length (bys (enc r)) ∧ Below w.heap.size w w' := by
  rcases (show (r < 0 ∨ (55296 ≤ r ∧ r < 57344) ∨ 1114111 < r) ∨ (0 ≤ r ∧ r < 128) ∨ (128 ≤ r ∧ r < 2048) ∨ (2048 ≤ r ∧ r < 65536 ∧ (r < 55296 ∨ 57344 ≤ r)) ∨ (65536 ≤ r ∧ r ≤ 1114111) from by omega) with h | ⟨h, h'⟩ | ⟨h, h'⟩ | ⟨h, h', h''⟩ | ⟨h, h'⟩
  · have hv := valid_not r h
    go_enter Tryd.func29, Tryd.ntmps29
    go_wp2_with (go_at_call 31; refine (may_any _ _).mono ?_; rintro e w' ⟨rfl, rfl⟩)
    go_ret
    refine ⟨_, rfl, ?_, (Below.refl _ _).alloc (Nat.le_refl _) _⟩
    exact bytes_new w _ _ _ (enc_bad r h) (by simp)
  · have hv := valid_of r (by omega)
    go_enter Tryd.func29, Tryd.ntmps29
    go_wp2_with (go_at_call 31; refine (may_any _ _).mono ?_; rintro e w' ⟨rfl, rfl⟩)
    go_ret
    refine ⟨_, rfl, ?_, (Below.refl _ _).alloc (Nat.le_refl _) _⟩
    exact bytes_new w _ _ _ (enc_1 r h h') (by simp)
  · have hv := valid_of r (by omega)
    go_enter Tryd.func29, Tryd.ntmps29
    go_wp2_with (go_at_call 31; refine (may_any _ _).mono ?_; rintro e w' ⟨rfl, rfl⟩)
    go_ret
    refine ⟨_, rfl, ?_, (Below.refl _ _).alloc (Nat.le_refl _) _⟩
    exact bytes_new w _ _ _ (enc_2 r h h') (by simp)
  · have hv := valid_of r (by omega)
    go_enter Tryd.func29, Tryd.ntmps29
    go_wp2_with (go_at_call 31; refine (may_any _ _).mono ?_; rintro e w' ⟨rfl, rfl⟩)
    go_ret
    refine ⟨_, rfl, ?_, (Below.refl _ _).alloc (Nat.le_refl _) _⟩
    exact bytes_new w _ _ _ (enc_3 r h h' h'') (by simp)
  · have hv := valid_of r (by omega)
    go_enter Tryd.func29, Tryd.ntmps29
    go_wp2_with (go_at_call 31; refine (may_any _ _).mono ?_; rintro e w' ⟨rfl, rfl⟩)
    go_ret
    refine ⟨_, rfl, ?_, (Below.refl _ _).alloc (Nat.le_refl _) _⟩
    exact bytes_new w _ _ _ (enc_4 r h h') (by simp)
end Go.Proofs.YtmofhpebcbpccaaDoor
