/- The walk of image.key. -/
import Derived.Test.YtbbjlijdodnjaaaImgReadMath
import Derived.Test.YtbbjlijdodnjaaaImgKit
namespace Go.Proofs.Ytbbjlijdodnjaaa
open Go.RowKit

set_option maxHeartbeats 1000000 in
theorem key_any (i : Nat) (hi : i < 256) (w : World) :
    Calls Try.prog 25 #[.int .i64 (i : Int)] w fun e w' => e = .returned (.string (keyS i)) ∧ Below w.heap.size w w' := by
  have h1 : IntKind.u8.wrap (i : Int) = (i : Int) := by
    unfold IntKind.wrap
    simp [IntKind.bits, IntKind.signed]
    omega
  have h2 : (i : Int) / 256 = 0 := by omega
  have hb : bys [UInt8.ofNat (i / 256), UInt8.ofNat (i % 256)] = [.int .u8 0, .int .u8 (i : Int)] := by
    simp only [bys, List.map_cons, List.map_nil, UInt8.toNat_ofNat']
    rw [show (i / 256 : Nat) % 2 ^ 8 = 0 from by omega, show (i % 256 : Nat) % 2 ^ 8 = i from by omega]
    rfl
  have hr : Reads (w.alloc (.cells #[.int .u8 0, .int .u8 (i : Int)] 5)) (w.heap.size + 1) (some ⟨w.heap.size, 0, none⟩) 2 2 (bys [UInt8.ofNat (i / 256), UInt8.ofNat (i % 256)]) := by rw [hb]; exact lit_reads w 5 [.int .u8 0, .int .u8 (i : Int)]
  have hcv := run_string_of (P := Try.prog) (W := w.alloc (.cells #[.int .u8 0, .int .u8 (i : Int)] 5)) 49 9 5 Try.underlying49 Try.underlying5 Try.underlying9 (B := w.heap.size + 1) (n := 2) (c := 2) (A := some ⟨w.heap.size, 0, none⟩) (l := [UInt8.ofNat (i / 256), UInt8.ofNat (i % 256)]) hr
  have hB : Below w.heap.size w (w.alloc (.cells #[.int .u8 0, .int .u8 (i : Int)] 5)) := (Below.refl _ _).alloc (Nat.le_refl _) _
  clear hr hb
  go_enter Try.func25, Try.ntmps25
  go_wp2
  go_ret
  exact ⟨rfl, hB⟩
end Go.Proofs.Ytbbjlijdodnjaaa
