/- The walk of image.Size. -/
import Derived.Test.YtbbjlijdodnjaaaImgLay
import Derived.Test.YtbbjlijdodnjaaaImgKit
namespace Go.Proofs.Ytbbjlijdodnjaaa
open Go.RowKit

set_option maxRecDepth 100000 in
set_option maxHeartbeats 8000000 in
theorem size_any (A0 : Option Addr) (nr cr : Nat) (ls : List Lt) (A : Option Addr) (n c : Nat) (w : World) (hl : ReadsL w w.heap.size A n c ls) :
    Calls Try.prog 14 #[.slice A0 nr cr, .slice A n c] w fun e w' => e = .returned (.int .i64 (sizeI nr (ltV ls))) ∧ Below w.heap.size w w' := by
  have HL := lay_any A0 nr cr ls A n c w hl
  have hvl := Lib.hid hl.vlen
  cases hm : mayI nr (ltV ls) with
  | false =>
    rw [hm] at HL
    have HS : Hid (sizeI nr (ltV ls) = 0) := Lib.hid (by rw [sizeI, if_neg (by rw [hm]; simp)])
    clear hm
    go_enter Try.func14, Try.ntmps14
    go_wp2_with fail
    refine HL.mono ?_
    clear HL
    rintro e w1 ⟨v, rfl, _, hb1⟩
    go_wp2
    go_ret
    exact ⟨by rw [HS.out]; rfl, hb1⟩
  | true =>
    rw [hm] at HL
    obtain ⟨hn1, hn2, _⟩ := mayI_parts hm
    have hle := may_lens hm
    rw [hvl.out] at hn2
    have HS : Hid (sizeI nr (ltV ls) = 2 + 4 * nr + 2 * n + (bodyI ((ltV ls).take n)).length) := Lib.hid (by rw [sizeI, if_pos hm, hvl.out, List.take_of_length_le (by rw [hvl.out]; omega)])
    have HB0 := Lib.hid (fun k => body_take_le (ltV ls) k hle)
    clear hm
    go_enter Try.func14, Try.ntmps14
    go_wp2_with fail
    refine HL.mono ?_
    clear HL
    rintro e w1 ⟨v, rfl, hex, hb1⟩
    obtain ⟨cl, hO, hcl⟩ := hex (by first | rfl | trivial)
    clear hex
    have hll : cl.length = n := by have := congrArg List.length hcl; simpa [hvl.out] using this
    obtain ⟨A1, c1, rfl, _, _, _⟩ := ownsRow_slice hO.row
    have hR := hO.reads rfl
    rw [hll] at hR
    have Hcl := Lib.hid (fun k hk => cl_at hcl k hk)
    have hrc := hR.row.cap
    try rw [hll]
    clear hO hcl hle
    go_wp2_with fail
    go_loopw [7, 28] (fun s i wr => ∃ k : Nat, k ≤ n ∧ i = .int .i64 (k : Int) ∧ s = .int .i64 (2 + 4 * nr + 2 * n + ((bodyI ((ltV ls).take k)).length : Nat) : Int) ∧ w1 = wr) (fun _ i _ => n - (intOf i).toNat)
    case atStart => exact ⟨0, by omega, rfl, by simp [bodyI], by first | rfl | trivial⟩
    case round =>
      obtain ⟨k, hk, rfl, rfl, rfl⟩ := hrel
      by_cases hlt : k < n
      · obtain ⟨ad, A', n', c', hlk, rfl, hbk, ck, hn', hrk⟩ := hR.at' hlt
        have hlt' : (k : Int) < (n : Int) := by omega
        have hk0 : (0 : Int) ≤ (k : Int) := by omega
        obtain ⟨he, hk2⟩ := Hcl.out k hlk
        have hbt := body_take (ltV ls) k hk2
        rw [← he, ← hn'] at hbt
        have h1 := HB0.out k
        have h2 := HB0.out (k + 1)
        rw [hvl.out] at h1 h2
        have HT := Lib.hid hbt
        rw [hbt] at h2
        clear hbt he hn' hrk hR
        generalize (bodyI ((ltV ls).take k)).length = X at *
        go_wp2
        go_roundw
        case rel => exact ⟨k + 1, by omega, by go_num, by rw [HT.out]; go_num, by first | rfl | trivial⟩
        case measure => simp [intOf]; omega
      · have hlt' : ¬ (k : Int) < (n : Int) := by omega
        obtain rfl : k = n := by omega
        have h1 := HB0.out k
        generalize (bodyI ((ltV ls).take k)).length = X at *
        go_wp2
        go_ret
        exact ⟨by rw [HS.out]; rfl, hb1⟩
end Go.Proofs.Ytbbjlijdodnjaaa
