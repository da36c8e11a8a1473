/- TokenDocs, walked. -/
import Derived.Test.YtmofhpebcbpccaaDoorTokLaws
namespace Go.Proofs.YtmofhpebcbpccaaDoor
open Go.RowKit

set_option maxRecDepth 100000 in
set_option maxHeartbeats 2000000 in
theorem walkTokenDocs {w : World} (hL : LaidF w) (fs : List ByteArray) (A : Option Addr) (n c : Nat) (hx : Reads w w.heap.size A n c (strs fs)) (_ : c ≤ maxLen) : Calls Tryd.prog 4 #[.slice A n c] w fun e w' => e = .returned (.bool true) ∧ Below w.heap.size w w' := by
  have HF := fixed_any hL
  go_enter Tryd.func4, Tryd.ntmps4
  go_wp2_with fail
  go_loopw [11] (fun i wr => ∃ k : Nat, k ≤ n ∧ k ≤ 21 ∧ i = .int .i64 (k : Int) ∧ w = wr) (fun i _ => n - (intOf i).toNat)
  case atStart => exact ⟨0, by omega, by omega, rfl, rfl⟩
  case round =>
    obtain ⟨k, hk, hk21, rfl, rfl⟩ := hrel
    by_cases hlt : k < n
    · obtain ⟨ad, hl, rfl, hbl, hc⟩ := hx.str hlt
      have hlt' : (k : Int) < (n : Int) := by omega
      have hk0 : (0 : Int) ≤ (k : Int) := by omega
      by_cases h20 : 20 < k
      · have h20' : (20 : Int) < (k : Int) := by omega
        go_wp2_with fail
        refine HF.mono ?_
        rintro e w1 ⟨rfl, hb1⟩
        go_wp2
        go_ret
        exact ⟨rfl, hb1⟩
      · have h20' : ¬ (20 : Int) < (k : Int) := by omega
        by_cases hz : 2000 < fs[k].size
        · have hz' : (2000 : Int) < (fs[k].size : Int) := by omega
          clear hz
          go_wp2_with fail
          refine HF.mono ?_
          rintro e w1 ⟨rfl, hb1⟩
          go_wp2
          go_ret
          exact ⟨rfl, hb1⟩
        · have hz' : ¬ (2000 : Int) < (fs[k].size : Int) := by omega
          clear hz
          go_wp2
          go_roundw
          case rel => exact ⟨k + 1, by omega, by omega, by go_num, by first | rfl | trivial⟩
          case measure => simp [intOf]; omega
    · obtain rfl : k = n := by omega
      have hlt' : ¬ (k : Int) < (k : Int) := by omega
      clear HF
      have HT := tokens_any fs A k c hL hx (by omega)
      go_wp2_with fail
      refine HT.mono ?_
      clear HT
      rintro e w1 ⟨v1, rfl, hown1, hb1⟩
      have HT := refTokens_any fs A k c ((hx.below hb1).more hb1.size) (by omega)
      go_wp2_with fail
      refine HT.mono ?_
      clear HT
      rintro e w2 ⟨v2, rfl, hown2, hb2⟩
      have hown1 := ownsRow_below hown1 hb2
      have hB2 := then_ hb1 hb2
      have HF := fixed_any (hL.below hB2)
      have hdl : (docOf fs).1.length ≤ 64 := by
        rw [docOf]
        split
        · simp
        · split
          · simp
          · simp only; omega
      go_wp2_with fail
      refine HF.mono ?_
      clear HF
      rintro e w3 ⟨rfl, hb3⟩
      have hown1 := ownsRow_below hown1 hb3
      have hown2 := ownsRow_below hown2 hb3
      have hB3 := then_ hB2 hb3
      obtain ⟨A2, c2, rfl, hr2, _, _⟩ := ReadsK.of_own hown1
      obtain ⟨A3, c3, rfl, hr3, _, _⟩ := ReadsK.of_own hown2
      have HS := same_any _ _ _ _ _ _ _ _ _ hr2 hr3 (by omega) (by omega)
      rw [decide_eq_true rfl] at HS
      clear hr2 hr3 hown1 hown2 hb1 hb2 hb3
      generalize (docOf fs).2 = E at *
      generalize (docOf fs).1.length = m at *
      go_wp2_with fail
      refine HS.mono ?_
      clear HS
      rintro e w4 ⟨rfl, hb4⟩
      have hB4 := then_ hB3 hb4
      go_wp2
      go_ret
      exact ⟨rfl, hB4⟩
end Go.Proofs.YtmofhpebcbpccaaDoor
