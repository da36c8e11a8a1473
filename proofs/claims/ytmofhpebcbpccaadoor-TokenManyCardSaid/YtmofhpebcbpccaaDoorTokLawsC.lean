/- TokenMany, walked. -/
import Derived.Test.YtmofhpebcbpccaaDoorTokLaws
namespace Go.Proofs.YtmofhpebcbpccaaDoor
open Go.RowKit

theorem cat_nil : (ByteArray.mk #[]) = repX 0 := rfl
set_option maxRecDepth 100000 in
set_option maxHeartbeats 2000000 in
theorem walkTokenMany {w : World} (hL : LaidF w) (n : Int) (hn : (Lit.int .u8 n).wf = true) (m : Int) (hm : (Lit.int .u8 m).wf = true) : Calls Tryd.prog 5 #[.int .u8 n, .int .u8 m] w fun e w' => e = .returned (.bool true) ∧ Below w.heap.size w w' := by
  have hn' : 0 ≤ n ∧ n ≤ 255 := by simp [Lit.wf, IntKind.min, IntKind.max, IntKind.signed, IntKind.bits] at hn; omega
  have hm' : 0 ≤ m ∧ m ≤ 255 := by simp [Lit.wf, IntKind.min, IntKind.max, IntKind.signed, IntKind.bits] at hm; omega
  clear hn hm
  obtain ⟨N, hN⟩ : ∃ N : Nat, n % 100 = (N : Int) := ⟨(n % 100).toNat, by omega⟩
  obtain ⟨M, hM⟩ : ∃ M : Nat, m % 100 = (M : Int) := ⟨(m % 100).toNat, by omega⟩
  have hN9 : N ≤ 99 := by omega
  have hM9 : M ≤ 99 := by omega
  have HN := Lib.hid hN
  have HM := Lib.hid hM
  clear hN hM
  go_enter Tryd.func5, Tryd.ntmps5
  go_wp2_with fail
  rw [HN.out]
  go_loopw [5, 13] (fun s i wr => ∃ k : Nat, k ≤ N ∧ i = .int .i64 (k : Int) ∧ s = .string (repX k) ∧ w = wr) (fun _ i _ => N - (intOf i).toNat)
  case atStart => exact ⟨0, by omega, rfl, rfl, rfl⟩
  case round =>
    obtain ⟨k, hk, rfl, rfl, rfl⟩ := hrel
    by_cases hlt : k < N
    · have hlt' : (k : Int) < (N : Int) := by omega
      have hxs : (repX k).size ≤ 200 := by rw [repX_size]; omega
      go_wp2
      go_roundw
      case rel => exact ⟨k + 1, by omega, by go_num, rfl, trivial⟩
      case measure => simp [intOf]; omega
    · obtain rfl : k = N := by omega
      have hlt' : ¬ (k : Int) < (k : Int) := by omega
      go_wp2_with fail
      rw [HM.out]
      go_loopw [6, 21] (fun s i wr => ∃ j : Nat, j ≤ M ∧ i = .int .i64 (j : Int) ∧ s = .string (repY j) ∧ w = wr) (fun _ i _ => M - (intOf i).toNat)
      case atStart => exact ⟨0, by omega, rfl, rfl, rfl⟩
      case round =>
        obtain ⟨j, hj, rfl, rfl, rfl⟩ := hrel
        by_cases hlt2 : j < M
        · have hlt2' : (j : Int) < (M : Int) := by omega
          have hxs : (repY j).size ≤ 600 := by rw [repY_size]; omega
          go_wp2
          go_roundw
          case rel => exact ⟨j + 1, by omega, by go_num, rfl, trivial⟩
          case measure => simp [intOf]; omega
        · obtain rfl : j = M := by omega
          have hlt2' : ¬ (j : Int) < (j : Int) := by omega
          have hb1 : Below w.heap.size w (w.alloc (.cells (strs [repX k, repY j]).toArray 9)) := (Below.refl _ _).alloc (Nat.le_refl _) _
          have HT := tokens_any [repX k, repY j] _ 2 2 (hL.below hb1) (built_reads w 9 (strs [repX k, repY j])) (by omega)
          have hsz := repY_size j
          by_cases hbad : 64 < k + j ∨ 512 < 6 * j
          · rw [many_bad k j hbad] at HT
            go_wp2_with fail
            refine HT.mono ?_
            clear HT
            rintro e w2 ⟨v2, rfl, hown2, hb2⟩
            obtain ⟨A2, c2, rfl, _, _, _⟩ := ReadsK.of_own hown2
            have hB2 := then_ hb1 hb2
            have HF := fixed_any (hL.below hB2)
            by_cases h64 : 64 < k + j
            · have h64' : (64 : Int) < n % 100 + m % 100 := by rw [HN.out, HM.out]; omega
              clear hsz h64 hbad
              go_wp2_with fail
              refine HF.mono ?_
              clear HF
              rintro e w3 ⟨rfl, hb3⟩
              have hB3 := then_ hB2 hb3
              go_wp2
              go_ret
              exact ⟨rfl, hB3⟩
            · have h64' : ¬ (64 : Int) < n % 100 + m % 100 := by rw [HN.out, HM.out]; omega
              have h51 : (512 : Int) < ((repY j).size : Int) := by omega
              clear hsz h64 hbad
              go_wp2_with fail
              refine HF.mono ?_
              clear HF
              rintro e w3 ⟨rfl, hb3⟩
              have hB3 := then_ hB2 hb3
              go_wp2
              go_ret
              exact ⟨rfl, hB3⟩
          · have h64' : ¬ (64 : Int) < n % 100 + m % 100 := by rw [HN.out, HM.out]; omega
            have h51 : ¬ (512 : Int) < ((repY j).size : Int) := by omega
            obtain ⟨he, hl⟩ := many_good k j (by omega) (by omega)
            rw [he, hl] at HT
            generalize (docOf [repX k, repY j]).1 = l at *
            have HA : Hid (n % 100 + m % 100 = ((k + j : Nat) : Int)) := Lib.hid (by rw [HN.out, HM.out]; omega)
            clear hsz hbad he hl
            go_wp2_with fail
            refine HT.mono ?_
            clear HT
            rintro e w2 ⟨v2, rfl, hown2, hb2⟩
            obtain ⟨A2, c2, rfl, _, _, _⟩ := ReadsK.of_own hown2
            have hB2 := then_ hb1 hb2
            have HF := fixed_any (hL.below hB2)
            go_wp2_with fail
            rw [HA.out]
            refine HF.mono ?_
            clear HF
            rintro e w3 ⟨rfl, hb3⟩
            have hB3 := then_ hB2 hb3
            go_wp2
            go_ret
            exact ⟨rfl, hB3⟩
end Go.Proofs.YtmofhpebcbpccaaDoor
