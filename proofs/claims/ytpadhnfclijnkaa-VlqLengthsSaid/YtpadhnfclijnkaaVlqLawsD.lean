/- The walk of VlqLengths. -/
import Derived.Test.YtpadhnfclijnkaaVlqLawsC
namespace Go.Proofs.Ytpadhnfclijnkaa
open Go.RowKit

set_option maxRecDepth 100000 in
set_option maxHeartbeats 1000000 in
theorem lengths_le (x y : Nat) (hxy : x ≤ y) (hy : y < 4294967296) (w : World) :
    Calls Try.prog 6 #[.int .u32 x, .int .u32 y] w fun e w' => e = .returned (.bool true) ∧ Below w.heap.size w w' := by
  obtain ⟨f1, f2, f3, f4, f5⟩ := put_facts y hy
  have g1 := (put_facts x (by omega)).1
  have hmono := put_mono x y hxy hy
  have F3 := Lib.hid f3
  have F4 := Lib.hid f4
  have F5 := Lib.hid f5
  clear f3 f4 f5
  have hle : ¬ (y : Int) < (x : Int) := by omega
  go_enter Try.func6, Try.ntmps6
  go_wp2_with fail
  refine (put_any x _ (by omega)).mono ?_
  rintro e w1 ⟨v1, rfl, hown1, hb1⟩
  obtain ⟨A1, c1, rfl, hr1, _⟩ := ownsRow_slice hown1
  go_wp2_with fail
  refine (put_any y _ (by omega)).mono ?_
  rintro e w2 ⟨v2, rfl, hown2, hb2⟩
  obtain ⟨A2, c2, rfl, hr2, _⟩ := ownsRow_slice hown2
  go_wp2_with fail
  refine (fixed_any _).mono ?_
  rintro e w3 ⟨rfl, hb3⟩
  generalize hL : putL y = L at *
  have HL := Lib.hid hL
  clear hL
  have d1 : decide (((putL x).length : Int) < 1) = false := by simp; omega
  have d2 : decide ((5 : Int) < (L.length : Int)) = false := by simp; omega
  have d3 : decide (L.length < (putL x).length) = false := by simp; omega
  have e2 : ((y : Int) / 2 ^ (7 * L.length) != 0) = false := by
    have := F4.out
    simp only [bne_eq_false_iff_eq]
    rw [show ((y : Int) / 2 ^ (7 * L.length)) = ((y / 2 ^ (7 * L.length) : Nat) : Int) from by rw [Int.natCast_ediv, Int.natCast_pow]; rfl, this]
    rfl
  by_cases hl1 : 1 < L.length
  · have e1 : ((y : Int) / 2 ^ (7 * (L.length - 1)) == 0) = false := by
      have := F3.out hl1
      simp only [beq_eq_false_iff_ne, ne_eq]
      rw [show ((y : Int) / 2 ^ (7 * (L.length - 1))) = ((y / 2 ^ (7 * (L.length - 1)) : Nat) : Int) from by rw [Int.natCast_ediv, Int.natCast_pow]; rfl]
      omega
    have hl1' : (1 : Int) < (L.length : Int) := by omega
    go_wp2_with fail
    go_loop [62] (fun i => ∃ k : Nat, k ≤ L.length ∧ i = .int .i64 k) (fun i => L.length - (intOf i).toNat)
    case atStart => exact ⟨0, Nat.zero_le _, rfl⟩
    case round =>
      obtain ⟨k, hk, rfl⟩ := hrel
      by_cases hlt : k < L.length
      · obtain ⟨ad, rfl, hbl, hc⟩ := cell_byteD hr2 hlt
        have hc3 : w3.cell? (ad.add k) = some (.int .u8 ((byteD L k : Nat) : Int)) := by rw [hb3.cell (by rw [add_block]; exact hbl)]; exact hc
        have h5 := F5.out k hlt
        have hlt' : (k : Int) < (L.length : Int) := by omega
        clear hc
        generalize byteD L k = b at *
        by_cases hlast : k + 1 = L.length
        · have q1 : decide ((b : Int) < 128) = true := by simp; omega
          have q2 : ((k : Int) == (L.length : Int) - 1) = true := by simp; omega
          clear h5 hlast
          go_wp2
          go_round
          case rel => exact ⟨k + 1, by omega, by go_num⟩
          case measure => simp [intOf]; omega
        · have q1 : decide ((b : Int) < 128) = false := by simp; omega
          have q2 : ((k : Int) == (L.length : Int) - 1) = false := by simp; omega
          clear h5 hlast
          go_wp2
          go_round
          case rel => exact ⟨k + 1, by omega, by go_num⟩
          case measure => simp [intOf]; omega
      · have hlt' : ¬ (k : Int) < (L.length : Int) := by omega
        go_wp2
        go_ret
        exact ⟨rfl, then_ (then_ hb1 hb2) hb3⟩
  · have hl1' : ¬ (1 : Int) < (L.length : Int) := by omega
    go_wp2_with fail
    go_loop [62] (fun i => ∃ k : Nat, k ≤ L.length ∧ i = .int .i64 k) (fun i => L.length - (intOf i).toNat)
    case atStart => exact ⟨0, Nat.zero_le _, rfl⟩
    case round =>
      obtain ⟨k, hk, rfl⟩ := hrel
      by_cases hlt : k < L.length
      · obtain ⟨ad, rfl, hbl, hc⟩ := cell_byteD hr2 hlt
        have hc3 : w3.cell? (ad.add k) = some (.int .u8 ((byteD L k : Nat) : Int)) := by rw [hb3.cell (by rw [add_block]; exact hbl)]; exact hc
        have h5 := F5.out k hlt
        have hlt' : (k : Int) < (L.length : Int) := by omega
        clear hc
        generalize byteD L k = b at *
        by_cases hlast : k + 1 = L.length
        · have q1 : decide ((b : Int) < 128) = true := by simp; omega
          have q2 : ((k : Int) == (L.length : Int) - 1) = true := by simp; omega
          clear h5 hlast
          go_wp2
          go_round
          case rel => exact ⟨k + 1, by omega, by go_num⟩
          case measure => simp [intOf]; omega
        · have q1 : decide ((b : Int) < 128) = false := by simp; omega
          have q2 : ((k : Int) == (L.length : Int) - 1) = false := by simp; omega
          clear h5 hlast
          go_wp2
          go_round
          case rel => exact ⟨k + 1, by omega, by go_num⟩
          case measure => simp [intOf]; omega
      · have hlt' : ¬ (k : Int) < (L.length : Int) := by omega
        go_wp2
        go_ret
        exact ⟨rfl, then_ (then_ hb1 hb2) hb3⟩

set_option maxRecDepth 100000 in
set_option maxHeartbeats 1000000 in
theorem lengths_gt (x y : Nat) (hxy : x < y) (hy : y < 4294967296) (w : World) :
    Calls Try.prog 6 #[.int .u32 y, .int .u32 x] w fun e w' => e = .returned (.bool true) ∧ Below w.heap.size w w' := by
  obtain ⟨f1, f2, f3, f4, f5⟩ := put_facts y hy
  have g1 := (put_facts x (by omega)).1
  have hmono := put_mono x y (by omega) hy
  have F3 := Lib.hid f3
  have F4 := Lib.hid f4
  have F5 := Lib.hid f5
  clear f3 f4 f5
  have hle : (x : Int) < (y : Int) := by omega
  go_enter Try.func6, Try.ntmps6
  go_wp2_with fail
  refine (put_any x _ (by omega)).mono ?_
  rintro e w1 ⟨v1, rfl, hown1, hb1⟩
  obtain ⟨A1, c1, rfl, hr1, _⟩ := ownsRow_slice hown1
  go_wp2_with fail
  refine (put_any y _ (by omega)).mono ?_
  rintro e w2 ⟨v2, rfl, hown2, hb2⟩
  obtain ⟨A2, c2, rfl, hr2, _⟩ := ownsRow_slice hown2
  go_wp2_with fail
  refine (fixed_any _).mono ?_
  rintro e w3 ⟨rfl, hb3⟩
  generalize hL : putL y = L at *
  have HL := Lib.hid hL
  clear hL
  have d1 : decide (((putL x).length : Int) < 1) = false := by simp; omega
  have d2 : decide ((5 : Int) < (L.length : Int)) = false := by simp; omega
  have d3 : decide (L.length < (putL x).length) = false := by simp; omega
  have e2 : ((y : Int) / 2 ^ (7 * L.length) != 0) = false := by
    have := F4.out
    simp only [bne_eq_false_iff_eq]
    rw [show ((y : Int) / 2 ^ (7 * L.length)) = ((y / 2 ^ (7 * L.length) : Nat) : Int) from by rw [Int.natCast_ediv, Int.natCast_pow]; rfl, this]
    rfl
  by_cases hl1 : 1 < L.length
  · have e1 : ((y : Int) / 2 ^ (7 * (L.length - 1)) == 0) = false := by
      have := F3.out hl1
      simp only [beq_eq_false_iff_ne, ne_eq]
      rw [show ((y : Int) / 2 ^ (7 * (L.length - 1))) = ((y / 2 ^ (7 * (L.length - 1)) : Nat) : Int) from by rw [Int.natCast_ediv, Int.natCast_pow]; rfl]
      omega
    have hl1' : (1 : Int) < (L.length : Int) := by omega
    go_wp2_with fail
    go_loop [62] (fun i => ∃ k : Nat, k ≤ L.length ∧ i = .int .i64 k) (fun i => L.length - (intOf i).toNat)
    case atStart => exact ⟨0, Nat.zero_le _, rfl⟩
    case round =>
      obtain ⟨k, hk, rfl⟩ := hrel
      by_cases hlt : k < L.length
      · obtain ⟨ad, rfl, hbl, hc⟩ := cell_byteD hr2 hlt
        have hc3 : w3.cell? (ad.add k) = some (.int .u8 ((byteD L k : Nat) : Int)) := by rw [hb3.cell (by rw [add_block]; exact hbl)]; exact hc
        have h5 := F5.out k hlt
        have hlt' : (k : Int) < (L.length : Int) := by omega
        clear hc
        generalize byteD L k = b at *
        by_cases hlast : k + 1 = L.length
        · have q1 : decide ((b : Int) < 128) = true := by simp; omega
          have q2 : ((k : Int) == (L.length : Int) - 1) = true := by simp; omega
          clear h5 hlast
          go_wp2
          go_round
          case rel => exact ⟨k + 1, by omega, by go_num⟩
          case measure => simp [intOf]; omega
        · have q1 : decide ((b : Int) < 128) = false := by simp; omega
          have q2 : ((k : Int) == (L.length : Int) - 1) = false := by simp; omega
          clear h5 hlast
          go_wp2
          go_round
          case rel => exact ⟨k + 1, by omega, by go_num⟩
          case measure => simp [intOf]; omega
      · have hlt' : ¬ (k : Int) < (L.length : Int) := by omega
        go_wp2
        go_ret
        exact ⟨rfl, then_ (then_ hb1 hb2) hb3⟩
  · have hl1' : ¬ (1 : Int) < (L.length : Int) := by omega
    go_wp2_with fail
    go_loop [62] (fun i => ∃ k : Nat, k ≤ L.length ∧ i = .int .i64 k) (fun i => L.length - (intOf i).toNat)
    case atStart => exact ⟨0, Nat.zero_le _, rfl⟩
    case round =>
      obtain ⟨k, hk, rfl⟩ := hrel
      by_cases hlt : k < L.length
      · obtain ⟨ad, rfl, hbl, hc⟩ := cell_byteD hr2 hlt
        have hc3 : w3.cell? (ad.add k) = some (.int .u8 ((byteD L k : Nat) : Int)) := by rw [hb3.cell (by rw [add_block]; exact hbl)]; exact hc
        have h5 := F5.out k hlt
        have hlt' : (k : Int) < (L.length : Int) := by omega
        clear hc
        generalize byteD L k = b at *
        by_cases hlast : k + 1 = L.length
        · have q1 : decide ((b : Int) < 128) = true := by simp; omega
          have q2 : ((k : Int) == (L.length : Int) - 1) = true := by simp; omega
          clear h5 hlast
          go_wp2
          go_round
          case rel => exact ⟨k + 1, by omega, by go_num⟩
          case measure => simp [intOf]; omega
        · have q1 : decide ((b : Int) < 128) = false := by simp; omega
          have q2 : ((k : Int) == (L.length : Int) - 1) = false := by simp; omega
          clear h5 hlast
          go_wp2
          go_round
          case rel => exact ⟨k + 1, by omega, by go_num⟩
          case measure => simp [intOf]; omega
      · have hlt' : ¬ (k : Int) < (L.length : Int) := by omega
        go_wp2
        go_ret
        exact ⟨rfl, then_ (then_ hb1 hb2) hb3⟩

theorem walkVlqLengths (n : Int) (hn : (Lit.int .u32 n).wf = true) (m : Int) (hm : (Lit.int .u32 m).wf = true) (w : World) :
    Calls Try.prog 6 #[.int .u32 n, .int .u32 m] w fun e w' => e = .returned (.bool true) ∧ Below w.heap.size w w' := by
  obtain ⟨a0, a1⟩ := wf32 hn
  obtain ⟨b0, b1⟩ := wf32 hm
  obtain ⟨x, rfl⟩ := Int.eq_ofNat_of_zero_le a0
  obtain ⟨y, rfl⟩ := Int.eq_ofNat_of_zero_le b0
  by_cases h : x ≤ y
  · exact lengths_le x y h (by omega) w
  · exact lengths_gt y x (by omega) (by omega) w
end Go.Proofs.Ytpadhnfclijnkaa
