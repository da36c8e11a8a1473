/- The walk of ref.Words. -/
import Derived.Test.YtmofhpebcbpccaaDoorTokAll
namespace Go.Proofs.YtmofhpebcbpccaaDoor
open Go.RowKit

set_option maxHeartbeats 2000000 in
theorem refWords_any (s : ByteArray) (hs : s.size ≤ 100000) (w : World) : Calls Tryd.prog 12 #[.string s] w fun e w' => ∃ v, e = .returned v ∧ w'.ownsRow w.heap.size 40 3 v (wordsOf s).length ((wordsOf s).flatMap tokC) ∧ Below w.heap.size w w' := by
  obtain ⟨i0, hi0, hz0, hz1, hz2⟩ := info_parts info_tok
  have hlen := allOf_len s
  go_enter Tryd.func12, Tryd.ntmps12
  go_wp2_with fail
  refine (all_any s hs _).mono ?_
  rintro e w1 ⟨v1, rfl, hown1, hb1⟩
  obtain ⟨A, c, rfl, hr, hcm, _⟩ := ReadsK.of_own hown1
  have HW : Hid (wordsOf s = (allOf s).filter goes) := Lib.hid rfl
  generalize allOf s = L at *
  obtain ⟨n, hn⟩ : ∃ n, n = L.length := ⟨_, rfl⟩
  rw [← hn] at hr hlen
  rw [← hn]
  have HN := Lib.hid hn
  clear hn hown1
  have hr' := hr.alloc (Nat.le_refl _) (.cells #[] 40)
  have hBs : Below w1.heap.size w1 (w1.alloc (.cells #[] 40)) := (Below.refl _ _).alloc (Nat.le_refl _) _
  have hoT := own_empty w1 40 3
  go_wp2_with fail
  go_loopw [4, 11] (fun out i wr => ∃ k : Nat, k ≤ n ∧ i = .int .i64 (k : Int) ∧ wr.ownsRow w1.heap.size 40 3 out ((L.take k).filter goes).length (((L.take k).filter goes).flatMap tokC) ∧ Below w1.heap.size w1 wr) (fun _ i _ => n - (intOf i).toNat)
  case atStart => exact ⟨0, by omega, rfl, hoT, hBs⟩
  case round =>
    clear hr' hBs hoT
    obtain ⟨k, hk, rfl, hoT, hB⟩ := hrel
    by_cases hlt : k < n
    · obtain ⟨ad, hl, rfl, hbl, c0, hcell⟩ := (hr.below hB).at' tokC_len (by omega) hlt
      have c0 := c0 _ rfl
      have c1 := hcell 1 _ (by omega) rfl
      have c2 := hcell 2 _ (by omega) rfl
      clear hcell
      have hlt' : (k : Int) < (n : Int) := by omega
      have hk0 : (0 : Int) ≤ (k : Int) := by omega
      have HF := Lib.hid (filter_snoc (L.take k) L[k])
      have HD := Lib.hid (List.take_succ_eq_append_getElem hl)
      rw [← HD.out] at HF
      clear HD
      have hml : ((L.take k).filter goes).length ≤ 100001 := Nat.le_trans (List.length_filter_le _ _) (by rw [List.length_take]; omega)
      generalize L[k] = X at *
      obtain ⟨x0, x1, x2⟩ := X
      simp only at c0 c1 c2
      have hone : ∀ v ∈ [Value.int .u8 x0, .string x1, .int .i64 x2], v.oneCell' = true := by simp [Value.oneCell']
      have HC := refStop_any x1 wr
      cases hst : isStop x1
      · rw [hst] at HC
        rw [if_pos (by simp [goes, hst])] at HF
        clear hst
        go_wp2_with fail
        refine HC.mono ?_
        rintro e w3 ⟨rfl, hb3⟩
        have d0 := (hb3.cell (cell_lt c0)).trans c0
        have d1 := (hb3.cell (cell_lt c1)).trans c1
        have d2 := (hb3.cell (cell_lt c2)).trans c2
        have hoT3 := ownsRow_below hoT hb3
        have hB3 := then_ hB hb3
        clear c0 c1 c2 hb3
        go_wp2_with (at_builtin; refine wpList_append_oneK rfl (.tmp 21) (.tmp 26) 24 rfl w1.heap.size 40 i0 _ 3 32 Tryd.underlying24 hi0 hz0 hz1 hz2 rfl (by omega) _ _ _ [.int .u8 x0, .string x1, .int .i64 x2] rfl hoT3 rfl rfl hone (by omega) (by omega) hB3.size ?_; intro v6 w6 hown6 hg6)
        go_roundw
        case rel => exact ⟨k + 1, by omega, by go_num, by rw [HF.out]; simpa [tokC] using hown6, below_grown hB3 hoT3 (Nat.le_refl _) hB3.size hg6⟩
        case measure => simp [intOf]; omega
      · rw [hst] at HC
        rw [if_neg (by simp [goes, hst])] at HF
        clear hst
        go_wp2_with fail
        refine HC.mono ?_
        rintro e w3 ⟨rfl, hb3⟩
        go_wp2
        go_roundw
        case rel => exact ⟨k + 1, by omega, by go_num, by rw [HF.out]; exact ownsRow_below hoT hb3, then_ hB hb3⟩
        case measure => simp [intOf]; omega
    · have hlt' : ¬ (k : Int) < (n : Int) := by omega
      rw [List.take_of_length_le (by rw [← HN.out]; omega)] at hoT
      go_wp2
      go_ret
      exact ⟨_, rfl, by rw [HW.out]; exact ownsRow_base hoT hb1.size, then_ hb1 hB⟩
end Go.Proofs.YtmofhpebcbpccaaDoor
