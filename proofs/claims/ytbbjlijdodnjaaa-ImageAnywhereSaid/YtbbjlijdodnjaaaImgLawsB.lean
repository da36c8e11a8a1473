/- ImageAnywhere, walked: printed by wip/bin/gen_reg.py. -/
import Derived.Test.YtbbjlijdodnjaaaImgLawsA
import Derived.Test.YtbbjlijdodnjaaaImgOpen
import Derived.Test.YtbbjlijdodnjaaaImgPlain
import Derived.Test.YtbbjlijdodnjaaaBlkCopy
import Derived.Test.YtbbjlijdodnjaaaHand
namespace Go.Proofs.Ytbbjlijdodnjaaa
open Go.RowKit

theorem rows_rng {rows : List Rv} (h : ∀ x ∈ rows, RvOk x) : ∀ x ∈ rows.flatMap rwI, Rng x := by
  intro x hx
  obtain ⟨r, hr, hx⟩ := List.mem_flatMap.1 hx
  obtain ⟨h0, h1, h2, h3⟩ := h r hr
  simp only [rwI, List.mem_cons, List.mem_nil_iff, or_false] at hx
  rcases hx with rfl | rfl | rfl | rfl <;> assumption
set_option maxRecDepth 100000 in
set_option maxHeartbeats 8000000 in
theorem walkImageAnywhere {w : World} (at_ : Int) (_ : (Lit.int .i64 at_).wf = true) (to : Int) (_ : (Lit.int .i64 to).wf = true) (rows : List Rv) (A0 : Option Addr) (nr cr : Nat) (hr : ReadsK 4 w w.heap.size A0 nr cr (rows.flatMap rwC)) (_ : cr ≤ maxLen) (hrv : ∀ x ∈ rows, RvOk x) (ls : List Lt) (A : Option Addr) (n c : Nat) (hl : ReadsL w w.heap.size A n c ls) (_ : c ≤ maxLen) :
    Calls Try.prog 3 #[.int .i64 at_, .int .i64 to, .slice A0 nr cr, .slice A n c] w fun e w' => e = .returned (.bool true) ∧ Below w.heap.size w w' := by
  have HF := fixed_any
  have HG := great_any A0 nr cr ls A n c w hl
  have hvl := Lib.hid hl.vlen
  have hrl := Lib.hid (hr.count rwC_len (by omega))
  have hcapr := hr.cap
  have hcapl := hl.row.cap
  go_enter Try.func3, Try.ntmps3
  go_wp2_with fail
  refine HG.mono ?_
  clear HG
  rintro e w1 ⟨rfl | rfl, hb1⟩
  · go_wp2_with fail
    refine (HF _).mono ?_
    rintro e w2 ⟨rfl, hb2⟩
    go_wp2
    go_ret
    exact ⟨rfl, then_ hb1 hb2⟩
  have HM := make_any at_ rows A0 nr cr ls A n c w1 ((hr.below hb1).more hb1.size) ((hl.below hb1).more hb1.size)
  have HM2 := Lib.hid (fun w2 h1 h2 => make_any to rows A0 nr cr ls A n c w2 h1 h2)
  have HI1 : Hid ((imgA at_ rows (ltV ls)).2 = 0 → mayI rows.length (ltV ls) = true ∧ 0 ≤ at_ ∧ at_ ≤ 65536 ∧ (imgA at_ rows (ltV ls)).1 = imgL at_ rows (ltV ls)) := Lib.hid (fun h => by
    obtain ⟨h1, h2, h3, h4⟩ := imgA_ok (cells := (imgA at_ rows (ltV ls)).1) (Prod.ext rfl h)
    exact ⟨h1, h2, h3, h4.symm⟩)
  have HI2 : Hid ((imgA to rows (ltV ls)).2 = 0 → mayI rows.length (ltV ls) = true ∧ 0 ≤ to ∧ to ≤ 65536 ∧ (imgA to rows (ltV ls)).1 = imgL to rows (ltV ls)) := Lib.hid (fun h => by
    obtain ⟨h1, h2, h3, h4⟩ := imgA_ok (cells := (imgA to rows (ltV ls)).1) (Prod.ext rfl h)
    exact ⟨h1, h2, h3, h4.symm⟩)
  have hI1l := imgA_len at_ rows (ltV ls)
  generalize imgA at_ rows (ltV ls) = I1 at *
  generalize imgA to rows (ltV ls) = I2 at *
  obtain ⟨I1, e1⟩ := I1
  obtain ⟨I2, e2⟩ := I2
  simp only at HM HM2 HI1 HI2 hI1l
  go_wp2_with fail
  refine HM.mono ?_
  clear HM
  rintro e w2 ⟨v2, rfl, hown2, hb2⟩
  have hB2 := then_ hb1 hb2
  obtain ⟨A2, c2, rfl, hr2, _, _⟩ := ownsRow_slice hown2
  clear hown2 hb2
  have HM2' := HM2.out w2 ((hr.below hB2).more hB2.size) ((hl.below hB2).more hB2.size)
  go_wp2_with fail
  refine HM2'.mono ?_
  clear HM2' HM2
  rintro e w3 ⟨v3, rfl, hown3, hb3⟩
  have hB3 := then_ hB2 hb3
  obtain ⟨A3, c3, rfl, hr3, _, _⟩ := ownsRow_slice hown3
  have hr23 := (hr2.below hb3).more hb3.size
  clear hown3 hb3 hr2
  by_cases he1 : e1 = 0
  · subst he1
    by_cases he2 : e2 = 0
    · subst he2
      obtain ⟨hm, ha0, ha1, hi1⟩ := HI1.out rfl
      obtain ⟨_, hb0, hb1', hi2⟩ := HI2.out rfl
      have hl1 : I1.length = I2.length := by rw [hi1, hi2, imgL_len, imgL_len]
      rw [← hl1] at hr3
      have Hrg1 := Lib.hid (imgL_range hm ha0 ha1 (rows_rng hrv))
      have Hrg2 := Lib.hid (imgL_range hm hb0 hb1' (rows_rng hrv))
      have Hdf := Lib.hid (fun i => img_diff at_ to rows (ltV ls) i)
      rw [← hi1] at Hrg1
      rw [← hi2] at Hrg2
      rw [← hi1, ← hi2, hrl.out, hvl.out] at Hdf
      have Hl1 := Lib.hid hl1
      have hmm := mayI_parts hm
      have hn1 := hmm.1
      have hn2 := hmm.2.1
      rw [hrl.out] at hn1
      rw [hvl.out] at hn2
      have hI1' : I1.length = I1.length := rfl
      obtain ⟨L, hL⟩ : ∃ L, I1.length = L := ⟨_, rfl⟩
      have HL1 := Lib.hid hL
      have HL2 : Hid (I2.length = L) := Lib.hid (by rw [← hl1]; exact hL)
      rw [hL] at hr3 hr23 hI1l
      try rw [hL]
      rw [← hl1, hL]
      have hLL : ((L : Int) != (L : Int)) = false := by simp
      have hcp2 := hr23.cap
      have hcp3 := hr3.cap
      clear hi1 hi2 hm hl1 hI1' hL hmm HI1 HI2
      go_wp2_with fail
      go_loopw [52] (fun i wr => ∃ k : Nat, k ≤ L ∧ i = .int .i64 (k : Int) ∧ Below w3.heap.size w3 wr) (fun i _ => L - (intOf i).toNat)
      case atStart => exact ⟨0, by omega, rfl, Below.refl _ _⟩
      case round =>
        obtain ⟨k, hk, rfl, hB4⟩ := hrel
        by_cases hlt : k < L
        · have hlt' : (k : Int) < (L : Int) := by omega
          have hk0 : (0 : Int) ≤ (k : Int) := by omega
          obtain ⟨a2, h2l, rfl, _, q2⟩ := (hr23.below hB4).int hlt
          obtain ⟨a3, h3l, rfl, _, q3⟩ := (hr3.below hB4).int hlt
          have hg1 := Hrg1.out _ (List.getElem_mem h2l)
          have hg2 := Hrg2.out _ (List.getElem_mem h3l)
          have hd := Hdf.out k
          rw [List.getD, List.getD, List.getElem?_eq_getElem h2l, List.getElem?_eq_getElem h3l, Option.getD_some, Option.getD_some] at hd
          generalize I1[k] = x at *
          generalize I2[k] = y at *
          have hc1 : k < 2 + 4 * nr ∨ (2 + 4 * nr ≤ k ∧ k < 2 + 4 * nr + 2 * n) ∨ 2 + 4 * nr + 2 * n ≤ k := by omega
          rcases hc1 with h1 | ⟨h1, h2⟩ | h1
          · rw [if_neg (by omega), Int.add_zero] at hd
            have g1 : ¬ (2 + 4 * (nr : Int)) ≤ (k : Int) := by omega
            have hdd : (y - x != 0) = false := by rw [hd]; simp
            clear hd h1
            go_wp2_with fail
            go_quiet (fail)
            go_wp2
            go_roundw
            case rel => exact ⟨k + 1, by omega, by go_num, below_drewN hB4 _⟩
            case measure => simp [intOf]; omega
          · have g1 : (2 + 4 * (nr : Int)) ≤ (k : Int) := by omega
            have g2 : (k : Int) < 2 + 4 * (nr : Int) + 2 * (n : Int) := by omega
            have g3 : (0 : Int) ≤ (k : Int) - (2 + 4 * (nr : Int)) := by omega
            obtain ⟨M, hM⟩ : ∃ M : Int, (k : Int) - (2 + 4 * (nr : Int)) = M := ⟨_, rfl⟩
            by_cases h3 : (k - (2 + 4 * nr)) % 2 = 1
            · rw [if_pos ⟨h1, h2, h3⟩] at hd
              have hdd : (y - x != to - at_) = false := by rw [show y - x = to - at_ from by omega]; simp
              have g4 : Int.tmod ((k : Int) - (2 + 4 * (nr : Int))) 2 = 1 := by rw [Int.tmod_eq_emod_of_nonneg g3]; omega
              have g5 : ((k : Int) - (2 + 4 * (nr : Int))) % 2 = 1 := by omega
              clear hd h1 h2 h3
              go_wp2_with fail
              go_quiet (fail)
              go_wp2
              go_roundw
              case rel => exact ⟨k + 1, by omega, by go_num, below_drewN hB4 _⟩
              case measure => simp [intOf]; omega
            · rw [if_neg (fun h => h3 h.2.2), Int.add_zero] at hd
              have hdd : (y - x != 0) = false := by rw [hd]; simp
              have g4 : Int.tmod ((k : Int) - (2 + 4 * (nr : Int))) 2 = 0 := by rw [Int.tmod_eq_emod_of_nonneg g3]; omega
              have g5 : ((k : Int) - (2 + 4 * (nr : Int))) % 2 = 0 := by omega
              clear hd h1 h2 h3
              go_wp2_with fail
              go_quiet (fail)
              go_wp2
              go_roundw
              case rel => exact ⟨k + 1, by omega, by go_num, below_drewN hB4 _⟩
              case measure => simp [intOf]; omega
          · rw [if_neg (by omega), Int.add_zero] at hd
            have g1 : (2 + 4 * (nr : Int)) ≤ (k : Int) := by omega
            have g2 : ¬ (k : Int) < 2 + 4 * (nr : Int) + 2 * (n : Int) := by omega
            have hdd : (y - x != 0) = false := by rw [hd]; simp
            clear hd h1
            go_wp2_with fail
            go_quiet (fail)
            go_wp2
            go_roundw
            case rel => exact ⟨k + 1, by omega, by go_num, below_drewN hB4 _⟩
            case measure => simp [intOf]; omega
        · have hlt' : ¬ (k : Int) < (L : Int) := by omega
          have hB5 : Below w.heap.size w wr := then_ hB3 hB4
          go_wp2_with fail
          refine (HF _).mono ?_
          rintro e w4 ⟨rfl, hb4⟩
          have hB6 := then_ hB5 hb4
          have HC := refCopy_any [] none 0 0 w4 (ReadsE.nil_ _ _ _ _) (by omega) (by simp [vals])
          go_wp2_with fail
          refine HC.mono ?_
          clear HC
          rintro e w5 ⟨g, l', rfl, _, _, hb5⟩
          go_wp2
          go_ret
          exact ⟨rfl, then_ hB6 hb5⟩
    · have he2' : (e2 != 0) = true := by simp [he2]
      go_wp2_with fail
      refine (HF _).mono ?_
      rintro e w4 ⟨rfl, hb4⟩
      go_wp2
      go_ret
      exact ⟨rfl, then_ hB3 hb4⟩
  · have he1' : (e1 != 0) = true := by simp [he1]
    go_wp2_with fail
    refine (HF _).mono ?_
    rintro e w4 ⟨rfl, hb4⟩
    go_wp2
    go_ret
    exact ⟨rfl, then_ hB3 hb4⟩
end Go.Proofs.Ytbbjlijdodnjaaa
