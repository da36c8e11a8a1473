/- The walk of the law MemApart. -/
import Derived.Test.YtdmeidibhapnbaaMemLaws
import Derived.Test.YtdmeidibhapnbaaSame32
import Derived.StillTailTactics
namespace Go.Proofs.Ytdmeidibhapnbaa
open Go.RowKit

set_option maxRecDepth 100000 in
set_option maxHeartbeats 4000000 in
theorem walkMemApart (m : Int) (hm : (Lit.int .u8 m).wf = true) (l : List (Bool × Int × Int)) (A : Option Addr) (n c : Nat) (w : World) (hx : ReadsK 3 w w.heap.size A n c (l.flatMap opCells)) (_ : c ≤ maxLen)
    (l' : List (Bool × Int × Int)) (A' : Option Addr) (n' c' : Nat) (hx' : ReadsK 3 w w.heap.size A' n' c' (l'.flatMap opCells)) (_ : c' ≤ maxLen) :
    Calls Try.prog 6 #[.int .u8 m, .slice A n c, .slice A' n' c'] w fun e w' => e = .returned (.bool true) ∧ Below w.heap.size w w' := by
  obtain ⟨m0, m1⟩ := wf_u8 hm
  obtain ⟨m, rfl⟩ := Int.eq_ofNat_of_zero_le m0
  have e0 : 1 + (m : Int) = ((1 + m : Nat) : Int) := by omega
  have hN1 : 1 ≤ 1 + m := by omega
  have hN2 : 1 + m ≤ 256 := by omega
  generalize 1 + m = N at e0 hN1 hN2
  clear hm m0 m1
  go_enter Try.func6, Try.ntmps6
  go_wp2_with fail
  refine (new_ok N _ hN1 (by omega)).mono ?_
  clear e0
  rintro e w1 ⟨b1, g1, rfl, hm1, hb1, hg1, hbw1⟩
  go_wp2_with fail
  refine (new_ok N _ hN1 (by omega)).mono ?_
  rintro e w2 ⟨b2, g2, rfl, hm2, hb2, hg2, hbw2⟩
  go_wp2_with fail
  refine (new_ok N _ hN1 (by omega)).mono ?_
  rintro e w3 ⟨b3, g3, rfl, hm3, hb3, hg3, hbw3⟩
  go_wp2_with fail
  refine (fixed_any _).mono ?_
  rintro e w4 ⟨rfl, hbw4⟩
  have l1 := hm1.own.lt
  have l2 := hm1.row.lt
  have l3 := hm2.own.lt
  have l4 := hm2.row.lt
  have z1 := hbw1.size
  have z2 := hbw2.size
  have z3 := hbw3.size
  have M1 := ((hm1.below hbw2).below hbw3).below hbw4
  have M2 := (hm2.below hbw3).below hbw4
  have M3 := hm3.below hbw4
  have hB4 := then_ (then_ (then_ hbw1 hbw2) hbw3) hbw4
  have q1 : w.heap.size ≤ b2 := by omega
  have q2 : w.heap.size ≤ g2 := by omega
  have q3 : w.heap.size ≤ b3 := by omega
  have q4 : w.heap.size ≤ g3 := by omega
  have n1 : b1 ≠ b2 := by omega
  have n2 : b1 ≠ g2 := by omega
  have n3 : g1 ≠ b2 := by omega
  have n4 : g1 ≠ g2 := by omega
  have n5 : b1 ≠ b3 := by omega
  have n6 : b1 ≠ g3 := by omega
  have n7 : g1 ≠ b3 := by omega
  have n8 : g1 ≠ g3 := by omega
  have n9 : b2 ≠ b3 := by omega
  have n10 : b2 ≠ g3 := by omega
  have n11 : g2 ≠ b3 := by omega
  have n12 : g2 ≠ g3 := by omega
  clear l1 l2 l3 l4 z1 z2 z3 hm1 hm2 hm3 hbw1 hbw2 hbw3 hbw4 hb2 hg2 hb3 hg3
  go_upto_region 7 with fail
  go_cut [52, 53] (fun t i wx => ∃ T : Nat, t = .int .i64 T ∧ i = .int .i64 0 ∧ T ≤ 300 ∧ w4 = wx)
  case first =>
    go_wp2
    all_goals
      go_meet
      first | exact ⟨300, rfl, rfl, by omega, rfl⟩ | exact ⟨n, rfl, rfl, by omega, rfl⟩ | exact ⟨n', rfl, rfl, by omega, rfl⟩
  case rest =>
    obtain ⟨T, rfl, rfl, hT, rfl⟩ := hcut
    go_wp2
    go_loopw [53] (fun i wr => ∃ (k : Nat) (xs ys : List Int) (st st2 : Int), k ≤ T ∧ i = .int .i64 k ∧ MemAt wr b1 g1 N xs 0 st ∧ MemAt wr b2 g2 N ys 0 st2 ∧ MemAt wr b3 g3 N xs 0 st ∧ 0 ≤ st ∧ st ≤ k ∧ 0 ≤ st2 ∧ st2 ≤ k ∧ Below w.heap.size w wr) (fun i _ => T - (intOf i).toNat)
    case atStart => exact ⟨0, _, _, 0, 0, by omega, rfl, M1, M2, M3, by omega, by omega, by omega, by omega, hB4⟩
    case round =>
      obtain ⟨k, xs, ys, st, st2, hk, rfl, hx1, hx2, hx3, s0, s1, s2, s3, hB⟩ := hrel
      by_cases hlt : k < T
      · have hlt' : (k : Int) < (T : Int) := by omega
        have hk0 : (0 : Int) ≤ (k : Int) := by omega
        by_cases ha : k < n
        · have ha' : (k : Int) < (n : Int) := by omega
          obtain ⟨ad, h1, rfl, hbl, c0, hcell⟩ := (hx.below hB).at' opCells_len (by omega) ha
          have c1 := hcell 1 _ (by omega) rfl
          have c2 := hcell 2 _ (by omega) rfl
          clear hcell c0
          have hs := storeN_le N st l[k].2.1
          go_wp2_with fail
          go_still_tail 11, (by kernel_rfl)
          change wpList _ _ _ _ _ wr.drew
          go_wp2_with fail
          refine (store_any _ _ b1 g1 N xs 0 st _ hx1.drew s0 (by omega)).mono ?_
          rintro e w5 ⟨rfl, hy1, ho5⟩
          have hy2 := ho5.mem hx2.drew (Ne.symm n1) (Ne.symm n3) (Ne.symm n2) (Ne.symm n4)
          have hy3 := ho5.mem hx3.drew (Ne.symm n5) (Ne.symm n7) (Ne.symm n6) (Ne.symm n8)
          have hB5 := ho5.below hB.drew hb1 hg1 hB.size
          clear c1 c2
          obtain ⟨ad', h1', e', hbl', c0, hcell⟩ := (hx.below hB5).at' opCells_len (by omega) ha
          injection e' with e'
          subst e'
          have c1 := hcell 1 _ (by omega) rfl
          have c2 := hcell 2 _ (by omega) rfl
          clear hcell c0
          go_wp2_with fail
          go_still_tail 11, (by kernel_rfl)
          change wpList _ _ _ _ _ w5.drew
          go_wp2_with fail
          refine (store_any _ _ b3 g3 N xs 0 st _ hy3.drew s0 (by omega)).mono ?_
          rintro e w6 ⟨rfl, hv3, ho6⟩
          have hv1 := ho6.mem hy1.drew n5 n6 n7 n8
          have hv2 := ho6.mem hy2.drew n9 n10 n11 n12
          have hB6 := ho6.below hB5.drew q3 q4 hB5.size
          clear c1 c2 hy1 hy2 hy3
          by_cases hb : k < n'
          · have hb' : (k : Int) < (n' : Int) := by omega
            obtain ⟨ad2, h2, rfl, hbl2, c0, hcell⟩ := (hx'.below hB6).at' opCells_len (by omega) hb
            have c1 := hcell 1 _ (by omega) rfl
            have c2 := hcell 2 _ (by omega) rfl
            clear hcell c0
            have hs2 := storeN_le N st2 l'[k].2.1
            go_wp2_with fail
            go_still_tail 11, (by kernel_rfl)
            change wpList _ _ _ _ _ w6.drew
            go_wp2_with fail
            refine (store_any _ _ b2 g2 N ys 0 st2 _ hv2.drew s2 (by omega)).mono ?_
            rintro e w7 ⟨rfl, hu2, ho7⟩
            have hu1 := ho7.mem hv1.drew n1 n2 n3 n4
            have hu3 := ho7.mem hv3.drew (Ne.symm n9) (Ne.symm n11) (Ne.symm n10) (Ne.symm n12)
            have hB7 := ho7.below hB6.drew q1 q2 hB6.size
            go_wp2
            go_roundw
            case rel => exact ⟨k + 1, _, _, _, _, by omega, by go_num, hu1, hu2, hu3, by omega, by omega, by omega, by omega, hB7⟩
            case measure => simp [intOf]; omega
          · have hb' : ¬ (k : Int) < (n' : Int) := by omega
            go_wp2
            go_roundw
            case rel => exact ⟨k + 1, _, _, _, _, by omega, by go_num, hv1, hv2, hv3, by omega, by omega, by omega, by omega, hB6⟩
            case measure => simp [intOf]; omega
        · have ha' : ¬ (k : Int) < (n : Int) := by omega
          by_cases hb : k < n'
          · have hb' : (k : Int) < (n' : Int) := by omega
            obtain ⟨ad2, h2, rfl, hbl2, c0, hcell⟩ := (hx'.below hB).at' opCells_len (by omega) hb
            have c1 := hcell 1 _ (by omega) rfl
            have c2 := hcell 2 _ (by omega) rfl
            clear hcell c0
            have hs2 := storeN_le N st2 l'[k].2.1
            go_wp2_with fail
            go_still_tail 11, (by kernel_rfl)
            change wpList _ _ _ _ _ wr.drew
            go_wp2_with fail
            refine (store_any _ _ b2 g2 N ys 0 st2 _ hx2.drew s2 (by omega)).mono ?_
            rintro e w7 ⟨rfl, hu2, ho7⟩
            have hu1 := ho7.mem hx1.drew n1 n2 n3 n4
            have hu3 := ho7.mem hx3.drew (Ne.symm n9) (Ne.symm n11) (Ne.symm n10) (Ne.symm n12)
            have hB7 := ho7.below hB.drew q1 q2 hB.size
            go_wp2
            go_roundw
            case rel => exact ⟨k + 1, _, _, _, _, by omega, by go_num, hu1, hu2, hu3, by omega, by omega, by omega, by omega, hB7⟩
            case measure => simp [intOf]; omega
          · have hb' : ¬ (k : Int) < (n' : Int) := by omega
            go_wp2
            go_roundw
            case rel => exact ⟨k + 1, _, _, _, _, by omega, by go_num, hx1, hx2, hx3, by omega, by omega, by omega, by omega, hB⟩
            case measure => simp [intOf]; omega
      · have hlt' : ¬ (k : Int) < (T : Int) := by omega
        have hlx := Lib.hid hx1.len
        go_wp2_with fail
        refine (cells_ok b1 g1 N xs 0 st _ hx1 (by omega)).mono ?_
        rintro e w5 ⟨r1, rfl, hr1, hq1, hb5⟩
        have hy1 := hx1.below hb5
        have hy3 := hx3.below hb5
        have hB5 := then_ hB hb5
        go_wp2_with fail
        refine (cells_ok b3 g3 N xs 0 st _ hy3 (by omega)).mono ?_
        rintro e w6 ⟨r3, rfl, hr3, hq3, hb6⟩
        have hv1 := hy1.below hb6
        have hv3 := hy3.below hb6
        have hB6 := then_ hB5 hb6
        go_wp2_with fail
        refine (same32_yes xs xs _ _ N N N N _ ((hr1.call hb6).reads (by rw [ints_length, hlx.out])) (hr3.reads (by rw [ints_length, hlx.out])) (by omega) rfl).mono ?_
        rintro e w7 ⟨rfl, hb7⟩
        have hu1 := hv1.below hb7
        have hu3 := hv3.below hb7
        have hB7 := then_ hB6 hb7
        go_wp2_with fail
        refine (stores_ok b1 g1 N xs 0 st _ hu1).mono ?_
        rintro e w' ⟨rfl, rfl⟩
        go_wp2_with fail
        refine (stores_ok b3 g3 N xs 0 st _ hu3).mono ?_
        rintro e w' ⟨rfl, rfl⟩
        go_wp2
        go_ret
        exact ⟨rfl, hB7⟩
end Go.Proofs.Ytdmeidibhapnbaa
