/- The walk of the law MemCells. -/
import Derived.Test.YtdmeidibhapnbaaMemLaws
namespace Go.Proofs.Ytdmeidibhapnbaa
open Go.RowKit

set_option maxHeartbeats 2000000 in
theorem walkMemCells (m : Int) (hm : (Lit.int .u8 m).wf = true) (l : List (Bool × Int × Int)) (A : Option Addr) (n c : Nat) (w : World) (hx : ReadsK 3 w w.heap.size A n c (l.flatMap opCells)) (_ : c ≤ maxLen) :
    Calls Try.prog 5 #[.int .u8 m, .slice A n c] w fun e w' => e = .returned (.bool true) ∧ Below w.heap.size w w' := by
  obtain ⟨m0, m1⟩ := wf_u8 hm
  obtain ⟨m, rfl⟩ := Int.eq_ofNat_of_zero_le m0
  have e0 : 1 + (m : Int) = ((1 + m : Nat) : Int) := by omega
  have hN1 : 1 ≤ 1 + m := by omega
  have hN2 : 1 + m ≤ 256 := by omega
  generalize 1 + m = N at e0 hN1 hN2
  clear hm m0 m1
  go_enter Try.func5, Try.ntmps5
  go_wp2_with fail
  refine (new_ok N _ hN1 (by omega)).mono ?_
  clear e0
  rintro e w1 ⟨b, g, rfl, hm1, hb, hg, hb1⟩
  go_wp2_with fail
  refine (fixed_any _).mono ?_
  rintro e w2 ⟨rfl, hb2⟩
  have hm2 := hm1.below hb2
  have hB2 := then_ hb1 hb2
  clear hm1 hb1 hb2
  go_upto_block 0 with fail
  go_cut [6] (fun p wx => p = .pointer (some ⟨b, 0, none⟩) ∧ ∃ (xs : List Int) (st : Int), MemAt wx b g N xs 0 st ∧ 0 ≤ st ∧ st ≤ 301 ∧ Below w.heap.size w wx)
  case first =>
    go_wp2_with fail
    go_loopw [30] (fun i wr => ∃ (k : Nat) (xs : List Int) (st : Int), k ≤ n ∧ i = .int .i64 k ∧ MemAt wr b g N xs 0 st ∧ 0 ≤ st ∧ st ≤ k ∧ k ≤ 301 ∧ Below w.heap.size w wr) (fun i _ => n - (intOf i).toNat)
    case atStart => exact ⟨0, _, 0, by omega, rfl, hm2, by omega, by omega, by omega, hB2⟩
    case round =>
      obtain ⟨k, xs, st, hk, rfl, hmk, hs0, hs1, hk1, hB⟩ := hrel
      by_cases hlt : k < n
      · obtain ⟨ad, h1, rfl, hbl, c0, hcell⟩ := (hx.below hB).at' opCells_len (by omega) hlt
        have c0 := c0 _ rfl
        have c1 := hcell 1 _ (by omega) rfl
        have c2 := hcell 2 _ (by omega) rfl
        clear hcell
        have hlt' : (k : Int) < (n : Int) := by omega
        by_cases h3 : k ≤ 300
        · have h3' : (k : Int) ≤ 300 := by omega
          have hmk' := hmk.alloc (.cells #[.bool l[k].1, .int .i64 l[k].2.1, .int .u32 l[k].2.2] 36)
          go_wp2_with fail
          refine (store_any _ _ b g N xs 0 st _ hmk' hs0 (by omega)).mono ?_
          rintro e w3 ⟨rfl, hm3, ho3⟩
          have hs := storeN_le N st l[k].2.1
          go_wp2
          go_roundw
          case rel => exact ⟨k + 1, _, _, by omega, by go_num, hm3, by omega, by omega, by omega, ho3.below (hB.alloc hB.size _) hb hg (by have := hB.size; simp; omega)⟩
          case measure => simp [intOf]; omega
        · have h3' : ¬ (k : Int) ≤ 300 := by omega
          go_wp2_with fail
          go_meet
          exact ⟨rfl, xs, st, hmk.alloc _, hs0, by omega, hB.alloc hB.size _⟩
      · have hlt' : ¬ (k : Int) < (n : Int) := by omega
        go_wp2_with fail
        go_meet
        exact ⟨rfl, xs, st, hmk, hs0, by omega, hB⟩
  case rest =>
    obtain ⟨rfl, xs, st, hmk, hs0, hs1, hB⟩ := hcut
    have hlx := hmk.len
    have HLX := Lib.hid hlx
    clear hlx
    go_wp2_with fail
    go_loopw [44] (fun t wr => ∃ (k : Nat) (lo : Int), k ≤ 2 ∧ t = .int .i64 k ∧ MemAt wr b g N xs lo st ∧ 0 ≤ lo ∧ lo ≤ 300 * k ∧ Below w.heap.size w wr) (fun t _ => 2 - (intOf t).toNat)
    case atStart => exact ⟨0, 0, by omega, rfl, hmk, by omega, by omega, hB⟩
    case round =>
      obtain ⟨t, lo, ht, rfl, hmt, hlo0, hlo1, hBt⟩ := hrel
      obtain ⟨wo, rfl⟩ : ∃ wo : World, wo = wr := ⟨_, rfl⟩
      by_cases htl : t < 2
      · have htl' : (t : Int) < 2 := by omega
        have hgb := hmt.own.lt
        have hgg := hmt.row.lt
        go_wp2_with fail
        refine (cells_ok b g N xs lo st _ hmt (by omega)).mono ?_
        rintro e w5 ⟨h, rfl, hrow, hh, hb5⟩
        have hm5 := hmt.below hb5
        have hB5 := then_ hBt hb5
        have hs5 := hb5.size
        go_wp2_with fail
        go_loopw [54] (fun i wr => ∃ (k : Nat) (ys : List Int) (lo2 : Int), k ≤ N ∧ i = .int .i64 k ∧ MemAt wr b g N xs lo2 st ∧ lo ≤ lo2 ∧ lo2 ≤ lo + k ∧ Row wr h 34 (ints .u32 ys) ∧ ys.length = N ∧ (∀ j, k ≤ j → ys[j]? = xs[j]?) ∧ Below w.heap.size w wr) (fun i _ => N - (intOf i).toNat)
        case atStart => exact ⟨0, xs, lo, by omega, rfl, hm5, by omega, by omega, hrow, HLX.out, fun _ _ => rfl, hB5⟩
        case round =>
          obtain ⟨k, ys, lo2, hk, rfl, hmk2, hlo2, hlo3, hrowk, hly, hyx, hBk⟩ := hrel
          have HY := Lib.hid hyx
          have HLY := Lib.hid hly
          clear hly hyx
          by_cases hlt : k < N
          · have hlt' : (k : Int) < (N : Int) := by omega
            have ly : k < ys.length := by rw [HLY.out]; exact hlt
            have hX : xs[k]? = some ys[k] := by rw [← HY.out k (Nat.le_refl _)]; exact List.getElem?_eq_getElem ly
            have HX := Lib.hid hX
            clear hX
            have hne : h ≠ b := by omega
            have hne2 : h ≠ g := by omega
            go_wp2_with fail
            refine (load_ok k ys[k] b g N xs lo2 st _ hmk2 hlt HX.out (by omega) (by omega)).mono ?_
            rintro e w6 ⟨rfl, hm6, ho6⟩
            have hrow6 := ho6.row hrowk hne hne2
            have c1 := hrow6.cell k
            rw [ints_get? _ _ _ ly] at c1
            have f1 := hrow6.frozen k
            have hB6 := ho6.below hBk hb hg (by have := hBk.size; omega)
            generalize hXk : ys[k] = X at c1
            have HXk := Lib.hid hXk
            clear hXk
            go_wp2
            go_roundw
            case rel =>
              refine ⟨k + 1, ys.set k (IntKind.u32.wrap (X + 1)), lo2 + 1, by omega, by go_num, hm6.far (Ne.symm hne) (Ne.symm hne2) _, by omega, by omega, ?_, by rw [List.length_set, HLY.out], fun j hj => ?_, hB6.setCell (show w.heap.size ≤ h by omega) _⟩
              · have := hrow6.set k (.int .u32 (IntKind.u32.wrap (X + 1)))
                unfold ints
                rw [List.map_set]
                exact this
              · rw [List.getElem?_set_ne (by omega)]
                exact HY.out j (by omega)
            case measure => simp [intOf]; omega
          · have hlt' : ¬ (k : Int) < (N : Int) := by omega
            go_wp2
            go_roundw
            case rel => exact ⟨t + 1, lo2, by omega, by go_num, hmk2, by omega, by omega, hBk⟩
            case measure => simp [intOf]; omega
      · have htl' : ¬ (t : Int) < 2 := by omega
        go_wp2
        go_ret
        exact ⟨rfl, hBt⟩
end Go.Proofs.Ytdmeidibhapnbaa
