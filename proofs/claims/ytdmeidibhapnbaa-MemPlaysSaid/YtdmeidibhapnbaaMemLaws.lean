/- The walks of the laws MemLast, MemCells, MemApart. -/
import Derived.Test.YtdmeidibhapnbaaMemFixed
import Derived.Test.YtdmeidibhapnbaaReadsK
import Derived.Deep.QuietTactic
import Derived.BigQuiet
import Derived.Deep.CutBlock
import Derived.Deep.DeepCutAuto
namespace Go.Proofs.Ytdmeidibhapnbaa
open Go.RowKit

def opCells (o : Bool × Int × Int) : List Value := [.bool o.1, .int .i64 o.2.1, .int .u32 o.2.2]
theorem opCells_len (o : Bool × Int × Int) : (opCells o).length = 3 := rfl
/-- A store, or none. -/
def storeL (n : Nat) (xs : List Int) (a v : Int) : List Int := if 0 ≤ a ∧ a < n then xs.set a.toNat v else xs
def storeE (n : Nat) (a : Int) : Int := if 0 ≤ a ∧ a < n then 0 else 2
def storeN (n : Nat) (st a : Int) : Int := if 0 ≤ a ∧ a < n then st + 1 else st
theorem storeN_le (n : Nat) (st a : Int) : st ≤ storeN n st a ∧ storeN n st a ≤ st + 1 := by unfold storeN; split <;> omega
theorem store_any (a v : Int) (b g n : Nat) (xs : List Int) (lo st : Int) (w : World) (hm : MemAt w b g n xs lo st) (h0 : 0 ≤ st) (h1 : st ≤ 1000000) :
    Calls Try.prog 14 #[.pointer (some ⟨b, 0, none⟩), .int .i64 a, .int .u32 v] w fun e w' => e = .returned (.int .i64 (storeE n a)) ∧ MemAt w' b g n (storeL n xs a v) lo (storeN n st a) ∧ Only2 b g w w' := by
  unfold storeE storeL storeN
  by_cases h : 0 ≤ a ∧ a < n
  · rw [if_pos h, if_pos h, if_pos h]
    obtain ⟨k, rfl⟩ := Int.eq_ofNat_of_zero_le h.1
    exact store_ok k v b g n xs lo st w hm (by omega) h0 h1
  · rw [if_neg h, if_neg h, if_neg h]
    refine (store_no a v b g n xs lo st w hm (by omega)).mono ?_
    rintro e w' ⟨rfl, rfl⟩
    exact ⟨rfl, hm, Only2.refl _ _ _⟩

theorem wf_u16 {x : Int} (h : (Lit.int .u16 x).wf = true) : 0 ≤ x ∧ x ≤ 65535 := by
  simp [Lit.wf, IntKind.min, IntKind.max, IntKind.signed, IntKind.bits] at h; omega
theorem wf_u8 {x : Int} (h : (Lit.int .u8 x).wf = true) : 0 ≤ x ∧ x ≤ 255 := by
  simp [Lit.wf, IntKind.min, IntKind.max, IntKind.signed, IntKind.bits] at h; omega

set_option maxHeartbeats 2000000 in
theorem walkMemLast (m : Int) (hm : (Lit.int .u16 m).wf = true) (l : List (Bool × Int × Int)) (A : Option Addr) (n c : Nat) (w : World) (hx : ReadsK 3 w w.heap.size A n c (l.flatMap opCells)) (_ : c ≤ maxLen) (a : Int) (_ : (Lit.int .i64 a).wf = true) (v : Int) (_ : (Lit.int .u32 v).wf = true) :
    Calls Try.prog 4 #[.int .u16 m, .slice A n c, .int .i64 a, .int .u32 v] w fun e w' => e = .returned (.bool true) ∧ Below w.heap.size w w' := by
  obtain ⟨m0, m1⟩ := wf_u16 hm
  obtain ⟨m, rfl⟩ := Int.eq_ofNat_of_zero_le m0
  have e0 : 1 + (m : Int) = ((1 + m : Nat) : Int) := by omega
  have hN1 : 1 ≤ 1 + m := by omega
  have hN2 : 1 + m ≤ 65536 := by omega
  generalize 1 + m = N at e0 hN1 hN2
  clear hm m0 m1
  go_enter Try.func4, Try.ntmps4
  go_wp2_with fail
  refine (new_ok N _ hN1 hN2).mono ?_
  clear e0
  rintro e w1 ⟨b, g, rfl, hm1, hb, hg, hb1⟩
  go_wp2_with fail
  refine (fixed_any _).mono ?_
  rintro e w2 ⟨rfl, hb2⟩
  have hm2 := hm1.below hb2
  have hB2 := then_ hb1 hb2
  clear hm1 hb1 hb2
  go_upto_block 0 with fail
  go_cut [10] (fun p wx => p = .pointer (some ⟨b, 0, none⟩) ∧ ∃ (xs : List Int) (st : Int), MemAt wx b g N xs 0 st ∧ 0 ≤ st ∧ st ≤ 301 ∧ Below w.heap.size w wx)
  case first =>
    go_wp2_with fail
    go_loopw [34] (fun i wr => ∃ (k : Nat) (xs : List Int) (st : Int), k ≤ n ∧ i = .int .i64 k ∧ MemAt wr b g N xs 0 st ∧ 0 ≤ st ∧ st ≤ k ∧ k ≤ 301 ∧ Below w.heap.size w wr) (fun i _ => n - (intOf i).toNat)
    case atStart => exact ⟨0, _, 0, by omega, rfl, hm2, by omega, by omega, by omega, hB2⟩
    case round =>
      obtain ⟨k, xs, st, hk, rfl, hmk, hs0, hs1, hk1, hB⟩ := hrel
      by_cases hlt : k < n
      · obtain ⟨ad, h1, rfl, hbl, c0, hcell⟩ := (hx.below hB).at' opCells_len (by omega) hlt
        have c0 := c0 _ rfl
        have c1 := hcell 1 _ (by omega) rfl
        have c2 := hcell 2 _ (by omega) rfl
        clear hcell
        have hlt' : (k : Int) < (n : Int) := by omega
        by_cases h3 : k ≤ 300
        · have h3' : (k : Int) ≤ 300 := by omega
          have hmk' := hmk.alloc (.cells #[.bool l[k].1, .int .i64 l[k].2.1, .int .u32 l[k].2.2] 36)
          go_wp2_with fail
          refine (store_any _ _ b g N xs 0 st _ hmk' hs0 (by omega)).mono ?_
          rintro e w3 ⟨rfl, hm3, ho3⟩
          have hs := storeN_le N st l[k].2.1
          go_wp2
          go_roundw
          case rel => exact ⟨k + 1, _, _, by omega, by go_num, hm3, by omega, by omega, by omega, ho3.below (hB.alloc hB.size _) hb hg (by have := hB.size; simp; omega)⟩
          case measure => simp [intOf]; omega
        · have h3' : ¬ (k : Int) ≤ 300 := by omega
          go_wp2_with fail
          go_meet
          exact ⟨rfl, xs, st, hmk.alloc _, hs0, by omega, hB.alloc hB.size _⟩
      · have hlt' : ¬ (k : Int) < (n : Int) := by omega
        go_wp2_with fail
        go_meet
        exact ⟨rfl, xs, st, hmk, hs0, by omega, hB⟩
  case rest =>
    obtain ⟨rfl, xs, st, hmk, hs0, hs1, hB⟩ := hcut
    have hlx := hmk.len
    go_wp2_with fail
    refine (cells_ok b g N xs 0 st _ hmk (by omega)).mono ?_
    rintro e w3 ⟨h, rfl, hrow, hh, hb3⟩
    have hm3 := hmk.below hb3
    have hne1 := hm3.own.lt
    have hne2 := hm3.row.lt
    have hne3 := hmk.own.lt
    have hne4 := hmk.row.lt
    have hB3 := then_ hB hb3
    rcases (show a < 0 ∨ (0 ≤ a ∧ (N : Int) ≤ a) ∨ (0 ≤ a ∧ a < (N : Int)) from by omega) with ha | ha | ha
    · go_wp2_with fail
      refine (store_no a v b g N xs 0 st _ hm3 (by omega)).mono ?_
      rintro e w' ⟨rfl, rfl⟩
      have hm4 := hm3
      have hrow4 := hrow
      have hB4 := hB3
      have HF : Hid (∀ i, i < N → ((i : Int) = a → (xs)[i]? = some v) ∧ ((i : Int) ≠ a → (xs)[i]? = xs[i]?)) := by
        intro i hi
        exact ⟨fun e => absurd e (by omega), fun _ => rfl⟩
      have hl2 : (xs).length = N := by omega
      go_wp2_with fail
      refine (cells_ok b g N xs 0 _ _ hm4 (by omega)).mono ?_
      rintro e w5 ⟨h2, rfl, hrow2, hh2, hb5⟩
      have hrow1 := hrow4.call hb5
      have hB5 := then_ hB4 hb5
      go_wp2
      go_loopw [80] (fun i wr => ∃ (k q : Nat), k ≤ N ∧ i = .int .i64 k ∧ wr = w5.drewN q) (fun i _ => N - (intOf i).toNat)
      case atStart => exact ⟨0, 0, by omega, rfl, rfl⟩
      case round =>
        obtain ⟨k, q, hk, rfl, rfl⟩ := hrel
        by_cases hlt : k < N
        · have hlt' : (k : Int) < (N : Int) := by omega
          have hF := HF.out k hlt
          have l1 : k < xs.length := by omega
          have c1 := hrow1.cell k
          have c2 := hrow2.cell k
          rw [ints_get? _ _ _ l1] at c1
          rw [ints_get? _ _ _ l1] at c2
          have hk0 : (0 : Int) ≤ (k : Int) := by omega
          by_cases hka : (k : Int) = a
          · exact absurd hka (by omega)
          · have e1 : (xs[k]'l1 != xs[k]'l1) = false := by simp
            have e2 : ((k : Int) == a) = false := by simp [hka]
            have e3 : ((k : Int) != a) = true := by simp [hka]
            clear hka hF
            generalize xs[k]'l1 = X at *
            go_wp2
            go_quiet (fail)
            go_wp2
            go_roundw
            case rel => exact ⟨k + 1, _, by omega, by go_num, rfl⟩
            case measure => simp [intOf]; omega
        · have hlt' : ¬ (k : Int) < (N : Int) := by omega
          go_wp2
          go_ret
          exact ⟨rfl, below_drewN hB5 _⟩
    · go_wp2_with fail
      refine (store_no a v b g N xs 0 st _ hm3 (by omega)).mono ?_
      rintro e w' ⟨rfl, rfl⟩
      have hm4 := hm3
      have hrow4 := hrow
      have hB4 := hB3
      have HF : Hid (∀ i, i < N → ((i : Int) = a → (xs)[i]? = some v) ∧ ((i : Int) ≠ a → (xs)[i]? = xs[i]?)) := by
        intro i hi
        exact ⟨fun e => absurd e (by omega), fun _ => rfl⟩
      have hl2 : (xs).length = N := by omega
      have ha1 : (N : Int) ≤ a := by omega
      go_wp2_with fail
      refine (cells_ok b g N xs 0 _ _ hm4 (by omega)).mono ?_
      rintro e w5 ⟨h2, rfl, hrow2, hh2, hb5⟩
      have hrow1 := hrow4.call hb5
      have hB5 := then_ hB4 hb5
      go_wp2
      go_loopw [80] (fun i wr => ∃ (k q : Nat), k ≤ N ∧ i = .int .i64 k ∧ wr = w5.drewN q) (fun i _ => N - (intOf i).toNat)
      case atStart => exact ⟨0, 0, by omega, rfl, rfl⟩
      case round =>
        obtain ⟨k, q, hk, rfl, rfl⟩ := hrel
        by_cases hlt : k < N
        · have hlt' : (k : Int) < (N : Int) := by omega
          have hF := HF.out k hlt
          have l1 : k < xs.length := by omega
          have c1 := hrow1.cell k
          have c2 := hrow2.cell k
          rw [ints_get? _ _ _ l1] at c1
          rw [ints_get? _ _ _ l1] at c2
          have hk0 : (0 : Int) ≤ (k : Int) := by omega
          by_cases hka : (k : Int) = a
          · exact absurd hka (by omega)
          · have e1 : (xs[k]'l1 != xs[k]'l1) = false := by simp
            have e2 : ((k : Int) == a) = false := by simp [hka]
            have e3 : ((k : Int) != a) = true := by simp [hka]
            clear hka hF
            generalize xs[k]'l1 = X at *
            go_wp2
            go_quiet (fail)
            go_wp2
            go_roundw
            case rel => exact ⟨k + 1, _, by omega, by go_num, rfl⟩
            case measure => simp [intOf]; omega
        · have hlt' : ¬ (k : Int) < (N : Int) := by omega
          go_wp2
          go_ret
          exact ⟨rfl, below_drewN hB5 _⟩
    · obtain ⟨j, hj⟩ := Int.eq_ofNat_of_zero_le ha.1
      subst hj
      go_wp2_with fail
      refine (store_ok j v b g N xs 0 st _ hm3 (by omega) (by omega) (by omega)).mono ?_
      rintro e w4 ⟨rfl, hm4, ho4⟩
      have hrow4 := ho4.row hrow (by omega) (by omega)
      have hB4 := ho4.below hB3 (by omega) (by omega) (by have := hB3.size; omega)
      have HF : Hid (∀ i, i < N → ((i : Int) = (j : Int) → (xs.set j v)[i]? = some v) ∧ ((i : Int) ≠ (j : Int) → (xs.set j v)[i]? = xs[i]?)) := by
        intro i hi
        refine ⟨fun e => ?_, fun e => ?_⟩
        · obtain rfl : i = j := by omega
          exact List.getElem?_set_self (by omega)
        · exact List.getElem?_set_ne (by omega)
      have hl2 : (xs.set j v).length = N := by rw [List.length_set]; omega
      generalize xs.set j v = xs2 at *
      have ha1 : (j : Int) < (N : Int) := by omega
      go_wp2_with fail
      refine (cells_ok b g N xs2 0 _ _ hm4 (by omega)).mono ?_
      rintro e w5 ⟨h2, rfl, hrow2, hh2, hb5⟩
      have hrow1 := hrow4.call hb5
      have hB5 := then_ hB4 hb5
      go_wp2
      go_loopw [80] (fun i wr => ∃ (k q : Nat), k ≤ N ∧ i = .int .i64 k ∧ wr = w5.drewN q) (fun i _ => N - (intOf i).toNat)
      case atStart => exact ⟨0, 0, by omega, rfl, rfl⟩
      case round =>
        obtain ⟨k, q, hk, rfl, rfl⟩ := hrel
        by_cases hlt : k < N
        · have hlt' : (k : Int) < (N : Int) := by omega
          have hF := HF.out k hlt
          have l1 : k < xs.length := by omega
          have l2 : k < xs2.length := by omega
          have c1 := hrow1.cell k
          have c2 := hrow2.cell k
          rw [ints_get? _ _ _ l1] at c1
          rw [ints_get? _ _ _ l2] at c2
          have hk0 : (0 : Int) ≤ (k : Int) := by omega
          by_cases hka : (k : Int) = (j : Int)
          · have e1 : (xs2[k]'l2 != v) = false := by
              have := hF.1 hka
              rw [List.getElem?_eq_getElem l2] at this
              injection this with this
              simp [this]
            have e2 : ((k : Int) == (j : Int)) = true := by simp [hka]
            have e3 : ((k : Int) != (j : Int)) = false := by simp [hka]
            have Hka := Lib.hid hka
            clear hka hF
            generalize xs2[k]'l2 = X at *
            generalize xs[k]'l1 = Y at *
            go_wp2
            go_quiet (fail)
            go_wp2
            go_roundw
            case rel => exact ⟨k + 1, _, by omega, by go_num, rfl⟩
            case measure => simp [intOf]; omega
          · have e1 : (xs2[k]'l2 != xs[k]'l1) = false := by
              have := hF.2 hka
              rw [List.getElem?_eq_getElem l2, List.getElem?_eq_getElem l1] at this
              injection this with this
              simp [this]
            have e2 : ((k : Int) == (j : Int)) = false := by simp [hka]
            have e3 : ((k : Int) != (j : Int)) = true := by simp [hka]
            clear hka hF
            generalize xs2[k]'l2 = X at *
            generalize xs[k]'l1 = Y at *
            go_wp2
            go_quiet (fail)
            go_wp2
            go_roundw
            case rel => exact ⟨k + 1, _, by omega, by go_num, rfl⟩
            case measure => simp [intOf]; omega
        · have hlt' : ¬ (k : Int) < (N : Int) := by omega
          go_wp2
          go_ret
          exact ⟨rfl, below_drewN hB5 _⟩
end Go.Proofs.Ytdmeidibhapnbaa
