/- The walk of the law PoolRoom. -/
import Derived.Test.YtkoljljflpkgnaaDoorPoolShift
import Derived.Test.YtkoljljflpkgnaaDoorPoolOpen
import Derived.Test.YtkoljljflpkgnaaDoorRowOps
import Derived.Deep.RegionHeld3
import Derived.Deep.CutBlock
import Derived.Deep.DeepCutAuto
namespace Go.Proofs.YtkoljljflpkgnaaDoor
open Go.RowKit

/-- Only one pool's want. -/
def oneM (k : Nat) (n : Int) : Nat → Int := fun j => if j = k then n else 0
theorem six_zero_set (k : Nat) (hk : k < 6) (n : Int) : (PC (six (fun _ => 0))).setIfInBounds k (.int .i64 n) = PC (six (oneM k n)) := six_set (fun _ => 0) k hk n
/-- What is used lies in its pools. -/
def UOk (c : Cf) (u : Nat → Int) : Prop := ∀ j, j < 6 → 0 ≤ u j ∧ u j ≤ c.S j
theorem fits_one (c : Cf) (u : Nat → Int) (hu : UOk c u) (k : Nat) (hk : k < 6) (n : Int) (hn : 1 ≤ n) : fitsB c.S u (oneM k n) = decide (n ≤ c.S k - u k) := by
  by_cases h : n ≤ c.S k - u k
  · rw [decide_eq_true h]
    refine fits_all _ _ _ fun j hj => ?_
    have := hu j hj
    unfold fitB oneM
    by_cases e : j = k
    · subst e; rw [if_pos rfl]; simp; omega
    · rw [if_neg e]; simp; omega
  · rw [decide_eq_false h]
    refine fits_no _ _ _ k hk ?_
    unfold fitB oneM
    rw [if_pos rfl]
    simp
    omega
theorem fits_none (c : Cf) (u : Nat → Int) (hu : UOk c u) : fitsB c.S u (fun _ => 0) = true := by
  refine fits_all _ _ _ fun j hj => ?_
  have := hu j hj
  unfold fitB
  simp
  omega
theorem take_one (c : Cf) (u : Nat → Int) (hu : UOk c u) (k : Nat) (hk : k < 6) (n : Int) (hn : 1 ≤ n) :
    (n ≤ c.S k - u k → takeV c.at_ c.S u k n = .tuple #[.int .i64 (c.at_ k + u k), sixV (fun j => if j = k then u k + n else u j), .int .i64 0]) ∧ (¬ n ≤ c.S k - u k → takeV c.at_ c.S u k n = .tuple #[.int .i64 0, sixV (fun _ => 0), .int .i64 3]) := by
  have := hu k hk
  have e : ((k : Int)).toNat = k := by omega
  constructor
  · intro h
    unfold takeV
    rw [e, if_neg (by omega), if_neg (by omega)]
  · intro h
    unfold takeV
    rw [e, if_neg (by omega), if_pos (by omega)]
theorem uok_up (c : Cf) (u : Nat → Int) (hu : UOk c u) (k : Nat) (n : Int) (hn : 1 ≤ n) (h : n ≤ c.S k - u k) : UOk c (fun j => if j = k then u k + n else u j) := by
  intro j hj
  have := hu j hj
  by_cases e : j = k
  · subst e
    simp only [if_true]
    omega
  · simp only [if_neg e]
    exact this

def sixL (u : Nat → Int) : List Value := [.int .i64 (u 0), .int .i64 (u 1), .int .i64 (u 2), .int .i64 (u 3), .int .i64 (u 4), .int .i64 (u 5)]
theorem sixV_L (u : Nat → Int) : sixV u = .agg (sixL u).toArray := rfl
theorem sixL_one (k : Nat) (hk : k < 6) (n : Int) : (sixL (fun _ => 0)).set k (.int .i64 n) = sixL (oneM k n) := by
  rcases (show k = 0 ∨ k = 1 ∨ k = 2 ∨ k = 3 ∨ k = 4 ∨ k = 5 from by omega) with rfl | rfl | rfl | rfl | rfl | rfl <;> simp [sixL, oneM]
def planX (c : Cf) : List Value := [.int .i64 (c.at_ 0), .int .i64 (c.at_ 1), .int .i64 (c.at_ 2), .int .i64 (c.at_ 3), .int .i64 (c.at_ 4), .int .i64 (c.at_ 5), .int .i64 (c.S 0), .int .i64 (c.S 1), .int .i64 (c.S 2), .int .i64 (c.S 3), .int .i64 (c.S 4), .int .i64 (c.S 5), .int .i64 (c.at_ 6), .int .i64 (slotsOf c.terms), .int .i64 (1 + 4 * c.docs + slotsOf c.terms)]
theorem plan_X (c : Cf) : c.plan = .agg (planX c).toArray := rfl
theorem Row.keep {w w' : World} {g q : Nat} {t : TypeId} {xs : List Value} (h : Row w g t xs) (hk : ∀ k, k ≠ q → w'.heap[k]? = w.heap[k]?) (hne : g ≠ q) : Row w' g t xs := (hk g hne).trans h

set_option maxRecDepth 100000 in
set_option maxHeartbeats 2000000 in
theorem walkPoolRoom {w : World} (hT : SizesAt w) (c : Cf) (_ : c.Wf) (l : List (Int × Int)) (A : Option Addr) (n c0 : Nat) (hx : ReadsK 2 w w.heap.size A n c0 (l.flatMap wantC)) (_ : c0 ≤ maxLen) (hwf : ∀ o ∈ l, (Lit.int .i64 o.1).wf = true ∧ (Lit.int .i64 o.2).wf = true) : Calls Tryd.prog 7 #[c.val, .slice A n c0] w fun e w' => e = .returned (.bool true) ∧ Below w.heap.size w w' := by
  have hcv : c.val = .agg c.cells.toArray := rfl
  rw [hcv]
  have hstf := store_float
  by_cases hco : c.Ok
  · have LC := fun w hT hb => Lib.hid (lay_ok_go (W := w) (w := w) c hco hT hb)
    have HF := fun u m W w hb => Lib.hid (fits_go (W := W) (w := w) c hco u m hb)
    have HK := fun u k n W w hb => Lib.hid (take_go (W := W) (w := w) c hco u k n hb)
    simp only [plan_X, sixV_L] at HF
    simp only [plan_X] at HK
    conv at HK => intro u; rw [sixV_L]
    have hu0 : UOk c (fun _ => 0) := fun j hj => by have := c.slab_le hco j hj; exact ⟨Int.le_refl _, this.1⟩
    rw [hcv] at LC
    clear hcv hco
    unfold Cf.cells at *
    go_enter Tryd.func7, Tryd.ntmps7
    go_wp2_with fail
    refine (LC _ (hT.below (al_ (Below.refl _ _) _)) (Below.refl _ _)).out.mono ?_
    rw [c.plan_lit]
    rintro e w1 ⟨rfl, hb1⟩
    have hB1 : Below w.heap.size w w1 := then_ (al_ (Below.refl _ _) _) hb1
    have r5 := (Row.new w1 28 (planX c)).alloc (.cells (sixL (fun _ => 0)).toArray 26)
    have r7 := Row.new (w1.alloc (.cells (planX c).toArray 28)) 26 (sixL (fun _ => 0))
    rw [World.size_alloc] at r7
    have hB2 := al_ (al_ hB1 (.cells (planX c).toArray 28)) (.cells (sixL (fun _ => 0)).toArray 26)
    have hq1 := hB1.size
    clear hb1 hB1
    go_upto_block 0 with fail
    change Row ((w1.alloc (.cells #[.int .i64 (c.at_ 0), .int .i64 (c.at_ 1), .int .i64 (c.at_ 2), .int .i64 (c.at_ 3), .int .i64 (c.at_ 4), .int .i64 (c.at_ 5), .int .i64 (c.S 0), .int .i64 (c.S 1), .int .i64 (c.S 2), .int .i64 (c.S 3), .int .i64 (c.S 4), .int .i64 (c.S 5), .int .i64 (c.at_ 6), .int .i64 (slotsOf c.terms), .int .i64 (1 + 4 * c.docs + slotsOf c.terms)] 28)).alloc (.cells #[.int .i64 0, .int .i64 0, .int .i64 0, .int .i64 0, .int .i64 0, .int .i64 0] 26)) _ _ _ at r5 r7
    change Below _ _ ((w1.alloc (.cells #[.int .i64 (c.at_ 0), .int .i64 (c.at_ 1), .int .i64 (c.at_ 2), .int .i64 (c.at_ 3), .int .i64 (c.at_ 4), .int .i64 (c.at_ 5), .int .i64 (c.S 0), .int .i64 (c.S 1), .int .i64 (c.S 2), .int .i64 (c.S 3), .int .i64 (c.S 4), .int .i64 (c.S 5), .int .i64 (c.at_ 6), .int .i64 (slotsOf c.terms), .int .i64 (1 + 4 * c.docs + slotsOf c.terms)] 28)).alloc (.cells #[.int .i64 0, .int .i64 0, .int .i64 0, .int .i64 0, .int .i64 0, .int .i64 0] 26)) at hB2
    generalize (w1.alloc (.cells #[.int .i64 (c.at_ 0), .int .i64 (c.at_ 1), .int .i64 (c.at_ 2), .int .i64 (c.at_ 3), .int .i64 (c.at_ 4), .int .i64 (c.at_ 5), .int .i64 (c.S 0), .int .i64 (c.S 1), .int .i64 (c.S 2), .int .i64 (c.S 3), .int .i64 (c.S 4), .int .i64 (c.S 5), .int .i64 (c.at_ 6), .int .i64 (slotsOf c.terms), .int .i64 (1 + 4 * c.docs + slotsOf c.terms)] 28)).alloc (.cells #[.int .i64 0, .int .i64 0, .int .i64 0, .int .i64 0, .int .i64 0, .int .i64 0] 26) = w2 at *
    have hz2 := r7.lt
    generalize w1.heap.size = p at *
    go_cut [5, 7] (fun s5 s7 wx => s5 = .pointer (some ⟨p, 0, none⟩) ∧ s7 = .pointer (some ⟨p + 1, 0, none⟩) ∧ ∃ u : Nat → Int, Row wx p 28 (planX c) ∧ Row wx (p + 1) 26 (sixL u) ∧ UOk c u ∧ Below w.heap.size w wx)
    case first =>
      go_wp2_with fail
      go_loopw [25] (fun i wr => ∃ (k : Nat) (u : Nat → Int), k ≤ n ∧ k ≤ 61 ∧ i = .int .i64 k ∧ Row wr p 28 (planX c) ∧ Row wr (p + 1) 26 (sixL u) ∧ Hid (UOk c u) ∧ p + 2 ≤ wr.heap.size ∧ Below w.heap.size w wr) (fun i _ => n - (intOf i).toNat)
      case atStart => exact ⟨0, _, by omega, by omega, rfl, r5, r7, Lib.hid hu0, hz2, hB2⟩
      case round =>
        obtain ⟨k, u, hk, hk1, rfl, h5, h7, HU, hzr, hB⟩ := hrel
        by_cases hlt : k < n
        · obtain ⟨ad, hkl, rfl, hbl, c1, hcell⟩ := (hx.below hB).at' wantC_len (by omega) hlt
          have c1 := c1 _ rfl
          have c2 := hcell 1 _ (by omega) rfl
          clear hcell
          have hlt' : (k : Int) < (n : Int) := by omega
          have hk0 : (0 : Int) ≤ (k : Int) := by omega
          have hwk := hwf l[k] (List.getElem_mem hkl)
          generalize l[k] = X at *
          obtain ⟨K, N⟩ := X
          simp only at hwk
          simp only at c1 c2
          have h5a := h5.alloc (.cells #[.int .i64 K, .int .i64 N] 39)
          have h7a := h7.alloc (.cells #[.int .i64 K, .int .i64 N] 39)
          have hBa := al_ hB (.cells #[.int .i64 K, .int .i64 N] 39)
          by_cases h60 : 60 < k
          · have h60' : (60 : Int) < (k : Int) := by omega
            go_wp2_with fail
            go_meet
            exact ⟨rfl, rfl, u, h5a, h7a, HU.out, hBa⟩
          · have h60' : ¬ (60 : Int) < (k : Int) := by omega
            by_cases hgood : 0 ≤ K ∧ K ≤ 5 ∧ 1 ≤ N
            · obtain ⟨g0, g1, g2⟩ := hgood
              obtain ⟨j, rfl⟩ := Int.eq_ofNat_of_zero_le g0
              have hj : j < 6 := by omega
              have e1 : ¬ (j : Int) < 0 := by omega
              have e2 : ¬ (5 : Int) < (j : Int) := by omega
              have e3 : ¬ N < 1 := by omega
              have e4 : (j : Int) < 6 := by omega
              have hq : wr.heap.size + 1 = (wr.alloc (.cells #[.int .i64 (j : Int), .int .i64 N] 39)).heap.size := by simp
              have hr10 := Row.new (wr.alloc (.cells #[.int .i64 (j : Int), .int .i64 N] 39)) 26 (sixL (fun _ => 0))
              rw [← hq] at hr10
              have h5b := h5a.alloc (.cells (sixL (fun _ => 0)).toArray 26)
              have h7b := h7a.alloc (.cells (sixL (fun _ => 0)).toArray 26)
              have hwb := (Row.new wr 39 [.int .i64 (j : Int), .int .i64 N]).alloc (.cells (sixL (fun _ => 0)).toArray 26)
              have hBb := al_ hBa (.cells (sixL (fun _ => 0)).toArray 26)
              have hqz := hB.size
              have hsz : wr.heap.size + 2 = ((wr.alloc (.cells #[.int .i64 (j : Int), .int .i64 N] 39)).alloc (.cells (sixL (fun _ => 0)).toArray 26)).heap.size := by simp
              have hln : j < (sixL (fun _ => 0)).length := hj
              have HSZ := Lib.hid hsz
              clear hsz hq
              go_wp2_with (first
                | (refine wpList_store_cellO rfl 3 (.tmp 49) (.tmp 48) rfl (wr.heap.size + 1) j (.int .i64 N) rfl rfl 26 (sixL (fun _ => 0)) hr10 hln rfl (by kernel_rfl) w.heap.size w hBb (by omega) ?_; intro w3 hr3 hB3 hs3 hk3; have h53 := h5b.keep hk3 (by omega); have h73 := h7b.keep hk3 (by omega); have hw3 := hwb.keep hk3 (by omega); rw [sixL_one j hj N] at hr3; replace hs3 : w3.heap.size = wr.heap.size + 2 := hs3.trans HSZ.out.symm; clear hk3)
                | (refine wpList_load_row rfl 28 (.tmp 5) rfl p rfl _ _ _ _ h53 Tryd.underlying28 rfl rfl ?_) | (refine wpList_load_row rfl 26 (.tmp 7) rfl (p + 1) rfl _ _ _ _ h73 Tryd.underlying26 rfl rfl ?_) | (refine wpList_load_row rfl 26 (.tmp 10) rfl (wr.heap.size + 1) rfl _ _ _ _ hr3 Tryd.underlying26 rfl rfl ?_))
              refine (HF u (oneM j N) w3 w3 (Below.refl _ _)).out.mono ?_
              rw [fits_one c u HU.out j hj N g2]
              rintro e w4 ⟨rfl, hb4⟩
              have h54 := h53.call hb4
              have h74 := h73.call hb4
              have hw4 := hw3.call hb4
              have hB4 := hB3.trans (hb4.mono hB3.size)
              have hz4 : wr.heap.size + 2 ≤ w4.heap.size := by have := hb4.size; omega
              have kw0 : w4.cell? ⟨wr.heap.size, 0, none⟩ = some (.int .i64 (j : Int)) := hw4.cell 0
              have kw1 : w4.cell? ⟨wr.heap.size, 1, none⟩ = some (.int .i64 N) := hw4.cell 1
              clear h5a h7a hBa hr10 h5b h7b hwb hBb h53 h73 hw3 hr3 hB3 hs3 HSZ
              obtain ⟨t1, t2⟩ := take_one c u HU.out j hj N g2
              have hup := uok_up c u HU.out j N g2
              by_cases hfit : N ≤ c.S j - u j
              · rw [decide_eq_true hfit]
                have HT1 := Lib.hid (t1 hfit)
                have hup := hup hfit
                generalize hv : (fun i => if i = j then u j + N else u i) = v at *
                have HUP := Lib.hid hup
                clear t1 t2 hup hv
                go_wp2_with (first | (refine wpList_load_row rfl 28 (.tmp 5) rfl p rfl _ _ _ _ h54 Tryd.underlying28 rfl rfl ?_) | (refine wpList_load_row rfl 26 (.tmp 7) rfl (p + 1) rfl _ _ _ _ h74 Tryd.underlying26 rfl rfl ?_))
                refine (HK u j N w4 w4 (Below.refl _ _)).out.mono ?_
                rw [HT1.out, sixV_lit]
                rintro e w5 ⟨rfl, hb5⟩
                have h55 := h54.call hb5
                have h75 := (h74.call hb5).alloc (.cells #[.int .i64 (v 0), .int .i64 (v 1), .int .i64 (v 2), .int .i64 (v 3), .int .i64 (v 4), .int .i64 (v 5)] 26)
                have hB5 := al_ (hB4.trans (hb5.mono hB4.size)) (.cells #[.int .i64 (v 0), .int .i64 (v 1), .int .i64 (v 2), .int .i64 (v 3), .int .i64 (v 4), .int .i64 (v 5)] 26)
                have hz5 : wr.heap.size + 2 ≤ w5.heap.size := by have := hb5.size; omega
                have h55' := h55.alloc (.cells #[.int .i64 (v 0), .int .i64 (v 1), .int .i64 (v 2), .int .i64 (v 3), .int .i64 (v 4), .int .i64 (v 5)] 26)
                clear h54 h74 hw4 hB4 kw0 kw1
                go_wp2_with (refine wpList_store_rowO rfl 26 (.tmp 7) (.tmp 70) rfl (p + 1) (sixL v) rfl rfl 26 (sixL u) h75 rfl rfl rfl w.heap.size w hB5 (by omega) ?_; intro w6 h76 hB6 hs6 hk6; have h56 := h55'.keep hk6 (by omega); clear hk6)
                go_roundw
                case rel => exact ⟨k + 1, v, by omega, by omega, by go_num, h56, h76, HUP, by rw [hs6]; simp; omega, hB6⟩
                case measure => simp [intOf]; omega
              · rw [decide_eq_false hfit]
                have HT1 := Lib.hid (t2 hfit)
                clear t1 t2 hup
                go_wp2_with (first | (refine wpList_load_row rfl 28 (.tmp 5) rfl p rfl _ _ _ _ h54 Tryd.underlying28 rfl rfl ?_) | (refine wpList_load_row rfl 26 (.tmp 7) rfl (p + 1) rfl _ _ _ _ h74 Tryd.underlying26 rfl rfl ?_))
                refine (HK u j N w4 w4 (Below.refl _ _)).out.mono ?_
                rw [HT1.out, sixV_lit]
                rintro e w5 ⟨rfl, hb5⟩
                have h55 := (h54.call hb5).alloc (.cells #[.int .i64 0, .int .i64 0, .int .i64 0, .int .i64 0, .int .i64 0, .int .i64 0] 26)
                have h75 := (h74.call hb5).alloc (.cells #[.int .i64 0, .int .i64 0, .int .i64 0, .int .i64 0, .int .i64 0, .int .i64 0] 26)
                have hB5 := al_ (hB4.trans (hb5.mono hB4.size)) (.cells #[.int .i64 0, .int .i64 0, .int .i64 0, .int .i64 0, .int .i64 0, .int .i64 0] 26)
                have hz5 : wr.heap.size + 2 ≤ w5.heap.size := by have := hb5.size; omega
                clear h54 h74 hw4 hB4 kw0 kw1
                go_wp2
                go_roundw
                case rel => exact ⟨k + 1, u, by omega, by omega, by go_num, h55, h75, HU, by simp; omega, hB5⟩
                case measure => simp [intOf]; omega
            · rcases (show K < 0 ∨ (¬ K < 0 ∧ 5 < K) ∨ (¬ K < 0 ∧ ¬ 5 < K ∧ N < 1) from by omega) with q1 | ⟨q1, q2⟩ | ⟨q1, q2, q3⟩
              · go_wp2_with fail
                go_roundw
                case rel => exact ⟨k + 1, u, by omega, by omega, by go_num, h5a, h7a, HU, by simp; omega, hBa⟩
                case measure => simp [intOf]; omega
              · go_wp2_with fail
                go_roundw
                case rel => exact ⟨k + 1, u, by omega, by omega, by go_num, h5a, h7a, HU, by simp; omega, hBa⟩
                case measure => simp [intOf]; omega
              · go_wp2_with fail
                go_roundw
                case rel => exact ⟨k + 1, u, by omega, by omega, by go_num, h5a, h7a, HU, by simp; omega, hBa⟩
                case measure => simp [intOf]; omega
        · have hlt' : ¬ (k : Int) < (n : Int) := by omega
          go_wp2_with fail
          go_meet
          exact ⟨rfl, rfl, u, h5, h7, HU.out, hB⟩
    case rest =>
      obtain ⟨rfl, rfl, u, h5, h7, hU, hB⟩ := hcut
      have HFN := HF u (fun _ => 0)
      rw [fits_none c u hU] at HFN
      have hT0 := hT.below hB
      go_wp2_with fail
      refine (fixed_any _ hT0).mono ?_
      rintro e w3 ⟨rfl, hb3⟩
      have k5 := (h5.call hb3).cells
      have k7 := (h7.call hb3).cells
      unfold planX at k5
      unfold sixL at k7
      have hB3 := hB.trans (hb3.mono hB.size)
      go_wp2_with fail
      refine (HFN w3 w3 (Below.refl _ _)).out.mono ?_
      rintro e w4 ⟨rfl, hb4⟩
      go_wp2
      go_ret
      exact ⟨rfl, hB3.trans (hb4.mono hB3.size)⟩
  · have LC := fun w hT hb => Lib.hid (lay_no_go (W := w) (w := w) c hco hT hb)
    rw [hcv] at LC
    clear hcv hco
    unfold Cf.cells at *
    simp only [zeros15, List.replicate] at LC
    go_enter Tryd.func7, Tryd.ntmps7
    go_wp2_with fail
    refine (LC _ (hT.below (al_ (Below.refl _ _) _)) (Below.refl _ _)).out.mono ?_
    rintro e w1 ⟨rfl, hb1⟩
    have hB := al_ (then_ (al_ (Below.refl _ _) _) hb1)
    go_wp2_with fail
    refine (fixed_any _ (hT.below (hB _))).mono ?_
    rintro e w3 ⟨rfl, hb3⟩
    go_wp2
    go_ret
    exact ⟨rfl, then_ (hB _) hb3⟩
end Go.Proofs.YtkoljljflpkgnaaDoor
