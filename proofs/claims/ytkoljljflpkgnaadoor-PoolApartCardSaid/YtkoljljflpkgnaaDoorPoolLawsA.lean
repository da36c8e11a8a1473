/- The walk of the law PoolApart. -/
import Derived.Test.YtkoljljflpkgnaaDoorPoolLawsR
import Derived.Test.YtkoljljflpkgnaaDoorIntMap
namespace Go.Proofs.YtkoljljflpkgnaaDoor
open Go.RowKit

/-- A cell that is used. -/
def Used (c : Cf) (u : Nat → Int) (x : Int) : Prop := ∃ j, j < 6 ∧ c.at_ j ≤ x ∧ x < c.at_ j + u j
theorem pools_apart (c : Cf) (h : c.Ok) (i j : Nat) (hi : i < 6) (hj : j < 6) (hne : i < j) : c.at_ i + c.S i ≤ c.at_ j := by
  have e1 : c.at_ 1 = c.at_ 0 + c.S 0 := rfl
  have e2 : c.at_ 2 = c.at_ 1 + c.S 1 := rfl
  have e3 : c.at_ 3 = c.at_ 2 + c.S 2 := rfl
  have e4 : c.at_ 4 = c.at_ 3 + c.S 3 := rfl
  have e5 : c.at_ 5 = c.at_ 4 + c.S 4 := rfl
  have s0 := (c.slab_le h 0 (by omega)).1; have s1 := (c.slab_le h 1 (by omega)).1; have s2 := (c.slab_le h 2 (by omega)).1; have s3 := (c.slab_le h 3 (by omega)).1; have s4 := (c.slab_le h 4 (by omega)).1
  rcases (show i = 0 ∨ i = 1 ∨ i = 2 ∨ i = 3 ∨ i = 4 from by omega) with rfl | rfl | rfl | rfl | rfl <;> rcases (show j = 1 ∨ j = 2 ∨ j = 3 ∨ j = 4 ∨ j = 5 from by omega) with rfl | rfl | rfl | rfl | rfl <;> omega
theorem fresh (c : Cf) (h : c.Ok) (u : Nat → Int) (hu : UOk c u) (j : Nat) (hj : j < 6) (N : Int) (hN : N ≤ c.S j - u j) (x : Int) (h1 : c.at_ j + u j ≤ x) (h2 : x < c.at_ j + u j + N) : ¬ Used c u x := by
  rintro ⟨i, hi, g1, g2⟩
  have ui := hu i hi
  have uj := hu j hj
  rcases Nat.lt_trichotomy i j with e | e | e
  · have := pools_apart c h i j hi hj e; omega
  · subst e; omega
  · have := pools_apart c h j i hj hi e; omega
theorem used_up (c : Cf) (u : Nat → Int) (j : Nat) (hj : j < 6) (N : Int) (hN : 1 ≤ N) (hu : UOk c u) (x : Int) (h : Used c u x ∨ (c.at_ j + u j ≤ x ∧ x < c.at_ j + u j + N)) : Used c (fun i => if i = j then u j + N else u i) x := by
  have uj := hu j hj
  rcases h with ⟨i, hi, g1, g2⟩ | ⟨g1, g2⟩
  · refine ⟨i, hi, g1, ?_⟩
    by_cases e : i = j
    · subst e; simp only [if_true]; omega
    · simp only [if_neg e]; exact g2
  · exact ⟨j, hj, by omega, by simp only [if_true]; omega⟩
theorem Row.grownN {w w' : World} {g b : Nat} {t : TypeId} {xs : List Value} (h : Row w g t xs) (hg : w.grownBy w' (some b)) (hne : g ≠ b) : Row w' g t xs := h.grown hg (fun e => hne (by injection e))

set_option maxRecDepth 100000 in
set_option maxHeartbeats 2000000 in
theorem walkPoolApart {w : World} (hT : SizesAt w) (c : Cf) (_ : c.Wf) (l : List (Int × Int)) (A : Option Addr) (n c0 : Nat) (hx : ReadsK 2 w w.heap.size A n c0 (l.flatMap wantC)) (_ : c0 ≤ maxLen) (_ : ∀ o ∈ l, (Lit.int .i64 o.1).wf = true ∧ (Lit.int .i64 o.2).wf = true) : Calls Tryd.prog 4 #[c.val, .slice A n c0] w fun e w' => e = .returned (.bool true) ∧ Below w.heap.size w w' := by
  have hcv : c.val = .agg c.cells.toArray := rfl
  rw [hcv]
  have hstf := store_float
  by_cases hco : c.Ok
  · have LC := fun w hT hb => Lib.hid (lay_ok_go (W := w) (w := w) c hco hT hb)
    have HK := fun u k n W w hb => Lib.hid (take_go (W := W) (w := w) c hco u k n hb)
    simp only [plan_X] at HK
    conv at HK => intro u; rw [sixV_L]
    have hu0 : UOk c (fun _ => 0) := fun j hj => by have := c.slab_le hco j hj; exact ⟨Int.le_refl _, this.1⟩
    have HSL := Lib.hid (c.slab_le hco)
    have HFR := Lib.hid (fresh c hco)
    have hmk : ∀ w : World, (Instr.makeMap 37 none).run Tryd.prog w = .ok (.map (some w.heap.size)) (w.alloc (.map #[] 0)) := run_makeMap _
    have q6 := eq6'
    have g6 := guard6
    have hA6 : c.at_ 6 = c.at_ 5 + c.S 5 := rfl
    have HA6 : Hid (∀ j, j < 6 → c.at_ j + c.S j ≤ c.at_ 6) := Lib.hid fun j hj => by
      by_cases e : j = 5
      · subst e; omega
      · have := pools_apart c hco j 5 hj (by omega) (by omega); have := c.slab_le hco 5 (by omega); omega
    clear hA6
    rw [hcv] at LC
    clear hcv hco
    unfold Cf.cells at *
    go_enter Tryd.func4, Tryd.ntmps4
    go_wp2_with fail
    refine (LC _ (hT.below (al_ (Below.refl _ _) _)) (Below.refl _ _)).out.mono ?_
    rw [c.plan_lit]
    rintro e w1 ⟨rfl, hb1⟩
    have hB1 : Below w.heap.size w w1 := then_ (al_ (Below.refl _ _) _) hb1
    have r5 := ((Row.new w1 28 (planX c)).alloc (.cells (sixL (fun _ => 0)).toArray 26)).alloc (.map #[] 0)
    have r7 := (Row.new (w1.alloc (.cells (planX c).toArray 28)) 26 (sixL (fun _ => 0))).alloc (.map #[] 0)
    have rm : IMap Tryd.prog 3 3 .i64 .i64 _ _ _ _ := IMap.made ((w1.alloc (.cells (planX c).toArray 28)).alloc (.cells (sixL (fun _ => 0)).toArray 26))
    simp only [World.size_alloc] at r7 rm
    have hB2 := al_ (al_ (al_ hB1 (.cells (planX c).toArray 28)) (.cells (sixL (fun _ => 0)).toArray 26)) (.map #[] 0)
    have hq1 := hB1.size
    clear hb1 hB1
    go_upto_block 0 with fail
    change Row (((w1.alloc (.cells #[.int .i64 (c.at_ 0), .int .i64 (c.at_ 1), .int .i64 (c.at_ 2), .int .i64 (c.at_ 3), .int .i64 (c.at_ 4), .int .i64 (c.at_ 5), .int .i64 (c.S 0), .int .i64 (c.S 1), .int .i64 (c.S 2), .int .i64 (c.S 3), .int .i64 (c.S 4), .int .i64 (c.S 5), .int .i64 (c.at_ 6), .int .i64 (slotsOf c.terms), .int .i64 (1 + 4 * c.docs + slotsOf c.terms)] 28)).alloc (.cells #[.int .i64 0, .int .i64 0, .int .i64 0, .int .i64 0, .int .i64 0, .int .i64 0] 26)).alloc (.map #[] 0)) _ _ _ at r5 r7
    change IMap Tryd.prog 3 3 .i64 .i64 (((w1.alloc (.cells #[.int .i64 (c.at_ 0), .int .i64 (c.at_ 1), .int .i64 (c.at_ 2), .int .i64 (c.at_ 3), .int .i64 (c.at_ 4), .int .i64 (c.at_ 5), .int .i64 (c.S 0), .int .i64 (c.S 1), .int .i64 (c.S 2), .int .i64 (c.S 3), .int .i64 (c.S 4), .int .i64 (c.S 5), .int .i64 (c.at_ 6), .int .i64 (slotsOf c.terms), .int .i64 (1 + 4 * c.docs + slotsOf c.terms)] 28)).alloc (.cells #[.int .i64 0, .int .i64 0, .int .i64 0, .int .i64 0, .int .i64 0, .int .i64 0] 26)).alloc (.map #[] 0)) _ _ _ at rm
    change Below _ _ (((w1.alloc (.cells #[.int .i64 (c.at_ 0), .int .i64 (c.at_ 1), .int .i64 (c.at_ 2), .int .i64 (c.at_ 3), .int .i64 (c.at_ 4), .int .i64 (c.at_ 5), .int .i64 (c.S 0), .int .i64 (c.S 1), .int .i64 (c.S 2), .int .i64 (c.S 3), .int .i64 (c.S 4), .int .i64 (c.S 5), .int .i64 (c.at_ 6), .int .i64 (slotsOf c.terms), .int .i64 (1 + 4 * c.docs + slotsOf c.terms)] 28)).alloc (.cells #[.int .i64 0, .int .i64 0, .int .i64 0, .int .i64 0, .int .i64 0, .int .i64 0] 26)).alloc (.map #[] 0)) at hB2
    generalize (((w1.alloc (.cells #[.int .i64 (c.at_ 0), .int .i64 (c.at_ 1), .int .i64 (c.at_ 2), .int .i64 (c.at_ 3), .int .i64 (c.at_ 4), .int .i64 (c.at_ 5), .int .i64 (c.S 0), .int .i64 (c.S 1), .int .i64 (c.S 2), .int .i64 (c.S 3), .int .i64 (c.S 4), .int .i64 (c.S 5), .int .i64 (c.at_ 6), .int .i64 (slotsOf c.terms), .int .i64 (1 + 4 * c.docs + slotsOf c.terms)] 28)).alloc (.cells #[.int .i64 0, .int .i64 0, .int .i64 0, .int .i64 0, .int .i64 0, .int .i64 0] 26)).alloc (.map #[] 0)) = w2 at *
    have hz2 := rm.lt
    generalize w1.heap.size = p at *
    go_cut [5] (fun _ wx => Below w.heap.size w wx)
    case first =>
      go_wp2_with fail
      go_loopw [26] (fun i wr => ∃ (k m : Nat) (u : Nat → Int) (f : Int → Int), k ≤ n ∧ k ≤ 61 ∧ i = .int .i64 k ∧ Row wr p 28 (planX c) ∧ Row wr (p + 1) 26 (sixL u) ∧ IMap Tryd.prog 3 3 .i64 .i64 wr (p + 1 + 1) m f ∧ m ≤ 70000 * k ∧ Hid (UOk c u) ∧ Hid (∀ x, f x ≠ 0 → Used c u x) ∧ p + 3 ≤ wr.heap.size ∧ Below w.heap.size w wr) (fun i _ => n - (intOf i).toNat)
      case atStart => exact ⟨0, 0, _, _, by omega, by omega, rfl, r5, r7, rm, by omega, Lib.hid hu0, Lib.hid (fun x h => absurd rfl h), hz2, hB2⟩
      case round =>
        obtain ⟨k, m, u, f, hk, hk1, rfl, h5, h7, hm, hmk2, HU, HC, hzr, hB⟩ := hrel
        by_cases hlt : k < n
        · obtain ⟨ad, hkl, rfl, hbl, c1, hcell⟩ := (hx.below hB).at' wantC_len (by omega) hlt
          have c1 := c1 _ rfl
          have c2 := hcell 1 _ (by omega) rfl
          clear hcell
          have hlt' : (k : Int) < (n : Int) := by omega
          have hk0 : (0 : Int) ≤ (k : Int) := by omega
          generalize l[k] = X at *
          obtain ⟨K, N⟩ := X
          simp only at c1 c2
          have h5a := h5.alloc (.cells #[.int .i64 K, .int .i64 N] 39)
          have h7a := h7.alloc (.cells #[.int .i64 K, .int .i64 N] 39)
          have hma := hm.alloc (.cells #[.int .i64 K, .int .i64 N] 39)
          have hwa := Row.new wr 39 [.int .i64 K, .int .i64 N]
          have hBa := al_ hB (.cells #[.int .i64 K, .int .i64 N] 39)
          by_cases h60 : 60 < k
          · have h60' : (60 : Int) < (k : Int) := by omega
            go_wp2_with fail
            go_meet
            exact hBa
          · have h60' : ¬ (60 : Int) < (k : Int) := by omega
            have hqz := hB.size
            go_wp2_with (first | (refine wpList_load_row rfl 28 (.tmp 5) rfl p rfl _ _ _ _ h5a Tryd.underlying28 rfl rfl ?_) | (refine wpList_load_row rfl 26 (.tmp 7) rfl (p + 1) rfl _ _ _ _ h7a Tryd.underlying26 rfl rfl ?_))
            refine (HK u K N _ _ (Below.refl _ _)).out.mono ?_
            have hcase : (∃ (j : Nat), j < 6 ∧ K = (j : Int) ∧ 1 ≤ N ∧ N ≤ c.S j - u j) ∨ ∃ e, (e = 1 ∨ e = 3) ∧ takeV c.at_ c.S u K N = .tuple #[.int .i64 0, sixV (fun _ => 0), .int .i64 e] := by
              by_cases g : 0 ≤ K ∧ K ≤ 5 ∧ 1 ≤ N
              · obtain ⟨j, rfl⟩ := Int.eq_ofNat_of_zero_le g.1
                have hj : j < 6 := by omega
                by_cases h : N ≤ c.S j - u j
                · exact .inl ⟨j, hj, rfl, g.2.2, h⟩
                · exact .inr ⟨3, .inr rfl, (take_one c u HU.out j hj N g.2.2).2 h⟩
              · refine .inr ⟨1, .inl rfl, ?_⟩
                unfold takeV
                rw [if_pos (by omega)]
            rcases hcase with ⟨j, hj, rfl, hN, hfit⟩ | ⟨e0, he0, het⟩
            · rw [(take_one c u HU.out j hj N hN).1 hfit]
              obtain ⟨wo, hwo⟩ : ∃ wo, wo = wr := ⟨_, rfl⟩
              subst hwo
              have hup := uok_up c u HU.out j N hN hfit
              have hus := fun x => used_up c u j hj N hN HU.out x
              generalize hv : (fun i => if i = j then u j + N else u i) = v at *
              have HUP := Lib.hid hup
              have HUS := Lib.hid hus
              clear hup hus hv
              rw [sixV_lit]
              rintro e w3 ⟨rfl, hb3⟩
              have h53 := (h5a.call hb3).alloc (.cells #[.int .i64 (v 0), .int .i64 (v 1), .int .i64 (v 2), .int .i64 (v 3), .int .i64 (v 4), .int .i64 (v 5)] 26)
              have h73 := (h7a.call hb3).alloc (.cells #[.int .i64 (v 0), .int .i64 (v 1), .int .i64 (v 2), .int .i64 (v 3), .int .i64 (v 4), .int .i64 (v 5)] 26)
              have hm3 := (hma.below hb3 hma.lt).alloc (.cells #[.int .i64 (v 0), .int .i64 (v 1), .int .i64 (v 2), .int .i64 (v 3), .int .i64 (v 4), .int .i64 (v 5)] 26)
              have hw3 := (hwa.call hb3).alloc (.cells #[.int .i64 (v 0), .int .i64 (v 1), .int .i64 (v 2), .int .i64 (v 3), .int .i64 (v 4), .int .i64 (v 5)] 26)
              have h12 := Row.new w3 26 (sixL v)
              have hB3 := al_ (then_ hBa hb3) (.cells #[.int .i64 (v 0), .int .i64 (v 1), .int .i64 (v 2), .int .i64 (v 3), .int .i64 (v 4), .int .i64 (v 5)] 26)
              have hz3 : wo.heap.size + 1 ≤ w3.heap.size := by have := hb3.size; simpa using this
              have hwq := hqz
              clear h5a h7a hma hwa hBa hb3
              change Row (w3.alloc (.cells #[.int .i64 (v 0), .int .i64 (v 1), .int .i64 (v 2), .int .i64 (v 3), .int .i64 (v 4), .int .i64 (v 5)] 26)) _ _ _ at h12
              have ka : (w3.alloc (.cells #[.int .i64 (v 0), .int .i64 (v 1), .int .i64 (v 2), .int .i64 (v 3), .int .i64 (v 4), .int .i64 (v 5)] 26)).cell? ⟨p, j, none⟩ = some (.int .i64 (c.at_ j)) := (h53.cell j).trans (planL_base c.at_ c.S _ _ _ j hj)
              have kb : (w3.alloc (.cells #[.int .i64 (v 0), .int .i64 (v 1), .int .i64 (v 2), .int .i64 (v 3), .int .i64 (v 4), .int .i64 (v 5)] 26)).cell? ⟨p, 6 + j, none⟩ = some (.int .i64 (c.S j)) := (h53.cell (6 + j)).trans (planL_size c.at_ c.S _ _ _ j hj)
              have kw0 : (w3.alloc (.cells #[.int .i64 (v 0), .int .i64 (v 1), .int .i64 (v 2), .int .i64 (v 3), .int .i64 (v 4), .int .i64 (v 5)] 26)).cell? ⟨wo.heap.size, 0, none⟩ = some (.int .i64 (j : Int)) := hw3.cell 0
              have kw1 : (w3.alloc (.cells #[.int .i64 (v 0), .int .i64 (v 1), .int .i64 (v 2), .int .i64 (v 3), .int .i64 (v 4), .int .i64 (v 5)] 26)).cell? ⟨wo.heap.size, 1, none⟩ = some (.int .i64 N) := hw3.cell 1
              have hsl := HSL.out j hj
              have huj := HU.out j hj
              have ha6 := HA6.out j hj
              have HFJ := Lib.hid (HFR.out u HU.out j hj N hfit)
              have hj6 : (j : Int) < 6 := by omega
              have hj0 : (0 : Int) ≤ (j : Int) := by omega
              generalize hcb : c.at_ j = B at *
              generalize hcs : c.S j = SZ at *
              generalize huu : u j = U at *
              have HUU := Lib.hid huu
              clear hcb hcs huu
              have d1 : decide (B + U < 3) = false := by simp; omega
              have d2 : decide (B + U < B) = false := by simp; omega
              have d2' : decide (U < 0) = false := by simp; omega
              have d3 : decide (SZ - N < U) = false := by simp; omega
              have d4 : decide (70000 < N) = false := by simp; omega
              have ew1 : IntKind.i64.wrap (B + U - B) = U := by rw [show B + U - B = U from by omega]; exact IntWalk.i64_in _ (by omega)
              have ew1' : IntKind.i64.wrap U = U := IntWalk.i64_in _ (by omega)
              have ew2 : IntKind.i64.wrap (SZ - N) = SZ - N := IntWalk.i64_in _ (by omega)
              have ew5 : IntKind.i64.wrap (B + U + N) = B + U + N := IntWalk.i64_in _ (by omega)
              have ew6 : IntKind.i64.wrap (1 + (k : Int)) = 1 + (k : Int) := IntWalk.i64_in _ (by omega)
              go_wp2
              go_quiet (fail)
              go_wp2
              go_loopw [14] (fun x wr => ∃ (t m' q : Nat) (g : Int → Int), (t : Int) ≤ N ∧ x = .int .i64 (B + U + t) ∧ Row wr p 28 (planX c) ∧ Row wr (p + 1) 26 (sixL u) ∧ Row wr wo.heap.size 39 [.int .i64 (j : Int), .int .i64 N] ∧ Row wr w3.heap.size 26 (sixL v) ∧ IMap Tryd.prog 3 3 .i64 .i64 wr (p + 1 + 1) m' g ∧ m' ≤ m + t ∧ Hid (∀ y, g y ≠ 0 → Used c u y ∨ (B + U ≤ y ∧ y < B + U + t)) ∧ w3.heap.size + 1 + q = wr.heap.size ∧ Below w.heap.size w wr) (fun x _ => (B + U + N - intOf x).toNat)
              case atStart => exact ⟨0, m, 0, f, by omega, by simp, h53, h73, hw3, h12, hm3, by omega, Lib.hid fun y h => .inl (HC.out y h), by simp, by first | exact below_drewN hB3 _ | exact hB3⟩
              case round =>
                obtain ⟨t, m', q, g, ht, rfl, i5, i7, iw, i12, im, hm', HG, hzq, hBq⟩ := hrel
                have kc : wr.cell? ⟨p, 12, none⟩ = some (.int .i64 (c.at_ 6)) := i5.cell 12
                have kv1 : wr.cell? ⟨wo.heap.size, 1, none⟩ = some (.int .i64 N) := iw.cell 1
                by_cases htn : (t : Int) < N
                · have hg0 : g (B + U + t) = 0 := by
                    by_cases e : g (B + U + t) = 0
                    · exact e
                    · rcases HG.out _ e with h | h
                      · exact absurd h (HFJ.out _ (by have := HUU.out; omega) (by have := HUU.out; omega))
                      · omega
                  have hwfx : (Lit.int .i64 (B + U + t)).wf = true := by simp [Lit.wf, IntKind.min, IntKind.max, IntKind.signed, IntKind.bits]; omega
                  have hwfi : (Lit.int .i64 (1 + (k : Int))).wf = true := by simp [Lit.wf, IntKind.min, IntKind.max, IntKind.signed, IntKind.bits]; omega
                  have hrun := im.look Tryd.underlying37 Tryd.underlying3 Tryd.underlying3 (fun _ => by rfl) (B + U + t) hwfx
                  rw [hg0] at hrun
                  have hlt2 : B + U + (t : Int) < B + U + N := by omega
                  have dc : decide (c.at_ 6 ≤ B + U + (t : Int)) = false := by simp; omega
                  have ew7 : IntKind.i64.wrap (B + U + (t : Int) + 1) = B + U + (t : Int) + 1 := IntWalk.i64_in _ (by omega)
                  have hm63 : m' < maxLen := by simp only [maxLen]; omega
                  have hzp : p + 1 + 1 < w3.heap.size := by omega
                  have hHG : Hid (∀ y, (if y = B + U + (t : Int) then 1 + (k : Int) else g y) ≠ 0 → Used c u y ∨ (B + U ≤ y ∧ y < B + U + ((t + 1 : Nat) : Int))) := Lib.hid fun y h => by
                    by_cases e : y = B + U + (t : Int)
                    · exact .inr ⟨by omega, by omega⟩
                    · rw [if_neg e] at h
                      rcases HG.out y h with h | h
                      · exact .inl h
                      · exact .inr ⟨by omega, by omega⟩
                  have hqp : w.heap.size ≤ p + 1 + 1 := by omega
                  go_wp2_with (at_mapUpdate; refine wpList_mapUpdate_int rfl (.tmp 106) (.tmp 107) (.tmp 109) 37 rfl 3 3 .i64 .i64 Tryd.underlying37 Tryd.underlying3 Tryd.underlying3 (p + 1 + 1) m' g rfl im hm63 (B + U + (t : Int)) (1 + (k : Int)) rfl rfl hwfx hwfi ?_; intro w5 hm5 hg5)
                  go_roundw
                  case rel => exact ⟨t + 1, m' + 1, w5.heap.size - (w3.heap.size + 1), _, by omega, by congr 1; omega, i5.grownN hg5 (by omega), i7.grownN hg5 (by omega), iw.grownN hg5 (by omega), i12.grownN hg5 (by omega), hm5, by omega, hHG, by have := hg5.size; omega, hBq.grown hg5 hBq.size (fun a h => by injection h with h; omega)⟩
                  case measure => simp [intOf]; omega
                · have htN : (t : Int) = N := by omega
                  rw [htN]
                  have hdd : decide (B + U + N < B + U + N) = false := by simp
                  have hHV : Hid (∀ y, g y ≠ 0 → Used c v y) := Lib.hid fun y h => HUS.out y (by
                    rcases HG.out y h with h | h
                    · exact .inl h
                    · exact .inr (by have := HUU.out; omega))
                  go_wp2_with (first | (refine wpList_load_row rfl 26 (.tmp 12) rfl w3.heap.size rfl _ _ _ _ i12 Tryd.underlying26 rfl rfl ?_) | (refine wpList_store_rowO rfl 26 (.tmp 7) (.tmp 110) rfl (p + 1) (sixL v) rfl rfl 26 (sixL u) i7 rfl rfl rfl w.heap.size w hBq (by omega) ?_; intro w6 h76 hB6 hs6 hk6; have h56 := i5.keep hk6 (by omega); have hm6 := im.keep hk6 (by omega); clear hk6))
                  go_roundw
                  case rel => exact ⟨k + 1, m', v, g, by omega, by omega, by go_num, h56, h76, hm6, by omega, HUP, hHV, by omega, hB6⟩
                  case measure => simp [intOf]; omega
            · rw [het, sixV_lit]
              rintro e w3 ⟨rfl, hb3⟩
              have h53 := (h5a.call hb3).alloc (.cells #[.int .i64 0, .int .i64 0, .int .i64 0, .int .i64 0, .int .i64 0, .int .i64 0] 26)
              have h73 := (h7a.call hb3).alloc (.cells #[.int .i64 0, .int .i64 0, .int .i64 0, .int .i64 0, .int .i64 0, .int .i64 0] 26)
              have hm3 := (hma.below hb3 hma.lt).alloc (.cells #[.int .i64 0, .int .i64 0, .int .i64 0, .int .i64 0, .int .i64 0, .int .i64 0] 26)
              have hB3 := al_ (then_ hBa hb3) (.cells #[.int .i64 0, .int .i64 0, .int .i64 0, .int .i64 0, .int .i64 0, .int .i64 0] 26)
              have hz3 : p + 3 ≤ w3.heap.size := by have := hb3.size; simp at this; omega
              clear h5a h7a hma hwa hBa hb3
              have hne0 : (e0 != 0) = true := by rcases he0 with rfl | rfl <;> rfl
              go_wp2
              go_roundw
              case rel => exact ⟨k + 1, m, u, f, by omega, by omega, by go_num, h53, h73, hm3, by omega, HU, HC, by simp; omega, hB3⟩
              case measure => simp [intOf]; omega
        · have hlt' : ¬ (k : Int) < (n : Int) := by omega
          go_wp2_with fail
          go_meet
          exact hB
    case rest =>
      have hB : Below w.heap.size w wc := hcut
      go_wp2_with fail
      refine (fixed_any _ (hT.below hB)).mono ?_
      rintro e w3 ⟨rfl, hb3⟩
      go_wp2
      go_ret
      exact ⟨rfl, hB.trans (hb3.mono hB.size)⟩
  · have LC := fun w hT hb => Lib.hid (lay_no_go (W := w) (w := w) c hco hT hb)
    rw [hcv] at LC
    clear hcv hco
    unfold Cf.cells at *
    simp only [zeros15, List.replicate] at LC
    go_enter Tryd.func4, Tryd.ntmps4
    go_wp2_with fail
    refine (LC _ (hT.below (al_ (Below.refl _ _) _)) (Below.refl _ _)).out.mono ?_
    rintro e w1 ⟨rfl, hb1⟩
    have hB := al_ (then_ (al_ (Below.refl _ _) _) hb1)
    go_wp2_with fail
    refine (fixed_any _ (hT.below (hB _))).mono ?_
    rintro e w3 ⟨rfl, hb3⟩
    go_wp2
    go_ret
    exact ⟨rfl, then_ (hB _) hb3⟩
end Go.Proofs.YtkoljljflpkgnaaDoor
