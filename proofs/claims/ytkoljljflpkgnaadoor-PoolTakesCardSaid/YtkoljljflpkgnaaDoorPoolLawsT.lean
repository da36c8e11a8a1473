/- The walk of the law PoolTakes. -/
import Derived.Test.YtkoljljflpkgnaaDoorPoolLaws
import Derived.Test.YtkoljljflpkgnaaDoorRowOps
import Derived.Deep.RegionHeld3
namespace Go.Proofs.YtkoljljflpkgnaaDoor
open Go.RowKit

set_option maxRecDepth 100000 in
set_option maxHeartbeats 2000000 in
theorem walkPoolTakes {w : World} (hT : SizesAt w) (c : Cf) (_ : c.Wf) (u : Nat → Int) (_ : True) (m : Nat → Int) (_ : True) (k : Int) (_ : (Lit.int .i64 k).wf = true) (n : Int) (_ : (Lit.int .i64 n).wf = true) : Calls Tryd.prog 6 #[c.val, sixV u, sixV m, .int .i64 k, .int .i64 n] w fun e w' => e = .returned (.bool true) ∧ Below w.heap.size w w' := by
  by_cases h : c.Ok
  · have HL2 := fun W w hb => Lib.hid (refLay_ok_go (W := W) (w := w) c h hb)
    have HT1 := fun W w hb => Lib.hid (take_go (W := W) (w := w) c h u k n hb)
    have HT2 := fun W w hb => Lib.hid (refTake_go (W := W) (w := w) c h u k n hb)
    have HF1 := fun W w hb => Lib.hid (fits_go (W := W) (w := w) c h u m hb)
    have HF2 := fun W w hb => Lib.hid (refFits_go (W := W) (w := w) c h u m hb)
    obtain ⟨a, v0, v1, v2, v3, v4, v5, f, ht⟩ := takeV_form c.at_ c.S u k n
    rw [c.plan_lit] at HL2 HT1 HT2 HF1 HF2
    rw [sixV_lit] at HT1 HT2
    rw [sixV_lit, sixV_lit] at HF1 HF2
    rw [ht] at HT1 HT2
    clear h ht
    unfold Cf.val at *
    rw [sixV_lit, sixV_lit]
    have q6 := eq6'
    have g6 := guard6
    go_enter Tryd.func6, Tryd.ntmps6
    go_wp2_with fail
    refine (HL2 _ _ (Below.refl _ _)).out.mono ?_
    rintro e w1 ⟨rfl, hb1⟩
    have r5 := (((Row.new w 25 c.cells).alloc (.cells #[.int .i64 (u 0), .int .i64 (u 1), .int .i64 (u 2), .int .i64 (u 3), .int .i64 (u 4), .int .i64 (u 5)] 26)).alloc (.cells #[.int .i64 (m 0), .int .i64 (m 1), .int .i64 (m 2), .int .i64 (m 3), .int .i64 (m 4), .int .i64 (m 5)] 26)).call hb1
    have r6 := ((Row.new (w.alloc (.cells c.cells.toArray 25)) 26 [.int .i64 (u 0), .int .i64 (u 1), .int .i64 (u 2), .int .i64 (u 3), .int .i64 (u 4), .int .i64 (u 5)]).alloc (.cells #[.int .i64 (m 0), .int .i64 (m 1), .int .i64 (m 2), .int .i64 (m 3), .int .i64 (m 4), .int .i64 (m 5)] 26)).call hb1
    have r7 := (Row.new ((w.alloc (.cells c.cells.toArray 25)).alloc (.cells #[.int .i64 (u 0), .int .i64 (u 1), .int .i64 (u 2), .int .i64 (u 3), .int .i64 (u 4), .int .i64 (u 5)] 26)) 26 [.int .i64 (m 0), .int .i64 (m 1), .int .i64 (m 2), .int .i64 (m 3), .int .i64 (m 4), .int .i64 (m 5)]).call hb1
    simp only [World.size_alloc] at r6 r7
    have hB1 : Below w.heap.size w w1 := then_ (al_ (al_ (al_ (Below.refl _ w) _) _) _) hb1
    clear hb1
    have k6 := r6.cells
    have k7 := r7.cells
    have z1 : w.heap.size + 1 + 1 < w1.heap.size := r7.lt
    have z1a : w.heap.size < w1.heap.size := by omega
    have z1b : w.heap.size + 1 < w1.heap.size := by omega
    go_wp2_with fail
    refine (HT1 _ _ (Below.refl _ _)).out.mono ?_
    rintro e w2 ⟨rfl, hb2⟩
    have s11 := (Row.new w1 28 [.int .i64 (c.at_ 0), .int .i64 (c.at_ 1), .int .i64 (c.at_ 2), .int .i64 (c.at_ 3), .int .i64 (c.at_ 4), .int .i64 (c.at_ 5), .int .i64 (c.S 0), .int .i64 (c.S 1), .int .i64 (c.S 2), .int .i64 (c.S 3), .int .i64 (c.S 4), .int .i64 (c.S 5), .int .i64 (c.at_ 6), .int .i64 (slotsOf c.terms), .int .i64 (1 + 4 * c.docs + slotsOf c.terms)]).call hb2
    have s6 := (r6.alloc (.cells #[.int .i64 (c.at_ 0), .int .i64 (c.at_ 1), .int .i64 (c.at_ 2), .int .i64 (c.at_ 3), .int .i64 (c.at_ 4), .int .i64 (c.at_ 5), .int .i64 (c.S 0), .int .i64 (c.S 1), .int .i64 (c.S 2), .int .i64 (c.S 3), .int .i64 (c.S 4), .int .i64 (c.S 5), .int .i64 (c.at_ 6), .int .i64 (slotsOf c.terms), .int .i64 (1 + 4 * c.docs + slotsOf c.terms)] 28)).call hb2
    have s7 := (r7.alloc (.cells #[.int .i64 (c.at_ 0), .int .i64 (c.at_ 1), .int .i64 (c.at_ 2), .int .i64 (c.at_ 3), .int .i64 (c.at_ 4), .int .i64 (c.at_ 5), .int .i64 (c.S 0), .int .i64 (c.S 1), .int .i64 (c.S 2), .int .i64 (c.S 3), .int .i64 (c.S 4), .int .i64 (c.S 5), .int .i64 (c.at_ 6), .int .i64 (slotsOf c.terms), .int .i64 (1 + 4 * c.docs + slotsOf c.terms)] 28)).call hb2
    have hB2 : Below w.heap.size w w2 := then_ (al_ hB1 _) hb2
    clear hb2 r5 r6 r7 k6 k7 hB1
    have k11 := s11.cells
    have k6 := s6.cells
    have z2 : w1.heap.size < w2.heap.size := s11.lt
    have z2a : w.heap.size < w2.heap.size := by omega
    have z2b : w.heap.size + 1 < w2.heap.size := by omega
    have z2c : w.heap.size + 1 + 1 < w2.heap.size := by omega
    go_wp2_with fail
    refine (HT2 _ _ (Below.refl _ _)).out.mono ?_
    rintro e w3 ⟨rfl, hb3⟩
    have t14 := (Row.new w2 26 [.int .i64 v0, .int .i64 v1, .int .i64 v2, .int .i64 v3, .int .i64 v4, .int .i64 v5]).call hb3
    have t11 := (s11.alloc (.cells #[.int .i64 v0, .int .i64 v1, .int .i64 v2, .int .i64 v3, .int .i64 v4, .int .i64 v5] 26)).call hb3
    have t6 := (s6.alloc (.cells #[.int .i64 v0, .int .i64 v1, .int .i64 v2, .int .i64 v3, .int .i64 v4, .int .i64 v5] 26)).call hb3
    have t7 := (s7.alloc (.cells #[.int .i64 v0, .int .i64 v1, .int .i64 v2, .int .i64 v3, .int .i64 v4, .int .i64 v5] 26)).call hb3
    have hB3 : Below w.heap.size w w3 := then_ (al_ hB2 _) hb3
    clear hb3 s11 s6 s7 k11 k6 hB2
    have z3 : w2.heap.size < w3.heap.size := t14.lt
    have u17 := Row.new w3 26 [.int .i64 v0, .int .i64 v1, .int .i64 v2, .int .i64 v3, .int .i64 v4, .int .i64 v5]
    have u14 := t14.alloc (.cells #[.int .i64 v0, .int .i64 v1, .int .i64 v2, .int .i64 v3, .int .i64 v4, .int .i64 v5] 26)
    have u11 := t11.alloc (.cells #[.int .i64 v0, .int .i64 v1, .int .i64 v2, .int .i64 v3, .int .i64 v4, .int .i64 v5] 26)
    have u6 := t6.alloc (.cells #[.int .i64 v0, .int .i64 v1, .int .i64 v2, .int .i64 v3, .int .i64 v4, .int .i64 v5] 26)
    have u7 := t7.alloc (.cells #[.int .i64 v0, .int .i64 v1, .int .i64 v2, .int .i64 v3, .int .i64 v4, .int .i64 v5] 26)
    have hB4 := al_ hB3 (.cells #[.int .i64 v0, .int .i64 v1, .int .i64 v2, .int .i64 v3, .int .i64 v4, .int .i64 v5] 26)
    clear t14 t11 t6 t7 hB3
    go_wp2_with fail
    change Row (w3.alloc (.cells #[.int .i64 v0, .int .i64 v1, .int .i64 v2, .int .i64 v3, .int .i64 v4, .int .i64 v5] 26)) _ _ _ at u17
    generalize hW0 : w3.alloc (.cells #[.int .i64 v0, .int .i64 v1, .int .i64 v2, .int .i64 v3, .int .i64 v4, .int .i64 v5] 26) = W0 at *
    clear hW0
    have hT0 := hT.below hB4
    have hSb : ∀ w', Below W0.heap.size W0 w' → (fun w' : World => (∀ i : Nat, w'.cell? ⟨w1.heap.size, i, none⟩ = ([.int .i64 (c.at_ 0), .int .i64 (c.at_ 1), .int .i64 (c.at_ 2), .int .i64 (c.at_ 3), .int .i64 (c.at_ 4), .int .i64 (c.at_ 5), .int .i64 (c.S 0), .int .i64 (c.S 1), .int .i64 (c.S 2), .int .i64 (c.S 3), .int .i64 (c.S 4), .int .i64 (c.S 5), .int .i64 (c.at_ 6), .int .i64 (slotsOf c.terms), .int .i64 (1 + 4 * c.docs + slotsOf c.terms)] : List Value)[i]?) ∧ (∀ i : Nat, w'.cell? ⟨w.heap.size + 1, i, none⟩ = ([.int .i64 (u 0), .int .i64 (u 1), .int .i64 (u 2), .int .i64 (u 3), .int .i64 (u 4), .int .i64 (u 5)] : List Value)[i]?) ∧ (∀ i : Nat, w'.cell? ⟨w.heap.size + 1 + 1, i, none⟩ = ([.int .i64 (m 0), .int .i64 (m 1), .int .i64 (m 2), .int .i64 (m 3), .int .i64 (m 4), .int .i64 (m 5)] : List Value)[i]?) ∧ (∀ i : Nat, w'.cell? ⟨w2.heap.size, i, none⟩ = ([.int .i64 v0, .int .i64 v1, .int .i64 v2, .int .i64 v3, .int .i64 v4, .int .i64 v5] : List Value)[i]?) ∧ (∀ i : Nat, w'.cell? ⟨w3.heap.size, i, none⟩ = ([.int .i64 v0, .int .i64 v1, .int .i64 v2, .int .i64 v3, .int .i64 v4, .int .i64 v5] : List Value)[i]?)) w' := fun w' hb => ⟨(u11.call hb).cells, (u6.call hb).cells, (u7.call hb).cells, (u14.call hb).cells, (u17.call hb).cells⟩
    have HSB := Lib.hid hSb
    have hbd : Below W0.heap.size W0 W0.drew := (Below.refl _ _).drew
    have hb0 : Below W0.heap.size W0 W0 := Below.refl _ _
    clear hSb u17 u14 u11 u6 u7
    go_region_held3 (fun w' : World => (∀ i : Nat, w'.cell? ⟨w1.heap.size, i, none⟩ = ([.int .i64 (c.at_ 0), .int .i64 (c.at_ 1), .int .i64 (c.at_ 2), .int .i64 (c.at_ 3), .int .i64 (c.at_ 4), .int .i64 (c.at_ 5), .int .i64 (c.S 0), .int .i64 (c.S 1), .int .i64 (c.S 2), .int .i64 (c.S 3), .int .i64 (c.S 4), .int .i64 (c.S 5), .int .i64 (c.at_ 6), .int .i64 (slotsOf c.terms), .int .i64 (1 + 4 * c.docs + slotsOf c.terms)] : List Value)[i]?) ∧ (∀ i : Nat, w'.cell? ⟨w.heap.size + 1, i, none⟩ = ([.int .i64 (u 0), .int .i64 (u 1), .int .i64 (u 2), .int .i64 (u 3), .int .i64 (u 4), .int .i64 (u 5)] : List Value)[i]?) ∧ (∀ i : Nat, w'.cell? ⟨w.heap.size + 1 + 1, i, none⟩ = ([.int .i64 (m 0), .int .i64 (m 1), .int .i64 (m 2), .int .i64 (m 3), .int .i64 (m 4), .int .i64 (m 5)] : List Value)[i]?) ∧ (∀ i : Nat, w'.cell? ⟨w2.heap.size, i, none⟩ = ([.int .i64 v0, .int .i64 v1, .int .i64 v2, .int .i64 v3, .int .i64 v4, .int .i64 v5] : List Value)[i]?) ∧ (∀ i : Nat, w'.cell? ⟨w3.heap.size, i, none⟩ = ([.int .i64 v0, .int .i64 v1, .int .i64 v2, .int .i64 v3, .int .i64 v4, .int .i64 v5] : List Value)[i]?)) (first | exact HSB.out _ (by assumption)) (first | (go_at_call 11; refine (fixed_go hT0 (by assumption)).mono ?_; rintro e w5 ⟨rfl, hb5⟩) | (go_at_call 15; refine (HF1 _ _ (by assumption)).out.mono ?_; rintro e w6 ⟨rfl, hb6⟩) | (go_at_call 16; refine (HF2 _ _ (by assumption)).out.mono ?_; rintro e w7 ⟨rfl, hb7⟩))
    all_goals
      go_wp2
      go_ret
      exact ⟨rfl, hB4.trans (Below.mono (by assumption) hB4.size)⟩
  · have HL2 := fun W w hb => Lib.hid (refLay_no_go (W := W) (w := w) c h hb)
    simp only [zeros15, List.replicate] at HL2
    clear h
    unfold Cf.val at *
    rw [sixV_lit, sixV_lit]
    go_enter Tryd.func6, Tryd.ntmps6
    go_wp2_with fail
    refine (HL2 _ _ (Below.refl _ _)).out.mono ?_
    rintro e w1 ⟨rfl, hb1⟩
    have hB1 : Below w.heap.size w w1 := then_ (al_ (al_ (al_ (Below.refl _ w) _) _) _) hb1
    clear hb1
    have hB := al_ hB1
    go_wp2_with fail
    refine (fixed_any _ (hT.below (hB _))).mono ?_
    rintro e w3 ⟨rfl, hb3⟩
    go_wp2
    go_ret
    exact ⟨rfl, then_ (hB _) hb3⟩
end Go.Proofs.YtkoljljflpkgnaaDoor
