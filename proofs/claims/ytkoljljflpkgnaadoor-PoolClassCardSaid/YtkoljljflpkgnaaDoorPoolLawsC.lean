/- The walk of the law PoolClass. -/
import Derived.Test.YtkoljljflpkgnaaDoorPoolLaws
import Derived.Test.YtkoljljflpkgnaaDoorRowOps
import Derived.Deep.RegionHeld3
namespace Go.Proofs.YtkoljljflpkgnaaDoor
open Go.RowKit

theorem class_in (bs ss : Nat → Int) (a : Int) : (classV bs ss a).1 < 0 ∨ (¬ (classV bs ss a).1 < 0 ∧ (classV bs ss a).2 < szI (classV bs ss a).1) := by
  unfold classV
  have h : ∀ k : Nat, k < 4 → ∀ b : Int, b % sz k < szI k := fun k hk b => by rw [szI_of k hk]; exact Int.emod_lt_of_pos _ (sz_pos k hk)
  split
  · exact .inr ⟨by simp, h 0 (by omega) _⟩
  · split
    · exact .inr ⟨by simp, h 1 (by omega) _⟩
    · split
      · exact .inr ⟨by simp, h 2 (by omega) _⟩
      · split
        · exact .inr ⟨by simp, h 3 (by omega) _⟩
        · exact .inl (by simp)

set_option maxRecDepth 100000 in
set_option maxHeartbeats 2000000 in
theorem walkPoolClass {w : World} (hT : SizesAt w) (c : Cf) (_ : c.Wf) (a : Int) (ha : (Lit.int .i64 a).wf = true) : Calls Tryd.prog 8 #[c.val, .int .i64 a] w fun e w' => e = .returned (.bool true) ∧ Below w.heap.size w w' := by
  have ha := wf64 ha
  by_cases h : c.Ok
  · have HL2 := fun W w hb => Lib.hid (refLay_ok_go (W := W) (w := w) c h hb)
    have HC1 := fun W w hT hb => Lib.hid (class_go (W := W) (w := w) c h a ha.2 hT hb)
    have HC2 := fun W w hb => Lib.hid (refClass_go (W := W) (w := w) c h a ha hb)
    have hin := class_in c.at_ c.S a
    rw [c.plan_lit] at HL2 HC1 HC2
    unfold clV at HC1 HC2
    generalize classV c.at_ c.S a = r at *
    obtain ⟨k, to⟩ := r
    simp only at HC1 HC2 hin
    clear h ha
    unfold Cf.val at *
    rcases hin with hk | ⟨hk, hlt⟩
    · have hd : decide (k < 0) = true := by simp [hk]
      go_enter Tryd.func8, Tryd.ntmps8
      go_wp2_with fail
      refine (HL2 _ _ (Below.refl _ _)).out.mono ?_
      rintro e w1 ⟨rfl, hb1⟩
      have hB1 : Below w.heap.size w w1 := then_ (al_ (Below.refl _ w) _) hb1
      clear hb1
      have hB1' := al_ hB1
      go_wp2_with fail
      refine (HC1 _ _ (hT.below (hB1' _)) (Below.refl _ _)).out.mono ?_
      rintro e w2 ⟨rfl, hb2⟩
      have s11 := (Row.new w1 28 [.int .i64 (c.at_ 0), .int .i64 (c.at_ 1), .int .i64 (c.at_ 2), .int .i64 (c.at_ 3), .int .i64 (c.at_ 4), .int .i64 (c.at_ 5), .int .i64 (c.S 0), .int .i64 (c.S 1), .int .i64 (c.S 2), .int .i64 (c.S 3), .int .i64 (c.S 4), .int .i64 (c.S 5), .int .i64 (c.at_ 6), .int .i64 (slotsOf c.terms), .int .i64 (1 + 4 * c.docs + slotsOf c.terms)]).call hb2
      have hB2 := then_ (hB1' _) hb2
      clear hb2 hB1'
      have k11 := s11.cells
      go_wp2_with fail
      refine (HC2 _ _ (Below.refl _ _)).out.mono ?_
      rintro e w3 ⟨rfl, hb3⟩
      have hB3 := then_ hB2 hb3
      clear hb3 k11 s11 hB2
      have hT3 := hT.below hB3
      have hr3 : Below w3.heap.size w3 w3 := Below.refl _ _
      go_wp2_with (first | (go_at_call 11; refine (fixed_go (W := w3) hT3 (by assumption)).mono ?_; rintro e w4 ⟨rfl, hb4⟩) | (go_at_call 13; refine (slab_go (W := w3) _ hT3 (by assumption)).mono ?_; rintro e w5 ⟨rfl, hb5⟩) | (go_at_call 19; refine (refSlab_go (W := w3) _ (by assumption)).mono ?_; rintro e w6 ⟨rfl, hb6⟩))
      go_ret
      exact ⟨rfl, hB3.trans (Below.mono (by assumption) hB3.size)⟩
    · have hd : decide (k < 0) = false := by simp; omega
      have hd2 : decide (to < szI k) = true := by simp [hlt]
      go_enter Tryd.func8, Tryd.ntmps8
      go_wp2_with fail
      refine (HL2 _ _ (Below.refl _ _)).out.mono ?_
      rintro e w1 ⟨rfl, hb1⟩
      have hB1 : Below w.heap.size w w1 := then_ (al_ (Below.refl _ w) _) hb1
      clear hb1
      have hB1' := al_ hB1
      go_wp2_with fail
      refine (HC1 _ _ (hT.below (hB1' _)) (Below.refl _ _)).out.mono ?_
      rintro e w2 ⟨rfl, hb2⟩
      have s11 := (Row.new w1 28 [.int .i64 (c.at_ 0), .int .i64 (c.at_ 1), .int .i64 (c.at_ 2), .int .i64 (c.at_ 3), .int .i64 (c.at_ 4), .int .i64 (c.at_ 5), .int .i64 (c.S 0), .int .i64 (c.S 1), .int .i64 (c.S 2), .int .i64 (c.S 3), .int .i64 (c.S 4), .int .i64 (c.S 5), .int .i64 (c.at_ 6), .int .i64 (slotsOf c.terms), .int .i64 (1 + 4 * c.docs + slotsOf c.terms)]).call hb2
      have hB2 := then_ (hB1' _) hb2
      clear hb2 hB1'
      have k11 := s11.cells
      go_wp2_with fail
      refine (HC2 _ _ (Below.refl _ _)).out.mono ?_
      rintro e w3 ⟨rfl, hb3⟩
      have hB3 := then_ hB2 hb3
      clear hb3 k11 s11 hB2
      have hT3 := hT.below hB3
      have hr3 : Below w3.heap.size w3 w3 := Below.refl _ _
      go_wp2_with (first | (go_at_call 11; refine (fixed_go (W := w3) hT3 (by assumption)).mono ?_; rintro e w4 ⟨rfl, hb4⟩) | (go_at_call 13; refine (slab_go (W := w3) _ hT3 (by assumption)).mono ?_; rintro e w5 ⟨rfl, hb5⟩) | (go_at_call 19; refine (refSlab_go (W := w3) _ (by assumption)).mono ?_; rintro e w6 ⟨rfl, hb6⟩))
      go_ret
      exact ⟨rfl, hB3.trans (Below.mono (by assumption) hB3.size)⟩
  · have HL2 := fun W w hb => Lib.hid (refLay_no_go (W := W) (w := w) c h hb)
    simp only [zeros15, List.replicate] at HL2
    clear h
    unfold Cf.val at *
    go_enter Tryd.func8, Tryd.ntmps8
    go_wp2_with fail
    refine (HL2 _ _ (Below.refl _ _)).out.mono ?_
    rintro e w1 ⟨rfl, hb1⟩
    have hB1 : Below w.heap.size w w1 := then_ (al_ (Below.refl _ w) _) hb1
    clear hb1
    have hB := al_ hB1
    go_wp2_with fail
    refine (fixed_any _ (hT.below (hB _))).mono ?_
    rintro e w3 ⟨rfl, hb3⟩
    go_wp2
    go_ret
    exact ⟨rfl, then_ (hB _) hb3⟩
end Go.Proofs.YtkoljljflpkgnaaDoor
