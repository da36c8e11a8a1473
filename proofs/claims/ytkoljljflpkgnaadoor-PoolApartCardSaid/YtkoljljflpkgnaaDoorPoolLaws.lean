/- The walks of the laws PoolLays, PoolTakes, PoolClass. -/
import Derived.Test.YtkoljljflpkgnaaDoorPoolGo
import Derived.Deep.RegionHeld3
namespace Go.Proofs.YtkoljljflpkgnaaDoor
open Go.RowKit

theorem wf64 {x : Int} (h : (Lit.int .i64 x).wf = true) : -9223372036854775808 ≤ x ∧ x ≤ 9223372036854775807 := by
  simp [Lit.wf, IntKind.min, IntKind.max, IntKind.signed, IntKind.bits] at h; omega

set_option maxRecDepth 100000 in
set_option maxHeartbeats 2000000 in
theorem walkPoolLays {w : World} (hT : SizesAt w) (c : Cf) (_ : c.Wf) : Calls Tryd.prog 3 #[c.val] w fun e w' => e = .returned (.bool true) ∧ Below w.heap.size w w' := by
  by_cases h : c.Ok
  · have HL1 := fun W w hT hb => Lib.hid (lay_ok_go (W := W) (w := w) c h hT hb)
    have HL2 := fun W w hb => Lib.hid (refLay_ok_go (W := W) (w := w) c h hb)
    rw [c.plan_lit] at HL1 HL2
    clear h
    unfold Cf.val at *
    have q15 := eq15
    have g15 := guard15
    go_enter Tryd.func3, Tryd.ntmps3
    go_wp2_with fail
    refine (HL1 _ _ (hT.below (al_ (Below.refl _ _) _)) (Below.refl _ _)).out.mono ?_
    rintro e w1 ⟨rfl, hb1⟩
    obtain ⟨c1, f1⟩ := bcell hb1
    have z1 : w.heap.size < w1.heap.size := by have := hb1.size; simp at this; omega
    go_wp2_with fail
    refine (HL2 _ _ (Below.refl _ _)).out.mono ?_
    rintro e w2 ⟨rfl, hb2⟩
    obtain ⟨c2, f2⟩ := bcell hb2
    have z2 : w1.heap.size < w2.heap.size := by have := hb2.size; simp at this; omega
    have hB := al_ (then_ (al_ (then_ (al_ (Below.refl _ w) _) hb1) _) hb2)
    go_wp2_with fail
    refine (fixed_any _ (hT.below (hB _))).mono ?_
    rintro e w3 ⟨rfl, hb3⟩
    obtain ⟨c3, f3⟩ := bcell hb3
    have z3 : w2.heap.size < w3.heap.size := by have := hb3.size; simp at this; omega
    go_wp2
    go_ret
    exact ⟨rfl, then_ (hB _) hb3⟩
  · have HL1 := fun W w hT hb => Lib.hid (lay_no_go (W := W) (w := w) c h hT hb)
    have HL2 := fun W w hb => Lib.hid (refLay_no_go (W := W) (w := w) c h hb)
    simp only [zeros15, List.replicate] at HL1 HL2
    clear h
    unfold Cf.val at *
    have q15 := eq15
    have g15 := guard15
    go_enter Tryd.func3, Tryd.ntmps3
    go_wp2_with fail
    refine (HL1 _ _ (hT.below (al_ (Below.refl _ _) _)) (Below.refl _ _)).out.mono ?_
    rintro e w1 ⟨rfl, hb1⟩
    obtain ⟨c1, f1⟩ := bcell hb1
    have z1 : w.heap.size < w1.heap.size := by have := hb1.size; simp at this; omega
    go_wp2_with fail
    refine (HL2 _ _ (Below.refl _ _)).out.mono ?_
    rintro e w2 ⟨rfl, hb2⟩
    obtain ⟨c2, f2⟩ := bcell hb2
    have z2 : w1.heap.size < w2.heap.size := by have := hb2.size; simp at this; omega
    have hB := al_ (then_ (al_ (then_ (al_ (Below.refl _ w) _) hb1) _) hb2)
    go_wp2_with fail
    refine (fixed_any _ (hT.below (hB _))).mono ?_
    rintro e w3 ⟨rfl, hb3⟩
    obtain ⟨c3, f3⟩ := bcell hb3
    have z3 : w2.heap.size < w3.heap.size := by have := hb3.size; simp at this; omega
    go_wp2
    go_ret
    exact ⟨rfl, then_ (hB _) hb3⟩

theorem sixV_lit (u : Nat → Int) : sixV u = .agg #[.int .i64 (u 0), .int .i64 (u 1), .int .i64 (u 2), .int .i64 (u 3), .int .i64 (u 4), .int .i64 (u 5)] := rfl
theorem takeV_form (bs ss u : Nat → Int) (k n : Int) : ∃ a v0 v1 v2 v3 v4 v5 e, takeV bs ss u k n = .tuple #[.int .i64 a, .agg #[.int .i64 v0, .int .i64 v1, .int .i64 v2, .int .i64 v3, .int .i64 v4, .int .i64 v5], .int .i64 e] := by
  unfold takeV
  split
  · exact ⟨_, _, _, _, _, _, _, _, rfl⟩
  · split <;> exact ⟨_, _, _, _, _, _, _, _, rfl⟩
theorem fixed_go {W w : World} (hT : SizesAt W) (hb : Below W.heap.size W w) : Calls Tryd.prog 11 #[] w fun e w' => e = .returned (.bool true) ∧ Below W.heap.size W w' :=
  (fixed_any w (hT.below hb)).mono fun _ _ ⟨h1, h2⟩ => ⟨h1, hb.trans (h2.mono hb.size)⟩

end Go.Proofs.YtkoljljflpkgnaaDoor
