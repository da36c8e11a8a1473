/- The walk of the law RankBetter. -/
import Derived.Test.YtdkbiimhdbnplaaRankGo
namespace Go.Proofs.Ytdkbiimhdbnplaa
open Go.RowKit

set_option maxRecDepth 100000 in
set_option maxHeartbeats 1000000 in
theorem walkRankBetter {w : World} (a : Sc) (ha : ScOk a) (b : Sc) (hb : ScOk b) (o : Int) (_ : (Lit.int .i64 o).wf = true) : Calls Try.prog 4 #[scV a, scV b, .int .i64 o] w fun e w' => e = .returned (.bool true) ∧ Below w.heap.size w w' := by
  have hanti : betB o a b = true → betB o b a = false := fun h => by
    simp only [betB, decide_eq_true_eq, decide_eq_false_iff_not] at h ⊢
    omega
  have H1 := fun W w h => Lib.hid (better_go (W := W) (w := w) o a b ha hb h)
  have H2 := fun W w h => Lib.hid (refBetter_go (W := W) (w := w) o a b ha hb h)
  have H3 := fun W w h => Lib.hid (better_go (W := W) (w := w) o b a hb ha h)
  obtain ⟨d, id, s⟩ := a
  obtain ⟨d', id', s'⟩ := b
  unfold scV at H1 H2 H3 ⊢
  simp only at H1 H2 H3 ⊢
  have hstf := store_float
  have r0 := (Row.new w 27 (scC (d, id, s))).alloc (.cells (scC (d', id', s')).toArray 27)
  have r1 := Row.new (w.alloc (.cells (scC (d, id, s)).toArray 27)) 27 (scC (d', id', s'))
  rw [World.size_alloc] at r1
  have hB := al_ (al_ (Below.refl _ w) (.cells (scC (d, id, s)).toArray 27)) (.cells (scC (d', id', s')).toArray 27)
  generalize betB o (d, id, s) (d', id', s') = x at *
  generalize betB o (d', id', s') (d, id, s) = y at *
  have hxy : x = false ∨ (x = true ∧ y = false) := by cases x; exact .inl rfl; exact .inr ⟨rfl, hanti rfl⟩
  clear hanti ha hb
  rcases hxy with rfl | ⟨rfl, rfl⟩
  · go_enter Try.func4, Try.ntmps4
    go_wp2_with fail
    change Row ((w.alloc (.cells #[.int .i64 d, .int .u32 id, .float .f64 s] 27)).alloc (.cells #[.int .i64 d', .int .u32 id', .float .f64 s'] 27)) _ _ _ at r0 r1
    change Below _ _ ((w.alloc (.cells #[.int .i64 d, .int .u32 id, .float .f64 s] 27)).alloc (.cells #[.int .i64 d', .int .u32 id', .float .f64 s'] 27)) at hB
    generalize (w.alloc (.cells #[.int .i64 d, .int .u32 id, .float .f64 s] 27)).alloc (.cells #[.int .i64 d', .int .u32 id', .float .f64 s'] 27) = W0 at *
    have hSb : ∀ w', Below W0.heap.size W0 w' → (fun w' : World => w'.cell? ⟨w.heap.size, 0, none⟩ = some (.int .i64 d) ∧ w'.cell? ⟨w.heap.size, 1, none⟩ = some (.int .u32 id) ∧ w'.cell? ⟨w.heap.size, 2, none⟩ = some (.float .f64 s) ∧ w'.cell? ⟨w.heap.size + 1, 0, none⟩ = some (.int .i64 d') ∧ w'.cell? ⟨w.heap.size + 1, 1, none⟩ = some (.int .u32 id') ∧ w'.cell? ⟨w.heap.size + 1, 2, none⟩ = some (.float .f64 s')) w' := fun w' hb => ⟨(r0.call hb).cell 0, (r0.call hb).cell 1, (r0.call hb).cell 2, (r1.call hb).cell 0, (r1.call hb).cell 1, (r1.call hb).cell 2⟩
    have HSB := Lib.hid hSb
    have hbd : Below W0.heap.size W0 W0.drew := (Below.refl _ _).drew
    have hb0 : Below W0.heap.size W0 W0 := Below.refl _ _
    clear hSb r0 r1
    refine wp_region_noPanic ?_
    refine wp_region_held_drew (S := (fun w' : World => w'.cell? ⟨w.heap.size, 0, none⟩ = some (.int .i64 d) ∧ w'.cell? ⟨w.heap.size, 1, none⟩ = some (.int .u32 id) ∧ w'.cell? ⟨w.heap.size, 2, none⟩ = some (.float .f64 s) ∧ w'.cell? ⟨w.heap.size + 1, 0, none⟩ = some (.int .i64 d') ∧ w'.cell? ⟨w.heap.size + 1, 1, none⟩ = some (.int .u32 id') ∧ w'.cell? ⟨w.heap.size + 1, 2, none⟩ = some (.float .f64 s'))) (by kernel_rfl) (HSB.out _ hbd) (fun hHeld => ?_)
    refine wpAnyH_ready (rs := [0]) (by kernel_rfl) (by simp) ?_
    refine AllReadyH.cons (o := _) rfl (fun K hK => ?_) AllReadyH.nil
    go_simp
    go_at_call 8; refine (fixed_go (by assumption)).mono ?_; rintro e w5 ⟨rfl, hb5⟩
    refine hK.out _ _ (HSB.out _ (by assumption)) (fun hHeld => ?_)
    clear hK K
    refine wpAnyH_take (i := 1) (v := (.bool true)) rfl (by kernel_rfl) (by kernel_rfl) (by kernel_rfl) (fun _ _ _ h => h) (Or.inl ⟨by rfl, fun w hSw => by (try dsimp only at hSw); go_simp⟩) (by assumption) ?_
    refine wpAnyH_take (i := 2) (v := (.agg #[.int .i64 d, .int .u32 id, .float .f64 s])) rfl (by kernel_rfl) (by kernel_rfl) (by kernel_rfl) (fun _ _ _ h => h) (Or.inl ⟨by rfl, fun w hSw => by (try dsimp only at hSw); go_simp⟩) (by assumption) ?_
    refine wpAnyH_take (i := 3) (v := (.agg #[.int .i64 d', .int .u32 id', .float .f64 s'])) rfl (by kernel_rfl) (by kernel_rfl) (by kernel_rfl) (fun _ _ _ h => h) (Or.inl ⟨by rfl, fun w hSw => by (try dsimp only at hSw); go_simp⟩) (by assumption) ?_
    refine wpAnyH_take (i := 4) (v := (.int .i64 o)) rfl (by kernel_rfl) (by kernel_rfl) (by kernel_rfl) (fun _ _ _ h => h) (Or.inl ⟨by rfl, fun w hSw => by (try dsimp only at hSw); go_simp⟩) (by assumption) ?_
    refine wpAnyH_take (i := 6) (v := (.agg #[.int .i64 d, .int .u32 id, .float .f64 s])) rfl (by kernel_rfl) (by kernel_rfl) (by kernel_rfl) (fun _ _ _ h => h) (Or.inl ⟨by rfl, fun w hSw => by (try dsimp only at hSw); go_simp⟩) (by assumption) ?_
    refine wpAnyH_take (i := 7) (v := (.agg #[.int .i64 d', .int .u32 id', .float .f64 s'])) rfl (by kernel_rfl) (by kernel_rfl) (by kernel_rfl) (fun _ _ _ h => h) (Or.inl ⟨by rfl, fun w hSw => by (try dsimp only at hSw); go_simp⟩) (by assumption) ?_
    refine wpAnyH_take (i := 8) (v := (.int .i64 o)) rfl (by kernel_rfl) (by kernel_rfl) (by kernel_rfl) (fun _ _ _ h => h) (Or.inl ⟨by rfl, fun w hSw => by (try dsimp only at hSw); go_simp⟩) (by assumption) ?_
    refine wpAnyH_ready (rs := [5]) (by kernel_rfl) (by simp) ?_
    refine AllReadyH.cons (o := _) rfl (fun K hK => ?_) AllReadyH.nil
    go_simp
    go_at_call 10; refine (H1 _ _ (by assumption)).out.mono ?_; rintro e w6 ⟨rfl, hb6⟩
    refine hK.out _ _ (HSB.out _ (by assumption)) (fun hHeld => ?_)
    clear hK K
    refine wpAnyH_ready (rs := [9]) (by kernel_rfl) (by simp) ?_
    refine AllReadyH.cons (o := _) rfl (fun K hK => ?_) AllReadyH.nil
    go_simp
    go_at_call 11; refine (H2 _ _ (by assumption)).out.mono ?_; rintro e w7 ⟨rfl, hb7⟩
    refine hK.out _ _ (HSB.out _ (by assumption)) (fun hHeld => ?_)
    clear hK K
    refine wpAnyH_take (i := 10) (v := (.bool true)) rfl (by kernel_rfl) (by kernel_rfl) (by kernel_rfl) (fun _ _ _ h => h) (Or.inl ⟨by rfl, fun w hSw => by (try dsimp only at hSw); go_simp⟩) (by assumption) ?_
    refine wpAnyH_take (i := 11) (v := (.bool true)) rfl (by kernel_rfl) (by kernel_rfl) (by kernel_rfl) (fun _ _ _ h => h) (Or.inl ⟨by rfl, fun w hSw => by (try dsimp only at hSw); go_simp⟩) (by assumption) ?_
    refine wpAnyH_take (i := 12) (v := (.bool true)) rfl (by kernel_rfl) (by kernel_rfl) (by kernel_rfl) (fun _ _ _ h => h) (Or.inl ⟨by rfl, fun w hSw => by (try dsimp only at hSw); go_simp⟩) (by assumption) ?_
    refine wpAnyH_take (i := 13) (v := (.agg #[.int .i64 d, .int .u32 id, .float .f64 s])) rfl (by kernel_rfl) (by kernel_rfl) (by kernel_rfl) (fun _ _ _ h => h) (Or.inl ⟨by rfl, fun w hSw => by (try dsimp only at hSw); go_simp⟩) (by assumption) ?_
    refine wpAnyH_take (i := 14) (v := (.agg #[.int .i64 d', .int .u32 id', .float .f64 s'])) rfl (by kernel_rfl) (by kernel_rfl) (by kernel_rfl) (fun _ _ _ h => h) (Or.inl ⟨by rfl, fun w hSw => by (try dsimp only at hSw); go_simp⟩) (by assumption) ?_
    refine wpAnyH_take (i := 15) (v := (.int .i64 o)) rfl (by kernel_rfl) (by kernel_rfl) (by kernel_rfl) (fun _ _ _ h => h) (Or.inl ⟨by rfl, fun w hSw => by (try dsimp only at hSw); go_simp⟩) (by assumption) ?_
    refine wpAnyH_ready (rs := [16]) (by kernel_rfl) (by simp) ?_
    refine AllReadyH.cons (o := _) rfl (fun K hK => ?_) AllReadyH.nil
    go_simp
    go_at_call 10; refine (H1 _ _ (by assumption)).out.mono ?_; rintro e w8 ⟨rfl, hb8⟩
    refine hK.out _ _ (HSB.out _ (by assumption)) (fun hHeld => ?_)
    clear hK K
    refine wpAnyH_take (i := 17) (v := (.bool false)) rfl (by kernel_rfl) (by kernel_rfl) (by kernel_rfl) (fun _ _ _ h => h) (Or.inl ⟨by rfl, fun w hSw => by (try dsimp only at hSw); go_simp⟩) (by assumption) ?_
    refine wpAnyH_take (i := 18) (v := undef) rfl (by kernel_rfl) (by kernel_rfl) (by kernel_rfl) (fun _ _ _ h => h) (Or.inr ⟨by rfl, rfl⟩) (by assumption) ?_
    refine wpAnyH_take (i := 19) (v := undef) rfl (by kernel_rfl) (by kernel_rfl) (by kernel_rfl) (fun _ _ _ h => h) (Or.inr ⟨by rfl, rfl⟩) (by assumption) ?_
    refine wpAnyH_take (i := 20) (v := undef) rfl (by kernel_rfl) (by kernel_rfl) (by kernel_rfl) (fun _ _ _ h => h) (Or.inr ⟨by rfl, rfl⟩) (by assumption) ?_
    refine wpAnyH_take (i := 21) (v := undef) rfl (by kernel_rfl) (by kernel_rfl) (by kernel_rfl) (fun _ _ _ h => h) (Or.inr ⟨by rfl, rfl⟩) (by assumption) ?_
    refine wpAnyH_take (i := 22) (v := (.bool false)) rfl (by kernel_rfl) (by kernel_rfl) (by kernel_rfl) (fun _ _ _ h => h) (Or.inl ⟨by rfl, fun w hSw => by (try dsimp only at hSw); go_simp⟩) (by assumption) ?_
    refine wpAnyH_take (i := 23) (v := (.bool true)) rfl (by kernel_rfl) (by kernel_rfl) (by kernel_rfl) (fun _ _ _ h => h) (Or.inl ⟨by rfl, fun w hSw => by (try dsimp only at hSw); go_simp⟩) (by assumption) ?_
    refine wpAnyH_take (i := 24) (v := (.bool true)) rfl (by kernel_rfl) (by kernel_rfl) (by kernel_rfl) (fun _ _ _ h => h) (Or.inl ⟨by rfl, fun w hSw => by (try dsimp only at hSw); go_simp⟩) (by assumption) ?_
    refine wpAnyH_take (i := 25) (v := (.bool true)) rfl (by kernel_rfl) (by kernel_rfl) (by kernel_rfl) (fun _ _ _ h => h) (Or.inl ⟨by rfl, fun w hSw => by (try dsimp only at hSw); go_simp⟩) (by assumption) ?_
    refine wpAnyH_done (by kernel_rfl) ?_ _
    refine NoPanic.normal ?_
    all_goals
      go_wp2
      go_ret
      exact ⟨rfl, hB.trans (Below.mono (by assumption) hB.size)⟩
  · go_enter Try.func4, Try.ntmps4
    go_wp2_with fail
    change Row ((w.alloc (.cells #[.int .i64 d, .int .u32 id, .float .f64 s] 27)).alloc (.cells #[.int .i64 d', .int .u32 id', .float .f64 s'] 27)) _ _ _ at r0 r1
    change Below _ _ ((w.alloc (.cells #[.int .i64 d, .int .u32 id, .float .f64 s] 27)).alloc (.cells #[.int .i64 d', .int .u32 id', .float .f64 s'] 27)) at hB
    generalize (w.alloc (.cells #[.int .i64 d, .int .u32 id, .float .f64 s] 27)).alloc (.cells #[.int .i64 d', .int .u32 id', .float .f64 s'] 27) = W0 at *
    have hSb : ∀ w', Below W0.heap.size W0 w' → (fun w' : World => w'.cell? ⟨w.heap.size, 0, none⟩ = some (.int .i64 d) ∧ w'.cell? ⟨w.heap.size, 1, none⟩ = some (.int .u32 id) ∧ w'.cell? ⟨w.heap.size, 2, none⟩ = some (.float .f64 s) ∧ w'.cell? ⟨w.heap.size + 1, 0, none⟩ = some (.int .i64 d') ∧ w'.cell? ⟨w.heap.size + 1, 1, none⟩ = some (.int .u32 id') ∧ w'.cell? ⟨w.heap.size + 1, 2, none⟩ = some (.float .f64 s')) w' := fun w' hb => ⟨(r0.call hb).cell 0, (r0.call hb).cell 1, (r0.call hb).cell 2, (r1.call hb).cell 0, (r1.call hb).cell 1, (r1.call hb).cell 2⟩
    have HSB := Lib.hid hSb
    have hbd : Below W0.heap.size W0 W0.drew := (Below.refl _ _).drew
    have hb0 : Below W0.heap.size W0 W0 := Below.refl _ _
    clear hSb r0 r1
    first | (go_region_held3 (fun w' : World => w'.cell? ⟨w.heap.size, 0, none⟩ = some (.int .i64 d) ∧ w'.cell? ⟨w.heap.size, 1, none⟩ = some (.int .u32 id) ∧ w'.cell? ⟨w.heap.size, 2, none⟩ = some (.float .f64 s) ∧ w'.cell? ⟨w.heap.size + 1, 0, none⟩ = some (.int .i64 d') ∧ w'.cell? ⟨w.heap.size + 1, 1, none⟩ = some (.int .u32 id') ∧ w'.cell? ⟨w.heap.size + 1, 2, none⟩ = some (.float .f64 s')) (first | exact HSB.out _ (by assumption)) (first | (go_at_call 8; refine (fixed_go (by assumption)).mono ?_; rintro e w5 ⟨rfl, hb5⟩) | (go_at_call 10; first | (with_reducible refine (H1 _ _ (by assumption)).out.mono ?_; rintro e w6 ⟨rfl, hb6⟩) | (with_reducible refine (H3 _ _ (by assumption)).out.mono ?_; rintro e w6 ⟨rfl, hb6⟩)) | (go_at_call 11; refine (H2 _ _ (by assumption)).out.mono ?_; rintro e w7 ⟨rfl, hb7⟩))) | fail
    all_goals
      go_wp2
      go_ret
      exact ⟨rfl, hB.trans (Below.mono (by assumption) hB.size)⟩
end Go.Proofs.Ytdkbiimhdbnplaa
