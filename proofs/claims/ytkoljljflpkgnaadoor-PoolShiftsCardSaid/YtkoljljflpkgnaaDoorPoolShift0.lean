/- The walk of the law PoolShifts: printed by wip/bin/gen_shifts.py. -/
import Derived.Test.YtkoljljflpkgnaaDoorPoolShift
namespace Go.Proofs.YtkoljljflpkgnaaDoor
open Go.RowKit

set_option maxRecDepth 100000 in
set_option maxHeartbeats 2000000 in
theorem shifts_0 {w : World} (hT : SizesAt w) (c : Cf) (k : Int) (hs : (Lit.int .i64 (c.s 0)).wf = true) (h0 : 0 ≤ k) (h1 : k ≤ 255) (htm : k.tmod 4 = 0) : Calls Tryd.prog 5 #[c.val, .int .u8 k] w fun e w' => e = .returned (.bool true) ∧ Below w.heap.size w w' := by
  have hs := wf64 hs
  have hstf := store_float
  have hwk : IntKind.i64.wrap k = k := IntWalk.i64_in _ (by omega)
  have hS := up_S c 0 (by omega)
  have hA := up_at c 0 (by omega)
  obtain ⟨d, hd⟩ : ∃ d, d = c.up 0 := ⟨_, rfl⟩
  rw [← hd] at hS hA
  have hdv : d.val = .agg #[.int .i64 c.docs, .int .i64 c.terms, .int .i64 (c.s 0 + 1), .int .i64 (c.s 1), .int .i64 (c.s 2), .int .i64 (c.s 3), .int .i64 c.book, .int .i64 c.room, .float .f64 c.K, .float .f64 c.B] := by rw [hd]; rfl
  have hdt : d.terms = c.terms := by rw [hd]; rfl
  have hdd : d.docs = c.docs := by rw [hd]; rfl
  clear hd
  have hcv : c.val = .agg #[.int .i64 c.docs, .int .i64 c.terms, .int .i64 (c.s 0), .int .i64 (c.s 1), .int .i64 (c.s 2), .int .i64 (c.s 3), .int .i64 c.book, .int .i64 c.room, .float .f64 c.K, .float .f64 c.B] := rfl
  rw [hcv]
  by_cases hbig : 512 < c.s 0
  · have HB : Hid (∀ x, Below w.heap.size w ((w.alloc (.cells #[.int .i64 c.docs, .int .i64 c.terms, .int .i64 (c.s 0), .int .i64 (c.s 1), .int .i64 (c.s 2), .int .i64 (c.s 3), .int .i64 c.book, .int .i64 c.room, .float .f64 c.K, .float .f64 c.B] 25)).alloc x)) := Lib.hid fun x => al_ (al_ (Below.refl _ _) _) _
    go_enter Tryd.func5, Tryd.ntmps5
    go_wp2_with (go_at_call 11; refine (fixed_any _ (hT.below (HB.out _))).mono ?_; rintro e w9 ⟨rfl, hb9⟩)
    go_ret
    exact ⟨rfl, then_ (HB.out _) hb9⟩
  have hw1 : IntKind.i64.wrap (c.s 0 + 1) = c.s 0 + 1 := IntWalk.i64_in _ (by omega)
  clear hs
  have LC := fun w hT hb => Lib.hid (lay_any_go (W := w) (w := w) c hT hb)
  have LD := fun w hT hb => Lib.hid (lay_any_go (W := w) (w := w) d hT hb)
  rw [hcv] at LC
  rw [hdv] at LD
  rw [c.plan_lit] at LC
  rw [d.plan_lit, hdt, hdd] at LD
  simp only [zeros15, List.replicate] at LC LD
  clear hcv hdv
  by_cases hco : c.Ok
  · have LC' := fun w hT hb => Lib.hid ((LC w hT hb).out.mono fun _ _ ⟨h1, h2⟩ => (⟨h1.elim (fun h => h.2) (fun h => absurd hco h.1), h2⟩ : _ ∧ _))
    clear LC
    by_cases hdo : d.Ok
    · have LD' := fun w hT hb => Lib.hid ((LD w hT hb).out.mono fun _ _ ⟨h1, h2⟩ => (⟨h1.elim (fun h => h.2) (fun h => absurd hdo h.1), h2⟩ : _ ∧ _))
      clear LD
      have hcs := c.slab_le hco
      have HCS := Lib.hid hcs
      clear hcs
      clear hco hdo
      have HSS := Lib.hid hS
      have HAA := Lib.hid hA
      clear hS hA
      have r5 := Row.new (w.alloc (.cells #[.int .i64 c.docs, .int .i64 c.terms, .int .i64 (c.s 0), .int .i64 (c.s 1), .int .i64 (c.s 2), .int .i64 (c.s 3), .int .i64 c.book, .int .i64 c.room, .float .f64 c.K, .float .f64 c.B] 25)) 25 [.int .i64 c.docs, .int .i64 c.terms, .int .i64 (c.s 0 + 1), .int .i64 (c.s 1), .int .i64 (c.s 2), .int .i64 (c.s 3), .int .i64 c.book, .int .i64 c.room, .float .f64 c.K, .float .f64 c.B]
      rw [World.size_alloc] at r5
      have hB0 : Below w.heap.size w ((w.alloc (.cells #[.int .i64 c.docs, .int .i64 c.terms, .int .i64 (c.s 0), .int .i64 (c.s 1), .int .i64 (c.s 2), .int .i64 (c.s 3), .int .i64 c.book, .int .i64 c.room, .float .f64 c.K, .float .f64 c.B] 25)).alloc (.cells #[.int .i64 c.docs, .int .i64 c.terms, .int .i64 (c.s 0 + 1), .int .i64 (c.s 1), .int .i64 (c.s 2), .int .i64 (c.s 3), .int .i64 c.book, .int .i64 c.room, .float .f64 c.K, .float .f64 c.B] 25)) := al_ (al_ (Below.refl _ _) _) _
      go_enter Tryd.func5, Tryd.ntmps5
      go_wp2_with fail
      refine (LC' _ (hT.below hB0) (Below.refl _ _)).out.mono ?_
      rintro e w1 ⟨rfl, hb1⟩
      have s5 := r5.call hb1
      have hB1 := then_ hB0 hb1
      clear r5 hB0 hb1
      have k5 := s5.cells
      have z1 : w.heap.size + 1 < w1.heap.size := s5.lt
      have hB1' := al_ hB1 (.cells #[.int .i64 (c.at_ 0), .int .i64 (c.at_ 1), .int .i64 (c.at_ 2), .int .i64 (c.at_ 3), .int .i64 (c.at_ 4), .int .i64 (c.at_ 5), .int .i64 (c.S 0), .int .i64 (c.S 1), .int .i64 (c.S 2), .int .i64 (c.S 3), .int .i64 (c.S 4), .int .i64 (c.S 5), .int .i64 (c.at_ 6), .int .i64 (slotsOf c.terms), .int .i64 (1 + 4 * c.docs + slotsOf c.terms)] 28)
      go_wp2_with fail
      refine (LD' _ (hT.below hB1') (Below.refl _ _)).out.mono ?_
      rintro e w2 ⟨rfl, hb2⟩
      have s7 := (Row.new w1 28 [.int .i64 (c.at_ 0), .int .i64 (c.at_ 1), .int .i64 (c.at_ 2), .int .i64 (c.at_ 3), .int .i64 (c.at_ 4), .int .i64 (c.at_ 5), .int .i64 (c.S 0), .int .i64 (c.S 1), .int .i64 (c.S 2), .int .i64 (c.S 3), .int .i64 (c.S 4), .int .i64 (c.S 5), .int .i64 (c.at_ 6), .int .i64 (slotsOf c.terms), .int .i64 (1 + 4 * c.docs + slotsOf c.terms)]).call hb2
      have hB2 := then_ hB1' hb2
      have z2 : w1.heap.size < w2.heap.size := s7.lt
      clear s5 k5 hB1 hB1' hb2
      have t7 := s7.alloc (.cells #[.int .i64 (d.at_ 0), .int .i64 (d.at_ 1), .int .i64 (d.at_ 2), .int .i64 (d.at_ 3), .int .i64 (d.at_ 4), .int .i64 (d.at_ 5), .int .i64 (d.S 0), .int .i64 (d.S 1), .int .i64 (d.S 2), .int .i64 (d.S 3), .int .i64 (d.S 4), .int .i64 (d.S 5), .int .i64 (d.at_ 6), .int .i64 (slotsOf c.terms), .int .i64 (1 + 4 * c.docs + slotsOf c.terms)] 28)
      have t9 := Row.new w2 28 [.int .i64 (d.at_ 0), .int .i64 (d.at_ 1), .int .i64 (d.at_ 2), .int .i64 (d.at_ 3), .int .i64 (d.at_ 4), .int .i64 (d.at_ 5), .int .i64 (d.S 0), .int .i64 (d.S 1), .int .i64 (d.S 2), .int .i64 (d.S 3), .int .i64 (d.S 4), .int .i64 (d.S 5), .int .i64 (d.at_ 6), .int .i64 (slotsOf c.terms), .int .i64 (1 + 4 * c.docs + slotsOf c.terms)]
      have hB3 := al_ hB2 (.cells #[.int .i64 (d.at_ 0), .int .i64 (d.at_ 1), .int .i64 (d.at_ 2), .int .i64 (d.at_ 3), .int .i64 (d.at_ 4), .int .i64 (d.at_ 5), .int .i64 (d.S 0), .int .i64 (d.S 1), .int .i64 (d.S 2), .int .i64 (d.S 3), .int .i64 (d.S 4), .int .i64 (d.S 5), .int .i64 (d.at_ 6), .int .i64 (slotsOf c.terms), .int .i64 (1 + 4 * c.docs + slotsOf c.terms)] 28)
      clear s7 hB2
      go_wp2_with fail
      change Row (w2.alloc (.cells #[.int .i64 (d.at_ 0), .int .i64 (d.at_ 1), .int .i64 (d.at_ 2), .int .i64 (d.at_ 3), .int .i64 (d.at_ 4), .int .i64 (d.at_ 5), .int .i64 (d.S 0), .int .i64 (d.S 1), .int .i64 (d.S 2), .int .i64 (d.S 3), .int .i64 (d.S 4), .int .i64 (d.S 5), .int .i64 (d.at_ 6), .int .i64 (slotsOf c.terms), .int .i64 (1 + 4 * c.docs + slotsOf c.terms)] 28)) _ _ _ at t9
      generalize w2.alloc (.cells #[.int .i64 (d.at_ 0), .int .i64 (d.at_ 1), .int .i64 (d.at_ 2), .int .i64 (d.at_ 3), .int .i64 (d.at_ 4), .int .i64 (d.at_ 5), .int .i64 (d.S 0), .int .i64 (d.S 1), .int .i64 (d.S 2), .int .i64 (d.S 3), .int .i64 (d.S 4), .int .i64 (d.S 5), .int .i64 (d.at_ 6), .int .i64 (slotsOf c.terms), .int .i64 (1 + 4 * c.docs + slotsOf c.terms)] 28) = W0 at *
      have hT0 := hT.below hB3
      go_loopw [49] (fun j wr => ∃ n q : Nat, n ≤ 6 ∧ j = .int .i64 n ∧ wr = W0.drewN q) (fun j _ => 6 - (intOf j).toNat)
      case atStart => exact ⟨0, 0, by omega, rfl, rfl⟩
      case round =>
        obtain ⟨n, q, hn, rfl, rfl⟩ := hrel
        have hTq : SizesAt (W0.drewN q) := hT0
        by_cases hlt : n < 6
        · have hlt' : (n : Int) < 6 := by omega
          have hn0 : (0 : Int) ≤ (n : Int) := by omega
          have a7 : W0.cell? ⟨w1.heap.size, n, none⟩ = some (.int .i64 (c.at_ n)) := (t7.cell n).trans (planL_base c.at_ c.S _ _ _ n hlt)
          have b7 : W0.cell? ⟨w1.heap.size, 6 + n, none⟩ = some (.int .i64 (c.S n)) := (t7.cell (6 + n)).trans (planL_size c.at_ c.S _ _ _ n hlt)
          have a9 : W0.cell? ⟨w2.heap.size, n, none⟩ = some (.int .i64 (d.at_ n)) := (t9.cell n).trans (planL_base d.at_ d.S (d.at_ 6) (slotsOf c.terms) (1 + 4 * c.docs + slotsOf c.terms) n hlt)
          have b9 : W0.cell? ⟨w2.heap.size, 6 + n, none⟩ = some (.int .i64 (d.S n)) := (t9.cell (6 + n)).trans (planL_size d.at_ d.S (d.at_ 6) (slotsOf c.terms) (1 + 4 * c.docs + slotsOf c.terms) n hlt)
          rw [HAA.out n] at a9
          rw [HSS.out n] at b9
          have hbd := HCS.out n hlt
          rcases Nat.lt_trichotomy 0 n with h | h | h
          · rw [if_pos h] at a9
            rw [if_neg (by omega)] at b9
            have h1 : decide ((0 : Int) < (n : Int)) = true := by simp; omega
            have h2 : ((n : Int) == 0) = false := by simp; omega
            have ew1 : IntKind.i64.wrap (c.at_ n + 4) = c.at_ n + 4 := IntWalk.i64_in _ (by omega)
            have ew2 : IntKind.i64.wrap (c.S n) = c.S n := IntWalk.i64_in _ (by omega)
            simp only [sz, Int.add_zero] at a9 b9
            go_wp2_with (go_at_call 13; refine (slab_any _ _ hTq).mono ?_; simp only [szI_lit]; rintro e w' ⟨rfl, rfl⟩)
            go_quiet (fail)
            go_wp2
            go_roundw
            case rel => exact ⟨n + 1, _, by omega, by go_num, rfl⟩
            case measure => simp [intOf]; omega
          · subst h
            rw [if_neg (by omega)] at a9
            rw [if_pos rfl] at b9
            have ew1 : IntKind.i64.wrap (c.at_ 0) = c.at_ 0 := IntWalk.i64_in _ (by omega)
            have ew2 : IntKind.i64.wrap (c.S 0 + 4) = c.S 0 + 4 := IntWalk.i64_in _ (by omega)
            simp only [sz, Int.add_zero] at a9 b9
            go_wp2_with (go_at_call 13; refine (slab_any _ _ hTq).mono ?_; simp only [szI_lit]; rintro e w' ⟨rfl, rfl⟩)
            go_quiet (fail)
            go_wp2
            go_roundw
            case rel => exact ⟨0 + 1, _, by omega, by go_num, rfl⟩
            case measure => simp [intOf]
          · omega
        · obtain rfl : n = 6 := by omega
          have e6 : d.at_ 6 = c.at_ 6 + 4 := HAA.out 6
          have hq : c.at_ 6 ≤ 65536 ∧ 0 ≤ c.at_ 6 := by have h5 := HCS.out 5 (by omega); have : c.at_ 6 = c.at_ 5 + c.S 5 := rfl; omega
          have ew1 : IntKind.i64.wrap (c.at_ 6 + 4) = c.at_ 6 + 4 := IntWalk.i64_in _ (by omega)
          rw [e6] at t9
          have E6 := Lib.hid e6
          clear e6
          have u7 : Row (W0.drewN q) _ _ _ := t7
          have u9 : Row (W0.drewN q) _ _ _ := t9
          have hB4 : Below w.heap.size w (W0.drewN q) := below_drewN hB3 q
          generalize W0.drewN q = W1 at *
          have hSb : ∀ w', Below W1.heap.size W1 w' → (fun w' : World => w'.cell? ⟨w1.heap.size, 12, none⟩ = some (.int .i64 (c.at_ 6)) ∧ w'.cell? ⟨w1.heap.size, 13, none⟩ = some (.int .i64 (slotsOf c.terms)) ∧ w'.cell? ⟨w1.heap.size, 14, none⟩ = some (.int .i64 (1 + 4 * c.docs + slotsOf c.terms)) ∧ w'.cell? ⟨w2.heap.size, 12, none⟩ = some (.int .i64 (c.at_ 6 + 4)) ∧ w'.cell? ⟨w2.heap.size, 13, none⟩ = some (.int .i64 (slotsOf c.terms)) ∧ w'.cell? ⟨w2.heap.size, 14, none⟩ = some (.int .i64 (1 + 4 * c.docs + slotsOf c.terms))) w' := fun w' hb => ⟨(u7.call hb).cell 12, (u7.call hb).cell 13, (u7.call hb).cell 14, (u9.call hb).cell 12, (u9.call hb).cell 13, (u9.call hb).cell 14⟩
          have HSB := Lib.hid hSb
          have hbd : Below W1.heap.size W1 W1.drew := (Below.refl _ _).drew
          have hb0 : Below W1.heap.size W1 W1 := Below.refl _ _
          clear hSb u7 u9 t7 t9
          go_wp2_with fail
          first
            | (go_region_held3 (fun w' : World => w'.cell? ⟨w1.heap.size, 12, none⟩ = some (.int .i64 (c.at_ 6)) ∧ w'.cell? ⟨w1.heap.size, 13, none⟩ = some (.int .i64 (slotsOf c.terms)) ∧ w'.cell? ⟨w1.heap.size, 14, none⟩ = some (.int .i64 (1 + 4 * c.docs + slotsOf c.terms)) ∧ w'.cell? ⟨w2.heap.size, 12, none⟩ = some (.int .i64 (c.at_ 6 + 4)) ∧ w'.cell? ⟨w2.heap.size, 13, none⟩ = some (.int .i64 (slotsOf c.terms)) ∧ w'.cell? ⟨w2.heap.size, 14, none⟩ = some (.int .i64 (1 + 4 * c.docs + slotsOf c.terms))) (first | exact HSB.out _ (by assumption)) (first | (go_at_call 11; refine (fixed_go hTq (by assumption)).mono ?_; rintro e w5 ⟨rfl, hb5⟩) | (go_at_call 13; refine (slab_go (W := W1) _ hTq (by assumption)).mono ?_; simp only [szI_lit]; rintro e w6 ⟨rfl, hb6⟩)))
            | fail
          all_goals
            go_wp2
            go_ret
            exact ⟨rfl, hB4.trans (Below.mono (by assumption) hB4.size)⟩
    · have LD' := fun w hT hb => Lib.hid ((LD w hT hb).out.mono fun _ _ ⟨h1, h2⟩ => (⟨h1.elim (fun h => absurd h.1 hdo) (fun h => h.2), h2⟩ : _ ∧ _))
      clear LD
      clear hco hdo
      have HSS := Lib.hid hS
      have HAA := Lib.hid hA
      clear hS hA
      have r5 := Row.new (w.alloc (.cells #[.int .i64 c.docs, .int .i64 c.terms, .int .i64 (c.s 0), .int .i64 (c.s 1), .int .i64 (c.s 2), .int .i64 (c.s 3), .int .i64 c.book, .int .i64 c.room, .float .f64 c.K, .float .f64 c.B] 25)) 25 [.int .i64 c.docs, .int .i64 c.terms, .int .i64 (c.s 0 + 1), .int .i64 (c.s 1), .int .i64 (c.s 2), .int .i64 (c.s 3), .int .i64 c.book, .int .i64 c.room, .float .f64 c.K, .float .f64 c.B]
      rw [World.size_alloc] at r5
      have hB0 : Below w.heap.size w ((w.alloc (.cells #[.int .i64 c.docs, .int .i64 c.terms, .int .i64 (c.s 0), .int .i64 (c.s 1), .int .i64 (c.s 2), .int .i64 (c.s 3), .int .i64 c.book, .int .i64 c.room, .float .f64 c.K, .float .f64 c.B] 25)).alloc (.cells #[.int .i64 c.docs, .int .i64 c.terms, .int .i64 (c.s 0 + 1), .int .i64 (c.s 1), .int .i64 (c.s 2), .int .i64 (c.s 3), .int .i64 c.book, .int .i64 c.room, .float .f64 c.K, .float .f64 c.B] 25)) := al_ (al_ (Below.refl _ _) _) _
      go_enter Tryd.func5, Tryd.ntmps5
      go_wp2_with fail
      refine (LC' _ (hT.below hB0) (Below.refl _ _)).out.mono ?_
      rintro e w1 ⟨rfl, hb1⟩
      have s5 := r5.call hb1
      have hB1 := then_ hB0 hb1
      clear r5 hB0 hb1
      have k5 := s5.cells
      have z1 : w.heap.size + 1 < w1.heap.size := s5.lt
      have hB1' := al_ hB1 (.cells #[.int .i64 (c.at_ 0), .int .i64 (c.at_ 1), .int .i64 (c.at_ 2), .int .i64 (c.at_ 3), .int .i64 (c.at_ 4), .int .i64 (c.at_ 5), .int .i64 (c.S 0), .int .i64 (c.S 1), .int .i64 (c.S 2), .int .i64 (c.S 3), .int .i64 (c.S 4), .int .i64 (c.S 5), .int .i64 (c.at_ 6), .int .i64 (slotsOf c.terms), .int .i64 (1 + 4 * c.docs + slotsOf c.terms)] 28)
      go_wp2_with fail
      refine (LD' _ (hT.below hB1') (Below.refl _ _)).out.mono ?_
      rintro e w2 ⟨rfl, hb2⟩
      have s7 := (Row.new w1 28 [.int .i64 (c.at_ 0), .int .i64 (c.at_ 1), .int .i64 (c.at_ 2), .int .i64 (c.at_ 3), .int .i64 (c.at_ 4), .int .i64 (c.at_ 5), .int .i64 (c.S 0), .int .i64 (c.S 1), .int .i64 (c.S 2), .int .i64 (c.S 3), .int .i64 (c.S 4), .int .i64 (c.S 5), .int .i64 (c.at_ 6), .int .i64 (slotsOf c.terms), .int .i64 (1 + 4 * c.docs + slotsOf c.terms)]).call hb2
      have hB2 := then_ hB1' hb2
      have z2 : w1.heap.size < w2.heap.size := s7.lt
      clear s5 k5 hB1 hB1' hb2
      have HB : Hid (∀ x, Below w.heap.size w (w2.alloc x)) := Lib.hid fun x => al_ hB2 x
      clear s7
      go_wp2_with (go_at_call 11; refine (fixed_any _ (hT.below (HB.out _))).mono ?_; rintro e w9 ⟨rfl, hb9⟩)
      go_ret
      exact ⟨rfl, then_ (HB.out _) hb9⟩
  · have LC' := fun w hT hb => Lib.hid ((LC w hT hb).out.mono fun _ _ ⟨h1, h2⟩ => (⟨h1.elim (fun h => absurd h.1 hco) (fun h => h.2), h2⟩ : _ ∧ _))
    clear LC
    by_cases hdo : d.Ok
    · have LD' := fun w hT hb => Lib.hid ((LD w hT hb).out.mono fun _ _ ⟨h1, h2⟩ => (⟨h1.elim (fun h => h.2) (fun h => absurd hdo h.1), h2⟩ : _ ∧ _))
      clear LD
      clear hco hdo
      have HSS := Lib.hid hS
      have HAA := Lib.hid hA
      clear hS hA
      have r5 := Row.new (w.alloc (.cells #[.int .i64 c.docs, .int .i64 c.terms, .int .i64 (c.s 0), .int .i64 (c.s 1), .int .i64 (c.s 2), .int .i64 (c.s 3), .int .i64 c.book, .int .i64 c.room, .float .f64 c.K, .float .f64 c.B] 25)) 25 [.int .i64 c.docs, .int .i64 c.terms, .int .i64 (c.s 0 + 1), .int .i64 (c.s 1), .int .i64 (c.s 2), .int .i64 (c.s 3), .int .i64 c.book, .int .i64 c.room, .float .f64 c.K, .float .f64 c.B]
      rw [World.size_alloc] at r5
      have hB0 : Below w.heap.size w ((w.alloc (.cells #[.int .i64 c.docs, .int .i64 c.terms, .int .i64 (c.s 0), .int .i64 (c.s 1), .int .i64 (c.s 2), .int .i64 (c.s 3), .int .i64 c.book, .int .i64 c.room, .float .f64 c.K, .float .f64 c.B] 25)).alloc (.cells #[.int .i64 c.docs, .int .i64 c.terms, .int .i64 (c.s 0 + 1), .int .i64 (c.s 1), .int .i64 (c.s 2), .int .i64 (c.s 3), .int .i64 c.book, .int .i64 c.room, .float .f64 c.K, .float .f64 c.B] 25)) := al_ (al_ (Below.refl _ _) _) _
      go_enter Tryd.func5, Tryd.ntmps5
      go_wp2_with fail
      refine (LC' _ (hT.below hB0) (Below.refl _ _)).out.mono ?_
      rintro e w1 ⟨rfl, hb1⟩
      have s5 := r5.call hb1
      have hB1 := then_ hB0 hb1
      clear r5 hB0 hb1
      have k5 := s5.cells
      have z1 : w.heap.size + 1 < w1.heap.size := s5.lt
      have hB1' := al_ hB1 (.cells #[.int .i64 0, .int .i64 0, .int .i64 0, .int .i64 0, .int .i64 0, .int .i64 0, .int .i64 0, .int .i64 0, .int .i64 0, .int .i64 0, .int .i64 0, .int .i64 0, .int .i64 0, .int .i64 0, .int .i64 0] 28)
      go_wp2_with fail
      refine (LD' _ (hT.below hB1') (Below.refl _ _)).out.mono ?_
      rintro e w2 ⟨rfl, hb2⟩
      have s7 := (Row.new w1 28 [.int .i64 0, .int .i64 0, .int .i64 0, .int .i64 0, .int .i64 0, .int .i64 0, .int .i64 0, .int .i64 0, .int .i64 0, .int .i64 0, .int .i64 0, .int .i64 0, .int .i64 0, .int .i64 0, .int .i64 0]).call hb2
      have hB2 := then_ hB1' hb2
      have z2 : w1.heap.size < w2.heap.size := s7.lt
      clear s5 k5 hB1 hB1' hb2
      have HB : Hid (∀ x, Below w.heap.size w (w2.alloc x)) := Lib.hid fun x => al_ hB2 x
      clear s7
      go_wp2_with (go_at_call 11; refine (fixed_any _ (hT.below (HB.out _))).mono ?_; rintro e w9 ⟨rfl, hb9⟩)
      go_ret
      exact ⟨rfl, then_ (HB.out _) hb9⟩
    · have LD' := fun w hT hb => Lib.hid ((LD w hT hb).out.mono fun _ _ ⟨h1, h2⟩ => (⟨h1.elim (fun h => absurd h.1 hdo) (fun h => h.2), h2⟩ : _ ∧ _))
      clear LD
      clear hco hdo
      have HSS := Lib.hid hS
      have HAA := Lib.hid hA
      clear hS hA
      have r5 := Row.new (w.alloc (.cells #[.int .i64 c.docs, .int .i64 c.terms, .int .i64 (c.s 0), .int .i64 (c.s 1), .int .i64 (c.s 2), .int .i64 (c.s 3), .int .i64 c.book, .int .i64 c.room, .float .f64 c.K, .float .f64 c.B] 25)) 25 [.int .i64 c.docs, .int .i64 c.terms, .int .i64 (c.s 0 + 1), .int .i64 (c.s 1), .int .i64 (c.s 2), .int .i64 (c.s 3), .int .i64 c.book, .int .i64 c.room, .float .f64 c.K, .float .f64 c.B]
      rw [World.size_alloc] at r5
      have hB0 : Below w.heap.size w ((w.alloc (.cells #[.int .i64 c.docs, .int .i64 c.terms, .int .i64 (c.s 0), .int .i64 (c.s 1), .int .i64 (c.s 2), .int .i64 (c.s 3), .int .i64 c.book, .int .i64 c.room, .float .f64 c.K, .float .f64 c.B] 25)).alloc (.cells #[.int .i64 c.docs, .int .i64 c.terms, .int .i64 (c.s 0 + 1), .int .i64 (c.s 1), .int .i64 (c.s 2), .int .i64 (c.s 3), .int .i64 c.book, .int .i64 c.room, .float .f64 c.K, .float .f64 c.B] 25)) := al_ (al_ (Below.refl _ _) _) _
      go_enter Tryd.func5, Tryd.ntmps5
      go_wp2_with fail
      refine (LC' _ (hT.below hB0) (Below.refl _ _)).out.mono ?_
      rintro e w1 ⟨rfl, hb1⟩
      have s5 := r5.call hb1
      have hB1 := then_ hB0 hb1
      clear r5 hB0 hb1
      have k5 := s5.cells
      have z1 : w.heap.size + 1 < w1.heap.size := s5.lt
      have hB1' := al_ hB1 (.cells #[.int .i64 0, .int .i64 0, .int .i64 0, .int .i64 0, .int .i64 0, .int .i64 0, .int .i64 0, .int .i64 0, .int .i64 0, .int .i64 0, .int .i64 0, .int .i64 0, .int .i64 0, .int .i64 0, .int .i64 0] 28)
      go_wp2_with fail
      refine (LD' _ (hT.below hB1') (Below.refl _ _)).out.mono ?_
      rintro e w2 ⟨rfl, hb2⟩
      have s7 := (Row.new w1 28 [.int .i64 0, .int .i64 0, .int .i64 0, .int .i64 0, .int .i64 0, .int .i64 0, .int .i64 0, .int .i64 0, .int .i64 0, .int .i64 0, .int .i64 0, .int .i64 0, .int .i64 0, .int .i64 0, .int .i64 0]).call hb2
      have hB2 := then_ hB1' hb2
      have z2 : w1.heap.size < w2.heap.size := s7.lt
      clear s5 k5 hB1 hB1' hb2
      have HB : Hid (∀ x, Below w.heap.size w (w2.alloc x)) := Lib.hid fun x => al_ hB2 x
      clear s7
      go_wp2_with (go_at_call 11; refine (fixed_any _ (hT.below (HB.out _))).mono ?_; rintro e w9 ⟨rfl, hb9⟩)
      go_ret
      exact ⟨rfl, then_ (HB.out _) hb9⟩
end Go.Proofs.YtkoljljflpkgnaaDoor
