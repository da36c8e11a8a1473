/- The pool walks in the middle of a law; the chapter's example. -/
import Derived.Test.YtkoljljflpkgnaaDoorPoolLay
import Derived.Test.YtkoljljflpkgnaaDoorPoolRefLay
import Derived.Test.YtkoljljflpkgnaaDoorPoolTake
import Derived.Test.YtkoljljflpkgnaaDoorPoolFits
import Derived.Test.YtkoljljflpkgnaaDoorPoolClass
import Derived.Test.YtkoljljflpkgnaaDoorPoolRefA
import Derived.Test.YtkoljljflpkgnaaDoorLaid
import Derived.Laws.StructEq
import Derived.Stop.BytesEq
namespace Go.Proofs.YtkoljljflpkgnaaDoor
open Go.RowKit

theorem sizesAt_of {W : World} (h : laidMet Tryd.prog Rows.poolLaysRow.laid W) : SizesAt W := by
  have h1 := laid_head 4 (by kernel_rfl) (by kernel_rfl) (t := 22) (g := 0) (by kernel_rfl) h
  exact var_heap (g := 0) (by kernel_rfl) h1
def Cf.Wf (c : Cf) : Prop := ∀ j, j < 4 → (Lit.int .i64 (c.s j)).wf = true
theorem Cf.slab_le (c : Cf) (h : c.Ok) (k : Nat) (hk : k < 6) : 0 ≤ c.S k ∧ c.S k ≤ 65536 ∧ 3 ≤ c.at_ k ∧ c.at_ k + c.S k ≤ 65536 := by
  have hS : ∀ j, j < 6 → 0 ≤ c.S j := fun j hj => (c.S_bd h.head j (fun i hi h4 => h.slabs i h4 h4)).1
  have e1 : c.at_ 1 = c.at_ 0 + c.S 0 := rfl
  have e2 : c.at_ 2 = c.at_ 1 + c.S 1 := rfl
  have e3 : c.at_ 3 = c.at_ 2 + c.S 2 := rfl
  have e4 : c.at_ 4 = c.at_ 3 + c.S 3 := rfl
  have e5 : c.at_ 5 = c.at_ 4 + c.S 4 := rfl
  have e6 : c.at_ 6 = c.at_ 5 + c.S 5 := rfl
  have e0 : c.at_ 0 = 3 := rfl
  have s0 := hS 0 (by omega); have s1 := hS 1 (by omega); have s2 := hS 2 (by omega); have s3 := hS 3 (by omega); have s4 := hS 4 (by omega); have s5 := hS 5 (by omega)
  have := h.all
  rcases (show k = 0 ∨ k = 1 ∨ k = 2 ∨ k = 3 ∨ k = 4 ∨ k = 5 from by omega) with rfl | rfl | rfl | rfl | rfl | rfl <;> omega
theorem Cf.ss_bd (c : Cf) (h : c.Ok) : ∀ j, j < 6 → 0 ≤ c.S j ∧ c.S j ≤ 1000000 := fun j hj => by have := c.slab_le h j hj; omega
theorem Cf.bs_bd (c : Cf) (h : c.Ok) : ∀ j, j < 6 → 0 ≤ c.at_ j ∧ c.at_ j ≤ 1000000 := fun j hj => by have := c.slab_le h j hj; omega

theorem all_range_int : ∀ (xs ys : List Int), xs.length = ys.length → ((List.range xs.length).all fun i => xs.getD i 0 == ys.getD i 0) = (xs == ys)
  | [], [], _ => rfl
  | x :: xs, y :: ys, h => by
    have ih := all_range_int xs ys (by simpa using h)
    rw [List.length_cons, List.range_succ_eq_map, List.all_cons, List.all_map]
    simp only [List.getD_cons_zero, Function.comp_def, List.getD_cons_succ, ih]
    simp [List.cons_beq_cons]
  | [], _ :: _, h => by simp at h
  | _ :: _, [], h => by simp at h
theorem run_equalIn_ints {P : Program} (w : World) (d : Nat) (t e : TypeId) (n : Nat) (k : IntKind) (ht : P.underlying t = some (.array n e)) (he : P.underlying e = some (.int k)) (hsz : ∀ w, (sizeOf e).run P w = .ok 1 w)
    (xs ys : List Int) (hx : xs.length = n) (hy : ys.length = n) :
    (Op.equalIn (d + 2) t (.agg (xs.map (Value.int k)).toArray) (.agg (ys.map (Value.int k)).toArray)).run P w = .ok (xs == ys) w := by
  rw [← all_range_int xs ys (hx.trans hy.symm), hx, List.range_eq_range', Op.equalIn]
  simp only [Sem.run_bind, run_underlying ht, Result.andThen_ok, hsz, Std.Legacy.Range.forIn_eq_forIn_range', Std.Legacy.Range.size, Nat.sub_zero, Nat.add_sub_cancel, Nat.div_one]
  have hl : ∀ i ∈ List.range' 0 n 1, i < n := fun i hi => by simpa using (List.mem_range'_1.1 hi).2
  generalize List.range' 0 n 1 = l at hl ⊢
  induction l with
  | nil => simp
  | cons i l ih =>
    have hi : i < n := hl i (by simp)
    have px : (part e (xs.map (Value.int k)).toArray (i * 1)).run P w = .ok (Value.int k (xs.getD i 0)) w := by
      simp [part, isAgg, run_underlying he, List.getD, List.getElem?_eq_getElem (show i < xs.length by omega)]
    have py : (part e (ys.map (Value.int k)).toArray (i * 1)).run P w = .ok (Value.int k (ys.getD i 0)) w := by
      simp [part, isAgg, run_underlying he, List.getD, List.getElem?_eq_getElem (show i < ys.length by omega)]
    have pe : (Op.equalIn (d + 1) e (Value.int k (xs.getD i 0)) (Value.int k (ys.getD i 0))).run P w = .ok (xs.getD i 0 == ys.getD i 0) w := run_equalIn_int w d e k k _ _ he
    simp only [List.forIn_cons, Sem.run_bind, px, py, pe, Result.andThen_ok, List.all_cons]
    cases hb : (xs.getD i 0 == ys.getD i 0)
    · simp
    · simp only [Bool.not_true, Bool.false_eq_true, if_false, Sem.run_pure, Result.andThen_ok, Bool.true_and]
      exact ih fun j hj => hl j (by simp [hj])
theorem eq6 (a0 a1 a2 a3 a4 a5 : Int) (d : Nat) (w : World) : (Op.equalIn (d + 2) 26 (.agg #[.int .i64 a0, .int .i64 a1, .int .i64 a2, .int .i64 a3, .int .i64 a4, .int .i64 a5]) (.agg #[.int .i64 a0, .int .i64 a1, .int .i64 a2, .int .i64 a3, .int .i64 a4, .int .i64 a5])).run Tryd.prog w = .ok true w := by
  have := run_equalIn_ints w d 26 3 6 .i64 Tryd.underlying26 Tryd.underlying3 Tryd.sizeOf3 [a0, a1, a2, a3, a4, a5] [a0, a1, a2, a3, a4, a5] rfl rfl
  simpa using this
theorem eq6' (a0 a1 a2 a3 a4 a5 : Int) (w : World) : (Op.equalIn 10000 26 (.agg #[.int .i64 a0, .int .i64 a1, .int .i64 a2, .int .i64 a3, .int .i64 a4, .int .i64 a5]) (.agg #[.int .i64 a0, .int .i64 a1, .int .i64 a2, .int .i64 a3, .int .i64 a4, .int .i64 a5])).run Tryd.prog w = .ok true w := eq6 a0 a1 a2 a3 a4 a5 9998 w
theorem eq15 (a0 a1 a2 a3 a4 a5 a6 a7 a8 a9 a10 a11 a12 a13 a14 : Int) (w : World) : (Op.equalIn 10000 28 (.agg #[.int .i64 a0, .int .i64 a1, .int .i64 a2, .int .i64 a3, .int .i64 a4, .int .i64 a5, .int .i64 a6, .int .i64 a7, .int .i64 a8, .int .i64 a9, .int .i64 a10, .int .i64 a11, .int .i64 a12, .int .i64 a13, .int .i64 a14]) (.agg #[.int .i64 a0, .int .i64 a1, .int .i64 a2, .int .i64 a3, .int .i64 a4, .int .i64 a5, .int .i64 a6, .int .i64 a7, .int .i64 a8, .int .i64 a9, .int .i64 a10, .int .i64 a11, .int .i64 a12, .int .i64 a13, .int .i64 a14])).run Tryd.prog w = .ok true w := by
  have hS : Tryd.prog.underlying 28 = some (.struct (Tryd.prog.fieldsOf 28)) := by kernel_rfl
  have hp : Tryd.prog.stoodInHeld 28 = false := by kernel_rfl
  have z26 := Tryd.sizeOf26
  have h6 := fun a0 a1 a2 a3 a4 a5 w => eq6 a0 a1 a2 a3 a4 a5 9997 w
  rw [show (10000 : Nat) = 9999 + 1 from rfl, run_equalIn_agg w 9999 28 _ _ hS hp]
  simp only [Program.fieldsOf, Tryd.underlying28]
  go_simp
theorem guard6 : Tryd.prog.eqGuardType Tryd.prog.depth 26 = false := by kernel_rfl
theorem guard15 : Tryd.prog.eqGuardType Tryd.prog.depth 28 = false := by kernel_rfl

section
variable {W w : World}
theorem lay_any_go (c : Cf) (hT : SizesAt W) (hb : Below W.heap.size W w) :
    Calls Tryd.prog 9 #[c.val] w fun e w' => ((c.Ok ∧ e = .returned (.tuple #[c.plan, .int .i64 0])) ∨ (¬ c.Ok ∧ e = .returned (.tuple #[.agg zeros15.toArray, .int .i64 1]))) ∧ Below W.heap.size W w' := by
  cases hh : c.headB
  · refine (lay_head_no c w hh).mono ?_
    rintro e w' ⟨rfl, h2⟩
    refine ⟨.inr ⟨fun ho => ?_, rfl⟩, hb.trans (h2.mono hb.size)⟩
    rw [c.headB_iff.2 ho.head] at hh
    cases hh
  · exact (lay_yes c w hh (hT.below hb)).mono fun _ _ ⟨h1, h2⟩ => ⟨h1, hb.trans (h2.mono hb.size)⟩
theorem lay_ok_go (c : Cf) (h : c.Ok) (hT : SizesAt W) (hb : Below W.heap.size W w) :
    Calls Tryd.prog 9 #[c.val] w fun e w' => e = .returned (.tuple #[c.plan, .int .i64 0]) ∧ Below W.heap.size W w' :=
  (lay_any_go c hT hb).mono fun _ _ ⟨h1, h2⟩ => ⟨h1.elim (·.2) fun h' => absurd h h'.1, h2⟩
theorem lay_no_go (c : Cf) (h : ¬ c.Ok) (hT : SizesAt W) (hb : Below W.heap.size W w) :
    Calls Tryd.prog 9 #[c.val] w fun e w' => e = .returned (.tuple #[.agg zeros15.toArray, .int .i64 1]) ∧ Below W.heap.size W w' :=
  (lay_any_go c hT hb).mono fun _ _ ⟨h1, h2⟩ => ⟨h1.elim (fun h' => absurd h'.1 h) (·.2), h2⟩
theorem refLay_ok_go (c : Cf) (h : c.Ok) (hb : Below W.heap.size W w) :
    Calls Tryd.prog 10 #[c.val] w fun e w' => e = .returned (.tuple #[c.plan, .int .i64 0]) ∧ Below W.heap.size W w' :=
  (refLay_ok c w h).mono fun _ _ ⟨h1, h2⟩ => ⟨h1, hb.trans (h2.mono hb.size)⟩
theorem refLay_no_go (c : Cf) (h : ¬ c.Ok) (hb : Below W.heap.size W w) :
    Calls Tryd.prog 10 #[c.val] w fun e w' => e = .returned (.tuple #[.agg zeros15.toArray, .int .i64 1]) ∧ Below W.heap.size W w' :=
  (refLay_no c w h).mono fun _ _ ⟨h1, h2⟩ => ⟨h1, hb.trans (h2.mono hb.size)⟩
theorem take_go (c : Cf) (h : c.Ok) (u : Nat → Int) (k n : Int) (hb : Below W.heap.size W w) :
    Calls Tryd.prog 12 #[c.plan, sixV u, .int .i64 k, .int .i64 n] w fun e w' => e = .returned (takeV c.at_ c.S u k n) ∧ Below W.heap.size W w' :=
  (take_any c.at_ c.S u _ _ _ k n w (c.ss_bd h) (c.bs_bd h)).mono fun _ _ ⟨h1, h2⟩ => ⟨h1, hb.trans (h2.mono hb.size)⟩
theorem refTake_go (c : Cf) (h : c.Ok) (u : Nat → Int) (k n : Int) (hb : Below W.heap.size W w) :
    Calls Tryd.prog 14 #[c.plan, sixV u, .int .i64 k, .int .i64 n] w fun e w' => e = .returned (takeV c.at_ c.S u k n) ∧ Below W.heap.size W w' :=
  (refTake_any c.at_ c.S u _ _ _ k n w (c.ss_bd h) (c.bs_bd h)).mono fun _ _ ⟨h1, h2⟩ => ⟨h1, hb.trans (h2.mono hb.size)⟩
theorem fits_go (c : Cf) (h : c.Ok) (u m : Nat → Int) (hb : Below W.heap.size W w) :
    Calls Tryd.prog 15 #[c.plan, sixV u, sixV m] w fun e w' => e = .returned (.bool (fitsB c.S u m)) ∧ Below W.heap.size W w' :=
  (fits_any c.at_ c.S u m _ _ _ w (c.ss_bd h)).mono fun _ _ ⟨h1, h2⟩ => ⟨h1, hb.trans (h2.mono hb.size)⟩
theorem refFits_go (c : Cf) (h : c.Ok) (u m : Nat → Int) (hb : Below W.heap.size W w) :
    Calls Tryd.prog 16 #[c.plan, sixV u, sixV m] w fun e w' => e = .returned (.bool (fitsB c.S u m)) ∧ Below W.heap.size W w' :=
  (refFits_any c.at_ c.S u m _ _ _ w (c.ss_bd h)).mono fun _ _ ⟨h1, h2⟩ => ⟨h1, hb.trans (h2.mono hb.size)⟩
theorem class_go (c : Cf) (h : c.Ok) (a : Int) (ha : a ≤ 9223372036854775807) (hT : SizesAt W) (hb : Below W.heap.size W w) :
    Calls Tryd.prog 17 #[c.plan, .int .i64 a] w fun e w' => e = .returned (clV (classV c.at_ c.S a)) ∧ Below W.heap.size W w' :=
  (class_any c.at_ c.S _ _ _ a w (hT.below hb) (c.bs_bd h) (c.ss_bd h) ha).mono fun _ _ ⟨h1, h2⟩ => ⟨h1, hb.trans (h2.mono hb.size)⟩
theorem refClass_go (c : Cf) (h : c.Ok) (a : Int) (ha : -9223372036854775808 ≤ a ∧ a ≤ 9223372036854775807) (hb : Below W.heap.size W w) :
    Calls Tryd.prog 18 #[c.plan, .int .i64 a] w fun e w' => e = .returned (clV (classV c.at_ c.S a)) ∧ Below W.heap.size W w' :=
  (refClass_any c.at_ c.S c.s _ _ _ a w (c.bs_bd h) (c.ss_bd h) (fun j hj => by
    have := h.slabs j hj hj
    exact ⟨by simp [Cf.S, hj], by omega, by omega⟩) ha).mono fun _ _ ⟨h1, h2⟩ => ⟨h1, hb.trans (h2.mono hb.size)⟩
theorem slab_go (k : Int) (hT : SizesAt W) (hb : Below W.heap.size W w) : Calls Tryd.prog 13 #[.int .i64 k] w fun e w' => e = .returned (.int .i64 (szI k)) ∧ Below W.heap.size W w' :=
  (slab_any k w (hT.below hb)).mono fun _ _ ⟨h1, h2⟩ => ⟨h1, h2 ▸ hb⟩
theorem refSlab_go (k : Int) (hb : Below W.heap.size W w) : Calls Tryd.prog 19 #[.int .i64 k] w fun e w' => e = .returned (.int .i64 (szI k)) ∧ Below W.heap.size W w' :=
  (refSlab_any k w).mono fun _ _ ⟨h1, h2⟩ => ⟨h1, h2 ▸ hb⟩

/-- The chapter's configuration. -/
def exC : Cf := ⟨1, 64, fun _ => 1, 10, 300, 0, 0⟩
theorem exC_ok : exC.Ok := ⟨⟨by decide, by decide, by decide, by decide, by decide, by decide, by decide, by decide⟩, fun _ _ _ => ⟨by show (0 : Int) ≤ 1; omega, by show (1 : Int) ≤ 512; omega⟩, by decide⟩
theorem exC_plan : exC.plan = .agg #[.int .i64 3, .int .i64 7, .int .i64 23, .int .i64 87, .int .i64 343, .int .i64 353, .int .i64 4, .int .i64 16, .int .i64 64, .int .i64 256, .int .i64 10, .int .i64 300, .int .i64 653, .int .i64 128, .int .i64 133] := rfl
theorem exC_take1 (hb : Below W.heap.size W w) : Calls Tryd.prog 12 #[.agg #[.int .i64 3, .int .i64 7, .int .i64 23, .int .i64 87, .int .i64 343, .int .i64 353, .int .i64 4, .int .i64 16, .int .i64 64, .int .i64 256, .int .i64 10, .int .i64 300, .int .i64 653, .int .i64 128, .int .i64 133], .agg #[.int .i64 0, .int .i64 0, .int .i64 0, .int .i64 0, .int .i64 0, .int .i64 0], .int .i64 1, .int .i64 16] w fun e w' => e = .returned (.tuple #[.int .i64 7, .agg #[.int .i64 0, .int .i64 16, .int .i64 0, .int .i64 0, .int .i64 0, .int .i64 0], .int .i64 0]) ∧ Below W.heap.size W w' :=
  (take_go exC exC_ok (fun _ => 0) 1 16 hb).mono fun _ _ ⟨h1, h2⟩ => ⟨h1, h2⟩
theorem exC_take2 (hb : Below W.heap.size W w) : Calls Tryd.prog 12 #[.agg #[.int .i64 3, .int .i64 7, .int .i64 23, .int .i64 87, .int .i64 343, .int .i64 353, .int .i64 4, .int .i64 16, .int .i64 64, .int .i64 256, .int .i64 10, .int .i64 300, .int .i64 653, .int .i64 128, .int .i64 133], .agg #[.int .i64 0, .int .i64 16, .int .i64 0, .int .i64 0, .int .i64 0, .int .i64 0], .int .i64 1, .int .i64 16] w fun e w' => e = .returned (.tuple #[.int .i64 0, .agg #[.int .i64 0, .int .i64 0, .int .i64 0, .int .i64 0, .int .i64 0, .int .i64 0], .int .i64 3]) ∧ Below W.heap.size W w' :=
  (take_go exC exC_ok (fun j => if j = 1 then 16 else 0) 1 16 hb).mono fun _ _ ⟨h1, h2⟩ => ⟨h1, h2⟩
theorem Cf.plan_lit (c : Cf) : c.plan = .agg #[.int .i64 (c.at_ 0), .int .i64 (c.at_ 1), .int .i64 (c.at_ 2), .int .i64 (c.at_ 3), .int .i64 (c.at_ 4), .int .i64 (c.at_ 5), .int .i64 (c.S 0), .int .i64 (c.S 1), .int .i64 (c.S 2), .int .i64 (c.S 3), .int .i64 (c.S 4), .int .i64 (c.S 5), .int .i64 (c.at_ 6), .int .i64 (slotsOf c.terms), .int .i64 (1 + 4 * c.docs + slotsOf c.terms)] := rfl
end

set_option maxRecDepth 100000 in
set_option maxHeartbeats 1000000 in
theorem fixed_any (w : World) (hT : SizesAt w) : Calls Tryd.prog 11 #[] w fun e w' => e = .returned (.bool true) ∧ Below w.heap.size w w' := by
  have q6 := eq6'
  have g6 := guard6
  go_enter Tryd.func11, Tryd.ntmps11
  go_wp2_with fail
  refine (lay_ok_go (W := w) exC exC_ok hT (Below.refl _ _)).mono ?_
  rintro e w1 ⟨rfl, hb1⟩
  rw [exC_plan]
  go_wp2_with fail
  refine (exC_take1 (Below.refl _ _)).mono ?_
  rintro e w2 ⟨rfl, hb2⟩
  obtain ⟨c2, f2⟩ := bcell hb2
  have z2 : w1.heap.size < w2.heap.size := by have := hb2.size; simp at this; omega
  go_wp2_with fail
  refine (exC_take2 (Below.refl _ _)).mono ?_
  rintro e w3 ⟨rfl, hb3⟩
  obtain ⟨c3, f3⟩ := bcell hb3
  have z3 : w2.heap.size < w3.heap.size := by have := hb3.size; simp at this; omega
  go_wp2
  go_ret
  exact ⟨rfl, al_ (then_ (al_ (then_ (al_ hb1 _) hb2) _) hb3) _⟩
end Go.Proofs.YtkoljljflpkgnaaDoor
