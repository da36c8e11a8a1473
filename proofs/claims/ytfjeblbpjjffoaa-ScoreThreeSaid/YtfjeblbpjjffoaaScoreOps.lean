/- The walks of score.Rare, score.Worth, ref19.Rare, ref19.Worth: printed by wip/bin/gen_score.py. -/
import Derived.Test.YtfjeblbpjjffoaaScore
namespace Go.Proofs.Ytfjeblbpjjffoaa
open Go.RowKit

def RareR (n m : Int) (r : Nat) : Prop := ∃ a b c, FRes .sub (floatOfInt .f64 n) (floatOfInt .f64 m) a ∧ FRes .add a 4602678819172646912 b ∧ FRes .add (floatOfInt .f64 m) 4602678819172646912 c ∧ FRes .quo b c r
def WorthR (k b : Nat) (t l : Int) (v : Nat) (r : Nat) : Prop := ∃ a c d e f g h i, FRes .quo (floatOfInt .f64 l) v a ∧ FRes .mul b a c ∧ FRes .sub 4607182418800017408 b d ∧ FRes .add d c e ∧ FRes .mul k e f ∧ FRes .add (floatOfInt .f64 t) f g ∧ FRes .add k 4607182418800017408 h ∧ FRes .mul (floatOfInt .f64 t) h i ∧ FRes .quo i g r
theorem RareR.sim {n m : Int} {r r' : Nat} (h : RareR n m r) (h' : RareR n m r') : fsim r r' := by
  obtain ⟨a, b, c, h1, h2, h3, h4⟩ := h
  obtain ⟨a', b', c', h1', h2', h3', h4'⟩ := h'
  exact h4.sim h4' (h2.sim h2' (h1.sim h1' (.refl _) (.refl _)) (.refl _)) (h3.sim h3' (.refl _) (.refl _))
theorem WorthR.sim {k b : Nat} {t l : Int} {v r r' : Nat} (h : WorthR k b t l v r) (h' : WorthR k b t l v r') : fsim r r' := by
  obtain ⟨a, c, d, e, f, g, hh, i, h1, h2, h3, h4, h5, h6, h7, h8, h9⟩ := h
  obtain ⟨a', c', d', e', f', g', hh', i', h1', h2', h3', h4', h5', h6', h7', h8', h9'⟩ := h'
  have sa := h1.sim h1' (.refl _) (.refl _)
  have sc := h2.sim h2' (.refl _) sa
  have sd := h3.sim h3' (.refl _) (.refl _)
  have se := h4.sim h4' sd sc
  have sf := h5.sim h5' (.refl _) se
  have sg := h6.sim h6' (.refl _) sf
  have sh := h7.sim h7' (.refl _) (.refl _)
  have si := h8.sim h8' (.refl _) sh
  exact h9.sim h9' si sg

set_option maxHeartbeats 400000 in
theorem rare_any (n m : Int) (w : World) : Calls Try.prog 10 #[.int .i64 n, .int .i64 m] w fun e w' => ∃ r, e = .returned (.float .f64 r) ∧ Hid (RareR n m r) ∧ ∃ q, w' = w.drewN q := by
  obtain ⟨a, w1, r1, h1, q1, hq1⟩ := run_fop (P := Try.prog) w .sub (by simp) 25 (floatOfInt .f64 n) (floatOfInt .f64 m)
  have H1 := Lib.hid h1
  have HQ1 := Lib.hid hq1
  clear h1 hq1
  obtain ⟨b, w2, r2, h2, q2, hq2⟩ := run_fop (P := Try.prog) w1 .add (by simp) 25 a 4602678819172646912
  have H2 := Lib.hid h2
  have HQ2 := Lib.hid hq2
  clear h2 hq2
  obtain ⟨c, w3, r3, h3, q3, hq3⟩ := run_fop (P := Try.prog) w2 .add (by simp) 25 (floatOfInt .f64 m) 4602678819172646912
  have H3 := Lib.hid h3
  have HQ3 := Lib.hid hq3
  clear h3 hq3
  obtain ⟨r, w4, r4, h4, q4, hq4⟩ := run_fop (P := Try.prog) w3 .quo (by simp) 25 b c
  have H4 := Lib.hid h4
  have HQ4 := Lib.hid hq4
  clear h4 hq4
  go_enter Try.func10, Try.ntmps10
  go_wp2
  go_ret
  refine ⟨r, rfl, Lib.hid ⟨a, b, c, H1.out, H2.out, H3.out, H4.out⟩, ?_⟩
  rw [HQ4.out, HQ3.out, HQ2.out, HQ1.out]
  simp only [World.drewN_drewN]
  exact ⟨_, rfl⟩
set_option maxHeartbeats 400000 in
theorem refRare_any (n m : Int) (w : World) : Calls Try.prog 12 #[.int .i64 n, .int .i64 m] w fun e w' => ∃ r, e = .returned (.float .f64 r) ∧ Hid (RareR n m r) ∧ ∃ q, w' = w.drewN q := by
  obtain ⟨a, w1, r1, h1, q1, hq1⟩ := run_fop (P := Try.prog) w .sub (by simp) 25 (floatOfInt .f64 n) (floatOfInt .f64 m)
  have H1 := Lib.hid h1
  have HQ1 := Lib.hid hq1
  clear h1 hq1
  obtain ⟨b, w2, r2, h2, q2, hq2⟩ := run_fop (P := Try.prog) w1 .add (by simp) 25 a 4602678819172646912
  have H2 := Lib.hid h2
  have HQ2 := Lib.hid hq2
  clear h2 hq2
  obtain ⟨c, w3, r3, h3, q3, hq3⟩ := run_fop (P := Try.prog) w2 .add (by simp) 25 (floatOfInt .f64 m) 4602678819172646912
  have H3 := Lib.hid h3
  have HQ3 := Lib.hid hq3
  clear h3 hq3
  obtain ⟨r, w4, r4, h4, q4, hq4⟩ := run_fop (P := Try.prog) w3 .quo (by simp) 25 b c
  have H4 := Lib.hid h4
  have HQ4 := Lib.hid hq4
  clear h4 hq4
  go_enter Try.func12, Try.ntmps12
  go_wp2
  go_ret
  refine ⟨r, rfl, Lib.hid ⟨a, b, c, H1.out, H2.out, H3.out, H4.out⟩, ?_⟩
  rw [HQ4.out, HQ3.out, HQ2.out, HQ1.out]
  simp only [World.drewN_drewN]
  exact ⟨_, rfl⟩
set_option maxHeartbeats 400000 in
theorem worth_any (k b : Nat) (t l : Int) (v : Nat) (w : World) : Calls Try.prog 13 #[.float .f64 k, .float .f64 b, .int .i64 t, .int .i64 l, .float .f64 v] w fun e w' => ∃ r, e = .returned (.float .f64 r) ∧ Hid (WorthR k b t l v r) ∧ ∃ q, w' = w.drewN q := by
  obtain ⟨a, w1, r1, h1, q1, hq1⟩ := run_fop (P := Try.prog) w .quo (by simp) 25 (floatOfInt .f64 l) v
  have H1 := Lib.hid h1
  have HQ1 := Lib.hid hq1
  clear h1 hq1
  obtain ⟨c, w2, r2, h2, q2, hq2⟩ := run_fop (P := Try.prog) w1 .mul (by simp) 25 b a
  have H2 := Lib.hid h2
  have HQ2 := Lib.hid hq2
  clear h2 hq2
  obtain ⟨d, w3, r3, h3, q3, hq3⟩ := run_fop (P := Try.prog) w2 .sub (by simp) 25 4607182418800017408 b
  have H3 := Lib.hid h3
  have HQ3 := Lib.hid hq3
  clear h3 hq3
  obtain ⟨e, w4, r4, h4, q4, hq4⟩ := run_fop (P := Try.prog) w3 .add (by simp) 25 d c
  have H4 := Lib.hid h4
  have HQ4 := Lib.hid hq4
  clear h4 hq4
  obtain ⟨f, w5, r5, h5, q5, hq5⟩ := run_fop (P := Try.prog) w4 .mul (by simp) 25 k e
  have H5 := Lib.hid h5
  have HQ5 := Lib.hid hq5
  clear h5 hq5
  obtain ⟨h, w6, r6, h6, q6, hq6⟩ := run_fop (P := Try.prog) w5 .add (by simp) 25 k 4607182418800017408
  have H6 := Lib.hid h6
  have HQ6 := Lib.hid hq6
  clear h6 hq6
  obtain ⟨i, w7, r7, h7, q7, hq7⟩ := run_fop (P := Try.prog) w6 .mul (by simp) 25 (floatOfInt .f64 t) h
  have H7 := Lib.hid h7
  have HQ7 := Lib.hid hq7
  clear h7 hq7
  obtain ⟨g, w8, r8, h8, q8, hq8⟩ := run_fop (P := Try.prog) w7 .add (by simp) 25 (floatOfInt .f64 t) f
  have H8 := Lib.hid h8
  have HQ8 := Lib.hid hq8
  clear h8 hq8
  obtain ⟨r, w9, r9, h9, q9, hq9⟩ := run_fop (P := Try.prog) w8 .quo (by simp) 25 i g
  have H9 := Lib.hid h9
  have HQ9 := Lib.hid hq9
  clear h9 hq9
  go_enter Try.func13, Try.ntmps13
  go_wp2
  go_ret
  refine ⟨r, rfl, Lib.hid ⟨a, c, d, e, f, g, h, i, H1.out, H2.out, H3.out, H4.out, H5.out, H8.out, H6.out, H7.out, H9.out⟩, ?_⟩
  rw [HQ9.out, HQ8.out, HQ7.out, HQ6.out, HQ5.out, HQ4.out, HQ3.out, HQ2.out, HQ1.out]
  simp only [World.drewN_drewN]
  exact ⟨_, rfl⟩
set_option maxHeartbeats 400000 in
theorem refWorth_any (k b : Nat) (t l : Int) (v : Nat) (w : World) : Calls Try.prog 14 #[.float .f64 k, .float .f64 b, .int .i64 t, .int .i64 l, .float .f64 v] w fun e w' => ∃ r, e = .returned (.float .f64 r) ∧ Hid (WorthR k b t l v r) ∧ ∃ q, w' = w.drewN q := by
  obtain ⟨a, w1, r1, h1, q1, hq1⟩ := run_fop (P := Try.prog) w .quo (by simp) 25 (floatOfInt .f64 l) v
  have H1 := Lib.hid h1
  have HQ1 := Lib.hid hq1
  clear h1 hq1
  obtain ⟨c, w2, r2, h2, q2, hq2⟩ := run_fop (P := Try.prog) w1 .mul (by simp) 25 b a
  have H2 := Lib.hid h2
  have HQ2 := Lib.hid hq2
  clear h2 hq2
  obtain ⟨d, w3, r3, h3, q3, hq3⟩ := run_fop (P := Try.prog) w2 .sub (by simp) 25 4607182418800017408 b
  have H3 := Lib.hid h3
  have HQ3 := Lib.hid hq3
  clear h3 hq3
  obtain ⟨e, w4, r4, h4, q4, hq4⟩ := run_fop (P := Try.prog) w3 .add (by simp) 25 d c
  have H4 := Lib.hid h4
  have HQ4 := Lib.hid hq4
  clear h4 hq4
  obtain ⟨f, w5, r5, h5, q5, hq5⟩ := run_fop (P := Try.prog) w4 .mul (by simp) 25 k e
  have H5 := Lib.hid h5
  have HQ5 := Lib.hid hq5
  clear h5 hq5
  obtain ⟨g, w6, r6, h6, q6, hq6⟩ := run_fop (P := Try.prog) w5 .add (by simp) 25 (floatOfInt .f64 t) f
  have H6 := Lib.hid h6
  have HQ6 := Lib.hid hq6
  clear h6 hq6
  obtain ⟨h, w7, r7, h7, q7, hq7⟩ := run_fop (P := Try.prog) w6 .add (by simp) 25 k 4607182418800017408
  have H7 := Lib.hid h7
  have HQ7 := Lib.hid hq7
  clear h7 hq7
  obtain ⟨i, w8, r8, h8, q8, hq8⟩ := run_fop (P := Try.prog) w7 .mul (by simp) 25 (floatOfInt .f64 t) h
  have H8 := Lib.hid h8
  have HQ8 := Lib.hid hq8
  clear h8 hq8
  obtain ⟨r, w9, r9, h9, q9, hq9⟩ := run_fop (P := Try.prog) w8 .quo (by simp) 25 i g
  have H9 := Lib.hid h9
  have HQ9 := Lib.hid hq9
  clear h9 hq9
  go_enter Try.func14, Try.ntmps14
  go_wp2
  go_ret
  refine ⟨r, rfl, Lib.hid ⟨a, c, d, e, f, g, h, i, H1.out, H2.out, H3.out, H4.out, H5.out, H6.out, H7.out, H8.out, H9.out⟩, ?_⟩
  rw [HQ9.out, HQ8.out, HQ7.out, HQ6.out, HQ5.out, HQ4.out, HQ3.out, HQ2.out, HQ1.out]
  simp only [World.drewN_drewN]
  exact ⟨_, rfl⟩
end Go.Proofs.Ytfjeblbpjjffoaa
