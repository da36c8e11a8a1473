/- The walk of ref02.Lay: printed by wip/bin/gen_reflay.py. -/
import Derived.Test.YtkoljljflpkgnaaDoorPoolSizes
import Derived.Test.YtkoljljflpkgnaaDoorRowOps
namespace Go.Proofs.YtkoljljflpkgnaaDoor
open Go.RowKit

def plB (c : Cf) (k : Nat) : Array Value := PC (planL (cutF c.at_ k) c.S 0 128 0)
theorem plB_0 (c : Cf) : plB c 0 = #[.int .i64 0, .int .i64 0, .int .i64 0, .int .i64 0, .int .i64 0, .int .i64 0, .int .i64 (c.S 0), .int .i64 (c.S 1), .int .i64 (c.S 2), .int .i64 (c.S 3), .int .i64 (c.S 4), .int .i64 (c.S 5), .int .i64 0, .int .i64 128, .int .i64 0] := by simp [plB, planL, cutF, PC, ints]
theorem plB_6 (c : Cf) : plB c 6 = #[.int .i64 (c.at_ 0), .int .i64 (c.at_ 1), .int .i64 (c.at_ 2), .int .i64 (c.at_ 3), .int .i64 (c.at_ 4), .int .i64 (c.at_ 5), .int .i64 (c.S 0), .int .i64 (c.S 1), .int .i64 (c.S 2), .int .i64 (c.S 3), .int .i64 (c.S 4), .int .i64 (c.S 5), .int .i64 0, .int .i64 128, .int .i64 0] := by simp [plB, planL, cutF, PC, ints]
theorem plB_at (c : Cf) (k : Nat) (hk : k < 6) : ∃ u, (plB c k)[k]? = some u := ⟨_, PC_get _ _ _ (planL_get1 _ _ _ _ _ k hk)⟩
theorem plB_step (c : Cf) (k : Nat) (hk : k < 6) : (plB c k).setIfInBounds k (.int .i64 (c.at_ k)) = plB c (k + 1) := by
  unfold plB
  rw [PC_set]
  rcases (show k = 0 ∨ k = 1 ∨ k = 2 ∨ k = 3 ∨ k = 4 ∨ k = 5 from by omega) with rfl | rfl | rfl | rfl | rfl | rfl <;> simp [planL, cutF]
theorem sizes_no (c : Cf) (w : World) (h : ¬ c.Ok) : Calls Tryd.prog 21 #[c.val] w (SomeNo w) := by
  cases hh : c.headB
  · exact sizes_head_no c w hh
  · refine (sizes_yes c w hh).mono ?_
    rintro e w' ⟨⟨h1, _⟩ | ⟨_, a, b, d, f, g, i, rfl⟩, hb⟩
    · exact absurd h1 h
    · exact ⟨a, b, d, f, g, i, rfl, hb⟩
theorem sizes_ok (c : Cf) (w : World) (h : c.Ok) : Calls Tryd.prog 21 #[c.val] w fun e w' => e = .returned (.tuple #[.agg #[.int .i64 (c.S 0), .int .i64 (c.S 1), .int .i64 (c.S 2), .int .i64 (c.S 3), .int .i64 (c.S 4), .int .i64 (c.S 5)], .bool true]) ∧ Below w.heap.size w w' := by
  refine (sizes_yes c w (c.headB_iff.2 h.head)).mono ?_
  rintro e w' ⟨⟨_, rfl⟩ | ⟨h1, _⟩, hb⟩
  · exact ⟨rfl, hb⟩
  · exact absurd h h1
theorem bcell {W w1 : World} (hb : Below W.heap.size W w1) : (∀ b o, b < W.heap.size → w1.cell? ⟨b, o, none⟩ = W.cell? ⟨b, o, none⟩) ∧ (∀ b o, b < W.heap.size → w1.frozen? ⟨b, o, none⟩ = W.frozen? ⟨b, o, none⟩) :=
  ⟨fun b o h => hb.cell (p := ⟨b, o, none⟩) h, fun b o h => hb.frozen (p := ⟨b, o, none⟩) h⟩
def z15 : List Value := [.int .i64 0, .int .i64 0, .int .i64 0, .int .i64 0, .int .i64 0, .int .i64 0, .int .i64 0, .int .i64 0, .int .i64 0, .int .i64 0, .int .i64 0, .int .i64 0, .int .i64 0, .int .i64 0, .int .i64 0]
def planV (c : Cf) (s l : Int) : List Value := [.int .i64 (c.at_ 0), .int .i64 (c.at_ 1), .int .i64 (c.at_ 2), .int .i64 (c.at_ 3), .int .i64 (c.at_ 4), .int .i64 (c.at_ 5), .int .i64 (c.S 0), .int .i64 (c.S 1), .int .i64 (c.S 2), .int .i64 (c.S 3), .int .i64 (c.S 4), .int .i64 (c.S 5), .int .i64 (c.at_ 6), .int .i64 s, .int .i64 l]
theorem results_plan (a : Act) (w : World) (g : Nat) (xs : List Value) (f : Int) (hx : xs.length = 15) (h : Row w g 28 xs) (h2 : a.tmps.getD 2 undef = .pointer (some ⟨g, 0, none⟩)) (h3 : a.tmps.getD 3 undef = .int .i64 f) :
    (results Tryd.f10 a.tmps).run Tryd.prog w = .ok (.tuple #[.agg xs.toArray, .int .i64 f]) w := by
  have h2' : a.tmps[2]?.getD undef = .pointer (some ⟨g, 0, none⟩) := by simpa using h2
  have h3' : a.tmps[3]?.getD undef = .int .i64 f := by simpa using h3
  simp [results, Tryd.results10, h2', h3', asAddr, run_loadVar_row w g 28 28 xs.toArray (0, 0) _ h Tryd.underlying28 rfl (by rw [List.size_toArray, hx]; kernel_rfl)]

set_option maxRecDepth 100000 in
set_option maxHeartbeats 1000000 in
theorem refLay_no (c : Cf) (w : World) (h : ¬ c.Ok) : Calls Tryd.prog 10 #[c.val] w fun e w' => e = .returned (.tuple #[.agg zeros15.toArray, .int .i64 1]) ∧ Below w.heap.size w w' := by
  unfold Cf.val
  go_enter Tryd.func10, Tryd.ntmps10
  go_wp2_with fail
  refine (sizes_no c _ h).mono ?_
  rintro e w1 ⟨x0, x1, x2, x3, x4, x5, rfl, hb1⟩
  have hrow := (Row.new (w.alloc (.cells #[.int .i64 c.docs, .int .i64 c.terms, .int .i64 (c.s 0), .int .i64 (c.s 1), .int .i64 (c.s 2), .int .i64 (c.s 3), .int .i64 c.book, .int .i64 c.room, .float .f64 c.K, .float .f64 c.B] 25)) 28 z15).call hb1
  have hz : w.heap.size + 2 ≤ w1.heap.size := by have := hb1.size; simp at this; omega
  have hB : Below w.heap.size w w1 := ((((Below.refl _ _).alloc (Nat.le_refl _) _).alloc (by simp) _).trans (hb1.mono (by simp; omega)))
  clear hb1
  rw [World.size_alloc] at hrow
  have hrow2 := hrow.alloc (.cells #[.int .i64 x0, .int .i64 x1, .int .i64 x2, .int .i64 x3, .int .i64 x4, .int .i64 x5] 26)
  have hB2 := al_ hB (.cells #[.int .i64 x0, .int .i64 x1, .int .i64 x2, .int .i64 x3, .int .i64 x4, .int .i64 x5] 26)
  clear hrow hB h
  go_wp2_with (refine wpList_store_rowO rfl 28 _ _ rfl (w.heap.size + 1) z15 rfl rfl 28 z15 hrow2 (by kernel_rfl) rfl (by kernel_rfl) w.heap.size w hB2 (by omega) ?_; intro w2 hrow3 hB3 hs3 hk3; clear hk3 hrow2 hB2)
  exact bodyPost_ret (results_plan _ w2 _ z15 1 rfl hrow3 rfl rfl) rfl ⟨rfl, hB3⟩
set_option maxRecDepth 100000 in
set_option maxHeartbeats 2000000 in
theorem refLay_ok (c : Cf) (w : World) (h : c.Ok) : Calls Tryd.prog 10 #[c.val] w fun e w' => e = .returned (.tuple #[c.plan, .int .i64 0]) ∧ Below w.heap.size w w' := by
  obtain ⟨d0, d1, t0, t1, b0, b1, r0, r1⟩ := h.head
  have HOK := Lib.hid h
  have hup : c.Upto 6 := fun j hj h4 => h.slabs j (by omega) h4
  have HUP := Lib.hid hup
  clear hup
  unfold Cf.val
  go_enter Tryd.func10, Tryd.ntmps10
  go_wp2_with fail
  refine (sizes_ok c _ h).mono ?_
  rintro e w1 ⟨rfl, hb1⟩
  have hrow := (Row.new (w.alloc (.cells #[.int .i64 c.docs, .int .i64 c.terms, .int .i64 (c.s 0), .int .i64 (c.s 1), .int .i64 (c.s 2), .int .i64 (c.s 3), .int .i64 c.book, .int .i64 c.room, .float .f64 c.K, .float .f64 c.B] 25)) 28 z15).call hb1
  have hconf := ((Row.new w 25 c.cells).alloc (.cells z15.toArray 28)).call hb1
  have hz : w.heap.size + 2 ≤ w1.heap.size := by have := hb1.size; simp at this; omega
  have hB : Below w.heap.size w w1 := ((((Below.refl _ _).alloc (Nat.le_refl _) _).alloc (by simp) _).trans (hb1.mono (by simp; omega)))
  clear hb1 h
  rw [World.size_alloc] at hrow
  have kd : w1.cell? ⟨w.heap.size, 0, none⟩ = some (.int .i64 c.docs) := hconf.cell 0
  have kt : w1.cell? ⟨w.heap.size, 1, none⟩ = some (.int .i64 c.terms) := hconf.cell 1
  clear hconf
  have hz0 : w.heap.size < w1.heap.size := by omega
  have hz1 : w.heap.size < w1.heap.size + 1 := by omega
  have hBs : ∀ x y, Below w.heap.size w ((w1.alloc x).alloc y) := fun x y => al_ (al_ hB _) _
  have hrs : ∀ x y, Row ((w1.alloc x).alloc y) (w.heap.size + 1) 28 z15 := fun x y => (hrow.alloc _).alloc _
  have HRS := Lib.hid hrs
  have HBS := Lib.hid hBs
  clear hrs hBs hrow hB
  go_wp2
  go_loopw [7, 8] (fun a i wr => ∃ k : Nat, k ≤ 6 ∧ i = .int .i64 k ∧ a = .int .i64 (c.at_ k) ∧ wr = ((w1.alloc (.cells #[.int .i64 (c.S 0), .int .i64 (c.S 1), .int .i64 (c.S 2), .int .i64 (c.S 3), .int .i64 (c.S 4), .int .i64 (c.S 5)] 26)).alloc (.cells (plB c k) 28))) (fun _ i _ => 6 - (intOf i).toNat)
  case atStart =>
    refine ⟨0, by omega, rfl, rfl, ?_⟩
    rw [plB_0]
  case round =>
    obtain ⟨k, hk, rfl, rfl, hwr⟩ := hrel
    have hbd := c.at_bd HOK.out.head k (fun j hj h4 => HUP.out j (by omega) h4)
    by_cases hlt : k < 6
    · subst hwr
      have hlt' : (k : Int) < 6 := by omega
      have hk0 : (0 : Int) ≤ (k : Int) := by omega
      have hS := c.S_bd HOK.out.head k (fun j hj h4 => HUP.out j (by omega) h4)
      obtain ⟨u1, e1⟩ := plB_at c k hlt
      have HS := Lib.hid (plB_step c k hlt)
      have csl : ∀ a, ((w1.alloc (.cells #[.int .i64 (c.S 0), .int .i64 (c.S 1), .int .i64 (c.S 2), .int .i64 (c.S 3), .int .i64 (c.S 4), .int .i64 (c.S 5)] 26)).alloc (.cells a 28)).cell? ⟨w1.heap.size, k, none⟩ = some (.int .i64 (c.S k)) := by
        intro a
        rcases (show k = 0 ∨ k = 1 ∨ k = 2 ∨ k = 3 ∨ k = 4 ∨ k = 5 from by omega) with rfl | rfl | rfl | rfl | rfl | rfl <;> simp [go_sem]
      go_wp2
      rw [HS.out]
      go_roundw
      case rel => exact ⟨k + 1, by omega, by go_num, rfl, rfl⟩
      case measure => simp [intOf]; omega
    · obtain rfl : k = 6 := by omega
      rw [plB_6] at hwr
      subst hwr
      have hsl : slotsOf c.terms = if c.terms < 128 then 128 else if c.terms < 256 then 256 else 512 := rfl
      rcases (show c.terms < 128 ∨ (128 ≤ c.terms ∧ c.terms < 256) ∨ 256 ≤ c.terms from by omega) with ht | ⟨ht, ht2⟩ | ht
      · rw [if_pos ht] at hsl
        have HSL := Lib.hid hsl
        clear hsl
        have hrow2 := HRS.out (.cells #[.int .i64 (c.S 0), .int .i64 (c.S 1), .int .i64 (c.S 2), .int .i64 (c.S 3), .int .i64 (c.S 4), .int .i64 (c.S 5)] 26) (.cells (planV c 128 (1 + 4 * c.docs + 128)).toArray 28)
        have hB2 := HBS.out (.cells #[.int .i64 (c.S 0), .int .i64 (c.S 1), .int .i64 (c.S 2), .int .i64 (c.S 3), .int .i64 (c.S 4), .int .i64 (c.S 5)] 26) (.cells (planV c 128 (1 + 4 * c.docs + 128)).toArray 28)
        go_wp2_with (refine wpList_store_rowO rfl 28 _ _ rfl (w.heap.size + 1) (planV c 128 (1 + 4 * c.docs + 128)) rfl rfl 28 z15 hrow2 rfl rfl rfl w.heap.size w hB2 (by omega) ?_; intro w2 hrow3 hB3 hs3 hk3; clear hk3 hrow2 hB2)
        exact bodyPost_ret (results_plan _ w2 _ (planV c 128 (1 + 4 * c.docs + 128)) 0 rfl hrow3 rfl rfl) rfl ⟨by unfold Cf.plan; rw [HSL.out]; rfl, hB3⟩
      · rw [if_neg (by omega), if_pos ht2] at hsl
        have HSL := Lib.hid hsl
        clear hsl
        have hrow2 := HRS.out (.cells #[.int .i64 (c.S 0), .int .i64 (c.S 1), .int .i64 (c.S 2), .int .i64 (c.S 3), .int .i64 (c.S 4), .int .i64 (c.S 5)] 26) (.cells (planV c 256 (1 + 4 * c.docs + 256)).toArray 28)
        have hB2 := HBS.out (.cells #[.int .i64 (c.S 0), .int .i64 (c.S 1), .int .i64 (c.S 2), .int .i64 (c.S 3), .int .i64 (c.S 4), .int .i64 (c.S 5)] 26) (.cells (planV c 256 (1 + 4 * c.docs + 256)).toArray 28)
        go_wp2_with (refine wpList_store_rowO rfl 28 _ _ rfl (w.heap.size + 1) (planV c 256 (1 + 4 * c.docs + 256)) rfl rfl 28 z15 hrow2 rfl rfl rfl w.heap.size w hB2 (by omega) ?_; intro w2 hrow3 hB3 hs3 hk3; clear hk3 hrow2 hB2)
        exact bodyPost_ret (results_plan _ w2 _ (planV c 256 (1 + 4 * c.docs + 256)) 0 rfl hrow3 rfl rfl) rfl ⟨by unfold Cf.plan; rw [HSL.out]; rfl, hB3⟩
      · rw [if_neg (by omega), if_neg (by omega)] at hsl
        have HSL := Lib.hid hsl
        clear hsl
        have hrow2 := HRS.out (.cells #[.int .i64 (c.S 0), .int .i64 (c.S 1), .int .i64 (c.S 2), .int .i64 (c.S 3), .int .i64 (c.S 4), .int .i64 (c.S 5)] 26) (.cells (planV c 512 (1 + 4 * c.docs + 512)).toArray 28)
        have hB2 := HBS.out (.cells #[.int .i64 (c.S 0), .int .i64 (c.S 1), .int .i64 (c.S 2), .int .i64 (c.S 3), .int .i64 (c.S 4), .int .i64 (c.S 5)] 26) (.cells (planV c 512 (1 + 4 * c.docs + 512)).toArray 28)
        go_wp2_with (refine wpList_store_rowO rfl 28 _ _ rfl (w.heap.size + 1) (planV c 512 (1 + 4 * c.docs + 512)) rfl rfl 28 z15 hrow2 rfl rfl rfl w.heap.size w hB2 (by omega) ?_; intro w2 hrow3 hB3 hs3 hk3; clear hk3 hrow2 hB2)
        exact bodyPost_ret (results_plan _ w2 _ (planV c 512 (1 + 4 * c.docs + 512)) 0 rfl hrow3 rfl rfl) rfl ⟨by unfold Cf.plan; rw [HSL.out]; rfl, hB3⟩
end Go.Proofs.YtkoljljflpkgnaaDoor
