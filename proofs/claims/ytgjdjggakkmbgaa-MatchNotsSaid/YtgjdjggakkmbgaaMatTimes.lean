/- The walk of ref18.Times: printed by wip/bin/gen_mattimes.py. -/
import Derived.Test.YtgjdjggakkmbgaaMatHas
import Derived.Test.YtgjdjggakkmbgaaHand
namespace Go.Proofs.Ytgjdjggakkmbgaa
open Go.RowKit

set_option maxRecDepth 100000 in
set_option maxHeartbeats 4000000 in
theorem times_any (ts : List Tk) (ls : List Ln) (doc : Int) (A : Option Addr) (n c : Nat) (A1 : Option Addr) (n1 c1 : Nat) (w : World) (hx : ReadsT w w.heap.size A n c ts) (hy : ReadsL w w.heap.size A1 n1 c1 ls) (h0 : 0 < n) (hn : n = n1) (hn9 : n ≤ 20)
    (hT : inRange (tkP ts) = true) (hM : ∀ V ∈ lnV ls, MayP V) :
    Calls Try.prog 20 #[.slice A n c, .slice A1 n1 c1, .int .i64 doc] w fun e w' => e = .returned (.int .i64 (timesF (tkP ts) (lnV ls) doc : Nat)) ∧ ∃ q, w' = w.drewN q := by
  subst hn
  have htl := Lib.hid hx.tkLen
  have hll := Lib.hid hy.vlen
  have HM := Lib.hid hM
  have HT := Lib.hid hT
  clear hM hT
  obtain ⟨al, A', n', c', l', rfl, hb1, cl, he1, hv1, _⟩ := hy.at' (i := 0) h0
  obtain ⟨a0, f0, s0, rfl, hb0, hi0, _, _, cp0⟩ := hx.tk (i := 0) h0
  have cl0 : w.cell? al = some (.slice A' n' c') := by simpa [Addr.add] using cl
  have HP := places_any l' doc A' n' c' w he1 (by
    have h1 := (may_at HM.out 0 (by rw [hll.out]; exact h0)).len
    have h2 := he1.vlen
    rw [hv1] at h2
    omega)
  rw [hv1] at HP
  have HTF : Hid (timesF (tkP ts) (lnV ls) doc = (plcF ((lnV ls).getD 0 []) doc).countP (fun p => okM (tkP ts) (lnV ls) doc p (tkP ts).length)) := Lib.hid rfl
  obtain ⟨hP9, hPr, _⟩ := plc_ok (may_at HM.out 0 (by rw [hll.out]; exact h0)) doc
  have hTr := range_at HT.out
  have HTr := Lib.hid (fun k (hk : k < n) => hTr k (by rw [htl.out]; exact hk))
  generalize plcF ((lnV ls).getD 0 []) doc = P0 at *
  have HPr := Lib.hid hPr
  clear hPr hTr
  go_enter Try.func20, Try.ntmps20
  go_wp2_with fail
  refine HP.mono ?_
  clear HP
  rintro e w1 ⟨A2, c2, rfl, hr2, rfl⟩
  go_wp2_with fail
  have h00 := HTr.out 0 h0
  generalize ht0 : (tkP ts).getD 0 0 = t0 at *
  have c3 : w.cell? ⟨a0.block, a0.off + 2, none⟩ = some (.int .i64 t0) := by simpa [Addr.add] using cp0
  have Ht0 := Lib.hid ht0
  clear cp0 ht0 cl cl0 he1 hb1
  go_loopw [7, 19] (fun cnt i wr => ∃ t : Nat, t ≤ P0.length ∧ i = .int .i64 (t : Int) ∧ cnt = .int .i64 (((P0.take t).countP (fun p => okM (tkP ts) (lnV ls) doc p (tkP ts).length) : Nat) : Int) ∧ ∃ q, wr = w.drewN q) (fun _ i _ => P0.length - (intOf i).toNat)
  case atStart => exact ⟨0, by omega, rfl, rfl, 0, rfl⟩
  case round =>
    obtain ⟨t, ht, rfl, rfl, q, rfl⟩ := hrel
    have hcb : (P0.take t).countP (fun p => okM (tkP ts) (lnV ls) doc p (tkP ts).length) ≤ t := by
      have h1 := List.countP_le_length (p := fun p => okM (tkP ts) (lnV ls) doc p (tkP ts).length) (l := P0.take t)
      rw [List.length_take] at h1
      omega
    by_cases hlt : t < P0.length
    · have hlt' : (t : Int) < (P0.length : Int) := by omega
      have HC := Lib.hid (count_s (fun p => okM (tkP ts) (lnV ls) doc p (tkP ts).length) P0 t hlt)
      obtain ⟨ap, hl0, rfl, _, c2⟩ := hr2.int hlt
      have hpr := HPr.out P0[t] (List.getElem_mem hl0)
      generalize P0[t] = p at *
      generalize hcnt : (P0.take t).countP (fun p => okM (tkP ts) (lnV ls) doc p (tkP ts).length) = cnt at *
      have Hcnt := Lib.hid hcnt
      clear hcnt
      go_wp2_with fail
      go_loopw [10, 24] (fun all_ i wr => ∃ k : Nat, k ≤ n ∧ i = .int .i64 (k : Int) ∧ all_ = .bool (okM (tkP ts) (lnV ls) doc p k) ∧ ∃ q, wr = w.drewN q) (fun _ i _ => n - (intOf i).toNat)
      case atStart => exact ⟨0, by omega, rfl, rfl, q, rfl⟩
      case round =>
        obtain ⟨k, hk, rfl, rfl, q2, rfl⟩ := hrel
        by_cases hlt2 : k < n
        · have hlt2' : (k : Int) < (n : Int) := by omega
          obtain ⟨al2, A', n', c', l', e1, _, c1, he1, hv1, _⟩ := hy.at' hlt2
          injection e1 with e1
          subst e1
          obtain ⟨a02, f0, s0, e2, _, _, _, _, c4⟩ := hx.tk hlt2
          injection e2 with e2
          subst e2
          have htk := HTr.out k hlt2
          have hm := may_at HM.out k (by rw [hll.out]; exact hlt2)
          have hpl := (plc_ok hm doc).1
          have HPl := Lib.hid (places_any l' doc A' n' c' (w.drewN q2).drew (show ReadsE (w.drewN q2).drew (w.drewN q2).drew.heap.size A' n' c' l' from he1.keep (fun _ _ => rfl)) (by
            have h1 := hm.len
            have h2 := he1.vlen
            rw [hv1] at h2
            omega))
          rw [hv1] at HPl
          have HHit : Hid (hitK (tkP ts) (lnV ls) doc p k = decide (p - t0 + (tkP ts).getD k 0 ∈ plcF ((lnV ls).getD k []) doc)) := Lib.hid (by rw [hitK, offA, Ht0.out])
          have HOk := Lib.hid (okM_s (tkP ts) (lnV ls) doc p k)
          generalize (tkP ts).getD k 0 = tv at *
          generalize plcF ((lnV ls).getD k []) doc = Pk at *
          have hw1 : IntKind.i64.wrap (p - t0) = p - t0 := IntWalk.i64_in _ (by omega)
          have hw2 : IntKind.i64.wrap (p - t0 + tv) = p - t0 + tv := IntWalk.i64_in _ (by omega)
          obtain ⟨hit, hhit⟩ : ∃ b, decide (p - t0 + tv ∈ Pk) = b := ⟨_, rfl⟩
          have HHas := Lib.hid (fun A9 c9 (hr9 : Reads (w.drewN q2).drew (w.drewN q2).drew.heap.size A9 Pk.length c9 (ints .i64 Pk)) => has_any Pk (p - t0 + tv) A9 Pk.length c9 (w.drewN q2).drew hr9 (by omega))
          rw [hhit] at HHas HHit
          have HHit2 := Lib.hid HHit.out
          clear HHit hhit hm he1 hv1
          go_wp2_with fail
          refine wp_region_open (S := (fun w' : World => w'.cell? (al.add k) = some (.slice A' n' c') ∧ w'.cell? (ap.add t) = some (.int .i64 p) ∧ w'.cell? ⟨a0.block, a0.off + 2, none⟩ = some (.int .i64 t0) ∧ w'.cell? ⟨(a0.add (k * 3)).block, (a0.add (k * 3)).off + 2, none⟩ = some (.int .i64 tv))) #[false, false, false, false, false, false, false, false, false, false, false, false, false, false, false, false, false, false, false, false, false, false, false] 23 (by kernel_rfl) (by kernel_rfl) rfl (⟨c1, c2, c3, c4⟩) (fun hHeld => ?_)
          refine tk (i := 0) (v := ?_) rfl (by kernel_rfl) (by kernel_rfl) (by kernel_rfl) (Or.inl ⟨by rfl, ?_⟩) (by assumption) ?_; rotate_left 1
          · intro w hSw; (try dsimp only at hSw); go_simp; try with_reducible rfl
          try simp only [Act.put, List.getElem_toArray, List.getElem_cons_zero, List.setIfInBounds_toArray, List.set_cons_zero, List.set_cons_succ]
          refine tk (i := 1) (v := ?_) rfl (by kernel_rfl) (by kernel_rfl) (by kernel_rfl) (Or.inl ⟨by rfl, ?_⟩) (by assumption) ?_; rotate_left 1
          · intro w hSw; (try dsimp only at hSw); go_simp; try with_reducible rfl
          try simp only [Act.put, List.getElem_toArray, List.getElem_cons_zero, List.getElem_cons_succ, List.setIfInBounds_toArray, List.set_cons_zero, List.set_cons_succ]
          refine tk (i := 2) (v := ?_) rfl (by kernel_rfl) (by kernel_rfl) (by kernel_rfl) (Or.inl ⟨by rfl, ?_⟩) (by assumption) ?_; rotate_left 1
          · intro w hSw; (try dsimp only at hSw); go_simp; try with_reducible rfl
          try simp only [Act.put, List.getElem_toArray, List.getElem_cons_zero, List.getElem_cons_succ, List.setIfInBounds_toArray, List.set_cons_zero, List.set_cons_succ]
          refine tk (i := 3) (v := ?_) rfl (by kernel_rfl) (by kernel_rfl) (by kernel_rfl) (Or.inl ⟨by rfl, ?_⟩) (by assumption) ?_; rotate_left 1
          · intro w hSw; (try dsimp only at hSw); go_simp; try with_reducible rfl
          try simp only [Act.put, List.getElem_toArray, List.getElem_cons_zero, List.getElem_cons_succ, List.setIfInBounds_toArray, List.set_cons_zero, List.set_cons_succ]
          refine tk (i := 4) (v := ?_) rfl (by kernel_rfl) (by kernel_rfl) (by kernel_rfl) (Or.inl ⟨by rfl, ?_⟩) (by assumption) ?_; rotate_left 1
          · intro w hSw; (try dsimp only at hSw); go_simp; try with_reducible rfl
          try simp only [Act.put, List.getElem_toArray, List.getElem_cons_zero, List.getElem_cons_succ, List.setIfInBounds_toArray, List.set_cons_zero, List.set_cons_succ]
          refine tk (i := 6) (v := ?_) rfl (by kernel_rfl) (by kernel_rfl) (by kernel_rfl) (Or.inl ⟨by rfl, ?_⟩) (by assumption) ?_; rotate_left 1
          · intro w hSw; (try dsimp only at hSw); go_simp; try with_reducible rfl
          try simp only [Act.put, List.getElem_toArray, List.getElem_cons_zero, List.getElem_cons_succ, List.setIfInBounds_toArray, List.set_cons_zero, List.set_cons_succ]
          refine tk (i := 7) (v := ?_) rfl (by kernel_rfl) (by kernel_rfl) (by kernel_rfl) (Or.inl ⟨by rfl, ?_⟩) (by assumption) ?_; rotate_left 1
          · intro w hSw; (try dsimp only at hSw); go_simp; try with_reducible rfl
          try simp only [Act.put, List.getElem_toArray, List.getElem_cons_zero, List.getElem_cons_succ, List.setIfInBounds_toArray, List.set_cons_zero, List.set_cons_succ]
          refine tk (i := 8) (v := ?_) rfl (by kernel_rfl) (by kernel_rfl) (by kernel_rfl) (Or.inl ⟨by rfl, ?_⟩) (by assumption) ?_; rotate_left 1
          · intro w hSw; (try dsimp only at hSw); go_simp; try with_reducible rfl
          try simp only [Act.put, List.getElem_toArray, List.getElem_cons_zero, List.getElem_cons_succ, List.setIfInBounds_toArray, List.set_cons_zero, List.set_cons_succ]
          refine tk (i := 9) (v := ?_) rfl (by kernel_rfl) (by kernel_rfl) (by kernel_rfl) (Or.inl ⟨by rfl, ?_⟩) (by assumption) ?_; rotate_left 1
          · intro w hSw; (try dsimp only at hSw); go_simp; try with_reducible rfl
          try simp only [Act.put, List.getElem_toArray, List.getElem_cons_zero, List.getElem_cons_succ, List.setIfInBounds_toArray, List.set_cons_zero, List.set_cons_succ]
          refine tk (i := 10) (v := ?_) rfl (by kernel_rfl) (by kernel_rfl) (by kernel_rfl) (Or.inl ⟨by rfl, ?_⟩) (by assumption) ?_; rotate_left 1
          · intro w hSw; (try dsimp only at hSw); go_simp; try with_reducible rfl
          try simp only [Act.put, List.getElem_toArray, List.getElem_cons_zero, List.getElem_cons_succ, List.setIfInBounds_toArray, List.set_cons_zero, List.set_cons_succ]
          refine tk (i := 11) (v := ?_) rfl (by kernel_rfl) (by kernel_rfl) (by kernel_rfl) (Or.inl ⟨by rfl, ?_⟩) (by assumption) ?_; rotate_left 1
          · intro w hSw; (try dsimp only at hSw); go_simp; try with_reducible rfl
          try simp only [Act.put, List.getElem_toArray, List.getElem_cons_zero, List.getElem_cons_succ, List.setIfInBounds_toArray, List.set_cons_zero, List.set_cons_succ]
          refine tk (i := 12) (v := ?_) rfl (by kernel_rfl) (by kernel_rfl) (by kernel_rfl) (Or.inl ⟨by rfl, ?_⟩) (by assumption) ?_; rotate_left 1
          · intro w hSw; (try dsimp only at hSw); go_simp; try with_reducible rfl
          try simp only [Act.put, List.getElem_toArray, List.getElem_cons_zero, List.getElem_cons_succ, List.setIfInBounds_toArray, List.set_cons_zero, List.set_cons_succ]
          refine tk (i := 13) (v := ?_) rfl (by kernel_rfl) (by kernel_rfl) (by kernel_rfl) (Or.inl ⟨by rfl, ?_⟩) (by assumption) ?_; rotate_left 1
          · intro w hSw; (try dsimp only at hSw); go_simp; try with_reducible rfl
          try simp only [Act.put, List.getElem_toArray, List.getElem_cons_zero, List.getElem_cons_succ, List.setIfInBounds_toArray, List.set_cons_zero, List.set_cons_succ]
          refine tk (i := 14) (v := ?_) rfl (by kernel_rfl) (by kernel_rfl) (by kernel_rfl) (Or.inl ⟨by rfl, ?_⟩) (by assumption) ?_; rotate_left 1
          · intro w hSw; (try dsimp only at hSw); go_simp; try with_reducible rfl
          try simp only [Act.put, List.getElem_toArray, List.getElem_cons_zero, List.getElem_cons_succ, List.setIfInBounds_toArray, List.set_cons_zero, List.set_cons_succ]
          refine tk (i := 15) (v := ?_) rfl (by kernel_rfl) (by kernel_rfl) (by kernel_rfl) (Or.inl ⟨by rfl, ?_⟩) (by assumption) ?_; rotate_left 1
          · intro w hSw; (try dsimp only at hSw); go_simp; try with_reducible rfl
          try simp only [Act.put, List.getElem_toArray, List.getElem_cons_zero, List.getElem_cons_succ, List.setIfInBounds_toArray, List.set_cons_zero, List.set_cons_succ]
          refine tk (i := 16) (v := ?_) rfl (by kernel_rfl) (by kernel_rfl) (by kernel_rfl) (Or.inl ⟨by rfl, ?_⟩) (by assumption) ?_; rotate_left 1
          · intro w hSw; (try dsimp only at hSw); go_simp; try with_reducible rfl
          try simp only [Act.put, List.getElem_toArray, List.getElem_cons_zero, List.getElem_cons_succ, List.setIfInBounds_toArray, List.set_cons_zero, List.set_cons_succ]
          refine tk (i := 17) (v := ?_) rfl (by kernel_rfl) (by kernel_rfl) (by kernel_rfl) (Or.inl ⟨by rfl, ?_⟩) (by assumption) ?_; rotate_left 1
          · intro w hSw; (try dsimp only at hSw); go_simp; try with_reducible rfl
          try simp only [Act.put, List.getElem_toArray, List.getElem_cons_zero, List.getElem_cons_succ, List.setIfInBounds_toArray, List.set_cons_zero, List.set_cons_succ]
          refine tk (i := 18) (v := ?_) rfl (by kernel_rfl) (by kernel_rfl) (by kernel_rfl) (Or.inl ⟨by rfl, ?_⟩) (by assumption) ?_; rotate_left 1
          · intro w hSw; (try dsimp only at hSw); go_simp; try with_reducible rfl
          try simp only [Act.put, List.getElem_toArray, List.getElem_cons_zero, List.getElem_cons_succ, List.setIfInBounds_toArray, List.set_cons_zero, List.set_cons_succ]
          refine tk (i := 19) (v := ?_) rfl (by kernel_rfl) (by kernel_rfl) (by kernel_rfl) (Or.inl ⟨by rfl, ?_⟩) (by assumption) ?_; rotate_left 1
          · intro w hSw; (try dsimp only at hSw); go_simp; try with_reducible rfl
          try simp only [Act.put, List.getElem_toArray, List.getElem_cons_zero, List.getElem_cons_succ, List.setIfInBounds_toArray, List.set_cons_zero, List.set_cons_succ]
          refine tk (i := 20) (v := ?_) rfl (by kernel_rfl) (by kernel_rfl) (by kernel_rfl) (Or.inl ⟨by rfl, ?_⟩) (by assumption) ?_; rotate_left 1
          · intro w hSw; (try dsimp only at hSw); go_simp; try with_reducible rfl
          try simp only [Act.put, List.getElem_toArray, List.getElem_cons_zero, List.getElem_cons_succ, List.setIfInBounds_toArray, List.set_cons_zero, List.set_cons_succ]
          refine wpAnyH_ready (rs := [5]) (by kernel_rfl) (by simp) ?_
          refine AllReadyH.cons (o := _) rfl (fun K hK => ?_) AllReadyH.nil
          go_simp
          go_at_call 27
          refine HPl.out.mono ?_
          rintro e w9 ⟨A9, c9, rfl, hr9, rfl⟩
          refine hK.out _ _ hHeld (fun hHeld => ?_)
          clear hK K
          try simp only [List.setIfInBounds_toArray, List.set_cons_zero, List.set_cons_succ]
          refine wpAnyH_ready (rs := [21]) (by kernel_rfl) (by simp) ?_
          refine AllReadyH.cons (o := _) rfl (fun K hK => ?_) AllReadyH.nil
          go_simp
          go_at_call 28
          refine (HHas.out _ _ hr9).mono ?_
          rintro e w10 ⟨rfl, rfl⟩
          refine hK.out _ _ hHeld (fun hHeld => ?_)
          clear hK K
          try simp only [List.setIfInBounds_toArray, List.set_cons_zero, List.set_cons_succ]
          refine tk (i := 22) (v := ?_) rfl (by kernel_rfl) (by kernel_rfl) (by kernel_rfl) (Or.inl ⟨by rfl, ?_⟩) (by assumption) ?_; rotate_left 1
          · intro w hSw; (try dsimp only at hSw); go_simp; try with_reducible rfl
          try simp only [Act.put, List.getElem_toArray, List.getElem_cons_zero, List.getElem_cons_succ, List.setIfInBounds_toArray, List.set_cons_zero, List.set_cons_succ]
          refine wpAnyH_done (by kernel_rfl) ?_ _
          refine NoPanic.normal ?_
          cases hit
          · have HO : Hid (okM (tkP ts) (lnV ls) doc p (k + 1) = false) := Lib.hid (by rw [HOk.out, HHit2.out, Bool.and_false])
            clear hHeld HPl HHas hr9 c1 c2 c4
            go_wp2
            go_roundw
            case rel => exact ⟨k + 1, by omega, by go_num, by rw [HO.out], q2 + 1, rfl⟩
            case measure => simp [intOf]; omega
          · have HO : Hid (okM (tkP ts) (lnV ls) doc p (k + 1) = okM (tkP ts) (lnV ls) doc p k) := Lib.hid (by rw [HOk.out, HHit2.out, Bool.and_true])
            clear hHeld HPl HHas hr9 c1 c2 c4
            go_wp2
            go_roundw
            case rel => exact ⟨k + 1, by omega, by go_num, by rw [HO.out], q2 + 1, rfl⟩
            case measure => simp [intOf]; omega
        · have hlt2' : ¬ (k : Int) < (n : Int) := by omega
          obtain rfl : n = k := by omega
          have Htl := Lib.hid htl.out
          have HC2 : Hid ((P0.take (t + 1)).countP (fun p => okM (tkP ts) (lnV ls) doc p (tkP ts).length) = cnt + (if okM (tkP ts) (lnV ls) doc p n = true then 1 else 0)) := Lib.hid (by rw [HC.out, Htl.out])
          generalize okM (tkP ts) (lnV ls) doc p n = ok at *
          clear HC
          cases ok
          · have HC3 : Hid ((P0.take (t + 1)).countP (fun p => okM (tkP ts) (lnV ls) doc p (tkP ts).length) = cnt) := Lib.hid HC2.out
            go_wp2
            go_roundw
            case rel => exact ⟨t + 1, by omega, by go_num, by rw [HC3.out], q2, rfl⟩
            case measure => simp [intOf]; omega
          · have HC3 : Hid ((P0.take (t + 1)).countP (fun p => okM (tkP ts) (lnV ls) doc p (tkP ts).length) = cnt + 1) := Lib.hid HC2.out
            go_wp2
            go_roundw
            case rel => exact ⟨t + 1, by omega, by go_num, by rw [HC3.out]; go_num, q2, rfl⟩
            case measure => simp [intOf]; omega
    · have hlt' : ¬ (t : Int) < (P0.length : Int) := by omega
      have HR : Hid (timesF (tkP ts) (lnV ls) doc = (P0.take t).countP (fun p => okM (tkP ts) (lnV ls) doc p (tkP ts).length)) := Lib.hid (by rw [HTF.out, List.take_of_length_le (by omega)])
      generalize (P0.take t).countP (fun p => okM (tkP ts) (lnV ls) doc p (tkP ts).length) = cnt at *
      go_wp2
      go_ret
      exact ⟨by rw [HR.out]; rfl, q, rfl⟩
end Go.Proofs.Ytgjdjggakkmbgaa
