/- The walk of the law RankBest: printed by wip/bin/gen_best.py. -/
import Derived.Test.YtdkbiimhdbnplaaRankIds
import Derived.Test.YtdkbiimhdbnplaaBoolMap
import Derived.Deep.RegionHeld3
namespace Go.Proofs.Ytdkbiimhdbnplaa
open Go.RowKit

theorem wfu32 {i : Nat} (h : i ≤ 100000) : (Lit.int .u32 (i : Int)).wf = true := by simp [Lit.wf, IntKind.min, IntKind.max, IntKind.signed, IntKind.bits]; omega
set_option maxRecDepth 100000 in
set_option maxHeartbeats 4000000 in
theorem walkRankBest {w : World} (l : List Sc) (A : Option Addr) (n c : Nat) (hx : ReadsK 3 w w.heap.size A n c (l.flatMap scC)) (_ : c ≤ maxLen) (hok : ∀ x ∈ l, ScOk x) (lim : Int) (hlim : (Lit.int .i64 lim).wf = true) (o : Int) (_ : (Lit.int .i64 o).wf = true) :
    Calls Try.prog 3 #[.slice A n c, .int .i64 lim, .int .i64 o] w fun e w' => e = .returned (.bool true) ∧ Below w.heap.size w w' := by
  have hlim := wf64 hlim
  by_cases hn : 200 < n
  · have hn' : (200 : Int) < (n : Int) := by omega
    go_enter Try.func3, Try.ntmps3
    go_wp2_with (go_at_call 8; refine (fixed_any _).mono ?_; rintro e w1 ⟨rfl, hb1⟩)
    go_ret
    exact ⟨rfl, hb1⟩
  · have hn' : ¬ (200 : Int) < (n : Int) := by omega
    obtain ⟨i0, hi0, hx0, hx1, hx2⟩ := info_parts info_scored
    have hll := hx.count scC_len (by omega)
    have HOK := Lib.hid (numU_ok l hok)
    have HOKL := Lib.hid hok
    clear hok
    have hstf := store_float
    have hmk : ∀ w : World, (Instr.makeMap 30 none).run Try.prog w = .ok (.map (some w.heap.size)) (w.alloc (.map #[] 0)) := run_makeMap _
    have own0 := own_empty w 27 3
    have hx' := hx.alloc (Nat.le_refl _) (.cells #[] 27)
    have hB0 := (Below.refl w.heap.size w).alloc (Nat.le_refl _) (.cells #[] 27)
    go_enter Try.func3, Try.ntmps3
    go_wp2_with (at_builtin; refine wpList_append_allK rfl (.tmp 20) (.tmp 21) 22 rfl w.heap.size 27 i0 _ 3 24 Try.underlying22 hi0 hx0 hx1 hx2 rfl (by omega) _ 0 [] own0 w.heap.size A n c _ hx' rfl rfl (scC_one l) (by omega) (by omega) hB0.size ?_; intro v1 w1 hown1 hg1 hob1; have hB1 := below_grown hB0 own0 (Nat.le_refl _) hB0.size hg1; simp only [Nat.zero_add, List.nil_append] at hown1; obtain ⟨A1, c1, rfl, hr1, hm1, _⟩ := ReadsK.of_own hown1)
    clear hr1 own0 hx' hB0 hg1 hob1
    go_loopw [25] (fun i wr => ∃ k : Nat, k ≤ n ∧ i = .int .i64 k ∧ wr.ownsRow w.heap.size 27 3 (.slice A1 n c1) n ((numU l k).flatMap scC) ∧ Below w.heap.size w wr) (fun i _ => n - (intOf i).toNat)
    case atStart => exact ⟨0, by omega, rfl, by rw [numU_0]; exact hown1, hB1⟩
    case round =>
      obtain ⟨k, hk, rfl, hown, hB⟩ := hrel
      by_cases hlt : k < n
      · obtain ⟨g, c', hv, hg0, hg1⟩ := hown.form (by omega)
        injection hv with hv1 _ hv3
        subst hv1 hv3
        have hcl := hown.cellAt (k * 3 + 1) (by omega)
        have hfz := hown.frozenAt (k * 3 + 1)
        have hul := numU_len l k (by omega)
        rw [List.getElem?_eq_getElem (by rw [rec_len scC_len, hul]; omega)] at hcl
        generalize ((numU l k).flatMap scC)[k * 3 + 1]'_ = old at hcl
        have hst := (hown.stored (k * 3 + 1) (.int .u32 (k : Int))).1
        rw [numU_cells l k (by omega)] at hst
        have HST := Lib.hid hst
        clear hst hul
        have hlt' : (k : Int) < (n : Int) := by omega
        have hk0 : (0 : Int) ≤ (k : Int) := by omega
        have hwu : IntKind.u32.wrap (k : Int) = (k : Int) := IntWalk.u32_in _ (by omega)
        go_wp2
        go_roundw
        case rel => exact ⟨k + 1, by omega, by go_num, HST.out, hB.setCell (p := ⟨g, k * 3 + 1, none⟩) hg0 _⟩
        case measure => simp [intOf]; omega
      · obtain rfl : k = n := by omega
        rw [← hll, numU_all, hll] at hown
        have HTOP := Lib.hid (top_any (numL l) A1 k c1 lim o wr (own_reads hown) HOK.out (by omega) hlim)
        obtain ⟨L, TL, hL, hTL, hLl, hLok, h1, h2, h3, h4, hGd, hTn⟩ := best_facts o lim.toNat l HOKL.out
        rw [← hTL] at HTOP
        rw [← hL] at hown
        clear HOK hL hTL
        have hLn : L.length = k := by omega
        have HOK := Lib.hid hLok
        have H1 := Lib.hid h1
        have H2 := Lib.hid h2
        have H3 := Lib.hid h3
        have H4 := Lib.hid h4
        have HGd := Lib.hid hGd
        clear h1 h2 h3 h4 hLok hLl hGd
        obtain ⟨n, hnk⟩ : ∃ n, n = k := ⟨_, rfl⟩
        subst hnk
        go_wp2_with fail
        refine HTOP.out.mono ?_
        rintro e w2 ⟨v2, rfl, hown2, hb2⟩
        obtain ⟨A2, c2, rfl, hrt, _, _⟩ := ReadsK.of_own hown2
        have hro := own_reads (ownsRow_below hown hb2)
        have hB2 := hB.trans (hb2.mono hB.size)
        have hbm : BMap Try.prog 24 4 .u32 (w2.alloc (.map #[] 0)) w2.heap.size 0 (fun _ => false) := BMap.made w2
        have hBm : Below w2.heap.size w2 (w2.alloc (.map #[] 0)) := (Below.refl _ _).alloc (Nat.le_refl _) _
        have hbb := hbm.lt
        clear HTOP hown hown2 hb2 hB hB1 hown1
        go_wp2_with fail
        obtain ⟨b, hbe⟩ : ∃ b, b = w2.heap.size := ⟨_, rfl⟩
        rw [← hbe] at hbm hbb
        rw [← hbe]
        have HBE := Lib.hid hbe
        clear hbe
        go_loopw [42] (fun i wr => ∃ (k m : Nat) (f : Int → Bool), k ≤ TL.length ∧ i = .int .i64 k ∧ BMap Try.prog 24 4 .u32 wr b m f ∧ m ≤ k ∧ Hid (∀ x, f x = true ↔ ∃ j, ∃ h : j < TL.length, j < k ∧ TL[j].2.1 = x) ∧ b < wr.heap.size ∧ Below w2.heap.size w2 wr) (fun i _ => TL.length - (intOf i).toNat)
        case atStart => exact ⟨0, 0, _, by omega, rfl, hbm, by omega, Lib.hid fun x => ⟨fun h => by simp at h, fun ⟨j, _, h, _⟩ => by omega⟩, hbb, hBm⟩
        case round =>
          obtain ⟨k, m, f, hk, rfl, hm, hmk', HF, hbw, hB⟩ := hrel
          by_cases hlt : k < TL.length
          · obtain ⟨i0, hi, e1, e2⟩ := H2.out k hlt
            obtain ⟨ad2, hkl, rfl, hbl2, c0, hcell⟩ := (hrt.below hB).at' hitC_len (by omega) hlt
            have c0 := c0 _ rfl
            have cc1 := hcell 1 _ (by omega) rfl
            clear hcell
            obtain ⟨ad1, hil, rfl, hbl1, d0, hcell⟩ := (hro.below hB).at' scC_len (by omega) (show i0 < n by omega)
            have d0 := d0 _ rfl
            have d1 := hcell 1 _ (by omega) rfl
            have d2 := hcell 2 _ (by omega) rfl
            clear hcell
            have hfi : f (i0 : Int) = false := by
              cases hf : f (i0 : Int)
              · rfl
              · obtain ⟨j, hj, hjk, ej⟩ := (HF.out _).1 hf
                have := List.pairwise_iff_getElem.1 H1.out j k (by simpa using hj) (by simpa using hlt) hjk
                simp only [List.getElem_map] at this
                exact absurd (ej.trans e2.symm) this
            have HF2 : Hid (∀ x, (if x = (i0 : Int) then true else f x) = true ↔ ∃ j, ∃ h : j < TL.length, j < k + 1 ∧ TL[j].2.1 = x) := Lib.hid fun x => by
              by_cases e : x = (i0 : Int)
              · rw [if_pos e]
                exact ⟨fun _ => ⟨k, hlt, by omega, by rw [e, e2]⟩, fun _ => rfl⟩
              · rw [if_neg e, HF.out x]
                constructor
                · rintro ⟨j, hj, h1, h2⟩
                  exact ⟨j, hj, by omega, h2⟩
                · rintro ⟨j, hj, h1, h2⟩
                  refine ⟨j, hj, ?_, h2⟩
                  rcases Nat.lt_or_ge j k with h | h
                  · exact h
                  · obtain rfl : j = k := by omega
                    exact absurd (h2.symm.trans e2) e
            have HOX := Lib.hid (HOK.out L[i0] (List.getElem_mem hi))
            have hfall : ∀ j1, k = j1 + 1 → ∃ (i1 : Nat) (h1 : i1 < L.length) (h2 : j1 < TL.length), TL[j1] = L[i1] ∧ TL[j1].2.1 = (i1 : Int) ∧ betB o L[i0] L[i1] = false := by
              rintro j1 rfl
              obtain ⟨i1, h1, g1, g2⟩ := H2.out j1 (by omega)
              have := H3.out j1 hlt
              rw [g1, e1] at this
              exact ⟨i1, h1, by omega, g1, g2, by simp only [betB, decide_eq_false_iff_not]; omega⟩
            have HFALL := Lib.hid hfall
            clear hfall
            rw [← e1] at d0 d1 d2
            have hid := e2
            generalize hTk : TL[k] = X at *
            have hLX : L[i0] = X := e1.symm
            clear hTk e1 e2
            obtain ⟨d, id, s⟩ := X
            simp only at hid
            subst hid
            simp only at c0 cc1
            simp only at d0 d1 d2
            rw [hLX] at HOX
            have hwi : IntKind.i64.wrap (i0 : Int) = (i0 : Int) := IntWalk.i64_in _ (by omega)
            have hin : (i0 : Int) < (n : Int) := by omega
            have hin' : i0 < n := by omega
            have hi00 : (0 : Int) ≤ (i0 : Int) := by omega
            have hdn : decide ((n : Int) ≤ (i0 : Int)) = false := by simp; omega
            have hlt' : (k : Int) < (TL.length : Int) := by omega
            have hk0 : (0 : Int) ≤ (k : Int) := by omega
            have hml := hm.alloc (.cells #[.int .u32 (i0 : Int), .float .f64 s] 32)
            have hBl := hB.alloc hB.size (.cells #[.int .u32 (i0 : Int), .float .f64 s] 32)
            have hrw := Row.new wr 32 [.int .u32 (i0 : Int), .float .f64 s]
            have hbl : b < (wr.alloc (.cells #[.int .u32 (i0 : Int), .float .f64 s] 32)).heap.size := hml.lt
            have hzw : w2.heap.size ≤ wr.heap.size := hB.size
            go_wp2_with fail
            have hbd : Below (wr.alloc (.cells #[.int .u32 (i0 : Int), .float .f64 s] 32)).heap.size (wr.alloc (.cells #[.int .u32 (i0 : Int), .float .f64 s] 32)) (wr.alloc (.cells #[.int .u32 (i0 : Int), .float .f64 s] 32)).drew := (Below.refl _ _).drew
            have hlook : ∀ w', Below (wr.alloc (.cells #[.int .u32 (i0 : Int), .float .f64 s] 32)).heap.size (wr.alloc (.cells #[.int .u32 (i0 : Int), .float .f64 s] 32)) w' → w'.cell? ⟨wr.heap.size, 0, none⟩ = some (.int .u32 (i0 : Int)) ∧ (Instr.lookup 30 (.map (some b)) (.int .u32 (i0 : Int)) false).run Try.prog w' = .ok (.bool false) w' := fun w' hb => ⟨(hrw.call hb).cell 0, by
              have := (hml.below hb hbl).look Try.underlying30 Try.underlying24 Try.underlying4 (fun _ => rfl) (i0 : Int) (wfu32 (by omega))
              rwa [hfi] at this⟩
            have HLK := Lib.hid hlook
            clear hlook
            rcases Nat.eq_zero_or_pos k with rfl | hkp
            · have HSB := Lib.hid HLK.out
              refine wp_region_noPanic ?_
              refine wp_region_held_drew (S := (fun w' : World => w'.cell? ⟨wr.heap.size, 0, none⟩ = some (.int .u32 (i0 : Int)) ∧ (Instr.lookup 30 (.map (some b)) (.int .u32 (i0 : Int)) false).run Try.prog w' = .ok (.bool false) w')) (by kernel_rfl) (HSB.out _ hbd) (fun hHeld => ?_)
              refine wpAnyH_take (i := 0) (v := (.pointer (some ⟨wr.heap.size, 0, none⟩))) rfl (by kernel_rfl) (by kernel_rfl) (by kernel_rfl) (fun _ _ _ h => h) (Or.inl ⟨by rfl, fun w hSw => by (try dsimp only at hSw); go_simp⟩) (by assumption) ?_
              try simp only [Act.put, List.getElem_toArray, List.getElem_cons_zero, List.setIfInBounds_toArray, List.set_cons_zero, List.set_cons_succ]
              refine wpAnyH_take (i := 1) (v := (.int .u32 (i0 : Int))) rfl (by kernel_rfl) (by kernel_rfl) (by kernel_rfl) (fun _ _ _ h => h) (Or.inl ⟨by rfl, fun w hSw => by (try dsimp only at hSw); go_simp⟩) (by assumption) ?_
              try simp only [Act.put, List.getElem_toArray, List.getElem_cons_zero, List.getElem_cons_succ, List.setIfInBounds_toArray, List.set_cons_zero, List.set_cons_succ]
              refine wpAnyH_take (i := 2) (v := (.int .i64 (i0 : Int))) rfl (by kernel_rfl) (by kernel_rfl) (by kernel_rfl) (fun _ _ _ h => h) (Or.inl ⟨by rfl, fun w hSw => by (try dsimp only at hSw); go_simp⟩) (by assumption) ?_
              try simp only [Act.put, List.getElem_toArray, List.getElem_cons_zero, List.getElem_cons_succ, List.setIfInBounds_toArray, List.set_cons_zero, List.set_cons_succ]
              refine wpAnyH_take (i := 3) (v := (.slice (some ad1) n c1)) rfl (by kernel_rfl) (by kernel_rfl) (by kernel_rfl) (fun _ _ _ h => h) (Or.inl ⟨by rfl, fun w hSw => by (try dsimp only at hSw); go_simp⟩) (by assumption) ?_
              try simp only [Act.put, List.getElem_toArray, List.getElem_cons_zero, List.getElem_cons_succ, List.setIfInBounds_toArray, List.set_cons_zero, List.set_cons_succ]
              refine wpAnyH_take (i := 4) (v := (.int .i64 (n : Int))) rfl (by kernel_rfl) (by kernel_rfl) (by kernel_rfl) (fun _ _ _ h => h) (Or.inl ⟨by rfl, fun w hSw => by (try dsimp only at hSw); go_simp⟩) (by assumption) ?_
              try simp only [Act.put, List.getElem_toArray, List.getElem_cons_zero, List.getElem_cons_succ, List.setIfInBounds_toArray, List.set_cons_zero, List.set_cons_succ]
              refine wpAnyH_take (i := 5) (v := (.bool false)) rfl (by kernel_rfl) (by kernel_rfl) (by kernel_rfl) (fun _ _ _ h => h) (Or.inl ⟨by rfl, fun w hSw => by (try dsimp only at hSw); go_simp⟩) (by assumption) ?_
              try simp only [Act.put, List.getElem_toArray, List.getElem_cons_zero, List.getElem_cons_succ, List.setIfInBounds_toArray, List.set_cons_zero, List.set_cons_succ]
              refine wpAnyH_take (i := 6) (v := (.bool false)) rfl (by kernel_rfl) (by kernel_rfl) (by kernel_rfl) (fun _ _ _ h => h) (Or.inl ⟨by rfl, fun w hSw => by (try dsimp only at hSw); go_simp⟩) (by assumption) ?_
              try simp only [Act.put, List.getElem_toArray, List.getElem_cons_zero, List.getElem_cons_succ, List.setIfInBounds_toArray, List.set_cons_zero, List.set_cons_succ]
              refine wpAnyH_take (i := 7) (v := (.map (some b))) rfl (by kernel_rfl) (by kernel_rfl) (by kernel_rfl) (fun _ _ _ h => h) (Or.inl ⟨by rfl, fun _ _ => rfl⟩) (by assumption) ?_
              try simp only [Act.put, List.getElem_toArray, List.getElem_cons_zero, List.getElem_cons_succ, List.setIfInBounds_toArray, List.set_cons_zero, List.set_cons_succ]
              refine wpAnyH_take (i := 8) (v := (.pointer (some ⟨wr.heap.size, 0, none⟩))) rfl (by kernel_rfl) (by kernel_rfl) (by kernel_rfl) (fun _ _ _ h => h) (Or.inl ⟨by rfl, fun w hSw => by (try dsimp only at hSw); go_simp⟩) (by assumption) ?_
              try simp only [Act.put, List.getElem_toArray, List.getElem_cons_zero, List.getElem_cons_succ, List.setIfInBounds_toArray, List.set_cons_zero, List.set_cons_succ]
              refine wpAnyH_take (i := 9) (v := (.int .u32 (i0 : Int))) rfl (by kernel_rfl) (by kernel_rfl) (by kernel_rfl) (fun _ _ _ h => h) (Or.inl ⟨by rfl, fun w hSw => by (try dsimp only at hSw); go_simp⟩) (by assumption) ?_
              try simp only [Act.put, List.getElem_toArray, List.getElem_cons_zero, List.getElem_cons_succ, List.setIfInBounds_toArray, List.set_cons_zero, List.set_cons_succ]
              refine wpAnyH_take (i := 10) (v := (.bool false)) rfl (by kernel_rfl) (by kernel_rfl) (by kernel_rfl) (fun _ _ _ h => h) (Or.inl ⟨by rfl, fun w hSw => by (try dsimp only at hSw); go_simp⟩) (by assumption) ?_
              try simp only [Act.put, List.getElem_toArray, List.getElem_cons_zero, List.getElem_cons_succ, List.setIfInBounds_toArray, List.set_cons_zero, List.set_cons_succ]
              refine wpAnyH_take (i := 11) (v := (.bool false)) rfl (by kernel_rfl) (by kernel_rfl) (by kernel_rfl) (fun _ _ _ h => h) (Or.inl ⟨by rfl, fun w hSw => by (try dsimp only at hSw); go_simp⟩) (by assumption) ?_
              try simp only [Act.put, List.getElem_toArray, List.getElem_cons_zero, List.getElem_cons_succ, List.setIfInBounds_toArray, List.set_cons_zero, List.set_cons_succ]
              refine wpAnyH_take (i := 12) (v := (.bool false)) rfl (by kernel_rfl) (by kernel_rfl) (by kernel_rfl) (fun _ _ _ h => h) (Or.inl ⟨by rfl, fun w hSw => by (try dsimp only at hSw); go_simp⟩) (by assumption) ?_
              try simp only [Act.put, List.getElem_toArray, List.getElem_cons_zero, List.getElem_cons_succ, List.setIfInBounds_toArray, List.set_cons_zero, List.set_cons_succ]
              refine wpAnyH_take (i := 13) (v := (.int .i64 0)) rfl (by kernel_rfl) (by kernel_rfl) (by kernel_rfl) (fun _ _ _ h => h) (Or.inl ⟨by rfl, fun w hSw => by (try dsimp only at hSw); go_simp⟩) (by assumption) ?_
              try simp only [Act.put, List.getElem_toArray, List.getElem_cons_zero, List.getElem_cons_succ, List.setIfInBounds_toArray, List.set_cons_zero, List.set_cons_succ]
              refine wpAnyH_take (i := 14) (v := (.bool false)) rfl (by kernel_rfl) (by kernel_rfl) (by kernel_rfl) (fun _ _ _ h => h) (Or.inl ⟨by rfl, fun w hSw => by (try dsimp only at hSw); go_simp⟩) (by assumption) ?_
              try simp only [Act.put, List.getElem_toArray, List.getElem_cons_zero, List.getElem_cons_succ, List.setIfInBounds_toArray, List.set_cons_zero, List.set_cons_succ]
              refine wpAnyH_take (i := 15) (v := (.bool false)) rfl (by kernel_rfl) (by kernel_rfl) (by kernel_rfl) (fun _ _ _ h => h) (Or.inl ⟨by rfl, fun w hSw => by (try dsimp only at hSw); go_simp⟩) (by assumption) ?_
              try simp only [Act.put, List.getElem_toArray, List.getElem_cons_zero, List.getElem_cons_succ, List.setIfInBounds_toArray, List.set_cons_zero, List.set_cons_succ]
              refine wpAnyH_take (i := 16) (v := undef) rfl (by kernel_rfl) (by kernel_rfl) (by kernel_rfl) (fun _ _ _ h => h) (Or.inr ⟨by rfl, rfl⟩) (by assumption) ?_
              try simp only [Act.put, List.getElem_toArray, List.getElem_cons_zero, List.getElem_cons_succ, List.setIfInBounds_toArray, List.set_cons_zero, List.set_cons_succ]
              refine wpAnyH_take (i := 17) (v := undef) rfl (by kernel_rfl) (by kernel_rfl) (by kernel_rfl) (fun _ _ _ h => h) (Or.inr ⟨by rfl, rfl⟩) (by assumption) ?_
              try simp only [Act.put, List.getElem_toArray, List.getElem_cons_zero, List.getElem_cons_succ, List.setIfInBounds_toArray, List.set_cons_zero, List.set_cons_succ]
              refine wpAnyH_take (i := 18) (v := undef) rfl (by kernel_rfl) (by kernel_rfl) (by kernel_rfl) (fun _ _ _ h => h) (Or.inr ⟨by rfl, rfl⟩) (by assumption) ?_
              try simp only [Act.put, List.getElem_toArray, List.getElem_cons_zero, List.getElem_cons_succ, List.setIfInBounds_toArray, List.set_cons_zero, List.set_cons_succ]
              refine wpAnyH_take (i := 19) (v := undef) rfl (by kernel_rfl) (by kernel_rfl) (by kernel_rfl) (fun _ _ _ h => h) (Or.inr ⟨by rfl, rfl⟩) (by assumption) ?_
              try simp only [Act.put, List.getElem_toArray, List.getElem_cons_zero, List.getElem_cons_succ, List.setIfInBounds_toArray, List.set_cons_zero, List.set_cons_succ]
              refine wpAnyH_take (i := 20) (v := undef) rfl (by kernel_rfl) (by kernel_rfl) (by kernel_rfl) (fun _ _ _ h => h) (Or.inr ⟨by rfl, rfl⟩) (by assumption) ?_
              try simp only [Act.put, List.getElem_toArray, List.getElem_cons_zero, List.getElem_cons_succ, List.setIfInBounds_toArray, List.set_cons_zero, List.set_cons_succ]
              refine wpAnyH_take (i := 21) (v := undef) rfl (by kernel_rfl) (by kernel_rfl) (by kernel_rfl) (fun _ _ _ h => h) (Or.inr ⟨by rfl, rfl⟩) (by assumption) ?_
              try simp only [Act.put, List.getElem_toArray, List.getElem_cons_zero, List.getElem_cons_succ, List.setIfInBounds_toArray, List.set_cons_zero, List.set_cons_succ]
              refine wpAnyH_take (i := 22) (v := undef) rfl (by kernel_rfl) (by kernel_rfl) (by kernel_rfl) (fun _ _ _ h => h) (Or.inr ⟨by rfl, rfl⟩) (by assumption) ?_
              try simp only [Act.put, List.getElem_toArray, List.getElem_cons_zero, List.getElem_cons_succ, List.setIfInBounds_toArray, List.set_cons_zero, List.set_cons_succ]
              refine wpAnyH_take (i := 23) (v := undef) rfl (by kernel_rfl) (by kernel_rfl) (by kernel_rfl) (fun _ _ _ h => h) (Or.inr ⟨by rfl, rfl⟩) (by assumption) ?_
              try simp only [Act.put, List.getElem_toArray, List.getElem_cons_zero, List.getElem_cons_succ, List.setIfInBounds_toArray, List.set_cons_zero, List.set_cons_succ]
              refine wpAnyH_take (i := 24) (v := undef) rfl (by kernel_rfl) (by kernel_rfl) (by kernel_rfl) (fun _ _ _ h => h) (Or.inr ⟨by rfl, rfl⟩) (by assumption) ?_
              try simp only [Act.put, List.getElem_toArray, List.getElem_cons_zero, List.getElem_cons_succ, List.setIfInBounds_toArray, List.set_cons_zero, List.set_cons_succ]
              refine wpAnyH_take (i := 25) (v := undef) rfl (by kernel_rfl) (by kernel_rfl) (by kernel_rfl) (fun _ _ _ h => h) (Or.inr ⟨by rfl, rfl⟩) (by assumption) ?_
              try simp only [Act.put, List.getElem_toArray, List.getElem_cons_zero, List.getElem_cons_succ, List.setIfInBounds_toArray, List.set_cons_zero, List.set_cons_succ]
              refine wpAnyH_take (i := 26) (v := undef) rfl (by kernel_rfl) (by kernel_rfl) (by kernel_rfl) (fun _ _ _ h => h) (Or.inr ⟨by rfl, rfl⟩) (by assumption) ?_
              try simp only [Act.put, List.getElem_toArray, List.getElem_cons_zero, List.getElem_cons_succ, List.setIfInBounds_toArray, List.set_cons_zero, List.set_cons_succ]
              refine wpAnyH_take (i := 27) (v := undef) rfl (by kernel_rfl) (by kernel_rfl) (by kernel_rfl) (fun _ _ _ h => h) (Or.inr ⟨by rfl, rfl⟩) (by assumption) ?_
              try simp only [Act.put, List.getElem_toArray, List.getElem_cons_zero, List.getElem_cons_succ, List.setIfInBounds_toArray, List.set_cons_zero, List.set_cons_succ]
              refine wpAnyH_take (i := 28) (v := undef) rfl (by kernel_rfl) (by kernel_rfl) (by kernel_rfl) (fun _ _ _ h => h) (Or.inr ⟨by rfl, rfl⟩) (by assumption) ?_
              try simp only [Act.put, List.getElem_toArray, List.getElem_cons_zero, List.getElem_cons_succ, List.setIfInBounds_toArray, List.set_cons_zero, List.set_cons_succ]
              refine wpAnyH_take (i := 29) (v := undef) rfl (by kernel_rfl) (by kernel_rfl) (by kernel_rfl) (fun _ _ _ h => h) (Or.inr ⟨by rfl, rfl⟩) (by assumption) ?_
              try simp only [Act.put, List.getElem_toArray, List.getElem_cons_zero, List.getElem_cons_succ, List.setIfInBounds_toArray, List.set_cons_zero, List.set_cons_succ]
              refine wpAnyH_take (i := 30) (v := undef) rfl (by kernel_rfl) (by kernel_rfl) (by kernel_rfl) (fun _ _ _ h => h) (Or.inr ⟨by rfl, rfl⟩) (by assumption) ?_
              try simp only [Act.put, List.getElem_toArray, List.getElem_cons_zero, List.getElem_cons_succ, List.setIfInBounds_toArray, List.set_cons_zero, List.set_cons_succ]
              refine wpAnyH_take (i := 31) (v := undef) rfl (by kernel_rfl) (by kernel_rfl) (by kernel_rfl) (fun _ _ _ h => h) (Or.inr ⟨by rfl, rfl⟩) (by assumption) ?_
              try simp only [Act.put, List.getElem_toArray, List.getElem_cons_zero, List.getElem_cons_succ, List.setIfInBounds_toArray, List.set_cons_zero, List.set_cons_succ]
              refine wpAnyH_take (i := 32) (v := (.bool false)) rfl (by kernel_rfl) (by kernel_rfl) (by kernel_rfl) (fun _ _ _ h => h) (Or.inl ⟨by rfl, fun w hSw => by (try dsimp only at hSw); go_simp⟩) (by assumption) ?_
              try simp only [Act.put, List.getElem_toArray, List.getElem_cons_zero, List.getElem_cons_succ, List.setIfInBounds_toArray, List.set_cons_zero, List.set_cons_succ]
              refine wpAnyH_take (i := 33) (v := (.bool false)) rfl (by kernel_rfl) (by kernel_rfl) (by kernel_rfl) (fun _ _ _ h => h) (Or.inl ⟨by rfl, fun w hSw => by (try dsimp only at hSw); go_simp⟩) (by assumption) ?_
              try simp only [Act.put, List.getElem_toArray, List.getElem_cons_zero, List.getElem_cons_succ, List.setIfInBounds_toArray, List.set_cons_zero, List.set_cons_succ]
              refine wpAnyH_done (by kernel_rfl) ?_ _
              refine NoPanic.normal ?_
              have c00 := (HLK.out _ hbd).1
              have hm3 := hml.drew
              have hB3 : Below w2.heap.size w2 (wr.alloc (.cells #[.int .u32 (i0 : Int), .float .f64 s] 32)).drew := hBl.drew
              have hz3 : b < (wr.alloc (.cells #[.int .u32 (i0 : Int), .float .f64 s] 32)).drew.heap.size := hbl
              have hm63 : m < maxLen := by simp only [maxLen]; omega
              have hq2 : w2.heap.size ≤ b := by have := HBE.out; omega
              go_wp2_with (at_mapUpdate; refine wpList_mapUpdate_bool rfl (.tmp 81) (.tmp 83) (.const (.bool true)) 30 rfl 24 4 .u32 Try.underlying30 Try.underlying24 Try.underlying4 b m f rfl hm3 hm63 (i0 : Int) true rfl rfl (wfu32 (by omega)) ?_; intro w5 hm5 hg5)
              go_roundw
              case rel => exact ⟨_, m + 1, _, hlt, by go_num, hm5, by omega, HF2, by have := hg5.size; omega, hB3.grown hg5 hB3.size (fun a h => by injection h with h; omega)⟩
              case measure => simp [intOf]; omega
            · obtain ⟨j1, hkj⟩ : ∃ j1, k = j1 + 1 := ⟨k - 1, by omega⟩
              obtain ⟨i1, h1, h2, g1, g2, g3⟩ := HFALL.out j1 hkj
              have hwk : IntKind.i64.wrap ((k : Int) - 1) = (j1 : Int) := by rw [IntWalk.i64_in _ (by omega)]; omega
              have hkp' : (0 : Int) < (k : Int) := by omega
              have hwj : IntKind.i64.wrap (j1 : Int) = (j1 : Int) := IntWalk.i64_in _ (by omega)
              have hj1 : (j1 : Int) < (TL.length : Int) := by omega
              have hj10 : (0 : Int) ≤ (j1 : Int) := by omega
              have hi1n : (i1 : Int) < (n : Int) := by omega
              have hi10 : (0 : Int) ≤ (i1 : Int) := by omega
              have hwi1 : IntKind.i64.wrap (i1 : Int) = (i1 : Int) := IntWalk.i64_in _ (by omega)
              have HKJ := Lib.hid hkj
              have HOY := HOK.out L[i1] (List.getElem_mem h1)
              rw [hLX] at g3
              have hBw : ∀ w', Below (wr.alloc (.cells #[.int .u32 (i0 : Int), .float .f64 s] 32)).heap.size (wr.alloc (.cells #[.int .u32 (i0 : Int), .float .f64 s] 32)) w' → Below w2.heap.size w2 w' := fun w' hb => hBl.trans (hb.mono hBl.size)
              have hS1 : ∀ w', Below (wr.alloc (.cells #[.int .u32 (i0 : Int), .float .f64 s] 32)).heap.size (wr.alloc (.cells #[.int .u32 (i0 : Int), .float .f64 s] 32)) w' → (∀ u, (hitC TL[j1])[0]? = some u → w'.cell? (ad2.add (j1 * 2)) = some u) ∧ (∀ j u, j < 3 → (scC L[i0])[j]? = some u → w'.cell? ⟨(ad1.add (i0 * 3)).block, (ad1.add (i0 * 3)).off + j, none⟩ = some u) ∧ (∀ u, (scC L[i0])[0]? = some u → w'.cell? (ad1.add (i0 * 3)) = some u) ∧ (∀ u, (scC L[i1])[0]? = some u → w'.cell? (ad1.add (i1 * 3)) = some u) ∧ (∀ j u, j < 3 → (scC L[i1])[j]? = some u → w'.cell? ⟨(ad1.add (i1 * 3)).block, (ad1.add (i1 * 3)).off + j, none⟩ = some u) := fun w' hb => by
                obtain ⟨ad2, _, e2, _, c0, _⟩ := (hrt.below (hBw w' hb)).at' hitC_len (by omega) h2
                injection e2 with e2
                subst e2
                obtain ⟨ad1, _, e1, _, d0, d1⟩ := (hro.below (hBw w' hb)).at' scC_len (by omega) (show i1 < n by omega)
                injection e1 with e1
                subst e1
                obtain ⟨ad1, _, e1, _, f0, f1⟩ := (hro.below (hBw w' hb)).at' scC_len (by omega) (show i0 < n by omega)
                injection e1 with e1
                subst e1
                exact ⟨c0, f1, f0, d0, d1⟩
              rw [g1] at hS1 g2
              rw [hLX] at hS1
              clear g1
              generalize L[i1] = Y at hS1 g2 g3 HOY
              obtain ⟨d1', id1, s1⟩ := Y
              simp only at g2
              subst g2
              have HBET : Hid (∀ w', Below (wr.alloc (.cells #[.int .u32 (i0 : Int), .float .f64 s] 32)).heap.size (wr.alloc (.cells #[.int .u32 (i0 : Int), .float .f64 s] 32)) w' → Calls Try.prog 10 #[(.agg #[.int .i64 d, .int .u32 (i0 : Int), .float .f64 s]), (.agg #[.int .i64 d1', .int .u32 (i1 : Int), .float .f64 s1]), .int .i64 o] w' fun e w'' => e = .returned (.bool false) ∧ Below (wr.alloc (.cells #[.int .u32 (i0 : Int), .float .f64 s] 32)).heap.size (wr.alloc (.cells #[.int .u32 (i0 : Int), .float .f64 s] 32)) w'') := Lib.hid fun w' hb => by
                have := better_go o (d, (i0 : Int), s) (d1', (i1 : Int), s1) HOX.out HOY hb
                rwa [g3] at this
              have hS2 : ∀ w', Below (wr.alloc (.cells #[.int .u32 (i0 : Int), .float .f64 s] 32)).heap.size (wr.alloc (.cells #[.int .u32 (i0 : Int), .float .f64 s] 32)) w' → (w'.cell? ⟨wr.heap.size, 0, none⟩ = some (.int .u32 (i0 : Int)) ∧ (Instr.lookup 30 (.map (some b)) (.int .u32 (i0 : Int)) false).run Try.prog w' = .ok (.bool false) w' ∧ w'.cell? (ad1.add (i0 * 3)) = some (.int .i64 d) ∧ w'.cell? ⟨(ad1.add (i0 * 3)).block, (ad1.add (i0 * 3)).off + 1, none⟩ = some (.int .u32 (i0 : Int)) ∧ w'.cell? ⟨(ad1.add (i0 * 3)).block, (ad1.add (i0 * 3)).off + 2, none⟩ = some (.float .f64 s) ∧ w'.cell? (ad2.add (j1 * 2)) = some (.int .u32 (i1 : Int)) ∧ w'.cell? (ad1.add (i1 * 3)) = some (.int .i64 d1') ∧ w'.cell? ⟨(ad1.add (i1 * 3)).block, (ad1.add (i1 * 3)).off + 1, none⟩ = some (.int .u32 (i1 : Int)) ∧ w'.cell? ⟨(ad1.add (i1 * 3)).block, (ad1.add (i1 * 3)).off + 2, none⟩ = some (.float .f64 s1)) := fun w' hb => by
                obtain ⟨q1, q2⟩ := HLK.out w' hb
                obtain ⟨p0, p1, p2, p3, p4⟩ := hS1 w' hb
                exact ⟨q1, q2, p2 _ rfl, p1 1 _ (by omega) rfl, p1 2 _ (by omega) rfl, p0 _ rfl, p3 _ rfl, p4 1 _ (by omega) rfl, p4 2 _ (by omega) rfl⟩
              have HSB := Lib.hid hS2
              clear hS2 hS1 HOY g3
              refine wp_region_noPanic ?_
              refine wp_region_held_drew (S := (fun w' : World => w'.cell? ⟨wr.heap.size, 0, none⟩ = some (.int .u32 (i0 : Int)) ∧ (Instr.lookup 30 (.map (some b)) (.int .u32 (i0 : Int)) false).run Try.prog w' = .ok (.bool false) w' ∧ w'.cell? (ad1.add (i0 * 3)) = some (.int .i64 d) ∧ w'.cell? ⟨(ad1.add (i0 * 3)).block, (ad1.add (i0 * 3)).off + 1, none⟩ = some (.int .u32 (i0 : Int)) ∧ w'.cell? ⟨(ad1.add (i0 * 3)).block, (ad1.add (i0 * 3)).off + 2, none⟩ = some (.float .f64 s) ∧ w'.cell? (ad2.add (j1 * 2)) = some (.int .u32 (i1 : Int)) ∧ w'.cell? (ad1.add (i1 * 3)) = some (.int .i64 d1') ∧ w'.cell? ⟨(ad1.add (i1 * 3)).block, (ad1.add (i1 * 3)).off + 1, none⟩ = some (.int .u32 (i1 : Int)) ∧ w'.cell? ⟨(ad1.add (i1 * 3)).block, (ad1.add (i1 * 3)).off + 2, none⟩ = some (.float .f64 s1))) (by kernel_rfl) (HSB.out _ hbd) (fun hHeld => ?_)
              refine wpAnyH_take (i := 0) (v := (.pointer (some ⟨wr.heap.size, 0, none⟩))) rfl (by kernel_rfl) (by kernel_rfl) (by kernel_rfl) (fun _ _ _ h => h) (Or.inl ⟨by rfl, fun w hSw => by (try dsimp only at hSw); go_simp⟩) (by assumption) ?_
              try simp only [Act.put, List.getElem_toArray, List.getElem_cons_zero, List.setIfInBounds_toArray, List.set_cons_zero, List.set_cons_succ]
              refine wpAnyH_take (i := 1) (v := (.int .u32 (i0 : Int))) rfl (by kernel_rfl) (by kernel_rfl) (by kernel_rfl) (fun _ _ _ h => h) (Or.inl ⟨by rfl, fun w hSw => by (try dsimp only at hSw); go_simp⟩) (by assumption) ?_
              try simp only [Act.put, List.getElem_toArray, List.getElem_cons_zero, List.getElem_cons_succ, List.setIfInBounds_toArray, List.set_cons_zero, List.set_cons_succ]
              refine wpAnyH_take (i := 2) (v := (.int .i64 (i0 : Int))) rfl (by kernel_rfl) (by kernel_rfl) (by kernel_rfl) (fun _ _ _ h => h) (Or.inl ⟨by rfl, fun w hSw => by (try dsimp only at hSw); go_simp⟩) (by assumption) ?_
              try simp only [Act.put, List.getElem_toArray, List.getElem_cons_zero, List.getElem_cons_succ, List.setIfInBounds_toArray, List.set_cons_zero, List.set_cons_succ]
              refine wpAnyH_take (i := 3) (v := (.slice (some ad1) n c1)) rfl (by kernel_rfl) (by kernel_rfl) (by kernel_rfl) (fun _ _ _ h => h) (Or.inl ⟨by rfl, fun w hSw => by (try dsimp only at hSw); go_simp⟩) (by assumption) ?_
              try simp only [Act.put, List.getElem_toArray, List.getElem_cons_zero, List.getElem_cons_succ, List.setIfInBounds_toArray, List.set_cons_zero, List.set_cons_succ]
              refine wpAnyH_take (i := 4) (v := (.int .i64 (n : Int))) rfl (by kernel_rfl) (by kernel_rfl) (by kernel_rfl) (fun _ _ _ h => h) (Or.inl ⟨by rfl, fun w hSw => by (try dsimp only at hSw); go_simp⟩) (by assumption) ?_
              try simp only [Act.put, List.getElem_toArray, List.getElem_cons_zero, List.getElem_cons_succ, List.setIfInBounds_toArray, List.set_cons_zero, List.set_cons_succ]
              refine wpAnyH_take (i := 5) (v := (.bool false)) rfl (by kernel_rfl) (by kernel_rfl) (by kernel_rfl) (fun _ _ _ h => h) (Or.inl ⟨by rfl, fun w hSw => by (try dsimp only at hSw); go_simp⟩) (by assumption) ?_
              try simp only [Act.put, List.getElem_toArray, List.getElem_cons_zero, List.getElem_cons_succ, List.setIfInBounds_toArray, List.set_cons_zero, List.set_cons_succ]
              refine wpAnyH_take (i := 6) (v := (.bool false)) rfl (by kernel_rfl) (by kernel_rfl) (by kernel_rfl) (fun _ _ _ h => h) (Or.inl ⟨by rfl, fun w hSw => by (try dsimp only at hSw); go_simp⟩) (by assumption) ?_
              try simp only [Act.put, List.getElem_toArray, List.getElem_cons_zero, List.getElem_cons_succ, List.setIfInBounds_toArray, List.set_cons_zero, List.set_cons_succ]
              refine wpAnyH_take (i := 7) (v := (.map (some b))) rfl (by kernel_rfl) (by kernel_rfl) (by kernel_rfl) (fun _ _ _ h => h) (Or.inl ⟨by rfl, fun _ _ => rfl⟩) (by assumption) ?_
              try simp only [Act.put, List.getElem_toArray, List.getElem_cons_zero, List.getElem_cons_succ, List.setIfInBounds_toArray, List.set_cons_zero, List.set_cons_succ]
              refine wpAnyH_take (i := 8) (v := (.pointer (some ⟨wr.heap.size, 0, none⟩))) rfl (by kernel_rfl) (by kernel_rfl) (by kernel_rfl) (fun _ _ _ h => h) (Or.inl ⟨by rfl, fun w hSw => by (try dsimp only at hSw); go_simp⟩) (by assumption) ?_
              try simp only [Act.put, List.getElem_toArray, List.getElem_cons_zero, List.getElem_cons_succ, List.setIfInBounds_toArray, List.set_cons_zero, List.set_cons_succ]
              refine wpAnyH_take (i := 9) (v := (.int .u32 (i0 : Int))) rfl (by kernel_rfl) (by kernel_rfl) (by kernel_rfl) (fun _ _ _ h => h) (Or.inl ⟨by rfl, fun w hSw => by (try dsimp only at hSw); go_simp⟩) (by assumption) ?_
              try simp only [Act.put, List.getElem_toArray, List.getElem_cons_zero, List.getElem_cons_succ, List.setIfInBounds_toArray, List.set_cons_zero, List.set_cons_succ]
              refine wpAnyH_take (i := 10) (v := (.bool false)) rfl (by kernel_rfl) (by kernel_rfl) (by kernel_rfl) (fun _ _ _ h => h) (Or.inl ⟨by rfl, fun w hSw => by (try dsimp only at hSw); go_simp⟩) (by assumption) ?_
              try simp only [Act.put, List.getElem_toArray, List.getElem_cons_zero, List.getElem_cons_succ, List.setIfInBounds_toArray, List.set_cons_zero, List.set_cons_succ]
              refine wpAnyH_take (i := 11) (v := (.bool false)) rfl (by kernel_rfl) (by kernel_rfl) (by kernel_rfl) (fun _ _ _ h => h) (Or.inl ⟨by rfl, fun w hSw => by (try dsimp only at hSw); go_simp⟩) (by assumption) ?_
              try simp only [Act.put, List.getElem_toArray, List.getElem_cons_zero, List.getElem_cons_succ, List.setIfInBounds_toArray, List.set_cons_zero, List.set_cons_succ]
              refine wpAnyH_take (i := 12) (v := (.bool false)) rfl (by kernel_rfl) (by kernel_rfl) (by kernel_rfl) (fun _ _ _ h => h) (Or.inl ⟨by rfl, fun w hSw => by (try dsimp only at hSw); go_simp⟩) (by assumption) ?_
              try simp only [Act.put, List.getElem_toArray, List.getElem_cons_zero, List.getElem_cons_succ, List.setIfInBounds_toArray, List.set_cons_zero, List.set_cons_succ]
              refine wpAnyH_take (i := 13) (v := (.int .i64 (k : Int))) rfl (by kernel_rfl) (by kernel_rfl) (by kernel_rfl) (fun _ _ _ h => h) (Or.inl ⟨by rfl, fun w hSw => by (try dsimp only at hSw); go_simp⟩) (by assumption) ?_
              try simp only [Act.put, List.getElem_toArray, List.getElem_cons_zero, List.getElem_cons_succ, List.setIfInBounds_toArray, List.set_cons_zero, List.set_cons_succ]
              refine wpAnyH_take (i := 14) (v := (.bool true)) rfl (by kernel_rfl) (by kernel_rfl) (by kernel_rfl) (fun _ _ _ h => h) (Or.inl ⟨by rfl, fun w hSw => by (try dsimp only at hSw); go_simp⟩) (by assumption) ?_
              try simp only [Act.put, List.getElem_toArray, List.getElem_cons_zero, List.getElem_cons_succ, List.setIfInBounds_toArray, List.set_cons_zero, List.set_cons_succ]
              refine wpAnyH_take (i := 15) (v := (.bool true)) rfl (by kernel_rfl) (by kernel_rfl) (by kernel_rfl) (fun _ _ _ h => h) (Or.inl ⟨by rfl, fun w hSw => by (try dsimp only at hSw); go_simp⟩) (by assumption) ?_
              try simp only [Act.put, List.getElem_toArray, List.getElem_cons_zero, List.getElem_cons_succ, List.setIfInBounds_toArray, List.set_cons_zero, List.set_cons_succ]
              refine wpAnyH_take (i := 16) (v := (.slice (some ad1) n c1)) rfl (by kernel_rfl) (by kernel_rfl) (by kernel_rfl) (fun _ _ _ h => h) (Or.inl ⟨by rfl, fun w hSw => by (try dsimp only at hSw); go_simp⟩) (by assumption) ?_
              try simp only [Act.put, List.getElem_toArray, List.getElem_cons_zero, List.getElem_cons_succ, List.setIfInBounds_toArray, List.set_cons_zero, List.set_cons_succ]
              refine wpAnyH_take (i := 17) (v := (.pointer (some ⟨wr.heap.size, 0, none⟩))) rfl (by kernel_rfl) (by kernel_rfl) (by kernel_rfl) (fun _ _ _ h => h) (Or.inl ⟨by rfl, fun w hSw => by (try dsimp only at hSw); go_simp⟩) (by assumption) ?_
              try simp only [Act.put, List.getElem_toArray, List.getElem_cons_zero, List.getElem_cons_succ, List.setIfInBounds_toArray, List.set_cons_zero, List.set_cons_succ]
              refine wpAnyH_take (i := 18) (v := (.int .u32 (i0 : Int))) rfl (by kernel_rfl) (by kernel_rfl) (by kernel_rfl) (fun _ _ _ h => h) (Or.inl ⟨by rfl, fun w hSw => by (try dsimp only at hSw); go_simp⟩) (by assumption) ?_
              try simp only [Act.put, List.getElem_toArray, List.getElem_cons_zero, List.getElem_cons_succ, List.setIfInBounds_toArray, List.set_cons_zero, List.set_cons_succ]
              refine wpAnyH_take (i := 19) (v := (.pointer (some (ad1.add (i0 * 3))))) rfl (by kernel_rfl) (by kernel_rfl) (by kernel_rfl) (fun _ _ _ h => h) (Or.inl ⟨by rfl, fun w hSw => by (try dsimp only at hSw); go_simp⟩) (by assumption) ?_
              try simp only [Act.put, List.getElem_toArray, List.getElem_cons_zero, List.getElem_cons_succ, List.setIfInBounds_toArray, List.set_cons_zero, List.set_cons_succ]
              refine wpAnyH_take (i := 20) (v := (.agg #[.int .i64 d, .int .u32 (i0 : Int), .float .f64 s])) rfl (by kernel_rfl) (by kernel_rfl) (by kernel_rfl) (fun _ _ _ h => h) (Or.inl ⟨by rfl, fun w hSw => by (try dsimp only at hSw); go_simp⟩) (by assumption) ?_
              try simp only [Act.put, List.getElem_toArray, List.getElem_cons_zero, List.getElem_cons_succ, List.setIfInBounds_toArray, List.set_cons_zero, List.set_cons_succ]
              refine wpAnyH_take (i := 21) (v := (.slice (some ad1) n c1)) rfl (by kernel_rfl) (by kernel_rfl) (by kernel_rfl) (fun _ _ _ h => h) (Or.inl ⟨by rfl, fun w hSw => by (try dsimp only at hSw); go_simp⟩) (by assumption) ?_
              try simp only [Act.put, List.getElem_toArray, List.getElem_cons_zero, List.getElem_cons_succ, List.setIfInBounds_toArray, List.set_cons_zero, List.set_cons_succ]
              refine wpAnyH_take (i := 22) (v := (.slice (some ad2) TL.length c2)) rfl (by kernel_rfl) (by kernel_rfl) (by kernel_rfl) (fun _ _ _ h => h) (Or.inl ⟨by rfl, fun w hSw => by (try dsimp only at hSw); go_simp⟩) (by assumption) ?_
              try simp only [Act.put, List.getElem_toArray, List.getElem_cons_zero, List.getElem_cons_succ, List.setIfInBounds_toArray, List.set_cons_zero, List.set_cons_succ]
              refine wpAnyH_take (i := 23) (v := (.int .i64 (k : Int))) rfl (by kernel_rfl) (by kernel_rfl) (by kernel_rfl) (fun _ _ _ h => h) (Or.inl ⟨by rfl, fun w hSw => by (try dsimp only at hSw); go_simp⟩) (by assumption) ?_
              try simp only [Act.put, List.getElem_toArray, List.getElem_cons_zero, List.getElem_cons_succ, List.setIfInBounds_toArray, List.set_cons_zero, List.set_cons_succ]
              refine wpAnyH_take (i := 24) (v := (.int .i64 (j1 : Int))) rfl (by kernel_rfl) (by kernel_rfl) (by kernel_rfl) (fun _ _ _ h => h) (Or.inl ⟨by rfl, fun w hSw => by (try dsimp only at hSw); go_simp⟩) (by assumption) ?_
              try simp only [Act.put, List.getElem_toArray, List.getElem_cons_zero, List.getElem_cons_succ, List.setIfInBounds_toArray, List.set_cons_zero, List.set_cons_succ]
              refine wpAnyH_take (i := 25) (v := (.pointer (some (ad2.add (j1 * 2))))) rfl (by kernel_rfl) (by kernel_rfl) (by kernel_rfl) (fun _ _ _ h => h) (Or.inl ⟨by rfl, fun w hSw => by (try dsimp only at hSw); go_simp⟩) (by assumption) ?_
              try simp only [Act.put, List.getElem_toArray, List.getElem_cons_zero, List.getElem_cons_succ, List.setIfInBounds_toArray, List.set_cons_zero, List.set_cons_succ]
              refine wpAnyH_take (i := 26) (v := (.pointer (some (ad2.add (j1 * 2))))) rfl (by kernel_rfl) (by kernel_rfl) (by kernel_rfl) (fun _ _ _ h => h) (Or.inl ⟨by rfl, fun w hSw => by (try dsimp only at hSw); go_simp⟩) (by assumption) ?_
              try simp only [Act.put, List.getElem_toArray, List.getElem_cons_zero, List.getElem_cons_succ, List.setIfInBounds_toArray, List.set_cons_zero, List.set_cons_succ]
              refine wpAnyH_take (i := 27) (v := (.int .u32 (i1 : Int))) rfl (by kernel_rfl) (by kernel_rfl) (by kernel_rfl) (fun _ _ _ h => h) (Or.inl ⟨by rfl, fun w hSw => by (try dsimp only at hSw); go_simp⟩) (by assumption) ?_
              try simp only [Act.put, List.getElem_toArray, List.getElem_cons_zero, List.getElem_cons_succ, List.setIfInBounds_toArray, List.set_cons_zero, List.set_cons_succ]
              refine wpAnyH_take (i := 28) (v := (.pointer (some (ad1.add (i1 * 3))))) rfl (by kernel_rfl) (by kernel_rfl) (by kernel_rfl) (fun _ _ _ h => h) (Or.inl ⟨by rfl, fun w hSw => by (try dsimp only at hSw); go_simp⟩) (by assumption) ?_
              try simp only [Act.put, List.getElem_toArray, List.getElem_cons_zero, List.getElem_cons_succ, List.setIfInBounds_toArray, List.set_cons_zero, List.set_cons_succ]
              refine wpAnyH_take (i := 29) (v := (.agg #[.int .i64 d1', .int .u32 (i1 : Int), .float .f64 s1])) rfl (by kernel_rfl) (by kernel_rfl) (by kernel_rfl) (fun _ _ _ h => h) (Or.inl ⟨by rfl, fun w hSw => by (try dsimp only at hSw); go_simp⟩) (by assumption) ?_
              try simp only [Act.put, List.getElem_toArray, List.getElem_cons_zero, List.getElem_cons_succ, List.setIfInBounds_toArray, List.set_cons_zero, List.set_cons_succ]
              refine wpAnyH_take (i := 30) (v := (.int .i64 o)) rfl (by kernel_rfl) (by kernel_rfl) (by kernel_rfl) (fun _ _ _ h => h) (Or.inl ⟨by rfl, fun w hSw => by (try dsimp only at hSw); go_simp⟩) (by assumption) ?_
              try simp only [Act.put, List.getElem_toArray, List.getElem_cons_zero, List.getElem_cons_succ, List.setIfInBounds_toArray, List.set_cons_zero, List.set_cons_succ]
              refine wpAnyH_ready (rs := [31]) (by kernel_rfl) (by simp) ?_
              refine AllReadyH.cons (o := _) rfl (fun K hK => ?_) AllReadyH.nil
              go_simp
              go_at_call 10; refine (HBET.out _ (by assumption)).mono ?_; rintro e w8 ⟨rfl, hb8⟩
              refine hK.out _ _ (HSB.out _ (by assumption)) (fun hHeld => ?_)
              clear hK K
              try simp only [Act.put, List.getElem_toArray, List.getElem_cons_zero, List.getElem_cons_succ, List.setIfInBounds_toArray, List.set_cons_zero, List.set_cons_succ]
              refine wpAnyH_take (i := 32) (v := (.bool false)) rfl (by kernel_rfl) (by kernel_rfl) (by kernel_rfl) (fun _ _ _ h => h) (Or.inl ⟨by rfl, fun w hSw => by (try dsimp only at hSw); go_simp⟩) (by assumption) ?_
              try simp only [Act.put, List.getElem_toArray, List.getElem_cons_zero, List.getElem_cons_succ, List.setIfInBounds_toArray, List.set_cons_zero, List.set_cons_succ]
              refine wpAnyH_take (i := 33) (v := (.bool false)) rfl (by kernel_rfl) (by kernel_rfl) (by kernel_rfl) (fun _ _ _ h => h) (Or.inl ⟨by rfl, fun w hSw => by (try dsimp only at hSw); go_simp⟩) (by assumption) ?_
              try simp only [Act.put, List.getElem_toArray, List.getElem_cons_zero, List.getElem_cons_succ, List.setIfInBounds_toArray, List.set_cons_zero, List.set_cons_succ]
              refine wpAnyH_done (by kernel_rfl) ?_ _
              refine NoPanic.normal ?_
              have c00 := (HLK.out _ hb8).1
              have hm3 := hml.below hb8 hbl
              have hB3 : Below w2.heap.size w2 w8 := hBl.trans (hb8.mono hBl.size)
              have hz3 : b < w8.heap.size := by have := hb8.size; omega
              have hm63 : m < maxLen := by simp only [maxLen]; omega
              have hq2 : w2.heap.size ≤ b := by have := HBE.out; omega
              go_wp2_with (at_mapUpdate; refine wpList_mapUpdate_bool rfl (.tmp 81) (.tmp 83) (.const (.bool true)) 30 rfl 24 4 .u32 Try.underlying30 Try.underlying24 Try.underlying4 b m f rfl hm3 hm63 (i0 : Int) true rfl rfl (wfu32 (by omega)) ?_; intro w5 hm5 hg5)
              go_roundw
              case rel => exact ⟨_, m + 1, _, hlt, by go_num, hm5, by omega, HF2, by have := hg5.size; omega, hB3.grown hg5 hB3.size (fun a h => by injection h with h; omega)⟩
              case measure => simp [intOf]; omega
          · obtain rfl : k = TL.length := by omega
            have hlt' : ¬ (TL.length : Int) < (TL.length : Int) := by omega
            go_wp2_with fail
            obtain ⟨w3, hw3⟩ : ∃ w3, w3 = wr := ⟨_, rfl⟩
            subst hw3
            go_loopw [87] (fun i wr => ∃ k : Nat, k ≤ n ∧ i = .int .i64 k ∧ BMap Try.prog 24 4 .u32 wr b m f ∧ b < wr.heap.size ∧ Below w2.heap.size w2 wr) (fun i _ => n - (intOf i).toNat)
            case atStart => exact ⟨0, by omega, rfl, hm, hbw, hB⟩
            case round =>
              clear hm hbw hB
              obtain ⟨k, hk, rfl, hm, hbw, hB⟩ := hrel
              by_cases hlt : k < n
              · obtain ⟨ad1, hil, rfl, hbl1, d0, hcell⟩ := (hro.below hB).at' scC_len (by omega) hlt
                have d0 := d0 _ rfl
                have d1 := hcell 1 _ (by omega) rfl
                have d2 := hcell 2 _ (by omega) rfl
                clear hcell
                have HOX := Lib.hid (HOK.out L[k] (List.getElem_mem hil))
                have hGk := HGd.out k hil
                have H4k := Lib.hid (H4.out k hil)
                generalize hLX : L[k] = X at *
                obtain ⟨d, id, s⟩ := X
                simp only at hGk
                subst hGk
                simp only at d0 d1 d2
                have hwu : IntKind.u32.wrap (k : Int) = (k : Int) := IntWalk.u32_in _ (by omega)
                have hlt' : (k : Int) < (n : Int) := by omega
                have hk0 : (0 : Int) ≤ (k : Int) := by omega
                have hml := hm.alloc (.cells #[.int .i64 d, .int .u32 (k : Int), .float .f64 s] 27)
                have hBl := hB.alloc hB.size (.cells #[.int .i64 d, .int .u32 (k : Int), .float .f64 s] 27)
                have hrw := Row.new wr 27 [.int .i64 d, .int .u32 (k : Int), .float .f64 s]
                have hbl : b < (wr.alloc (.cells #[.int .i64 d, .int .u32 (k : Int), .float .f64 s] 27)).heap.size := hml.lt
                have hzw : w2.heap.size ≤ wr.heap.size := hB.size
                go_wp2_with fail
                have hbd : Below (wr.alloc (.cells #[.int .i64 d, .int .u32 (k : Int), .float .f64 s] 27)).heap.size (wr.alloc (.cells #[.int .i64 d, .int .u32 (k : Int), .float .f64 s] 27)) (wr.alloc (.cells #[.int .i64 d, .int .u32 (k : Int), .float .f64 s] 27)).drew := (Below.refl _ _).drew
                have HLK := Lib.hid fun w' (hb : Below (wr.alloc (.cells #[.int .i64 d, .int .u32 (k : Int), .float .f64 s] 27)).heap.size (wr.alloc (.cells #[.int .i64 d, .int .u32 (k : Int), .float .f64 s] 27)) w') => (hml.below hb hbl).look Try.underlying30 Try.underlying24 Try.underlying4 (fun _ => rfl) (k : Int) (wfu32 (by omega))
                have HCELL := Lib.hid fun w' (hb : Below (wr.alloc (.cells #[.int .i64 d, .int .u32 (k : Int), .float .f64 s] 27)).heap.size (wr.alloc (.cells #[.int .i64 d, .int .u32 (k : Int), .float .f64 s] 27)) w') => (hrw.call hb).cell
                cases hf : f (k : Int)
                · rw [hf] at HLK
                  rcases Nat.eq_zero_or_pos TL.length with h0 | h0
                  · have hz0 : ¬ (0 : Int) < (TL.length : Int) := by omega
                    have HSB := HLK
                    refine wp_region_noPanic ?_
                    refine wp_region_held_drew (S := (fun w' : World => (Instr.lookup 30 (.map (some b)) (.int .u32 (k : Int)) false).run Try.prog w' = .ok (.bool false) w')) (by kernel_rfl) (HSB.out _ hbd) (fun hHeld => ?_)
                    refine wpAnyH_take (i := 0) (v := (.map (some b))) rfl (by kernel_rfl) (by kernel_rfl) (by kernel_rfl) (fun _ _ _ h => h) (Or.inl ⟨by rfl, fun _ _ => rfl⟩) (by assumption) ?_
                    try simp only [Act.put, List.getElem_toArray, List.getElem_cons_zero, List.setIfInBounds_toArray, List.set_cons_zero, List.set_cons_succ]
                    refine wpAnyH_take (i := 1) (v := (.int .i64 (k : Int))) rfl (by kernel_rfl) (by kernel_rfl) (by kernel_rfl) (fun _ _ _ h => h) (Or.inl ⟨by rfl, fun w hSw => by (try dsimp only at hSw); go_simp⟩) (by assumption) ?_
                    try simp only [Act.put, List.getElem_toArray, List.getElem_cons_zero, List.getElem_cons_succ, List.setIfInBounds_toArray, List.set_cons_zero, List.set_cons_succ]
                    refine wpAnyH_take (i := 2) (v := (.int .u32 (k : Int))) rfl (by kernel_rfl) (by kernel_rfl) (by kernel_rfl) (fun _ _ _ h => h) (Or.inl ⟨by rfl, fun w hSw => by (try dsimp only at hSw); go_simp⟩) (by assumption) ?_
                    try simp only [Act.put, List.getElem_toArray, List.getElem_cons_zero, List.getElem_cons_succ, List.setIfInBounds_toArray, List.set_cons_zero, List.set_cons_succ]
                    refine wpAnyH_take (i := 3) (v := (.bool false)) rfl (by kernel_rfl) (by kernel_rfl) (by kernel_rfl) (fun _ _ _ h => h) (Or.inl ⟨by rfl, fun w hSw => by (try dsimp only at hSw); go_simp⟩) (by assumption) ?_
                    try simp only [Act.put, List.getElem_toArray, List.getElem_cons_zero, List.getElem_cons_succ, List.setIfInBounds_toArray, List.set_cons_zero, List.set_cons_succ]
                    refine wpAnyH_take (i := 4) (v := (.bool true)) rfl (by kernel_rfl) (by kernel_rfl) (by kernel_rfl) (fun _ _ _ h => h) (Or.inl ⟨by rfl, fun w hSw => by (try dsimp only at hSw); go_simp⟩) (by assumption) ?_
                    try simp only [Act.put, List.getElem_toArray, List.getElem_cons_zero, List.getElem_cons_succ, List.setIfInBounds_toArray, List.set_cons_zero, List.set_cons_succ]
                    refine wpAnyH_take (i := 5) (v := (.bool true)) rfl (by kernel_rfl) (by kernel_rfl) (by kernel_rfl) (fun _ _ _ h => h) (Or.inl ⟨by rfl, fun w hSw => by (try dsimp only at hSw); go_simp⟩) (by assumption) ?_
                    try simp only [Act.put, List.getElem_toArray, List.getElem_cons_zero, List.getElem_cons_succ, List.setIfInBounds_toArray, List.set_cons_zero, List.set_cons_succ]
                    refine wpAnyH_take (i := 6) (v := (.int .i64 (TL.length : Int))) rfl (by kernel_rfl) (by kernel_rfl) (by kernel_rfl) (fun _ _ _ h => h) (Or.inl ⟨by rfl, fun w hSw => by (try dsimp only at hSw); go_simp⟩) (by assumption) ?_
                    try simp only [Act.put, List.getElem_toArray, List.getElem_cons_zero, List.getElem_cons_succ, List.setIfInBounds_toArray, List.set_cons_zero, List.set_cons_succ]
                    refine wpAnyH_take (i := 7) (v := (.bool false)) rfl (by kernel_rfl) (by kernel_rfl) (by kernel_rfl) (fun _ _ _ h => h) (Or.inl ⟨by rfl, fun w hSw => by (try dsimp only at hSw); go_simp⟩) (by assumption) ?_
                    try simp only [Act.put, List.getElem_toArray, List.getElem_cons_zero, List.getElem_cons_succ, List.setIfInBounds_toArray, List.set_cons_zero, List.set_cons_succ]
                    refine wpAnyH_take (i := 8) (v := (.bool false)) rfl (by kernel_rfl) (by kernel_rfl) (by kernel_rfl) (fun _ _ _ h => h) (Or.inl ⟨by rfl, fun w hSw => by (try dsimp only at hSw); go_simp⟩) (by assumption) ?_
                    try simp only [Act.put, List.getElem_toArray, List.getElem_cons_zero, List.getElem_cons_succ, List.setIfInBounds_toArray, List.set_cons_zero, List.set_cons_succ]
                    refine wpAnyH_take (i := 9) (v := (.bool false)) rfl (by kernel_rfl) (by kernel_rfl) (by kernel_rfl) (fun _ _ _ h => h) (Or.inl ⟨by rfl, fun w hSw => by (try dsimp only at hSw); go_simp⟩) (by assumption) ?_
                    try simp only [Act.put, List.getElem_toArray, List.getElem_cons_zero, List.getElem_cons_succ, List.setIfInBounds_toArray, List.set_cons_zero, List.set_cons_succ]
                    refine wpAnyH_take (i := 10) (v := undef) rfl (by kernel_rfl) (by kernel_rfl) (by kernel_rfl) (fun _ _ _ h => h) (Or.inr ⟨by rfl, rfl⟩) (by assumption) ?_
                    try simp only [Act.put, List.getElem_toArray, List.getElem_cons_zero, List.getElem_cons_succ, List.setIfInBounds_toArray, List.set_cons_zero, List.set_cons_succ]
                    refine wpAnyH_take (i := 11) (v := undef) rfl (by kernel_rfl) (by kernel_rfl) (by kernel_rfl) (fun _ _ _ h => h) (Or.inr ⟨by rfl, rfl⟩) (by assumption) ?_
                    try simp only [Act.put, List.getElem_toArray, List.getElem_cons_zero, List.getElem_cons_succ, List.setIfInBounds_toArray, List.set_cons_zero, List.set_cons_succ]
                    refine wpAnyH_take (i := 12) (v := undef) rfl (by kernel_rfl) (by kernel_rfl) (by kernel_rfl) (fun _ _ _ h => h) (Or.inr ⟨by rfl, rfl⟩) (by assumption) ?_
                    try simp only [Act.put, List.getElem_toArray, List.getElem_cons_zero, List.getElem_cons_succ, List.setIfInBounds_toArray, List.set_cons_zero, List.set_cons_succ]
                    refine wpAnyH_take (i := 13) (v := undef) rfl (by kernel_rfl) (by kernel_rfl) (by kernel_rfl) (fun _ _ _ h => h) (Or.inr ⟨by rfl, rfl⟩) (by assumption) ?_
                    try simp only [Act.put, List.getElem_toArray, List.getElem_cons_zero, List.getElem_cons_succ, List.setIfInBounds_toArray, List.set_cons_zero, List.set_cons_succ]
                    refine wpAnyH_take (i := 14) (v := undef) rfl (by kernel_rfl) (by kernel_rfl) (by kernel_rfl) (fun _ _ _ h => h) (Or.inr ⟨by rfl, rfl⟩) (by assumption) ?_
                    try simp only [Act.put, List.getElem_toArray, List.getElem_cons_zero, List.getElem_cons_succ, List.setIfInBounds_toArray, List.set_cons_zero, List.set_cons_succ]
                    refine wpAnyH_take (i := 15) (v := undef) rfl (by kernel_rfl) (by kernel_rfl) (by kernel_rfl) (fun _ _ _ h => h) (Or.inr ⟨by rfl, rfl⟩) (by assumption) ?_
                    try simp only [Act.put, List.getElem_toArray, List.getElem_cons_zero, List.getElem_cons_succ, List.setIfInBounds_toArray, List.set_cons_zero, List.set_cons_succ]
                    refine wpAnyH_take (i := 16) (v := undef) rfl (by kernel_rfl) (by kernel_rfl) (by kernel_rfl) (fun _ _ _ h => h) (Or.inr ⟨by rfl, rfl⟩) (by assumption) ?_
                    try simp only [Act.put, List.getElem_toArray, List.getElem_cons_zero, List.getElem_cons_succ, List.setIfInBounds_toArray, List.set_cons_zero, List.set_cons_succ]
                    refine wpAnyH_take (i := 17) (v := undef) rfl (by kernel_rfl) (by kernel_rfl) (by kernel_rfl) (fun _ _ _ h => h) (Or.inr ⟨by rfl, rfl⟩) (by assumption) ?_
                    try simp only [Act.put, List.getElem_toArray, List.getElem_cons_zero, List.getElem_cons_succ, List.setIfInBounds_toArray, List.set_cons_zero, List.set_cons_succ]
                    refine wpAnyH_take (i := 18) (v := undef) rfl (by kernel_rfl) (by kernel_rfl) (by kernel_rfl) (fun _ _ _ h => h) (Or.inr ⟨by rfl, rfl⟩) (by assumption) ?_
                    try simp only [Act.put, List.getElem_toArray, List.getElem_cons_zero, List.getElem_cons_succ, List.setIfInBounds_toArray, List.set_cons_zero, List.set_cons_succ]
                    refine wpAnyH_take (i := 19) (v := undef) rfl (by kernel_rfl) (by kernel_rfl) (by kernel_rfl) (fun _ _ _ h => h) (Or.inr ⟨by rfl, rfl⟩) (by assumption) ?_
                    try simp only [Act.put, List.getElem_toArray, List.getElem_cons_zero, List.getElem_cons_succ, List.setIfInBounds_toArray, List.set_cons_zero, List.set_cons_succ]
                    refine wpAnyH_take (i := 20) (v := undef) rfl (by kernel_rfl) (by kernel_rfl) (by kernel_rfl) (fun _ _ _ h => h) (Or.inr ⟨by rfl, rfl⟩) (by assumption) ?_
                    try simp only [Act.put, List.getElem_toArray, List.getElem_cons_zero, List.getElem_cons_succ, List.setIfInBounds_toArray, List.set_cons_zero, List.set_cons_succ]
                    refine wpAnyH_take (i := 21) (v := undef) rfl (by kernel_rfl) (by kernel_rfl) (by kernel_rfl) (fun _ _ _ h => h) (Or.inr ⟨by rfl, rfl⟩) (by assumption) ?_
                    try simp only [Act.put, List.getElem_toArray, List.getElem_cons_zero, List.getElem_cons_succ, List.setIfInBounds_toArray, List.set_cons_zero, List.set_cons_succ]
                    refine wpAnyH_take (i := 22) (v := (.bool false)) rfl (by kernel_rfl) (by kernel_rfl) (by kernel_rfl) (fun _ _ _ h => h) (Or.inl ⟨by rfl, fun w hSw => by (try dsimp only at hSw); go_simp⟩) (by assumption) ?_
                    try simp only [Act.put, List.getElem_toArray, List.getElem_cons_zero, List.getElem_cons_succ, List.setIfInBounds_toArray, List.set_cons_zero, List.set_cons_succ]
                    refine wpAnyH_done (by kernel_rfl) ?_ _
                    refine NoPanic.normal ?_
                    go_wp2
                    go_roundw
                    case rel => exact ⟨k + 1, by omega, by go_num, hml.drew, hbl, hBl.drew⟩
                    case measure => simp [intOf]; omega
                  · have hz0 : (0 : Int) < (TL.length : Int) := by omega
                    have hj : TL.length - 1 < TL.length := by omega
                    have hno : ∀ j (h : j < TL.length), TL[j].2.1 ≠ (k : Int) := fun j h e => by
                      have := (HF.out (k : Int)).2 ⟨j, h, h, e⟩
                      rw [hf] at this
                      exact absurd this (by decide)
                    have h4 := H4k.out hno h0
                    obtain ⟨i1, h1, g1, g2⟩ := H2.out _ hj
                    rw [g1] at h4 g2
                    have HTc : Hid (∀ w', Below w2.heap.size w2 w' → ∃ ad : Addr, A2 = some ad ∧ ∀ u, (hitC L[i1])[0]? = some u → w'.cell? (ad.add ((TL.length - 1) * 2)) = some u) := Lib.hid fun w' hb => by
                      obtain ⟨ad2, _, e2, _, c0, _⟩ := (hrt.below hb).at' hitC_len (by omega) hj
                      rw [g1] at c0
                      exact ⟨ad2, e2, c0⟩
                    have HOY := HOK.out L[i1] (List.getElem_mem h1)
                    have g3 : betB o (d, (k : Int), s) L[i1] = false := by simp only [betB, decide_eq_false_iff_not]; omega
                    obtain ⟨j1, hj1e⟩ : ∃ j1, j1 = TL.length - 1 := ⟨_, rfl⟩
                    rw [← hj1e] at HTc
                    have hwk : IntKind.i64.wrap ((TL.length : Int) - 1) = (j1 : Int) := by rw [IntWalk.i64_in _ (by omega)]; omega
                    have hwj : IntKind.i64.wrap (j1 : Int) = (j1 : Int) := IntWalk.i64_in _ (by omega)
                    have hj1 : (j1 : Int) < (TL.length : Int) := by omega
                    have hj10 : (0 : Int) ≤ (j1 : Int) := by omega
                    have hi1n : (i1 : Int) < (n : Int) := by omega
                    have hi10 : (0 : Int) ≤ (i1 : Int) := by omega
                    have hwi1 : IntKind.i64.wrap (i1 : Int) = (i1 : Int) := IntWalk.i64_in _ (by omega)
                    have HJE := Lib.hid hj1e
                    clear hj1e
                    have hBw : ∀ w', Below (wr.alloc (.cells #[.int .i64 d, .int .u32 (k : Int), .float .f64 s] 27)).heap.size (wr.alloc (.cells #[.int .i64 d, .int .u32 (k : Int), .float .f64 s] 27)) w' → Below w2.heap.size w2 w' := fun w' hb => hBl.trans (hb.mono hBl.size)
                    obtain ⟨ad2, e2, _⟩ := HTc.out w2 (Below.refl _ _)
                    subst e2
                    have hS1 : ∀ w', Below (wr.alloc (.cells #[.int .i64 d, .int .u32 (k : Int), .float .f64 s] 27)).heap.size (wr.alloc (.cells #[.int .i64 d, .int .u32 (k : Int), .float .f64 s] 27)) w' → (∀ u, (hitC L[i1])[0]? = some u → w'.cell? (ad2.add (j1 * 2)) = some u) ∧ (∀ u, (scC L[i1])[0]? = some u → w'.cell? (ad1.add (i1 * 3)) = some u) ∧ (∀ j u, j < 3 → (scC L[i1])[j]? = some u → w'.cell? ⟨(ad1.add (i1 * 3)).block, (ad1.add (i1 * 3)).off + j, none⟩ = some u) := fun w' hb => by
                      obtain ⟨ad2, e2, c0⟩ := HTc.out w' (hBw w' hb)
                      injection e2 with e2
                      subst e2
                      obtain ⟨ad1, _, e1, _, d0, d1⟩ := (hro.below (hBw w' hb)).at' scC_len (by omega) (show i1 < n by omega)
                      injection e1 with e1
                      subst e1
                      exact ⟨c0, d0, d1⟩
                    clear HTc g1 h4
                    generalize L[i1] = Y at hS1 g2 g3 HOY
                    obtain ⟨d1', id1, s1⟩ := Y
                    simp only at g2
                    subst g2
                    have HBET : Hid (∀ w', Below (wr.alloc (.cells #[.int .i64 d, .int .u32 (k : Int), .float .f64 s] 27)).heap.size (wr.alloc (.cells #[.int .i64 d, .int .u32 (k : Int), .float .f64 s] 27)) w' → Calls Try.prog 10 #[(.agg #[.int .i64 d, .int .u32 (k : Int), .float .f64 s]), (.agg #[.int .i64 d1', .int .u32 (i1 : Int), .float .f64 s1]), .int .i64 o] w' fun e w'' => e = .returned (.bool false) ∧ Below (wr.alloc (.cells #[.int .i64 d, .int .u32 (k : Int), .float .f64 s] 27)).heap.size (wr.alloc (.cells #[.int .i64 d, .int .u32 (k : Int), .float .f64 s] 27)) w'') := Lib.hid fun w' hb => by
                      have := better_go o (d, (k : Int), s) (d1', (i1 : Int), s1) HOX.out HOY hb
                      rwa [g3] at this
                    have hS2 : ∀ w', Below (wr.alloc (.cells #[.int .i64 d, .int .u32 (k : Int), .float .f64 s] 27)).heap.size (wr.alloc (.cells #[.int .i64 d, .int .u32 (k : Int), .float .f64 s] 27)) w' → (Instr.lookup 30 (.map (some b)) (.int .u32 (k : Int)) false).run Try.prog w' = .ok (.bool false) w' ∧ w'.cell? ⟨wr.heap.size, 0, none⟩ = some (.int .i64 d) ∧ w'.cell? ⟨wr.heap.size, 1, none⟩ = some (.int .u32 (k : Int)) ∧ w'.cell? ⟨wr.heap.size, 2, none⟩ = some (.float .f64 s) ∧ w'.cell? (ad2.add (j1 * 2)) = some (.int .u32 (i1 : Int)) ∧ w'.cell? (ad1.add (i1 * 3)) = some (.int .i64 d1') ∧ w'.cell? ⟨(ad1.add (i1 * 3)).block, (ad1.add (i1 * 3)).off + 1, none⟩ = some (.int .u32 (i1 : Int)) ∧ w'.cell? ⟨(ad1.add (i1 * 3)).block, (ad1.add (i1 * 3)).off + 2, none⟩ = some (.float .f64 s1) := fun w' hb => by
                      have q1 := HLK.out w' hb
                      have q2 := HCELL.out w' hb
                      obtain ⟨p0, p3, p4⟩ := hS1 w' hb
                      exact ⟨q1, q2 0, q2 1, q2 2, p0 _ rfl, p3 _ rfl, p4 1 _ (by omega) rfl, p4 2 _ (by omega) rfl⟩
                    have HSB := Lib.hid hS2
                    clear hS2 hS1 HOY g3
                    refine wp_region_noPanic ?_
                    refine wp_region_held_drew (S := (fun w' : World => (Instr.lookup 30 (.map (some b)) (.int .u32 (k : Int)) false).run Try.prog w' = .ok (.bool false) w' ∧ w'.cell? ⟨wr.heap.size, 0, none⟩ = some (.int .i64 d) ∧ w'.cell? ⟨wr.heap.size, 1, none⟩ = some (.int .u32 (k : Int)) ∧ w'.cell? ⟨wr.heap.size, 2, none⟩ = some (.float .f64 s) ∧ w'.cell? (ad2.add (j1 * 2)) = some (.int .u32 (i1 : Int)) ∧ w'.cell? (ad1.add (i1 * 3)) = some (.int .i64 d1') ∧ w'.cell? ⟨(ad1.add (i1 * 3)).block, (ad1.add (i1 * 3)).off + 1, none⟩ = some (.int .u32 (i1 : Int)) ∧ w'.cell? ⟨(ad1.add (i1 * 3)).block, (ad1.add (i1 * 3)).off + 2, none⟩ = some (.float .f64 s1))) (by kernel_rfl) (HSB.out _ hbd) (fun hHeld => ?_)
                    refine wpAnyH_take (i := 0) (v := (.map (some b))) rfl (by kernel_rfl) (by kernel_rfl) (by kernel_rfl) (fun _ _ _ h => h) (Or.inl ⟨by rfl, fun _ _ => rfl⟩) (by assumption) ?_
                    try simp only [Act.put, List.getElem_toArray, List.getElem_cons_zero, List.setIfInBounds_toArray, List.set_cons_zero, List.set_cons_succ]
                    refine wpAnyH_take (i := 1) (v := (.int .i64 (k : Int))) rfl (by kernel_rfl) (by kernel_rfl) (by kernel_rfl) (fun _ _ _ h => h) (Or.inl ⟨by rfl, fun w hSw => by (try dsimp only at hSw); go_simp⟩) (by assumption) ?_
                    try simp only [Act.put, List.getElem_toArray, List.getElem_cons_zero, List.getElem_cons_succ, List.setIfInBounds_toArray, List.set_cons_zero, List.set_cons_succ]
                    refine wpAnyH_take (i := 2) (v := (.int .u32 (k : Int))) rfl (by kernel_rfl) (by kernel_rfl) (by kernel_rfl) (fun _ _ _ h => h) (Or.inl ⟨by rfl, fun w hSw => by (try dsimp only at hSw); go_simp⟩) (by assumption) ?_
                    try simp only [Act.put, List.getElem_toArray, List.getElem_cons_zero, List.getElem_cons_succ, List.setIfInBounds_toArray, List.set_cons_zero, List.set_cons_succ]
                    refine wpAnyH_take (i := 3) (v := (.bool false)) rfl (by kernel_rfl) (by kernel_rfl) (by kernel_rfl) (fun _ _ _ h => h) (Or.inl ⟨by rfl, fun w hSw => by (try dsimp only at hSw); go_simp⟩) (by assumption) ?_
                    try simp only [Act.put, List.getElem_toArray, List.getElem_cons_zero, List.getElem_cons_succ, List.setIfInBounds_toArray, List.set_cons_zero, List.set_cons_succ]
                    refine wpAnyH_take (i := 4) (v := (.bool true)) rfl (by kernel_rfl) (by kernel_rfl) (by kernel_rfl) (fun _ _ _ h => h) (Or.inl ⟨by rfl, fun w hSw => by (try dsimp only at hSw); go_simp⟩) (by assumption) ?_
                    try simp only [Act.put, List.getElem_toArray, List.getElem_cons_zero, List.getElem_cons_succ, List.setIfInBounds_toArray, List.set_cons_zero, List.set_cons_succ]
                    refine wpAnyH_take (i := 5) (v := (.bool true)) rfl (by kernel_rfl) (by kernel_rfl) (by kernel_rfl) (fun _ _ _ h => h) (Or.inl ⟨by rfl, fun w hSw => by (try dsimp only at hSw); go_simp⟩) (by assumption) ?_
                    try simp only [Act.put, List.getElem_toArray, List.getElem_cons_zero, List.getElem_cons_succ, List.setIfInBounds_toArray, List.set_cons_zero, List.set_cons_succ]
                    refine wpAnyH_take (i := 6) (v := (.int .i64 (TL.length : Int))) rfl (by kernel_rfl) (by kernel_rfl) (by kernel_rfl) (fun _ _ _ h => h) (Or.inl ⟨by rfl, fun w hSw => by (try dsimp only at hSw); go_simp⟩) (by assumption) ?_
                    try simp only [Act.put, List.getElem_toArray, List.getElem_cons_zero, List.getElem_cons_succ, List.setIfInBounds_toArray, List.set_cons_zero, List.set_cons_succ]
                    refine wpAnyH_take (i := 7) (v := (.bool true)) rfl (by kernel_rfl) (by kernel_rfl) (by kernel_rfl) (fun _ _ _ h => h) (Or.inl ⟨by rfl, fun w hSw => by (try dsimp only at hSw); go_simp⟩) (by assumption) ?_
                    try simp only [Act.put, List.getElem_toArray, List.getElem_cons_zero, List.getElem_cons_succ, List.setIfInBounds_toArray, List.set_cons_zero, List.set_cons_succ]
                    refine wpAnyH_take (i := 8) (v := (.bool true)) rfl (by kernel_rfl) (by kernel_rfl) (by kernel_rfl) (fun _ _ _ h => h) (Or.inl ⟨by rfl, fun w hSw => by (try dsimp only at hSw); go_simp⟩) (by assumption) ?_
                    try simp only [Act.put, List.getElem_toArray, List.getElem_cons_zero, List.getElem_cons_succ, List.setIfInBounds_toArray, List.set_cons_zero, List.set_cons_succ]
                    refine wpAnyH_take (i := 9) (v := (.bool true)) rfl (by kernel_rfl) (by kernel_rfl) (by kernel_rfl) (fun _ _ _ h => h) (Or.inl ⟨by rfl, fun w hSw => by (try dsimp only at hSw); go_simp⟩) (by assumption) ?_
                    try simp only [Act.put, List.getElem_toArray, List.getElem_cons_zero, List.getElem_cons_succ, List.setIfInBounds_toArray, List.set_cons_zero, List.set_cons_succ]
                    refine wpAnyH_take (i := 10) (v := (.agg #[.int .i64 d, .int .u32 (k : Int), .float .f64 s])) rfl (by kernel_rfl) (by kernel_rfl) (by kernel_rfl) (fun _ _ _ h => h) (Or.inl ⟨by rfl, fun w hSw => by (try dsimp only at hSw); go_simp⟩) (by assumption) ?_
                    try simp only [Act.put, List.getElem_toArray, List.getElem_cons_zero, List.getElem_cons_succ, List.setIfInBounds_toArray, List.set_cons_zero, List.set_cons_succ]
                    refine wpAnyH_take (i := 11) (v := (.slice (some ad1) n c1)) rfl (by kernel_rfl) (by kernel_rfl) (by kernel_rfl) (fun _ _ _ h => h) (Or.inl ⟨by rfl, fun w hSw => by (try dsimp only at hSw); go_simp⟩) (by assumption) ?_
                    try simp only [Act.put, List.getElem_toArray, List.getElem_cons_zero, List.getElem_cons_succ, List.setIfInBounds_toArray, List.set_cons_zero, List.set_cons_succ]
                    refine wpAnyH_take (i := 12) (v := (.slice (some ad2) TL.length c2)) rfl (by kernel_rfl) (by kernel_rfl) (by kernel_rfl) (fun _ _ _ h => h) (Or.inl ⟨by rfl, fun w hSw => by (try dsimp only at hSw); go_simp⟩) (by assumption) ?_
                    try simp only [Act.put, List.getElem_toArray, List.getElem_cons_zero, List.getElem_cons_succ, List.setIfInBounds_toArray, List.set_cons_zero, List.set_cons_succ]
                    refine wpAnyH_take (i := 13) (v := (.int .i64 (TL.length : Int))) rfl (by kernel_rfl) (by kernel_rfl) (by kernel_rfl) (fun _ _ _ h => h) (Or.inl ⟨by rfl, fun w hSw => by (try dsimp only at hSw); go_simp⟩) (by assumption) ?_
                    try simp only [Act.put, List.getElem_toArray, List.getElem_cons_zero, List.getElem_cons_succ, List.setIfInBounds_toArray, List.set_cons_zero, List.set_cons_succ]
                    refine wpAnyH_take (i := 14) (v := (.int .i64 (j1 : Int))) rfl (by kernel_rfl) (by kernel_rfl) (by kernel_rfl) (fun _ _ _ h => h) (Or.inl ⟨by rfl, fun w hSw => by (try dsimp only at hSw); go_simp⟩) (by assumption) ?_
                    try simp only [Act.put, List.getElem_toArray, List.getElem_cons_zero, List.getElem_cons_succ, List.setIfInBounds_toArray, List.set_cons_zero, List.set_cons_succ]
                    refine wpAnyH_take (i := 15) (v := (.pointer (some (ad2.add (j1 * 2))))) rfl (by kernel_rfl) (by kernel_rfl) (by kernel_rfl) (fun _ _ _ h => h) (Or.inl ⟨by rfl, fun w hSw => by (try dsimp only at hSw); go_simp⟩) (by assumption) ?_
                    try simp only [Act.put, List.getElem_toArray, List.getElem_cons_zero, List.getElem_cons_succ, List.setIfInBounds_toArray, List.set_cons_zero, List.set_cons_succ]
                    refine wpAnyH_take (i := 16) (v := (.pointer (some (ad2.add (j1 * 2))))) rfl (by kernel_rfl) (by kernel_rfl) (by kernel_rfl) (fun _ _ _ h => h) (Or.inl ⟨by rfl, fun w hSw => by (try dsimp only at hSw); go_simp⟩) (by assumption) ?_
                    try simp only [Act.put, List.getElem_toArray, List.getElem_cons_zero, List.getElem_cons_succ, List.setIfInBounds_toArray, List.set_cons_zero, List.set_cons_succ]
                    refine wpAnyH_take (i := 17) (v := (.int .u32 (i1 : Int))) rfl (by kernel_rfl) (by kernel_rfl) (by kernel_rfl) (fun _ _ _ h => h) (Or.inl ⟨by rfl, fun w hSw => by (try dsimp only at hSw); go_simp⟩) (by assumption) ?_
                    try simp only [Act.put, List.getElem_toArray, List.getElem_cons_zero, List.getElem_cons_succ, List.setIfInBounds_toArray, List.set_cons_zero, List.set_cons_succ]
                    refine wpAnyH_take (i := 18) (v := (.pointer (some (ad1.add (i1 * 3))))) rfl (by kernel_rfl) (by kernel_rfl) (by kernel_rfl) (fun _ _ _ h => h) (Or.inl ⟨by rfl, fun w hSw => by (try dsimp only at hSw); go_simp⟩) (by assumption) ?_
                    try simp only [Act.put, List.getElem_toArray, List.getElem_cons_zero, List.getElem_cons_succ, List.setIfInBounds_toArray, List.set_cons_zero, List.set_cons_succ]
                    refine wpAnyH_take (i := 19) (v := (.agg #[.int .i64 d1', .int .u32 (i1 : Int), .float .f64 s1])) rfl (by kernel_rfl) (by kernel_rfl) (by kernel_rfl) (fun _ _ _ h => h) (Or.inl ⟨by rfl, fun w hSw => by (try dsimp only at hSw); go_simp⟩) (by assumption) ?_
                    try simp only [Act.put, List.getElem_toArray, List.getElem_cons_zero, List.getElem_cons_succ, List.setIfInBounds_toArray, List.set_cons_zero, List.set_cons_succ]
                    refine wpAnyH_take (i := 20) (v := (.int .i64 o)) rfl (by kernel_rfl) (by kernel_rfl) (by kernel_rfl) (fun _ _ _ h => h) (Or.inl ⟨by rfl, fun w hSw => by (try dsimp only at hSw); go_simp⟩) (by assumption) ?_
                    try simp only [Act.put, List.getElem_toArray, List.getElem_cons_zero, List.getElem_cons_succ, List.setIfInBounds_toArray, List.set_cons_zero, List.set_cons_succ]
                    refine wpAnyH_ready (rs := [21]) (by kernel_rfl) (by simp) ?_
                    refine AllReadyH.cons (o := _) rfl (fun K hK => ?_) AllReadyH.nil
                    go_simp
                    go_at_call 10; refine (HBET.out _ (by assumption)).mono ?_; rintro e w8 ⟨rfl, hb8⟩
                    refine hK.out _ _ (HSB.out _ (by assumption)) (fun hHeld => ?_)
                    clear hK K
                    try simp only [Act.put, List.getElem_toArray, List.getElem_cons_zero, List.getElem_cons_succ, List.setIfInBounds_toArray, List.set_cons_zero, List.set_cons_succ]
                    refine wpAnyH_take (i := 22) (v := (.bool false)) rfl (by kernel_rfl) (by kernel_rfl) (by kernel_rfl) (fun _ _ _ h => h) (Or.inl ⟨by rfl, fun w hSw => by (try dsimp only at hSw); go_simp⟩) (by assumption) ?_
                    try simp only [Act.put, List.getElem_toArray, List.getElem_cons_zero, List.getElem_cons_succ, List.setIfInBounds_toArray, List.set_cons_zero, List.set_cons_succ]
                    refine wpAnyH_done (by kernel_rfl) ?_ _
                    refine NoPanic.normal ?_
                    have hm8 := hml.below hb8 hbl
                    have hz8 : b < w8.heap.size := by have := hb8.size; omega
                    have hB8 : Below w2.heap.size w2 w8 := hBl.trans (hb8.mono hBl.size)
                    go_wp2
                    go_roundw
                    case rel => exact ⟨k + 1, by omega, by go_num, hm8, hz8, hB8⟩
                    case measure => simp [intOf]; omega
                · rw [hf] at HLK
                  have HSB := HLK
                  refine wp_region_noPanic ?_
                  refine wp_region_held_drew (S := (fun w' : World => (Instr.lookup 30 (.map (some b)) (.int .u32 (k : Int)) false).run Try.prog w' = .ok (.bool true) w')) (by kernel_rfl) (HSB.out _ hbd) (fun hHeld => ?_)
                  refine wpAnyH_take (i := 0) (v := (.map (some b))) rfl (by kernel_rfl) (by kernel_rfl) (by kernel_rfl) (fun _ _ _ h => h) (Or.inl ⟨by rfl, fun _ _ => rfl⟩) (by assumption) ?_
                  try simp only [Act.put, List.getElem_toArray, List.getElem_cons_zero, List.setIfInBounds_toArray, List.set_cons_zero, List.set_cons_succ]
                  refine wpAnyH_take (i := 1) (v := (.int .i64 (k : Int))) rfl (by kernel_rfl) (by kernel_rfl) (by kernel_rfl) (fun _ _ _ h => h) (Or.inl ⟨by rfl, fun w hSw => by (try dsimp only at hSw); go_simp⟩) (by assumption) ?_
                  try simp only [Act.put, List.getElem_toArray, List.getElem_cons_zero, List.getElem_cons_succ, List.setIfInBounds_toArray, List.set_cons_zero, List.set_cons_succ]
                  refine wpAnyH_take (i := 2) (v := (.int .u32 (k : Int))) rfl (by kernel_rfl) (by kernel_rfl) (by kernel_rfl) (fun _ _ _ h => h) (Or.inl ⟨by rfl, fun w hSw => by (try dsimp only at hSw); go_simp⟩) (by assumption) ?_
                  try simp only [Act.put, List.getElem_toArray, List.getElem_cons_zero, List.getElem_cons_succ, List.setIfInBounds_toArray, List.set_cons_zero, List.set_cons_succ]
                  refine wpAnyH_take (i := 3) (v := (.bool true)) rfl (by kernel_rfl) (by kernel_rfl) (by kernel_rfl) (fun _ _ _ h => h) (Or.inl ⟨by rfl, fun w hSw => by (try dsimp only at hSw); go_simp⟩) (by assumption) ?_
                  try simp only [Act.put, List.getElem_toArray, List.getElem_cons_zero, List.getElem_cons_succ, List.setIfInBounds_toArray, List.set_cons_zero, List.set_cons_succ]
                  refine wpAnyH_take (i := 4) (v := (.bool false)) rfl (by kernel_rfl) (by kernel_rfl) (by kernel_rfl) (fun _ _ _ h => h) (Or.inl ⟨by rfl, fun w hSw => by (try dsimp only at hSw); go_simp⟩) (by assumption) ?_
                  try simp only [Act.put, List.getElem_toArray, List.getElem_cons_zero, List.getElem_cons_succ, List.setIfInBounds_toArray, List.set_cons_zero, List.set_cons_succ]
                  refine wpAnyH_take (i := 5) (v := (.bool false)) rfl (by kernel_rfl) (by kernel_rfl) (by kernel_rfl) (fun _ _ _ h => h) (Or.inl ⟨by rfl, fun w hSw => by (try dsimp only at hSw); go_simp⟩) (by assumption) ?_
                  try simp only [Act.put, List.getElem_toArray, List.getElem_cons_zero, List.getElem_cons_succ, List.setIfInBounds_toArray, List.set_cons_zero, List.set_cons_succ]
                  refine wpAnyH_take (i := 6) (v := undef) rfl (by kernel_rfl) (by kernel_rfl) (by kernel_rfl) (fun _ _ _ h => h) (Or.inr ⟨by rfl, rfl⟩) (by assumption) ?_
                  try simp only [Act.put, List.getElem_toArray, List.getElem_cons_zero, List.getElem_cons_succ, List.setIfInBounds_toArray, List.set_cons_zero, List.set_cons_succ]
                  refine wpAnyH_take (i := 7) (v := undef) rfl (by kernel_rfl) (by kernel_rfl) (by kernel_rfl) (fun _ _ _ h => h) (Or.inr ⟨by rfl, rfl⟩) (by assumption) ?_
                  try simp only [Act.put, List.getElem_toArray, List.getElem_cons_zero, List.getElem_cons_succ, List.setIfInBounds_toArray, List.set_cons_zero, List.set_cons_succ]
                  refine wpAnyH_take (i := 8) (v := (.bool false)) rfl (by kernel_rfl) (by kernel_rfl) (by kernel_rfl) (fun _ _ _ h => h) (Or.inl ⟨by rfl, fun w hSw => by (try dsimp only at hSw); go_simp⟩) (by assumption) ?_
                  try simp only [Act.put, List.getElem_toArray, List.getElem_cons_zero, List.getElem_cons_succ, List.setIfInBounds_toArray, List.set_cons_zero, List.set_cons_succ]
                  refine wpAnyH_take (i := 9) (v := (.bool false)) rfl (by kernel_rfl) (by kernel_rfl) (by kernel_rfl) (fun _ _ _ h => h) (Or.inl ⟨by rfl, fun w hSw => by (try dsimp only at hSw); go_simp⟩) (by assumption) ?_
                  try simp only [Act.put, List.getElem_toArray, List.getElem_cons_zero, List.getElem_cons_succ, List.setIfInBounds_toArray, List.set_cons_zero, List.set_cons_succ]
                  refine wpAnyH_take (i := 10) (v := undef) rfl (by kernel_rfl) (by kernel_rfl) (by kernel_rfl) (fun _ _ _ h => h) (Or.inr ⟨by rfl, rfl⟩) (by assumption) ?_
                  try simp only [Act.put, List.getElem_toArray, List.getElem_cons_zero, List.getElem_cons_succ, List.setIfInBounds_toArray, List.set_cons_zero, List.set_cons_succ]
                  refine wpAnyH_take (i := 11) (v := undef) rfl (by kernel_rfl) (by kernel_rfl) (by kernel_rfl) (fun _ _ _ h => h) (Or.inr ⟨by rfl, rfl⟩) (by assumption) ?_
                  try simp only [Act.put, List.getElem_toArray, List.getElem_cons_zero, List.getElem_cons_succ, List.setIfInBounds_toArray, List.set_cons_zero, List.set_cons_succ]
                  refine wpAnyH_take (i := 12) (v := undef) rfl (by kernel_rfl) (by kernel_rfl) (by kernel_rfl) (fun _ _ _ h => h) (Or.inr ⟨by rfl, rfl⟩) (by assumption) ?_
                  try simp only [Act.put, List.getElem_toArray, List.getElem_cons_zero, List.getElem_cons_succ, List.setIfInBounds_toArray, List.set_cons_zero, List.set_cons_succ]
                  refine wpAnyH_take (i := 13) (v := undef) rfl (by kernel_rfl) (by kernel_rfl) (by kernel_rfl) (fun _ _ _ h => h) (Or.inr ⟨by rfl, rfl⟩) (by assumption) ?_
                  try simp only [Act.put, List.getElem_toArray, List.getElem_cons_zero, List.getElem_cons_succ, List.setIfInBounds_toArray, List.set_cons_zero, List.set_cons_succ]
                  refine wpAnyH_take (i := 14) (v := undef) rfl (by kernel_rfl) (by kernel_rfl) (by kernel_rfl) (fun _ _ _ h => h) (Or.inr ⟨by rfl, rfl⟩) (by assumption) ?_
                  try simp only [Act.put, List.getElem_toArray, List.getElem_cons_zero, List.getElem_cons_succ, List.setIfInBounds_toArray, List.set_cons_zero, List.set_cons_succ]
                  refine wpAnyH_take (i := 15) (v := undef) rfl (by kernel_rfl) (by kernel_rfl) (by kernel_rfl) (fun _ _ _ h => h) (Or.inr ⟨by rfl, rfl⟩) (by assumption) ?_
                  try simp only [Act.put, List.getElem_toArray, List.getElem_cons_zero, List.getElem_cons_succ, List.setIfInBounds_toArray, List.set_cons_zero, List.set_cons_succ]
                  refine wpAnyH_take (i := 16) (v := undef) rfl (by kernel_rfl) (by kernel_rfl) (by kernel_rfl) (fun _ _ _ h => h) (Or.inr ⟨by rfl, rfl⟩) (by assumption) ?_
                  try simp only [Act.put, List.getElem_toArray, List.getElem_cons_zero, List.getElem_cons_succ, List.setIfInBounds_toArray, List.set_cons_zero, List.set_cons_succ]
                  refine wpAnyH_take (i := 17) (v := undef) rfl (by kernel_rfl) (by kernel_rfl) (by kernel_rfl) (fun _ _ _ h => h) (Or.inr ⟨by rfl, rfl⟩) (by assumption) ?_
                  try simp only [Act.put, List.getElem_toArray, List.getElem_cons_zero, List.getElem_cons_succ, List.setIfInBounds_toArray, List.set_cons_zero, List.set_cons_succ]
                  refine wpAnyH_take (i := 18) (v := undef) rfl (by kernel_rfl) (by kernel_rfl) (by kernel_rfl) (fun _ _ _ h => h) (Or.inr ⟨by rfl, rfl⟩) (by assumption) ?_
                  try simp only [Act.put, List.getElem_toArray, List.getElem_cons_zero, List.getElem_cons_succ, List.setIfInBounds_toArray, List.set_cons_zero, List.set_cons_succ]
                  refine wpAnyH_take (i := 19) (v := undef) rfl (by kernel_rfl) (by kernel_rfl) (by kernel_rfl) (fun _ _ _ h => h) (Or.inr ⟨by rfl, rfl⟩) (by assumption) ?_
                  try simp only [Act.put, List.getElem_toArray, List.getElem_cons_zero, List.getElem_cons_succ, List.setIfInBounds_toArray, List.set_cons_zero, List.set_cons_succ]
                  refine wpAnyH_take (i := 20) (v := undef) rfl (by kernel_rfl) (by kernel_rfl) (by kernel_rfl) (fun _ _ _ h => h) (Or.inr ⟨by rfl, rfl⟩) (by assumption) ?_
                  try simp only [Act.put, List.getElem_toArray, List.getElem_cons_zero, List.getElem_cons_succ, List.setIfInBounds_toArray, List.set_cons_zero, List.set_cons_succ]
                  refine wpAnyH_take (i := 21) (v := undef) rfl (by kernel_rfl) (by kernel_rfl) (by kernel_rfl) (fun _ _ _ h => h) (Or.inr ⟨by rfl, rfl⟩) (by assumption) ?_
                  try simp only [Act.put, List.getElem_toArray, List.getElem_cons_zero, List.getElem_cons_succ, List.setIfInBounds_toArray, List.set_cons_zero, List.set_cons_succ]
                  refine wpAnyH_take (i := 22) (v := (.bool false)) rfl (by kernel_rfl) (by kernel_rfl) (by kernel_rfl) (fun _ _ _ h => h) (Or.inl ⟨by rfl, fun w hSw => by (try dsimp only at hSw); go_simp⟩) (by assumption) ?_
                  try simp only [Act.put, List.getElem_toArray, List.getElem_cons_zero, List.getElem_cons_succ, List.setIfInBounds_toArray, List.set_cons_zero, List.set_cons_succ]
                  refine wpAnyH_done (by kernel_rfl) ?_ _
                  refine NoPanic.normal ?_
                  go_wp2
                  go_roundw
                  case rel => exact ⟨k + 1, by omega, by go_num, hml.drew, hbl, hBl.drew⟩
                  case measure => simp [intOf]; omega
              · obtain rfl : k = n := by omega
                have hlt' : ¬ (k : Int) < (k : Int) := by omega
                go_wp2_with (go_at_call 8; refine (fixed_any _).mono ?_; rintro e w8 ⟨rfl, hb8⟩)
                go_ret
                exact ⟨rfl, hB2.trans ((hB.trans (hb8.mono hB.size)).mono hB2.size)⟩
end Go.Proofs.Ytdkbiimhdbnplaa
