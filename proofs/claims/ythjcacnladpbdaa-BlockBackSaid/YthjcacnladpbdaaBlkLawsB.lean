/- BlockSkips, walked. -/
import Derived.Test.YthjcacnladpbdaaBlkLaws
import Derived.Deep.RegionHeld3
namespace Go.Proofs.Ythjcacnladpbdaa
open Go.RowKit

theorem enAt_sub (V : List En) (f m j : Nat) (hj : j < m) (_ : f + j < V.length) : enAt ((V.drop f).take m) j = enAt V (f + j) := by
  simp [enAt, List.getD, hj, List.getElem?_drop]
theorem sub_may {V : List En} (h : MayP V) (f m : Nat) (hfm : f + m ≤ V.length) : MayP ((V.drop f).take m) := by
  have hl : ((V.drop f).take m).length = m := by rw [List.length_take, List.length_drop]; omega
  have hl0 := h.len
  refine ⟨by omega, fun i hi => ?_, fun i hi => ?_, fun i hi => ?_⟩
  · rw [enAt_sub V f m i (by omega) (by omega)]
    exact h.pos _ (by omega)
  · rw [enAt_sub V f m i (by omega) (by omega)]
    exact h.doc _ (by omega)
  · rw [enAt_sub V f m i (by omega) (by omega), enAt_sub V f m (i + 1) (by omega) (by omega), ← Nat.add_assoc]
    exact h.up _ (by omega)
/-- What stands at a block's place. -/
theorem skip_at {V : List En} (h : MayP V) (K : Nat) (hK : 4 * K < V.length) : ∃ x : Int, (encL V)[1 + K]? = some x ∧ 0 ≤ x ∧ x < 4294967296 ∧ x / 65536 = (enAt V (min (4 * K + 4) V.length - 1)).1 := by
  have h1 := skip_range h (4 * K) hK
  have h2 := h.doc (min (4 * K + 4) V.length - 1) (by omega)
  refine ⟨_, encL_get V K hK, h1.1, h1.2.1, ?_⟩
  rw [skipOf]
  omega
theorem skip_first {V : List En} (f m : Nat) (hm : 1 ≤ m) (hm4 : m ≤ 4) (hfm : f + m ≤ V.length) : (encL ((V.drop f).take m))[1]? = some ((enAt V (f + m - 1)).1 * 65536) := by
  have hl : ((V.drop f).take m).length = m := by rw [List.length_take, List.length_drop]; omega
  have h1 := encL_get ((V.drop f).take m) 0 (by omega)
  rw [Nat.add_zero, Nat.mul_zero] at h1
  rw [h1, skipOf, hl, Nat.zero_add, show min 4 m - 1 = m - 1 from by omega, enAt_sub V f m (m - 1) (by omega) (by omega), show f + (m - 1) = f + m - 1 from by omega]
  simp only [bodyB, List.length_nil]
  congr 1
  omega
theorem sub_len {V : List En} (f m : Nat) (hfm : f + m ≤ V.length) : ((V.drop f).take m).length = m := by rw [List.length_take, List.length_drop]; omega
theorem enc_yes {V : List En} (h : MayP V) : encA V = (encL V, 0) := by rw [encA, if_pos (may_of h)]

set_option maxRecDepth 100000 in
set_option maxHeartbeats 20000000 in
theorem walkBlockSkips {w : World} (l : List Ent) (A : Option Addr) (n c : Nat) (hx : ReadsE w w.heap.size A n c l) (hc : c ≤ maxLen) (k : Int) (hk : (Lit.int .u8 k).wf = true) :
    Calls Try.prog 4 #[.slice A n c, .int .u8 k] w fun e w' => e = .returned (.bool true) ∧ Below w.heap.size w w' := by
  have hk' : 0 ≤ k ∧ k ≤ 255 := by simp [Lit.wf, IntKind.min, IntKind.max, IntKind.signed, IntKind.bits] at hk; omega
  clear hk
  have hvl := hx.vlen
  have HG := great_any l A n c w hx hc
  go_enter Try.func4, Try.ntmps4
  go_wp2_with fail
  refine HG.mono ?_
  clear HG
  rintro e w1 ⟨rfl | rfl, hb1⟩
  · go_wp2_with fail
    refine (fixed_any _).mono ?_
    rintro e w2 ⟨rfl, hb2⟩
    go_wp2
    go_ret
    exact ⟨rfl, then_ hb1 hb2⟩
  · have HM := refMay_any l A n c w1 ((hx.below hb1).more hb1.size) hc
    go_wp2_with fail
    refine HM.mono ?_
    clear HM
    rintro e w2 ⟨rfl, hb2⟩
    have hB2 := then_ hb1 hb2
    cases hmay : mayL (vals l)
    · clear hmay
      go_wp2_with fail
      refine (fixed_any _).mono ?_
      rintro e w3 ⟨rfl, hb3⟩
      go_wp2
      go_ret
      exact ⟨rfl, then_ hB2 hb3⟩
    · have HMp := Lib.hid (may_parts hmay)
      clear hmay
      obtain ⟨J, hK⟩ : ∃ J : Nat, k % 16 = (J : Int) := ⟨(k % 16).toNat, by omega⟩
      have hK15 : J ≤ 15 := by omega
      have HK := Lib.hid hK
      have hn64 := HMp.out.len
      rw [hvl] at hn64
      have Hvl := Lib.hid hvl
      clear hK hvl hb1 hb2
      by_cases hge : n ≤ 4 * J
      · have hge' : (n : Int) ≤ k % 16 * 4 := by rw [HK.out]; omega
        go_wp2_with fail
        refine (fixed_any _).mono ?_
        rintro e w3 ⟨rfl, hb3⟩
        go_wp2
        go_ret
        exact ⟨rfl, then_ hB2 hb3⟩
      · have hge' : ¬ (n : Int) ≤ k % 16 * 4 := by rw [HK.out]; omega
        have HE := enc_any l A n c w2 ((hx.below hB2).more hB2.size) hc
        rw [enc_yes HMp.out] at HE
        have hF : Hid (∀ x : Int, x = (J : Int) → x * 4 = ((4 * J : Nat) : Int)) := Lib.hid fun x hx => by omega
        by_cases h4 : 4 * J + 4 ≤ n
        · have h4' : k % 16 * 4 + 4 ≤ (n : Int) := by rw [HK.out]; omega
          go_wp2_with fail
          rw [HK.out, show (J : Int) * 4 = ((4 * J : Nat) : Int) from by omega, show ((4 * J : Nat) : Int) + 4 = ((4 * J + 4 : Nat) : Int) from by omega]
          obtain ⟨F, hFK⟩ : ∃ F, F = 4 * J := ⟨_, rfl⟩
          obtain ⟨T, hTK⟩ : ∃ T, T = F + 4 := ⟨_, rfl⟩
          rw [← hFK, ← hTK]
          have hFT : F < T := by omega
          have hTn : T ≤ n := by omega
          have hT4 : T ≤ F + 4 := by omega
          have HFK := Lib.hid hFK
          have HTK := Lib.hid (show min (4 * J + 4) n = T by omega)
          have hnc := hx.row.cap
          have i1 : (0 : Int) ≤ (F : Int) := by omega
          have i2 : (F : Int) ≤ (T : Int) := by omega
          have i3 : (T : Int) ≤ (c : Int) := by omega
          have i4 : (0 : Int) ≤ (T : Int) := by omega
          clear hFK hTK
          clear h4' hge' hF
          refine HE.mono ?_
          clear HE
          rintro e w3 ⟨v3, rfl, hown3, hb3⟩
          obtain ⟨A3, c3, rfl, hr3, _, _⟩ := ownsRow_slice hown3
          have hB3 := then_ hB2 hb3
          have hsub := ((hx.below hB3).more hB3.size).cut (m := F) (by omega)
          rw [if_neg (by omega)] at hsub
          have hsub2 := hsub.front (m := T - F) (by omega)
          have HE2 := enc_any _ _ (T - F) (c - F) w3 hsub2 (by omega)
          have hvs : vals ((l.drop F).take (T - F)) = ((vals l).drop F).take (T - F) := by rw [vals_take, vals_drop]
          rw [hvs, enc_yes (sub_may HMp.out F (T - F) (by rw [Hvl.out]; omega))] at HE2
          have hfst := skip_first (V := vals l) F (T - F) (by omega) (by omega) (by rw [Hvl.out]; omega)
          obtain ⟨x, hx1, hx0, hx2, hx3⟩ := skip_at HMp.out J (by rw [Hvl.out, ← HFK.out]; omega)
          rw [Hvl.out, HTK.out] at hx3
          rw [show F + (T - F) - 1 = T - 1 from by omega] at hfst
          obtain ⟨ad, dd, P, A', c', rfl, hb, hen, c0, _, _⟩ := (hx.below hB3).at' (i := T - 1) (by omega)
          rw [hen] at hx3 hfst
          simp only at hx3 hfst
          have hdd := HMp.out.doc (T - 1) (by rw [Hvl.out]; omega)
          rw [hen] at hdd
          simp only at hdd
          have hlen3 := encL_len (vals l)
          have hlen8 := encL_len (((vals l).drop F).take (T - F))
          rw [sub_len F (T - F) (by rw [Hvl.out]; omega)] at hlen8
          rw [Hvl.out] at hlen3
          generalize encL (vals l) = C at *
          generalize encL (((vals l).drop F).take (T - F)) = D at *
          clear hsub hsub2 hvs hen hown3
          obtain ⟨tm, htm⟩ : ∃ tm, tm = T - 1 := ⟨_, rfl⟩
          rw [← htm] at c0
          have HFK2 := HFK.out
          have hL3 : 2 + J ≤ C.length := by omega
          have hL8 : 2 ≤ D.length := by omega
          obtain ⟨ad3, hl3, rfl, hb3', hc3⟩ := hr3.int (i := 1 + J) (by omega)
          have hgx : C[1 + J] = x := by
            rw [List.getElem?_eq_getElem hl3] at hx1
            exact Option.some.inj hx1
          rw [hgx] at hc3
          clear hgx hx1 hlen3 hlen8
          have HTm := Lib.hid htm
          have hl3i : ¬ ((C.length : Nat) : Int) < 2 + (F : Int) / 4 := by omega
          have hl8i : ¬ ((D.length : Nat) : Int) < 2 := by omega
          clear HFK2 htm
          go_wp2_with fail
          refine HE2.mono ?_
          clear HE2
          rintro e w8 ⟨v8, rfl, hown8, hb8⟩
          obtain ⟨A8, c8, rfl, hr8, _, _⟩ := ownsRow_slice hown8
          obtain ⟨ad8, hl8, rfl, hb8', hc8⟩ := hr8.int (i := 1) (by omega)
          have hgd : D[1] = dd * 65536 := by
            rw [List.getElem?_eq_getElem hl8] at hfst
            exact Option.some.inj hfst
          rw [hgd] at hc8
          clear hgd hfst hown8
          have hB8 := then_ hB3 hb8
          have k3 : w8.cell? (ad3.add (1 + J)) = some (.int .u32 x) := by
            exact (hb8.cell (cell_lt hc3)).trans hc3
          have k8 : w8.cell? ⟨ad8.block, ad8.off + 1, none⟩ = some (.int .u32 (dd * 65536)) := by simpa [Addr.add] using hc8
          have kd : w8.cell? (ad.add (tm * 2)) = some (.int .i64 dd) := (hb8.cell (cell_lt c0)).trans c0
          clear hr3 hr8 hc3 hc8 c0
          have q1 : IntKind.i64.wrap ((F : Int) / 4) = (J : Int) := by rw [show (F : Int) / 4 = (J : Int) from by have := HFK.out; omega]; exact IntWalk.i64_in _ (by omega)
          have q2 : IntKind.i64.wrap (1 + (J : Int)) = 1 + (J : Int) := IntWalk.i64_in _ (by omega)
          have q3 : (1 + (J : Int)).toNat = 1 + J := by omega
          have q4 : (0 : Int) ≤ 1 + (J : Int) := by omega
          have q5 : 1 + (J : Int) < ((C.length : Nat) : Int) := by omega
          have q80 : tm ≤ 64 := by have := HTm.out; omega
          have q6 : IntKind.i64.wrap ((T : Int) - 1) = (tm : Int) := by rw [show (T : Int) - 1 = (tm : Int) from by have := HTm.out; omega]; exact IntWalk.i64_in _ (by omega)
          have q7 : (0 : Int) ≤ (tm : Int) := by omega
          have q8 : (tm : Int) < (n : Int) := by have := HTm.out; omega
          have q9 : (1 : Int) < ((D.length : Nat) : Int) := by omega
          have q10 : IntKind.u32.wrap dd = dd := IntWalk.u32_in _ (by omega)
          have q11 : IntKind.u32.wrap (dd * 65536) = dd * 65536 := IntWalk.u32_in _ (by omega)
          go_wp2_with fail
          refine wp_region_noPanic ?_
          refine wp_region_held_drew (S := (fun w' : World => w'.cell? (ad3.add (1 + J)) = some (.int .u32 x) ∧ w'.cell? ⟨ad8.block, ad8.off + 1, none⟩ = some (.int .u32 (dd * 65536)) ∧ w'.cell? (ad.add (tm * 2)) = some (.int .i64 dd))) (by kernel_rfl) (⟨k3, k8, kd⟩) (fun hHeld => ?_)
          refine wpAnyH_ready (rs := [0]) (by kernel_rfl) (by simp) ?_
          refine AllReadyH.cons (o := _) rfl (fun K hK => ?_) AllReadyH.nil
          go_simp
          go_at_call 9
          refine (fixed_any _).mono ?_
          rintro e w9 ⟨rfl, hb9⟩
          have hs9 : w9.cell? (ad3.add (1 + J)) = some (.int .u32 x) ∧ w9.cell? ⟨ad8.block, ad8.off + 1, none⟩ = some (.int .u32 (dd * 65536)) ∧ w9.cell? (ad.add (tm * 2)) = some (.int .i64 dd) := ⟨(hb9.cell (cell_lt hHeld.1)).trans hHeld.1, (hb9.cell (cell_lt hHeld.2.1)).trans hHeld.2.1, (hb9.cell (cell_lt hHeld.2.2)).trans hHeld.2.2⟩
          refine hK.out _ _ hs9 (fun hHeld => ?_)
          clear hK K
          try simp only [Act.put, List.getElem_toArray, List.getElem_cons_zero, List.setIfInBounds_toArray, List.set_cons_zero, List.set_cons_succ]
          refine wpAnyH_take (i := 1) (v := ?_) rfl (by kernel_rfl) (by kernel_rfl) (by kernel_rfl) (fun _ _ _ h => h) (Or.inl ⟨by rfl, ?_⟩) (by assumption) ?_
          rotate_left 1
          · intro w hSw; (try dsimp only at hSw); go_simp; try with_reducible rfl
          try simp only [Act.put, List.getElem_toArray, List.getElem_cons_zero, List.getElem_cons_succ, List.setIfInBounds_toArray, List.set_cons_zero, List.set_cons_succ]
          refine wpAnyH_take (i := 2) (v := ?_) rfl (by kernel_rfl) (by kernel_rfl) (by kernel_rfl) (fun _ _ _ h => h) (Or.inl ⟨by rfl, ?_⟩) (by assumption) ?_
          rotate_left 1
          · intro w hSw; (try dsimp only at hSw); go_simp; try with_reducible rfl
          try simp only [Act.put, List.getElem_toArray, List.getElem_cons_zero, List.getElem_cons_succ, List.setIfInBounds_toArray, List.set_cons_zero, List.set_cons_succ]
          refine wpAnyH_take (i := 3) (v := ?_) rfl (by kernel_rfl) (by kernel_rfl) (by kernel_rfl) (fun _ _ _ h => h) (Or.inl ⟨by rfl, ?_⟩) (by assumption) ?_
          rotate_left 1
          · intro w hSw; (try dsimp only at hSw); go_simp; try with_reducible rfl
          try simp only [Act.put, List.getElem_toArray, List.getElem_cons_zero, List.getElem_cons_succ, List.setIfInBounds_toArray, List.set_cons_zero, List.set_cons_succ]
          refine wpAnyH_take (i := 4) (v := ?_) rfl (by kernel_rfl) (by kernel_rfl) (by kernel_rfl) (fun _ _ _ h => h) (Or.inl ⟨by rfl, ?_⟩) (by assumption) ?_
          rotate_left 1
          · intro w hSw; (try dsimp only at hSw); go_simp; try with_reducible rfl
          try simp only [Act.put, List.getElem_toArray, List.getElem_cons_zero, List.getElem_cons_succ, List.setIfInBounds_toArray, List.set_cons_zero, List.set_cons_succ]
          refine wpAnyH_take (i := 5) (v := ?_) rfl (by kernel_rfl) (by kernel_rfl) (by kernel_rfl) (fun _ _ _ h => h) (Or.inl ⟨by rfl, ?_⟩) (by assumption) ?_
          rotate_left 1
          · intro w hSw; (try dsimp only at hSw); go_simp; try with_reducible rfl
          try simp only [Act.put, List.getElem_toArray, List.getElem_cons_zero, List.getElem_cons_succ, List.setIfInBounds_toArray, List.set_cons_zero, List.set_cons_succ]
          refine wpAnyH_take (i := 6) (v := ?_) rfl (by kernel_rfl) (by kernel_rfl) (by kernel_rfl) (fun _ _ _ h => h) (Or.inl ⟨by rfl, ?_⟩) (by assumption) ?_
          rotate_left 1
          · intro w hSw; (try dsimp only at hSw); go_simp; try with_reducible rfl
          try simp only [Act.put, List.getElem_toArray, List.getElem_cons_zero, List.getElem_cons_succ, List.setIfInBounds_toArray, List.set_cons_zero, List.set_cons_succ]
          refine wpAnyH_take (i := 7) (v := ?_) rfl (by kernel_rfl) (by kernel_rfl) (by kernel_rfl) (fun _ _ _ h => h) (Or.inl ⟨by rfl, ?_⟩) (by assumption) ?_
          rotate_left 1
          · intro w hSw; (try dsimp only at hSw); go_simp; try with_reducible rfl
          try simp only [Act.put, List.getElem_toArray, List.getElem_cons_zero, List.getElem_cons_succ, List.setIfInBounds_toArray, List.set_cons_zero, List.set_cons_succ]
          refine wpAnyH_take (i := 8) (v := ?_) rfl (by kernel_rfl) (by kernel_rfl) (by kernel_rfl) (fun _ _ _ h => h) (Or.inl ⟨by rfl, ?_⟩) (by assumption) ?_
          rotate_left 1
          · intro w hSw; (try dsimp only at hSw); go_simp; try with_reducible rfl
          try simp only [Act.put, List.getElem_toArray, List.getElem_cons_zero, List.getElem_cons_succ, List.setIfInBounds_toArray, List.set_cons_zero, List.set_cons_succ]
          refine wpAnyH_take (i := 9) (v := ?_) rfl (by kernel_rfl) (by kernel_rfl) (by kernel_rfl) (fun _ _ _ h => h) (Or.inl ⟨by rfl, ?_⟩) (by assumption) ?_
          rotate_left 1
          · intro w hSw; (try dsimp only at hSw); go_simp; try with_reducible rfl
          try simp only [Act.put, List.getElem_toArray, List.getElem_cons_zero, List.getElem_cons_succ, List.setIfInBounds_toArray, List.set_cons_zero, List.set_cons_succ]
          refine wpAnyH_take (i := 10) (v := ?_) rfl (by kernel_rfl) (by kernel_rfl) (by kernel_rfl) (fun _ _ _ h => h) (Or.inl ⟨by rfl, ?_⟩) (by assumption) ?_
          rotate_left 1
          · intro w hSw; (try dsimp only at hSw); go_simp; try with_reducible rfl
          try simp only [Act.put, List.getElem_toArray, List.getElem_cons_zero, List.getElem_cons_succ, List.setIfInBounds_toArray, List.set_cons_zero, List.set_cons_succ]
          refine wpAnyH_take (i := 11) (v := ?_) rfl (by kernel_rfl) (by kernel_rfl) (by kernel_rfl) (fun _ _ _ h => h) (Or.inl ⟨by rfl, ?_⟩) (by assumption) ?_
          rotate_left 1
          · intro w hSw; (try dsimp only at hSw); go_simp; try with_reducible rfl
          try simp only [Act.put, List.getElem_toArray, List.getElem_cons_zero, List.getElem_cons_succ, List.setIfInBounds_toArray, List.set_cons_zero, List.set_cons_succ]
          refine wpAnyH_take (i := 12) (v := ?_) rfl (by kernel_rfl) (by kernel_rfl) (by kernel_rfl) (fun _ _ _ h => h) (Or.inl ⟨by rfl, ?_⟩) (by assumption) ?_
          rotate_left 1
          · intro w hSw; (try dsimp only at hSw); go_simp; try with_reducible rfl
          try simp only [Act.put, List.getElem_toArray, List.getElem_cons_zero, List.getElem_cons_succ, List.setIfInBounds_toArray, List.set_cons_zero, List.set_cons_succ]
          refine wpAnyH_take (i := 13) (v := ?_) rfl (by kernel_rfl) (by kernel_rfl) (by kernel_rfl) (fun _ _ _ h => h) (Or.inl ⟨by rfl, ?_⟩) (by assumption) ?_
          rotate_left 1
          · intro w hSw; (try dsimp only at hSw); go_simp; try with_reducible rfl
          try simp only [Act.put, List.getElem_toArray, List.getElem_cons_zero, List.getElem_cons_succ, List.setIfInBounds_toArray, List.set_cons_zero, List.set_cons_succ]
          refine wpAnyH_take (i := 14) (v := ?_) rfl (by kernel_rfl) (by kernel_rfl) (by kernel_rfl) (fun _ _ _ h => h) (Or.inl ⟨by rfl, ?_⟩) (by assumption) ?_
          rotate_left 1
          · intro w hSw; (try dsimp only at hSw); go_simp; try with_reducible rfl
          try simp only [Act.put, List.getElem_toArray, List.getElem_cons_zero, List.getElem_cons_succ, List.setIfInBounds_toArray, List.set_cons_zero, List.set_cons_succ]
          refine wpAnyH_take (i := 15) (v := ?_) rfl (by kernel_rfl) (by kernel_rfl) (by kernel_rfl) (fun _ _ _ h => h) (Or.inl ⟨by rfl, ?_⟩) (by assumption) ?_
          rotate_left 1
          · intro w hSw; (try dsimp only at hSw); go_simp; try with_reducible rfl
          try simp only [Act.put, List.getElem_toArray, List.getElem_cons_zero, List.getElem_cons_succ, List.setIfInBounds_toArray, List.set_cons_zero, List.set_cons_succ]
          refine wpAnyH_take (i := 16) (v := ?_) rfl (by kernel_rfl) (by kernel_rfl) (by kernel_rfl) (fun _ _ _ h => h) (Or.inl ⟨by rfl, ?_⟩) (by assumption) ?_
          rotate_left 1
          · intro w hSw; (try dsimp only at hSw); go_simp; try with_reducible rfl
          try simp only [Act.put, List.getElem_toArray, List.getElem_cons_zero, List.getElem_cons_succ, List.setIfInBounds_toArray, List.set_cons_zero, List.set_cons_succ]
          refine wpAnyH_take (i := 17) (v := ?_) rfl (by kernel_rfl) (by kernel_rfl) (by kernel_rfl) (fun _ _ _ h => h) (Or.inl ⟨by rfl, ?_⟩) (by assumption) ?_
          rotate_left 1
          · intro w hSw; (try dsimp only at hSw); go_simp; try with_reducible rfl
          try simp only [Act.put, List.getElem_toArray, List.getElem_cons_zero, List.getElem_cons_succ, List.setIfInBounds_toArray, List.set_cons_zero, List.set_cons_succ]
          refine wpAnyH_take (i := 18) (v := ?_) rfl (by kernel_rfl) (by kernel_rfl) (by kernel_rfl) (fun _ _ _ h => h) (Or.inl ⟨by rfl, ?_⟩) (by assumption) ?_
          rotate_left 1
          · intro w hSw; (try dsimp only at hSw); go_simp; try with_reducible rfl
          try simp only [Act.put, List.getElem_toArray, List.getElem_cons_zero, List.getElem_cons_succ, List.setIfInBounds_toArray, List.set_cons_zero, List.set_cons_succ]
          refine wpAnyH_take (i := 19) (v := ?_) rfl (by kernel_rfl) (by kernel_rfl) (by kernel_rfl) (fun _ _ _ h => h) (Or.inl ⟨by rfl, ?_⟩) (by assumption) ?_
          rotate_left 1
          · intro w hSw; (try dsimp only at hSw); go_simp; try with_reducible rfl
          try simp only [Act.put, List.getElem_toArray, List.getElem_cons_zero, List.getElem_cons_succ, List.setIfInBounds_toArray, List.set_cons_zero, List.set_cons_succ]
          refine wpAnyH_take (i := 20) (v := ?_) rfl (by kernel_rfl) (by kernel_rfl) (by kernel_rfl) (fun _ _ _ h => h) (Or.inl ⟨by rfl, ?_⟩) (by assumption) ?_
          rotate_left 1
          · intro w hSw; (try dsimp only at hSw); go_simp; try with_reducible rfl
          try simp only [Act.put, List.getElem_toArray, List.getElem_cons_zero, List.getElem_cons_succ, List.setIfInBounds_toArray, List.set_cons_zero, List.set_cons_succ]
          refine wpAnyH_take (i := 21) (v := ?_) rfl (by kernel_rfl) (by kernel_rfl) (by kernel_rfl) (fun _ _ _ h => h) (Or.inl ⟨by rfl, ?_⟩) (by assumption) ?_
          rotate_left 1
          · intro w hSw; (try dsimp only at hSw); go_simp; try with_reducible rfl
          try simp only [Act.put, List.getElem_toArray, List.getElem_cons_zero, List.getElem_cons_succ, List.setIfInBounds_toArray, List.set_cons_zero, List.set_cons_succ]
          refine wpAnyH_take (i := 22) (v := ?_) rfl (by kernel_rfl) (by kernel_rfl) (by kernel_rfl) (fun _ _ _ h => h) (Or.inl ⟨by rfl, ?_⟩) (by assumption) ?_
          rotate_left 1
          · intro w hSw; (try dsimp only at hSw); go_simp; try with_reducible rfl
          try simp only [Act.put, List.getElem_toArray, List.getElem_cons_zero, List.getElem_cons_succ, List.setIfInBounds_toArray, List.set_cons_zero, List.set_cons_succ]
          refine wpAnyH_take (i := 23) (v := ?_) rfl (by kernel_rfl) (by kernel_rfl) (by kernel_rfl) (fun _ _ _ h => h) (Or.inl ⟨by rfl, ?_⟩) (by assumption) ?_
          rotate_left 1
          · intro w hSw; (try dsimp only at hSw); go_simp; try with_reducible rfl
          try simp only [Act.put, List.getElem_toArray, List.getElem_cons_zero, List.getElem_cons_succ, List.setIfInBounds_toArray, List.set_cons_zero, List.set_cons_succ]
          refine wpAnyH_take (i := 24) (v := ?_) rfl (by kernel_rfl) (by kernel_rfl) (by kernel_rfl) (fun _ _ _ h => h) (Or.inl ⟨by rfl, ?_⟩) (by assumption) ?_
          rotate_left 1
          · intro w hSw; (try dsimp only at hSw); go_simp; try with_reducible rfl
          try simp only [Act.put, List.getElem_toArray, List.getElem_cons_zero, List.getElem_cons_succ, List.setIfInBounds_toArray, List.set_cons_zero, List.set_cons_succ]
          refine wpAnyH_take (i := 25) (v := ?_) rfl (by kernel_rfl) (by kernel_rfl) (by kernel_rfl) (fun _ _ _ h => h) (Or.inl ⟨by rfl, ?_⟩) (by assumption) ?_
          rotate_left 1
          · intro w hSw; (try dsimp only at hSw); go_simp; try with_reducible rfl
          try simp only [Act.put, List.getElem_toArray, List.getElem_cons_zero, List.getElem_cons_succ, List.setIfInBounds_toArray, List.set_cons_zero, List.set_cons_succ]
          refine wpAnyH_take (i := 26) (v := ?_) rfl (by kernel_rfl) (by kernel_rfl) (by kernel_rfl) (fun _ _ _ h => h) (Or.inl ⟨by rfl, ?_⟩) (by assumption) ?_
          rotate_left 1
          · intro w hSw; (try dsimp only at hSw); go_simp; try with_reducible rfl
          try simp only [Act.put, List.getElem_toArray, List.getElem_cons_zero, List.getElem_cons_succ, List.setIfInBounds_toArray, List.set_cons_zero, List.set_cons_succ]
          refine wpAnyH_take (i := 27) (v := ?_) rfl (by kernel_rfl) (by kernel_rfl) (by kernel_rfl) (fun _ _ _ h => h) (Or.inl ⟨by rfl, ?_⟩) (by assumption) ?_
          rotate_left 1
          · intro w hSw; (try dsimp only at hSw); go_simp; try with_reducible rfl
          try simp only [Act.put, List.getElem_toArray, List.getElem_cons_zero, List.getElem_cons_succ, List.setIfInBounds_toArray, List.set_cons_zero, List.set_cons_succ]
          refine wpAnyH_take (i := 28) (v := ?_) rfl (by kernel_rfl) (by kernel_rfl) (by kernel_rfl) (fun _ _ _ h => h) (Or.inl ⟨by rfl, ?_⟩) (by assumption) ?_
          rotate_left 1
          · intro w hSw; (try dsimp only at hSw); go_simp; try with_reducible rfl
          try simp only [Act.put, List.getElem_toArray, List.getElem_cons_zero, List.getElem_cons_succ, List.setIfInBounds_toArray, List.set_cons_zero, List.set_cons_succ]
          refine wpAnyH_take (i := 29) (v := ?_) rfl (by kernel_rfl) (by kernel_rfl) (by kernel_rfl) (fun _ _ _ h => h) (Or.inl ⟨by rfl, ?_⟩) (by assumption) ?_
          rotate_left 1
          · intro w hSw; (try dsimp only at hSw); go_simp; try with_reducible rfl
          try simp only [Act.put, List.getElem_toArray, List.getElem_cons_zero, List.getElem_cons_succ, List.setIfInBounds_toArray, List.set_cons_zero, List.set_cons_succ]
          refine wpAnyH_take (i := 30) (v := ?_) rfl (by kernel_rfl) (by kernel_rfl) (by kernel_rfl) (fun _ _ _ h => h) (Or.inl ⟨by rfl, ?_⟩) (by assumption) ?_
          rotate_left 1
          · intro w hSw; (try dsimp only at hSw); go_simp; try with_reducible rfl
          try simp only [Act.put, List.getElem_toArray, List.getElem_cons_zero, List.getElem_cons_succ, List.setIfInBounds_toArray, List.set_cons_zero, List.set_cons_succ]
          refine wpAnyH_take (i := 31) (v := ?_) rfl (by kernel_rfl) (by kernel_rfl) (by kernel_rfl) (fun _ _ _ h => h) (Or.inl ⟨by rfl, ?_⟩) (by assumption) ?_
          rotate_left 1
          · intro w hSw; (try dsimp only at hSw); go_simp; try with_reducible rfl
          try simp only [Act.put, List.getElem_toArray, List.getElem_cons_zero, List.getElem_cons_succ, List.setIfInBounds_toArray, List.set_cons_zero, List.set_cons_succ]
          refine wpAnyH_take (i := 32) (v := ?_) rfl (by kernel_rfl) (by kernel_rfl) (by kernel_rfl) (fun _ _ _ h => h) (Or.inl ⟨by rfl, ?_⟩) (by assumption) ?_
          rotate_left 1
          · intro w hSw; (try dsimp only at hSw); go_simp; try with_reducible rfl
          try simp only [Act.put, List.getElem_toArray, List.getElem_cons_zero, List.getElem_cons_succ, List.setIfInBounds_toArray, List.set_cons_zero, List.set_cons_succ]
          refine wpAnyH_done (by kernel_rfl) ?_ _
          refine NoPanic.normal ?_
          go_wp2
          go_ret
          exact ⟨rfl, then_ hB8.drew hb9⟩
        · have h4' : ¬ k % 16 * 4 + 4 ≤ (n : Int) := by rw [HK.out]; omega
          go_wp2_with fail
          rw [HK.out, show (J : Int) * 4 = ((4 * J : Nat) : Int) from by omega]
          obtain ⟨F, hFK⟩ : ∃ F, F = 4 * J := ⟨_, rfl⟩
          rw [← hFK]
          have hFT : F < n := by omega
          have hT4 : n ≤ F + 4 := by omega
          have HFK := Lib.hid hFK
          have HTK := Lib.hid (show min (4 * J + 4) n = n by omega)
          have hnc := hx.row.cap
          have i1 : (0 : Int) ≤ (F : Int) := by omega
          have i2 : (F : Int) ≤ (n : Int) := by omega
          have i3 : (n : Int) ≤ (c : Int) := by omega
          have i4 : (0 : Int) ≤ (n : Int) := by omega
          clear hFK h4' hge' hF
          refine HE.mono ?_
          clear HE
          rintro e w3 ⟨v3, rfl, hown3, hb3⟩
          obtain ⟨A3, c3, rfl, hr3, _, _⟩ := ownsRow_slice hown3
          have hB3 := then_ hB2 hb3
          have hsub := ((hx.below hB3).more hB3.size).cut (m := F) (by omega)
          rw [if_neg (by omega)] at hsub
          have hsub2 := hsub.front (m := n - F) (by omega)
          have HE2 := enc_any _ _ (n - F) (c - F) w3 hsub2 (by omega)
          have hvs : vals ((l.drop F).take (n - F)) = ((vals l).drop F).take (n - F) := by rw [vals_take, vals_drop]
          rw [hvs, enc_yes (sub_may HMp.out F (n - F) (by rw [Hvl.out]; omega))] at HE2
          have hfst := skip_first (V := vals l) F (n - F) (by omega) (by omega) (by rw [Hvl.out]; omega)
          obtain ⟨x, hx1, hx0, hx2, hx3⟩ := skip_at HMp.out J (by rw [Hvl.out, ← HFK.out]; omega)
          rw [Hvl.out, HTK.out] at hx3
          rw [show F + (n - F) - 1 = n - 1 from by omega] at hfst
          obtain ⟨ad, dd, P, A', c', rfl, hb, hen, c0, _, _⟩ := (hx.below hB3).at' (i := n - 1) (by omega)
          rw [hen] at hx3 hfst
          simp only at hx3 hfst
          have hdd := HMp.out.doc (n - 1) (by rw [Hvl.out]; omega)
          rw [hen] at hdd
          simp only at hdd
          have hlen3 := encL_len (vals l)
          have hlen8 := encL_len (((vals l).drop F).take (n - F))
          rw [sub_len F (n - F) (by rw [Hvl.out]; omega)] at hlen8
          rw [Hvl.out] at hlen3
          generalize encL (vals l) = C at *
          generalize encL (((vals l).drop F).take (n - F)) = D at *
          clear hsub hsub2 hvs hen hown3
          obtain ⟨tm, htm⟩ : ∃ tm, tm = n - 1 := ⟨_, rfl⟩
          rw [← htm] at c0
          have HFK2 := HFK.out
          have hL3 : 2 + J ≤ C.length := by omega
          have hL8 : 2 ≤ D.length := by omega
          obtain ⟨ad3, hl3, rfl, hb3', hc3⟩ := hr3.int (i := 1 + J) (by omega)
          have hgx : C[1 + J] = x := by
            rw [List.getElem?_eq_getElem hl3] at hx1
            exact Option.some.inj hx1
          rw [hgx] at hc3
          clear hgx hx1 hlen3 hlen8
          have HTm := Lib.hid htm
          have hl3i : ¬ ((C.length : Nat) : Int) < 2 + (F : Int) / 4 := by omega
          have hl8i : ¬ ((D.length : Nat) : Int) < 2 := by omega
          clear HFK2 htm
          go_wp2_with fail
          refine HE2.mono ?_
          clear HE2
          rintro e w8 ⟨v8, rfl, hown8, hb8⟩
          obtain ⟨A8, c8, rfl, hr8, _, _⟩ := ownsRow_slice hown8
          obtain ⟨ad8, hl8, rfl, hb8', hc8⟩ := hr8.int (i := 1) (by omega)
          have hgd : D[1] = dd * 65536 := by
            rw [List.getElem?_eq_getElem hl8] at hfst
            exact Option.some.inj hfst
          rw [hgd] at hc8
          clear hgd hfst hown8
          have hB8 := then_ hB3 hb8
          have k3 : w8.cell? (ad3.add (1 + J)) = some (.int .u32 x) := by
            exact (hb8.cell (cell_lt hc3)).trans hc3
          have k8 : w8.cell? ⟨ad8.block, ad8.off + 1, none⟩ = some (.int .u32 (dd * 65536)) := by simpa [Addr.add] using hc8
          have kd : w8.cell? (ad.add (tm * 2)) = some (.int .i64 dd) := (hb8.cell (cell_lt c0)).trans c0
          clear hr3 hr8 hc3 hc8 c0
          have q1 : IntKind.i64.wrap ((F : Int) / 4) = (J : Int) := by rw [show (F : Int) / 4 = (J : Int) from by have := HFK.out; omega]; exact IntWalk.i64_in _ (by omega)
          have q2 : IntKind.i64.wrap (1 + (J : Int)) = 1 + (J : Int) := IntWalk.i64_in _ (by omega)
          have q3 : (1 + (J : Int)).toNat = 1 + J := by omega
          have q4 : (0 : Int) ≤ 1 + (J : Int) := by omega
          have q5 : 1 + (J : Int) < ((C.length : Nat) : Int) := by omega
          have q80 : tm ≤ 64 := by have := HTm.out; omega
          have q6 : IntKind.i64.wrap ((n : Int) - 1) = (tm : Int) := by rw [show (n : Int) - 1 = (tm : Int) from by have := HTm.out; omega]; exact IntWalk.i64_in _ (by omega)
          have q7 : (0 : Int) ≤ (tm : Int) := by omega
          have q8 : (tm : Int) < (n : Int) := by have := HTm.out; omega
          have q9 : (1 : Int) < ((D.length : Nat) : Int) := by omega
          have q10 : IntKind.u32.wrap dd = dd := IntWalk.u32_in _ (by omega)
          have q11 : IntKind.u32.wrap (dd * 65536) = dd * 65536 := IntWalk.u32_in _ (by omega)
          go_wp2_with fail
          refine wp_region_noPanic ?_
          refine wp_region_held_drew (S := (fun w' : World => w'.cell? (ad3.add (1 + J)) = some (.int .u32 x) ∧ w'.cell? ⟨ad8.block, ad8.off + 1, none⟩ = some (.int .u32 (dd * 65536)) ∧ w'.cell? (ad.add (tm * 2)) = some (.int .i64 dd))) (by kernel_rfl) (⟨k3, k8, kd⟩) (fun hHeld => ?_)
          refine wpAnyH_ready (rs := [0]) (by kernel_rfl) (by simp) ?_
          refine AllReadyH.cons (o := _) rfl (fun K hK => ?_) AllReadyH.nil
          go_simp
          go_at_call 9
          refine (fixed_any _).mono ?_
          rintro e w9 ⟨rfl, hb9⟩
          have hs9 : w9.cell? (ad3.add (1 + J)) = some (.int .u32 x) ∧ w9.cell? ⟨ad8.block, ad8.off + 1, none⟩ = some (.int .u32 (dd * 65536)) ∧ w9.cell? (ad.add (tm * 2)) = some (.int .i64 dd) := ⟨(hb9.cell (cell_lt hHeld.1)).trans hHeld.1, (hb9.cell (cell_lt hHeld.2.1)).trans hHeld.2.1, (hb9.cell (cell_lt hHeld.2.2)).trans hHeld.2.2⟩
          refine hK.out _ _ hs9 (fun hHeld => ?_)
          clear hK K
          try simp only [Act.put, List.getElem_toArray, List.getElem_cons_zero, List.setIfInBounds_toArray, List.set_cons_zero, List.set_cons_succ]
          refine wpAnyH_take (i := 1) (v := ?_) rfl (by kernel_rfl) (by kernel_rfl) (by kernel_rfl) (fun _ _ _ h => h) (Or.inl ⟨by rfl, ?_⟩) (by assumption) ?_
          rotate_left 1
          · intro w hSw; (try dsimp only at hSw); go_simp; try with_reducible rfl
          try simp only [Act.put, List.getElem_toArray, List.getElem_cons_zero, List.getElem_cons_succ, List.setIfInBounds_toArray, List.set_cons_zero, List.set_cons_succ]
          refine wpAnyH_take (i := 2) (v := ?_) rfl (by kernel_rfl) (by kernel_rfl) (by kernel_rfl) (fun _ _ _ h => h) (Or.inl ⟨by rfl, ?_⟩) (by assumption) ?_
          rotate_left 1
          · intro w hSw; (try dsimp only at hSw); go_simp; try with_reducible rfl
          try simp only [Act.put, List.getElem_toArray, List.getElem_cons_zero, List.getElem_cons_succ, List.setIfInBounds_toArray, List.set_cons_zero, List.set_cons_succ]
          refine wpAnyH_take (i := 3) (v := ?_) rfl (by kernel_rfl) (by kernel_rfl) (by kernel_rfl) (fun _ _ _ h => h) (Or.inl ⟨by rfl, ?_⟩) (by assumption) ?_
          rotate_left 1
          · intro w hSw; (try dsimp only at hSw); go_simp; try with_reducible rfl
          try simp only [Act.put, List.getElem_toArray, List.getElem_cons_zero, List.getElem_cons_succ, List.setIfInBounds_toArray, List.set_cons_zero, List.set_cons_succ]
          refine wpAnyH_take (i := 4) (v := ?_) rfl (by kernel_rfl) (by kernel_rfl) (by kernel_rfl) (fun _ _ _ h => h) (Or.inl ⟨by rfl, ?_⟩) (by assumption) ?_
          rotate_left 1
          · intro w hSw; (try dsimp only at hSw); go_simp; try with_reducible rfl
          try simp only [Act.put, List.getElem_toArray, List.getElem_cons_zero, List.getElem_cons_succ, List.setIfInBounds_toArray, List.set_cons_zero, List.set_cons_succ]
          refine wpAnyH_take (i := 5) (v := ?_) rfl (by kernel_rfl) (by kernel_rfl) (by kernel_rfl) (fun _ _ _ h => h) (Or.inl ⟨by rfl, ?_⟩) (by assumption) ?_
          rotate_left 1
          · intro w hSw; (try dsimp only at hSw); go_simp; try with_reducible rfl
          try simp only [Act.put, List.getElem_toArray, List.getElem_cons_zero, List.getElem_cons_succ, List.setIfInBounds_toArray, List.set_cons_zero, List.set_cons_succ]
          refine wpAnyH_take (i := 6) (v := ?_) rfl (by kernel_rfl) (by kernel_rfl) (by kernel_rfl) (fun _ _ _ h => h) (Or.inl ⟨by rfl, ?_⟩) (by assumption) ?_
          rotate_left 1
          · intro w hSw; (try dsimp only at hSw); go_simp; try with_reducible rfl
          try simp only [Act.put, List.getElem_toArray, List.getElem_cons_zero, List.getElem_cons_succ, List.setIfInBounds_toArray, List.set_cons_zero, List.set_cons_succ]
          refine wpAnyH_take (i := 7) (v := ?_) rfl (by kernel_rfl) (by kernel_rfl) (by kernel_rfl) (fun _ _ _ h => h) (Or.inl ⟨by rfl, ?_⟩) (by assumption) ?_
          rotate_left 1
          · intro w hSw; (try dsimp only at hSw); go_simp; try with_reducible rfl
          try simp only [Act.put, List.getElem_toArray, List.getElem_cons_zero, List.getElem_cons_succ, List.setIfInBounds_toArray, List.set_cons_zero, List.set_cons_succ]
          refine wpAnyH_take (i := 8) (v := ?_) rfl (by kernel_rfl) (by kernel_rfl) (by kernel_rfl) (fun _ _ _ h => h) (Or.inl ⟨by rfl, ?_⟩) (by assumption) ?_
          rotate_left 1
          · intro w hSw; (try dsimp only at hSw); go_simp; try with_reducible rfl
          try simp only [Act.put, List.getElem_toArray, List.getElem_cons_zero, List.getElem_cons_succ, List.setIfInBounds_toArray, List.set_cons_zero, List.set_cons_succ]
          refine wpAnyH_take (i := 9) (v := ?_) rfl (by kernel_rfl) (by kernel_rfl) (by kernel_rfl) (fun _ _ _ h => h) (Or.inl ⟨by rfl, ?_⟩) (by assumption) ?_
          rotate_left 1
          · intro w hSw; (try dsimp only at hSw); go_simp; try with_reducible rfl
          try simp only [Act.put, List.getElem_toArray, List.getElem_cons_zero, List.getElem_cons_succ, List.setIfInBounds_toArray, List.set_cons_zero, List.set_cons_succ]
          refine wpAnyH_take (i := 10) (v := ?_) rfl (by kernel_rfl) (by kernel_rfl) (by kernel_rfl) (fun _ _ _ h => h) (Or.inl ⟨by rfl, ?_⟩) (by assumption) ?_
          rotate_left 1
          · intro w hSw; (try dsimp only at hSw); go_simp; try with_reducible rfl
          try simp only [Act.put, List.getElem_toArray, List.getElem_cons_zero, List.getElem_cons_succ, List.setIfInBounds_toArray, List.set_cons_zero, List.set_cons_succ]
          refine wpAnyH_take (i := 11) (v := ?_) rfl (by kernel_rfl) (by kernel_rfl) (by kernel_rfl) (fun _ _ _ h => h) (Or.inl ⟨by rfl, ?_⟩) (by assumption) ?_
          rotate_left 1
          · intro w hSw; (try dsimp only at hSw); go_simp; try with_reducible rfl
          try simp only [Act.put, List.getElem_toArray, List.getElem_cons_zero, List.getElem_cons_succ, List.setIfInBounds_toArray, List.set_cons_zero, List.set_cons_succ]
          refine wpAnyH_take (i := 12) (v := ?_) rfl (by kernel_rfl) (by kernel_rfl) (by kernel_rfl) (fun _ _ _ h => h) (Or.inl ⟨by rfl, ?_⟩) (by assumption) ?_
          rotate_left 1
          · intro w hSw; (try dsimp only at hSw); go_simp; try with_reducible rfl
          try simp only [Act.put, List.getElem_toArray, List.getElem_cons_zero, List.getElem_cons_succ, List.setIfInBounds_toArray, List.set_cons_zero, List.set_cons_succ]
          refine wpAnyH_take (i := 13) (v := ?_) rfl (by kernel_rfl) (by kernel_rfl) (by kernel_rfl) (fun _ _ _ h => h) (Or.inl ⟨by rfl, ?_⟩) (by assumption) ?_
          rotate_left 1
          · intro w hSw; (try dsimp only at hSw); go_simp; try with_reducible rfl
          try simp only [Act.put, List.getElem_toArray, List.getElem_cons_zero, List.getElem_cons_succ, List.setIfInBounds_toArray, List.set_cons_zero, List.set_cons_succ]
          refine wpAnyH_take (i := 14) (v := ?_) rfl (by kernel_rfl) (by kernel_rfl) (by kernel_rfl) (fun _ _ _ h => h) (Or.inl ⟨by rfl, ?_⟩) (by assumption) ?_
          rotate_left 1
          · intro w hSw; (try dsimp only at hSw); go_simp; try with_reducible rfl
          try simp only [Act.put, List.getElem_toArray, List.getElem_cons_zero, List.getElem_cons_succ, List.setIfInBounds_toArray, List.set_cons_zero, List.set_cons_succ]
          refine wpAnyH_take (i := 15) (v := ?_) rfl (by kernel_rfl) (by kernel_rfl) (by kernel_rfl) (fun _ _ _ h => h) (Or.inl ⟨by rfl, ?_⟩) (by assumption) ?_
          rotate_left 1
          · intro w hSw; (try dsimp only at hSw); go_simp; try with_reducible rfl
          try simp only [Act.put, List.getElem_toArray, List.getElem_cons_zero, List.getElem_cons_succ, List.setIfInBounds_toArray, List.set_cons_zero, List.set_cons_succ]
          refine wpAnyH_take (i := 16) (v := ?_) rfl (by kernel_rfl) (by kernel_rfl) (by kernel_rfl) (fun _ _ _ h => h) (Or.inl ⟨by rfl, ?_⟩) (by assumption) ?_
          rotate_left 1
          · intro w hSw; (try dsimp only at hSw); go_simp; try with_reducible rfl
          try simp only [Act.put, List.getElem_toArray, List.getElem_cons_zero, List.getElem_cons_succ, List.setIfInBounds_toArray, List.set_cons_zero, List.set_cons_succ]
          refine wpAnyH_take (i := 17) (v := ?_) rfl (by kernel_rfl) (by kernel_rfl) (by kernel_rfl) (fun _ _ _ h => h) (Or.inl ⟨by rfl, ?_⟩) (by assumption) ?_
          rotate_left 1
          · intro w hSw; (try dsimp only at hSw); go_simp; try with_reducible rfl
          try simp only [Act.put, List.getElem_toArray, List.getElem_cons_zero, List.getElem_cons_succ, List.setIfInBounds_toArray, List.set_cons_zero, List.set_cons_succ]
          refine wpAnyH_take (i := 18) (v := ?_) rfl (by kernel_rfl) (by kernel_rfl) (by kernel_rfl) (fun _ _ _ h => h) (Or.inl ⟨by rfl, ?_⟩) (by assumption) ?_
          rotate_left 1
          · intro w hSw; (try dsimp only at hSw); go_simp; try with_reducible rfl
          try simp only [Act.put, List.getElem_toArray, List.getElem_cons_zero, List.getElem_cons_succ, List.setIfInBounds_toArray, List.set_cons_zero, List.set_cons_succ]
          refine wpAnyH_take (i := 19) (v := ?_) rfl (by kernel_rfl) (by kernel_rfl) (by kernel_rfl) (fun _ _ _ h => h) (Or.inl ⟨by rfl, ?_⟩) (by assumption) ?_
          rotate_left 1
          · intro w hSw; (try dsimp only at hSw); go_simp; try with_reducible rfl
          try simp only [Act.put, List.getElem_toArray, List.getElem_cons_zero, List.getElem_cons_succ, List.setIfInBounds_toArray, List.set_cons_zero, List.set_cons_succ]
          refine wpAnyH_take (i := 20) (v := ?_) rfl (by kernel_rfl) (by kernel_rfl) (by kernel_rfl) (fun _ _ _ h => h) (Or.inl ⟨by rfl, ?_⟩) (by assumption) ?_
          rotate_left 1
          · intro w hSw; (try dsimp only at hSw); go_simp; try with_reducible rfl
          try simp only [Act.put, List.getElem_toArray, List.getElem_cons_zero, List.getElem_cons_succ, List.setIfInBounds_toArray, List.set_cons_zero, List.set_cons_succ]
          refine wpAnyH_take (i := 21) (v := ?_) rfl (by kernel_rfl) (by kernel_rfl) (by kernel_rfl) (fun _ _ _ h => h) (Or.inl ⟨by rfl, ?_⟩) (by assumption) ?_
          rotate_left 1
          · intro w hSw; (try dsimp only at hSw); go_simp; try with_reducible rfl
          try simp only [Act.put, List.getElem_toArray, List.getElem_cons_zero, List.getElem_cons_succ, List.setIfInBounds_toArray, List.set_cons_zero, List.set_cons_succ]
          refine wpAnyH_take (i := 22) (v := ?_) rfl (by kernel_rfl) (by kernel_rfl) (by kernel_rfl) (fun _ _ _ h => h) (Or.inl ⟨by rfl, ?_⟩) (by assumption) ?_
          rotate_left 1
          · intro w hSw; (try dsimp only at hSw); go_simp; try with_reducible rfl
          try simp only [Act.put, List.getElem_toArray, List.getElem_cons_zero, List.getElem_cons_succ, List.setIfInBounds_toArray, List.set_cons_zero, List.set_cons_succ]
          refine wpAnyH_take (i := 23) (v := ?_) rfl (by kernel_rfl) (by kernel_rfl) (by kernel_rfl) (fun _ _ _ h => h) (Or.inl ⟨by rfl, ?_⟩) (by assumption) ?_
          rotate_left 1
          · intro w hSw; (try dsimp only at hSw); go_simp; try with_reducible rfl
          try simp only [Act.put, List.getElem_toArray, List.getElem_cons_zero, List.getElem_cons_succ, List.setIfInBounds_toArray, List.set_cons_zero, List.set_cons_succ]
          refine wpAnyH_take (i := 24) (v := ?_) rfl (by kernel_rfl) (by kernel_rfl) (by kernel_rfl) (fun _ _ _ h => h) (Or.inl ⟨by rfl, ?_⟩) (by assumption) ?_
          rotate_left 1
          · intro w hSw; (try dsimp only at hSw); go_simp; try with_reducible rfl
          try simp only [Act.put, List.getElem_toArray, List.getElem_cons_zero, List.getElem_cons_succ, List.setIfInBounds_toArray, List.set_cons_zero, List.set_cons_succ]
          refine wpAnyH_take (i := 25) (v := ?_) rfl (by kernel_rfl) (by kernel_rfl) (by kernel_rfl) (fun _ _ _ h => h) (Or.inl ⟨by rfl, ?_⟩) (by assumption) ?_
          rotate_left 1
          · intro w hSw; (try dsimp only at hSw); go_simp; try with_reducible rfl
          try simp only [Act.put, List.getElem_toArray, List.getElem_cons_zero, List.getElem_cons_succ, List.setIfInBounds_toArray, List.set_cons_zero, List.set_cons_succ]
          refine wpAnyH_take (i := 26) (v := ?_) rfl (by kernel_rfl) (by kernel_rfl) (by kernel_rfl) (fun _ _ _ h => h) (Or.inl ⟨by rfl, ?_⟩) (by assumption) ?_
          rotate_left 1
          · intro w hSw; (try dsimp only at hSw); go_simp; try with_reducible rfl
          try simp only [Act.put, List.getElem_toArray, List.getElem_cons_zero, List.getElem_cons_succ, List.setIfInBounds_toArray, List.set_cons_zero, List.set_cons_succ]
          refine wpAnyH_take (i := 27) (v := ?_) rfl (by kernel_rfl) (by kernel_rfl) (by kernel_rfl) (fun _ _ _ h => h) (Or.inl ⟨by rfl, ?_⟩) (by assumption) ?_
          rotate_left 1
          · intro w hSw; (try dsimp only at hSw); go_simp; try with_reducible rfl
          try simp only [Act.put, List.getElem_toArray, List.getElem_cons_zero, List.getElem_cons_succ, List.setIfInBounds_toArray, List.set_cons_zero, List.set_cons_succ]
          refine wpAnyH_take (i := 28) (v := ?_) rfl (by kernel_rfl) (by kernel_rfl) (by kernel_rfl) (fun _ _ _ h => h) (Or.inl ⟨by rfl, ?_⟩) (by assumption) ?_
          rotate_left 1
          · intro w hSw; (try dsimp only at hSw); go_simp; try with_reducible rfl
          try simp only [Act.put, List.getElem_toArray, List.getElem_cons_zero, List.getElem_cons_succ, List.setIfInBounds_toArray, List.set_cons_zero, List.set_cons_succ]
          refine wpAnyH_take (i := 29) (v := ?_) rfl (by kernel_rfl) (by kernel_rfl) (by kernel_rfl) (fun _ _ _ h => h) (Or.inl ⟨by rfl, ?_⟩) (by assumption) ?_
          rotate_left 1
          · intro w hSw; (try dsimp only at hSw); go_simp; try with_reducible rfl
          try simp only [Act.put, List.getElem_toArray, List.getElem_cons_zero, List.getElem_cons_succ, List.setIfInBounds_toArray, List.set_cons_zero, List.set_cons_succ]
          refine wpAnyH_take (i := 30) (v := ?_) rfl (by kernel_rfl) (by kernel_rfl) (by kernel_rfl) (fun _ _ _ h => h) (Or.inl ⟨by rfl, ?_⟩) (by assumption) ?_
          rotate_left 1
          · intro w hSw; (try dsimp only at hSw); go_simp; try with_reducible rfl
          try simp only [Act.put, List.getElem_toArray, List.getElem_cons_zero, List.getElem_cons_succ, List.setIfInBounds_toArray, List.set_cons_zero, List.set_cons_succ]
          refine wpAnyH_take (i := 31) (v := ?_) rfl (by kernel_rfl) (by kernel_rfl) (by kernel_rfl) (fun _ _ _ h => h) (Or.inl ⟨by rfl, ?_⟩) (by assumption) ?_
          rotate_left 1
          · intro w hSw; (try dsimp only at hSw); go_simp; try with_reducible rfl
          try simp only [Act.put, List.getElem_toArray, List.getElem_cons_zero, List.getElem_cons_succ, List.setIfInBounds_toArray, List.set_cons_zero, List.set_cons_succ]
          refine wpAnyH_take (i := 32) (v := ?_) rfl (by kernel_rfl) (by kernel_rfl) (by kernel_rfl) (fun _ _ _ h => h) (Or.inl ⟨by rfl, ?_⟩) (by assumption) ?_
          rotate_left 1
          · intro w hSw; (try dsimp only at hSw); go_simp; try with_reducible rfl
          try simp only [Act.put, List.getElem_toArray, List.getElem_cons_zero, List.getElem_cons_succ, List.setIfInBounds_toArray, List.set_cons_zero, List.set_cons_succ]
          refine wpAnyH_done (by kernel_rfl) ?_ _
          refine NoPanic.normal ?_
          go_wp2
          go_ret
          exact ⟨rfl, then_ hB8.drew hb9⟩
end Go.Proofs.Ythjcacnladpbdaa
