/- BlockGrows, walked: printed by wip/bin/gen_blkgrows.py. -/
import Derived.Test.YthjcacnladpbdaaBlkLawsB
namespace Go.Proofs.Ythjcacnladpbdaa
open Go.RowKit

theorem enAt_take (V : List En) (m j : Nat) (hj : j < m) : enAt (V.take m) j = enAt V j := by
  simp [enAt, List.getD, hj]
theorem entB_take (V : List En) (m j : Nat) (hj : j < m) : entB (V.take m) j = entB V j := by
  have hb : baseAt (V.take m) j = baseAt V j := by
    rw [baseAt, baseAt, enAt_take V m (j - 1) (by omega)]
  rw [entB, entB, hb, enAt_take V m j hj]
theorem bodyB_take (V : List En) (m j : Nat) (hj : j ≤ m) : bodyB (V.take m) j = bodyB V j := by
  induction j with
  | zero => rfl
  | succ j ih => rw [bodyB, bodyB, ih (by omega), entB_take V m j (by omega)]
theorem skip_take (V : List En) (m i : Nat) (hm : m ≤ V.length) (hi : 4 * i + 4 ≤ m) : skipOf (V.take m) (4 * i) = skipOf V (4 * i) := by
  have hl : (V.take m).length = m := by rw [List.length_take]; omega
  rw [skipOf, skipOf, hl, bodyB_take V m _ (by omega), show min (4 * i + 4) m - 1 = 4 * i + 3 from by omega, show min (4 * i + 4) V.length - 1 = 4 * i + 3 from by omega, enAt_take V m _ (by omega)]
theorem grow_at (V : List En) (m i : Nat) (hm : m ≤ V.length) (hi : i < m / 4) : ∃ x : Int, (encL (V.take m))[1 + i]? = some x ∧ (encL V)[1 + i]? = some x := by
  have hl : (V.take m).length = m := by rw [List.length_take]; omega
  refine ⟨_, encL_get (V.take m) i (by omega), ?_⟩
  rw [encL_get V i (by omega), skip_take V m i hm (by omega)]
theorem grow_len (V : List En) (m : Nat) (hm : m + 1 = V.length) : (encL (V.take m)).length ≤ (encL V).length ∧ 1 + m / 4 ≤ (encL (V.take m)).length := by
  have hl : (V.take m).length = m := by rw [List.length_take]; omega
  rw [encL_len, encL_len, hl, bodyB_take V m m (Nat.le_refl _), ← hm, bodyB, List.length_append]
  omega
theorem take_may {V : List En} (h : MayP V) (m : Nat) (hm : m ≤ V.length) : MayP (V.take m) := by
  have := sub_may h 0 m (by omega)
  rwa [List.drop_zero] at this

set_option maxRecDepth 100000 in
set_option maxHeartbeats 20000000 in
theorem walkBlockGrows {w : World} (l : List Ent) (A : Option Addr) (n c : Nat) (hx : ReadsE w w.heap.size A n c l) (hc : c ≤ maxLen) :
    Calls Try.prog 5 #[.slice A n c] w fun e w' => e = .returned (.bool true) ∧ Below w.heap.size w w' := by
  have hvl := hx.vlen
  have HG := great_any l A n c w hx hc
  go_enter Try.func5, Try.ntmps5
  go_wp2_with fail
  refine HG.mono ?_
  clear HG
  rintro e w1 ⟨rfl | rfl, hb1⟩
  · go_wp2_with fail
    refine (fixed_any _).mono ?_
    rintro e w2 ⟨rfl, hb2⟩
    go_wp2
    go_ret
    exact ⟨rfl, then_ hb1 hb2⟩
  · have HM := refMay_any l A n c w1 ((hx.below hb1).more hb1.size) hc
    go_wp2_with fail
    refine HM.mono ?_
    clear HM
    rintro e w2 ⟨rfl, hb2⟩
    have hB2 := then_ hb1 hb2
    cases hmay : mayL (vals l)
    · clear hmay
      go_wp2_with fail
      refine (fixed_any _).mono ?_
      rintro e w3 ⟨rfl, hb3⟩
      go_wp2
      go_ret
      exact ⟨rfl, then_ hB2 hb3⟩
    · have HMp := Lib.hid (may_parts hmay)
      clear hmay
      have hn64 := HMp.out.len
      rw [hvl] at hn64
      have Hvl := Lib.hid hvl
      clear hvl hb1 hb2
      by_cases h2 : n < 2
      · have h2' : (n : Int) < 2 := by omega
        go_wp2_with fail
        refine (fixed_any _).mono ?_
        rintro e w3 ⟨rfl, hb3⟩
        go_wp2
        go_ret
        exact ⟨rfl, then_ hB2 hb3⟩
      · have h2' : ¬ (n : Int) < 2 := by omega
        obtain ⟨m, rfl⟩ : ∃ m, n = m + 1 := ⟨n - 1, by omega⟩
        have hnc := hx.row.cap
        have j1 : (0 : Int) ≤ (m : Int) := by omega
        have j2 : (m : Int) ≤ (c : Int) := by omega
        have j3 : (((m + 1 : Nat) : Int)) = (m : Int) + 1 := by omega
        have hf2 := ((hx.below hB2).more hB2.size).front (m := m) (by omega)
        have HE := enc_any _ A m c w2 hf2 hc
        rw [vals_take, enc_yes (take_may HMp.out m (by rw [Hvl.out]; omega))] at HE
        obtain ⟨hl1, hl2⟩ := grow_len (vals l) m (by rw [Hvl.out])
        have HAt := Lib.hid (fun i (h : i < m / 4) => grow_at (vals l) m i (by rw [Hvl.out]; omega) h)
        go_wp2_with fail
        refine HE.mono ?_
        clear HE
        rintro e w3 ⟨v3, rfl, hown3, hb3⟩
        have hB3 := then_ hB2 hb3
        have HE := enc_any l A (m + 1) c w3 ((hx.below hB3).more hB3.size) hc
        rw [enc_yes HMp.out] at HE
        generalize encL ((vals l).take m) = C at *
        generalize encL (vals l) = D at *
        clear hf2
        go_wp2_with fail
        refine HE.mono ?_
        clear HE
        rintro e w4 ⟨v4, rfl, hown4, hb4⟩
        replace hown3 := ownsRow_below hown3 hb4
        have hB4 := then_ hB3 hb4
        obtain ⟨A3, c3, rfl, hr3, _, _⟩ := ownsRow_slice hown3
        obtain ⟨A4, c4, rfl, hr4, _, _⟩ := ownsRow_slice hown4
        clear hown3 hown4 hb3 hb4
        generalize hCl : C.length = L3 at *
        generalize hDl : D.length = L4 at *
        have HCl := Lib.hid hCl
        have HDl := Lib.hid hDl
        clear hCl hDl
        have HF := fixed_any
        go_wp2_with fail
        go_loopw [8, 45] (fun _ i wr => ∃ t : Nat, t ≤ m / 4 ∧ i = .int .i64 (t : Int) ∧ ∃ q, wr = w4.drewN q) (fun _ i _ => m / 4 - (intOf i).toNat)
        case atStart => exact ⟨0, by omega, rfl, 0, rfl⟩
        case round =>
          obtain ⟨t, ht, rfl, q, rfl⟩ := hrel
          by_cases hlt : t < m / 4
          · have hlt' : (t : Int) < (m : Int) / 4 := by omega
            have ht0 : (0 : Int) ≤ (t : Int) := by omega
            obtain ⟨x, hx3, hx4⟩ := HAt.out t hlt
            obtain ⟨ad3, hg3, rfl, hb3, k3⟩ := hr3.int (i := 1 + t) (by omega)
            obtain ⟨ad4, hg4, rfl, hb4, k4⟩ := hr4.int (i := 1 + t) (by omega)
            rw [List.getElem?_eq_getElem hg3] at hx3
            rw [List.getElem?_eq_getElem hg4] at hx4
            rw [Option.some.inj hx3] at k3
            rw [Option.some.inj hx4] at k4
            clear hx3 hx4 hg3 hg4
            have q2 : IntKind.i64.wrap (1 + (t : Int)) = 1 + (t : Int) := IntWalk.i64_in _ (by omega)
            have q3 : (1 + (t : Int)).toNat = 1 + t := by omega
            have q4 : (0 : Int) ≤ 1 + (t : Int) := by omega
            have q5 : 1 + (t : Int) < (L3 : Int) := by omega
            have q6 : 1 + (t : Int) < (L4 : Int) := by omega
            have q7 : ¬ (L3 : Int) ≤ 1 + (t : Int) := by omega
            have q8 : ¬ (L4 : Int) ≤ 1 + (t : Int) := by omega
            go_wp2_with fail
            have q7' : ¬ (L3 : Int) ≤ 1 + (t : Int) := by omega
            have q8' : ¬ (L4 : Int) ≤ 1 + (t : Int) := by omega
            refine wp_region_noPanic ?_
            refine wp_region_held_drew (S := (fun w' : World => w'.cell? (ad3.add (1 + t)) = some (.int .u32 x) ∧ w'.cell? (ad4.add (1 + t)) = some (.int .u32 x))) (by kernel_rfl) (⟨k3, k4⟩) (fun hHeld => ?_)
            refine wpAnyH_take (i := 0) (v := ?_) rfl (by kernel_rfl) (by kernel_rfl) (by kernel_rfl) (fun _ _ _ h => h) (Or.inl ⟨by rfl, ?_⟩) (by assumption) ?_
            rotate_left 1
            · intro w hSw; (try dsimp only at hSw); go_simp; try with_reducible rfl
            try simp only [Act.put, List.getElem_toArray, List.getElem_cons_zero, List.setIfInBounds_toArray, List.set_cons_zero, List.set_cons_succ]
            refine wpAnyH_take (i := 1) (v := ?_) rfl (by kernel_rfl) (by kernel_rfl) (by kernel_rfl) (fun _ _ _ h => h) (Or.inl ⟨by rfl, ?_⟩) (by assumption) ?_
            rotate_left 1
            · intro w hSw; (try dsimp only at hSw); go_simp; try with_reducible rfl
            try simp only [Act.put, List.getElem_toArray, List.getElem_cons_zero, List.getElem_cons_succ, List.setIfInBounds_toArray, List.set_cons_zero, List.set_cons_succ]
            refine wpAnyH_take (i := 2) (v := ?_) rfl (by kernel_rfl) (by kernel_rfl) (by kernel_rfl) (fun _ _ _ h => h) (Or.inl ⟨by rfl, ?_⟩) (by assumption) ?_
            rotate_left 1
            · intro w hSw; (try dsimp only at hSw); go_simp; try with_reducible rfl
            try simp only [Act.put, List.getElem_toArray, List.getElem_cons_zero, List.getElem_cons_succ, List.setIfInBounds_toArray, List.set_cons_zero, List.set_cons_succ]
            refine wpAnyH_take (i := 3) (v := ?_) rfl (by kernel_rfl) (by kernel_rfl) (by kernel_rfl) (fun _ _ _ h => h) (Or.inl ⟨by rfl, ?_⟩) (by assumption) ?_
            rotate_left 1
            · intro w hSw; (try dsimp only at hSw); go_simp; try with_reducible rfl
            try simp only [Act.put, List.getElem_toArray, List.getElem_cons_zero, List.getElem_cons_succ, List.setIfInBounds_toArray, List.set_cons_zero, List.set_cons_succ]
            refine wpAnyH_take (i := 4) (v := ?_) rfl (by kernel_rfl) (by kernel_rfl) (by kernel_rfl) (fun _ _ _ h => h) (Or.inl ⟨by rfl, ?_⟩) (by assumption) ?_
            rotate_left 1
            · intro w hSw; (try dsimp only at hSw); go_simp; try with_reducible rfl
            try simp only [Act.put, List.getElem_toArray, List.getElem_cons_zero, List.getElem_cons_succ, List.setIfInBounds_toArray, List.set_cons_zero, List.set_cons_succ]
            refine wpAnyH_take (i := 5) (v := ?_) rfl (by kernel_rfl) (by kernel_rfl) (by kernel_rfl) (fun _ _ _ h => h) (Or.inl ⟨by rfl, ?_⟩) (by assumption) ?_
            rotate_left 1
            · intro w hSw; (try dsimp only at hSw); go_simp; try with_reducible rfl
            try simp only [Act.put, List.getElem_toArray, List.getElem_cons_zero, List.getElem_cons_succ, List.setIfInBounds_toArray, List.set_cons_zero, List.set_cons_succ]
            refine wpAnyH_take (i := 6) (v := ?_) rfl (by kernel_rfl) (by kernel_rfl) (by kernel_rfl) (fun _ _ _ h => h) (Or.inl ⟨by rfl, ?_⟩) (by assumption) ?_
            rotate_left 1
            · intro w hSw; (try dsimp only at hSw); go_simp; try with_reducible rfl
            try simp only [Act.put, List.getElem_toArray, List.getElem_cons_zero, List.getElem_cons_succ, List.setIfInBounds_toArray, List.set_cons_zero, List.set_cons_succ]
            refine wpAnyH_take (i := 7) (v := ?_) rfl (by kernel_rfl) (by kernel_rfl) (by kernel_rfl) (fun _ _ _ h => h) (Or.inl ⟨by rfl, ?_⟩) (by assumption) ?_
            rotate_left 1
            · intro w hSw; (try dsimp only at hSw); go_simp; try with_reducible rfl
            try simp only [Act.put, List.getElem_toArray, List.getElem_cons_zero, List.getElem_cons_succ, List.setIfInBounds_toArray, List.set_cons_zero, List.set_cons_succ]
            refine wpAnyH_take (i := 8) (v := ?_) rfl (by kernel_rfl) (by kernel_rfl) (by kernel_rfl) (fun _ _ _ h => h) (Or.inl ⟨by rfl, ?_⟩) (by assumption) ?_
            rotate_left 1
            · intro w hSw; (try dsimp only at hSw); go_simp; try with_reducible rfl
            try simp only [Act.put, List.getElem_toArray, List.getElem_cons_zero, List.getElem_cons_succ, List.setIfInBounds_toArray, List.set_cons_zero, List.set_cons_succ]
            refine wpAnyH_take (i := 9) (v := ?_) rfl (by kernel_rfl) (by kernel_rfl) (by kernel_rfl) (fun _ _ _ h => h) (Or.inl ⟨by rfl, ?_⟩) (by assumption) ?_
            rotate_left 1
            · intro w hSw; (try dsimp only at hSw); go_simp; try with_reducible rfl
            try simp only [Act.put, List.getElem_toArray, List.getElem_cons_zero, List.getElem_cons_succ, List.setIfInBounds_toArray, List.set_cons_zero, List.set_cons_succ]
            refine wpAnyH_take (i := 10) (v := ?_) rfl (by kernel_rfl) (by kernel_rfl) (by kernel_rfl) (fun _ _ _ h => h) (Or.inl ⟨by rfl, ?_⟩) (by assumption) ?_
            rotate_left 1
            · intro w hSw; (try dsimp only at hSw); go_simp; try with_reducible rfl
            try simp only [Act.put, List.getElem_toArray, List.getElem_cons_zero, List.getElem_cons_succ, List.setIfInBounds_toArray, List.set_cons_zero, List.set_cons_succ]
            refine wpAnyH_take (i := 11) (v := ?_) rfl (by kernel_rfl) (by kernel_rfl) (by kernel_rfl) (fun _ _ _ h => h) (Or.inl ⟨by rfl, ?_⟩) (by assumption) ?_
            rotate_left 1
            · intro w hSw; (try dsimp only at hSw); go_simp; try with_reducible rfl
            try simp only [Act.put, List.getElem_toArray, List.getElem_cons_zero, List.getElem_cons_succ, List.setIfInBounds_toArray, List.set_cons_zero, List.set_cons_succ]
            refine wpAnyH_take (i := 12) (v := ?_) rfl (by kernel_rfl) (by kernel_rfl) (by kernel_rfl) (fun _ _ _ h => h) (Or.inl ⟨by rfl, ?_⟩) (by assumption) ?_
            rotate_left 1
            · intro w hSw; (try dsimp only at hSw); go_simp; try with_reducible rfl
            try simp only [Act.put, List.getElem_toArray, List.getElem_cons_zero, List.getElem_cons_succ, List.setIfInBounds_toArray, List.set_cons_zero, List.set_cons_succ]
            refine wpAnyH_take (i := 13) (v := ?_) rfl (by kernel_rfl) (by kernel_rfl) (by kernel_rfl) (fun _ _ _ h => h) (Or.inl ⟨by rfl, ?_⟩) (by assumption) ?_
            rotate_left 1
            · intro w hSw; (try dsimp only at hSw); go_simp; try with_reducible rfl
            try simp only [Act.put, List.getElem_toArray, List.getElem_cons_zero, List.getElem_cons_succ, List.setIfInBounds_toArray, List.set_cons_zero, List.set_cons_succ]
            refine wpAnyH_take (i := 14) (v := ?_) rfl (by kernel_rfl) (by kernel_rfl) (by kernel_rfl) (fun _ _ _ h => h) (Or.inl ⟨by rfl, ?_⟩) (by assumption) ?_
            rotate_left 1
            · intro w hSw; (try dsimp only at hSw); go_simp; try with_reducible rfl
            try simp only [Act.put, List.getElem_toArray, List.getElem_cons_zero, List.getElem_cons_succ, List.setIfInBounds_toArray, List.set_cons_zero, List.set_cons_succ]
            refine wpAnyH_take (i := 15) (v := ?_) rfl (by kernel_rfl) (by kernel_rfl) (by kernel_rfl) (fun _ _ _ h => h) (Or.inl ⟨by rfl, ?_⟩) (by assumption) ?_
            rotate_left 1
            · intro w hSw; (try dsimp only at hSw); go_simp; try with_reducible rfl
            try simp only [Act.put, List.getElem_toArray, List.getElem_cons_zero, List.getElem_cons_succ, List.setIfInBounds_toArray, List.set_cons_zero, List.set_cons_succ]
            refine wpAnyH_take (i := 16) (v := ?_) rfl (by kernel_rfl) (by kernel_rfl) (by kernel_rfl) (fun _ _ _ h => h) (Or.inl ⟨by rfl, ?_⟩) (by assumption) ?_
            rotate_left 1
            · intro w hSw; (try dsimp only at hSw); go_simp; try with_reducible rfl
            try simp only [Act.put, List.getElem_toArray, List.getElem_cons_zero, List.getElem_cons_succ, List.setIfInBounds_toArray, List.set_cons_zero, List.set_cons_succ]
            refine wpAnyH_take (i := 17) (v := ?_) rfl (by kernel_rfl) (by kernel_rfl) (by kernel_rfl) (fun _ _ _ h => h) (Or.inl ⟨by rfl, ?_⟩) (by assumption) ?_
            rotate_left 1
            · intro w hSw; (try dsimp only at hSw); go_simp; try with_reducible rfl
            try simp only [Act.put, List.getElem_toArray, List.getElem_cons_zero, List.getElem_cons_succ, List.setIfInBounds_toArray, List.set_cons_zero, List.set_cons_succ]
            refine wpAnyH_take (i := 18) (v := ?_) rfl (by kernel_rfl) (by kernel_rfl) (by kernel_rfl) (fun _ _ _ h => h) (Or.inl ⟨by rfl, ?_⟩) (by assumption) ?_
            rotate_left 1
            · intro w hSw; (try dsimp only at hSw); go_simp; try with_reducible rfl
            try simp only [Act.put, List.getElem_toArray, List.getElem_cons_zero, List.getElem_cons_succ, List.setIfInBounds_toArray, List.set_cons_zero, List.set_cons_succ]
            refine wpAnyH_take (i := 19) (v := ?_) rfl (by kernel_rfl) (by kernel_rfl) (by kernel_rfl) (fun _ _ _ h => h) (Or.inl ⟨by rfl, ?_⟩) (by assumption) ?_
            rotate_left 1
            · intro w hSw; (try dsimp only at hSw); go_simp; try with_reducible rfl
            try simp only [Act.put, List.getElem_toArray, List.getElem_cons_zero, List.getElem_cons_succ, List.setIfInBounds_toArray, List.set_cons_zero, List.set_cons_succ]
            refine wpAnyH_take (i := 20) (v := ?_) rfl (by kernel_rfl) (by kernel_rfl) (by kernel_rfl) (fun _ _ _ h => h) (Or.inl ⟨by rfl, ?_⟩) (by assumption) ?_
            rotate_left 1
            · intro w hSw; (try dsimp only at hSw); go_simp; try with_reducible rfl
            try simp only [Act.put, List.getElem_toArray, List.getElem_cons_zero, List.getElem_cons_succ, List.setIfInBounds_toArray, List.set_cons_zero, List.set_cons_succ]
            refine wpAnyH_take (i := 21) (v := ?_) rfl (by kernel_rfl) (by kernel_rfl) (by kernel_rfl) (fun _ _ _ h => h) (Or.inl ⟨by rfl, ?_⟩) (by assumption) ?_
            rotate_left 1
            · intro w hSw; (try dsimp only at hSw); go_simp; try with_reducible rfl
            try simp only [Act.put, List.getElem_toArray, List.getElem_cons_zero, List.getElem_cons_succ, List.setIfInBounds_toArray, List.set_cons_zero, List.set_cons_succ]
            refine wpAnyH_take (i := 22) (v := ?_) rfl (by kernel_rfl) (by kernel_rfl) (by kernel_rfl) (fun _ _ _ h => h) (Or.inl ⟨by rfl, ?_⟩) (by assumption) ?_
            rotate_left 1
            · intro w hSw; (try dsimp only at hSw); go_simp; try with_reducible rfl
            try simp only [Act.put, List.getElem_toArray, List.getElem_cons_zero, List.getElem_cons_succ, List.setIfInBounds_toArray, List.set_cons_zero, List.set_cons_succ]
            refine wpAnyH_take (i := 23) (v := ?_) rfl (by kernel_rfl) (by kernel_rfl) (by kernel_rfl) (fun _ _ _ h => h) (Or.inl ⟨by rfl, ?_⟩) (by assumption) ?_
            rotate_left 1
            · intro w hSw; (try dsimp only at hSw); go_simp; try with_reducible rfl
            try simp only [Act.put, List.getElem_toArray, List.getElem_cons_zero, List.getElem_cons_succ, List.setIfInBounds_toArray, List.set_cons_zero, List.set_cons_succ]
            refine wpAnyH_take (i := 24) (v := ?_) rfl (by kernel_rfl) (by kernel_rfl) (by kernel_rfl) (fun _ _ _ h => h) (Or.inl ⟨by rfl, ?_⟩) (by assumption) ?_
            rotate_left 1
            · intro w hSw; (try dsimp only at hSw); go_simp; try with_reducible rfl
            try simp only [Act.put, List.getElem_toArray, List.getElem_cons_zero, List.getElem_cons_succ, List.setIfInBounds_toArray, List.set_cons_zero, List.set_cons_succ]
            refine wpAnyH_done (by kernel_rfl) ?_ _
            refine NoPanic.normal ?_
            go_wp2
            go_roundw
            case rel => exact ⟨t + 1, by omega, by go_num, q + 1, rfl⟩
            case measure => simp [intOf]; omega
          · have hlt' : ¬ (t : Int) < (m : Int) / 4 := by omega
            have hge : ((L3 : Nat) : Int) ≤ (L4 : Int) := by omega
            go_wp2_with fail
            refine (HF _).mono ?_
            rintro e w9 ⟨rfl, hb9⟩
            go_wp2
            go_ret
            exact ⟨rfl, then_ (below_drewN hB4 q) hb9⟩
end Go.Proofs.Ythjcacnladpbdaa
