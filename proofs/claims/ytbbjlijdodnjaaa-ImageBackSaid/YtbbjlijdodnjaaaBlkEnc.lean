/- The walk of block.Encode: printed by wip/bin/gen_blkenc.py. -/
import Derived.Test.YtbbjlijdodnjaaaBlkEntry
import Derived.Deep.RegionHeld3
import Derived.Deep.Cut
namespace Go.Proofs.Ytbbjlijdodnjaaa
open Go.RowKit

theorem join16 (d p : Int) (h1 : 0 ≤ d) (h2 : d ≤ 65535) (h3 : 0 ≤ p) (h4 : p ≤ 65535) : bits .or .u32 (d * 65536) p = d * 65536 + p := by
  obtain ⟨m, rfl⟩ := Int.eq_ofNat_of_zero_le h1
  obtain ⟨n, rfl⟩ := Int.eq_ofNat_of_zero_le h3
  have := u32_or_nat (m * 65536) n (by omega) (by omega)
  rw [nat_join 16 (m * 65536) n (by omega) (by omega)] at this
  rw [show ((m : Int) * 65536) = ((m * 65536 : Nat) : Int) from by omega, this]
  omega
theorem skips_yes (V : List En) (i : Nat) (h : i % 4 = 0) : skipsB V (i + 1) = skipsB V i ++ [skipOf V i] := by rw [skipsB, if_pos h]
theorem skips_no (V : List En) (i : Nat) (h : ¬ i % 4 = 0) : skipsB V (i + 1) = skipsB V i := by rw [skipsB, if_neg h]
theorem ints_snoc1 (k : IntKind) (a : List Int) (x : Int) : ints k a ++ [.int k x] = ints k (a ++ [x]) := by simp [ints]
theorem own_lit1 (w : World) (e : TypeId) (us : List Value) (h : us.length ≤ 1000 := by simp) : (w.alloc (.cells us.toArray e)).ownsRow w.heap.size e 1 (.slice (some ⟨w.heap.size, 0, none⟩) us.length us.length) us.length us :=
  World.ownsRow_lit (base := w.heap.size) (e := e) (size := 1) w us.toArray us.length (Nat.le_refl _) (by simp only [maxLen]; omega) (by simp)
def wasAt (V : List En) (k : Nat) : Int := match k with | 0 => 0 | k + 1 => (enAt V k).1
theorem base_was (V : List En) (k : Nat) (h : ¬ k % 4 = 0) : baseAt V k = wasAt V k := by
  cases k with
  | zero => simp at h
  | succ k => rw [base_1 h, wasAt]
theorem gaps_step (P : List Int) (t : Nat) (h : t < P.length) : gapsB 0 (P.take (t + 1)) = gapsB 0 (P.take t) ++ putL (P[t] - (P.take t).getLast?.getD 0).toNat := by
  rw [List.take_succ_eq_append_getElem h, gapsB_snoc]
theorem last_bd (P : List Int) (hr : rising P = true) (t : Nat) (h : t < P.length) : 0 ≤ (P.take t).getLast?.getD 0 ∧ (P.take t).getLast?.getD 0 ≤ P[t] := by
  have h1 := rising_all _ _ hr
  cases t with
  | zero =>
    have := h1 P[0] (List.getElem_mem h)
    simp only [List.take_zero, List.getLast?_nil, Option.getD_none]
    omega
  | succ t =>
    have h2 := rising_get _ _ hr t h
    have h3 := h1 P[t] (List.getElem_mem (by omega))
    rw [last_snoc P t (by omega)]
    omega
set_option maxRecDepth 100000 in
set_option maxHeartbeats 20000000 in
theorem enc_any (l : List Ent) (A : Option Addr) (n c : Nat) (w : World) (hx : ReadsE w w.heap.size A n c l) (hc : c ≤ maxLen) :
    Calls Try.prog 31 #[.slice A n c] w fun e w' => ∃ v, e = .returned (.tuple #[v, .int .i64 (encA (vals l)).2]) ∧ w'.ownsRow w.heap.size 30 1 v (encA (vals l)).1.length (ints .u32 (encA (vals l)).1) ∧ Below w.heap.size w w' := by
  obtain ⟨i0, hi0, hz0, hz1, hz2⟩ := info_parts info_b8
  obtain ⟨j0, hj0, hy0, hy1, hy2⟩ := info_parts info_u32
  have hvl := hx.vlen
  have HMay := may_any l A n c w hx hc
  go_enter Try.func31, Try.ntmps31
  go_wp2_with fail
  refine HMay.mono ?_
  clear HMay
  rintro e w1 ⟨rfl, hb1⟩
  cases hmay : mayL (vals l)
  · have HE : Hid (encA (vals l) = ([], 1)) := Lib.hid (by rw [encA, hmay]; rfl)
    clear hmay
    go_wp2
    go_ret2
    exact ⟨.slice none 0 0, by rw [HE.out]; rfl, by rw [HE.out]; exact World.ownsRow_nil _ _ _ _, hb1⟩
  · have HE : Hid (encA (vals l) = (encL (vals l), 0)) := Lib.hid (by rw [encA, if_pos hmay])
    have HM := Lib.hid (may_parts hmay)
    have hn64 := (may_parts hmay).len
    clear hmay
    rw [hvl] at hn64
    have Hvl := Lib.hid hvl
    clear hvl
    have hoC := ownsRow_base (own_lit1 w1 30 [.int .u32 (n : Int)]) hb1.size
    have hB2 : Below w.heap.size w (w1.alloc (.cells #[.int .u32 (n : Int)] 30)) := hb1.alloc hb1.size _
    go_wp2_with fail
    go_loopw [4, 5, 6, 22] (fun sk b was i wr => ∃ k : Nat, k ≤ n ∧ i = .int .i64 (k : Int) ∧ was = .int .i64 (wasAt (vals l) k) ∧ wr.ownsRow w.heap.size 30 1 sk (1 + (skipsB (vals l) k).length) (ints .u32 ((n : Int) :: skipsB (vals l) k)) ∧ wr.ownsRow w.heap.size 5 1 b (bodyB (vals l) k).length (bys (bodyB (vals l) k)) ∧ AP sk b ∧ Below w.heap.size w wr) (fun _ _ _ i _ => n - (intOf i).toNat)
    case atStart => exact ⟨0, by omega, rfl, rfl, hoC, World.ownsRow_nil _ _ _ _, fun g h1 h2 => by simp [Value.ownBlock] at h2, hB2⟩
    case round =>
      clear hoC hB2
      obtain ⟨k, hk, rfl, rfl, hoS, hoB, hAP, hB⟩ := hrel
      obtain ⟨A5, c5, rfl, hr5, _, _⟩ := ownsRow_slice hoB
      by_cases hlt : k < n
      · have hlt' : (k : Int) < (n : Int) := by omega
        have hk0 : (0 : Int) ≤ (k : Int) := by omega
        have hkl : k < (vals l).length := by rw [Hvl.out]; exact hlt
        have hbl := bodyB_len HM.out k (by omega)
        have hsl := skipsB_len (vals l) k
        have hbase := base_ok HM.out k hkl
        have hd := HM.out.doc k hkl
        have hp := HM.out.pos k hkl
        have hsr := skip_range HM.out k hkl
        have HBn : Hid (bodyB (vals l) (k + 1) = bodyB (vals l) k ++ entB (vals l) k) := Lib.hid rfl
        have HWn : Hid (wasAt (vals l) (k + 1) = (enAt (vals l) k).1) := Lib.hid rfl
        have hsl3 : (skipsB (vals l) k).length ≤ 64 := by omega
        have hbl4 : (bodyB (vals l) k).length ≤ 60000 := by omega
        obtain ⟨ad, d, P, A', c', rfl, hb, hen, c0, c1, hP⟩ := (hx.below hB).at' hlt
        have Hent : Hid (entB (vals l) k = putL (d - baseAt (vals l) k).toNat ++ putL P.length ++ gapsB 0 P) := Lib.hid (by rw [entB, hen])
        rw [hen] at hd hp hbase HWn
        simp only at hd hp hbase HWn
        obtain ⟨hp1, hp2, hp3⟩ := hp
        have HP := Lib.hid (rising_all _ _ hp3)
        have HL := Lib.hid (last_bd P hp3)
        have hrow := Row.new wr 52 [.int .i64 0, .slice none 0 0]
        have hBa : Below w.heap.size w (wr.alloc (.cells #[.int .i64 0, .slice none 0 0] 52)) := hB.alloc hB.size _
        have hg0 : w.heap.size ≤ wr.heap.size := hB.size
        obtain ⟨ad', dl, P', A'', c'', e', hb', hen', c0', _, _⟩ := (hx.below hB).at' (i := min (k + 4) n - 1) (by omega)
        injection e' with e'
        subst e'
        have HSk : Hid (skipOf (vals l) k = 65536 * dl + ((bodyB (vals l) k).length : Nat)) := Lib.hid (by rw [skipOf, Hvl.out, hen'])
        have hdl := HM.out.doc (min (k + 4) n - 1) (by rw [Hvl.out]; omega)
        rw [hen'] at hdl
        simp only at hdl
        have HSy := Lib.hid (skips_yes (vals l) k)
        have HSno := Lib.hid (skips_no (vals l) k)
        have HB0 := Lib.hid (base_0 (V := vals l) (i := k))
        have HB1 := Lib.hid (base_was (vals l) k)
        generalize skipOf (vals l) k = So at *
        generalize wasAt (vals l) k = Wa at *
        generalize baseAt (vals l) k = Ba at *
        clear hen'
        clear hp3 hen hkl hsl
        generalize entB (vals l) k = Ek at *
        generalize skipsB (vals l) k = Sk at *
        generalize bodyB (vals l) k = Bk at *
        generalize hbl2 : Bk.length = bl at *
        have Hbl2 := Lib.hid hbl2.symm
        clear hbl2 hbl
        by_cases h4 : k % 4 = 0
        · have h4' : ((k : Int) % 4 == 0) = true := by simp; omega
          obtain rfl := HB0.out h4
          have HSn := Lib.hid (HSy.out h4)
          clear HB0 HB1 HSy HSno hbase
          have hl5 : min (k + 4) n - 1 < n := by omega
          have hl6 : min (k + 4) n - 1 = k + 3 ∨ min (k + 4) n - 1 = n - 1 := by omega
          have hl7 : (k + 4 ≤ n ∧ min (k + 4) n - 1 = k + 3) ∨ (n < k + 4 ∧ min (k + 4) n - 1 = n - 1) := by omega
          generalize min (k + 4) n - 1 = li at *
          have hl1 := put_short (d - 0).toNat
          have hl2 := put_short P.length
          obtain ⟨B1, hB1⟩ : ∃ B, B = putL (d - 0).toNat := ⟨_, rfl⟩
          obtain ⟨B2, hB2⟩ : ∃ B, B = putL P.length := ⟨_, rfl⟩
          rw [← hB1] at hl1 Hent
          rw [← hB2] at hl2 Hent
          have HPut1 : Hid (∀ w : World, Calls Try.prog 39 #[.int .u32 (d)] w fun e w' => ∃ v, e = .returned v ∧ w'.ownsRow w.heap.size 5 1 v B1.length (bys B1) ∧ Below w.heap.size w w') := Lib.hid fun w => by rw [hB1]; exact (by rw [Int.sub_zero]; exact putI d w (by omega) (by omega))
          have HPut2 : Hid (∀ w : World, Calls Try.prog 39 #[.int .u32 (P.length : Int)] w fun e w' => ∃ v, e = .returned v ∧ w'.ownsRow w.heap.size 5 1 v B2.length (bys B2) ∧ Below w.heap.size w w') := Lib.hid fun w => by rw [hB2]; exact put_any _ w (by omega)
          clear hB1 hB2
          have hoSa := hoS.alloc (.cells #[.int .i64 d, .slice A' P.length c'] 52)
          have hoBa := hoB.alloc (.cells #[.int .i64 d, .slice A' P.length c'] 52)
          have hBaa : Below w.heap.size w (wr.alloc (.cells #[.int .i64 d, .slice A' P.length c'] 52)) := hB.alloc hB.size _
          have e0a : (wr.alloc (.cells #[.int .i64 d, .slice A' P.length c'] 52)).cell? ⟨wr.heap.size, 0, none⟩ = some (.int .i64 d) := (Row.new wr 52 [.int .i64 d, .slice A' P.length c']).cell 0
          have e1a : (wr.alloc (.cells #[.int .i64 d, .slice A' P.length c'] 52)).cell? ⟨wr.heap.size, 1, none⟩ = some (.slice A' P.length c') := (Row.new wr 52 [.int .i64 d, .slice A' P.length c']).cell 1
          have c3a : (wr.alloc (.cells #[.int .i64 d, .slice A' P.length c'] 52)).cell? (ad.add (li * 2)) = some (.int .i64 dl) := by rw [World.cell?_alloc_lt _ _ _ (by rw [add_block]; omega)]; exact c0'
          have hNe13 : ¬ some wr.heap.size = (Value.slice A5 bl c5).ownBlock := fun e => by have := (hoB.lt _ e.symm).2; omega
          have hNeS : ¬ some wr.heap.size = (u4).ownBlock := fun e => by have := (hoS.lt _ e.symm).2; omega
          have HJ := join16 dl (bl : Int) (by omega) (by omega) (by omega) (by omega)
          have hq1w : IntKind.i64.wrap d = d := IntWalk.i64_in _ (by omega)
          have hq2w : IntKind.u32.wrap d = d := IntWalk.u32_in _ (by omega)
          have hq3w : IntKind.u32.wrap (P.length : Int) = (P.length : Int) := IntWalk.u32_in _ (by omega)
          have HSo : Hid (So = dl * 65536 + (bl : Int)) := Lib.hid (by rw [HSk.out]; omega)
          obtain ⟨Sk', hSk'⟩ : ∃ S, S = Sk ++ [So] := ⟨_, rfl⟩
          have HSk' : Hid (ints .u32 ((n : Int) :: Sk) ++ [.int .u32 (dl * 65536 + (bl : Int))] = ints .u32 ((n : Int) :: Sk') ∧ 1 + Sk.length + 1 = 1 + Sk'.length) := Lib.hid ⟨by rw [ints_snoc1, hSk', HSo.out]; rfl, by rw [hSk', List.length_append]; rfl⟩
          have HSn' : Hid (skipsB (vals l) (k + 1) = Sk') := Lib.hid (by rw [HSn.out, hSk'])
          have hbz := hBaa.size
          clear hrow hBa c0' hSk' hl6
          obtain ⟨wo, rfl⟩ : ∃ wo : World, wo = wr := ⟨_, rfl⟩
          rcases hl7 with ⟨g1, rfl⟩ | ⟨g1, g2⟩
          · have g1' : (k : Int) + 4 ≤ (n : Int) := by omega
            go_upto_region 11 with fail
            generalize wo.alloc (.cells #[.int .i64 d, .slice A' P.length c'] 52) = W12 at *
            generalize wo.heap.size = g8 at *
            go_wp2_with (at_builtin; refine wpList_append_oneB rfl (.tmp 40) (.tmp 48) 26 rfl w.heap.size 30 j0 _ 1 4 Try.underlying26 hj0 hy0 hy1 hy2 rfl (by omega) _ _ _ [.int .u32 (dl * 65536 + (bl : Int))] rfl hoSa rfl rfl (by simp [Value.oneCell']) (by omega) (by omega) hbz ?_; intro v6 W13 hoS13 hg6 hv6; have hB13 := below_grown hBaa hoSa (Nat.le_refl _) hbz hg6; have e0 := hg6.cell e0a hNeS; have e1 := hg6.cell e1a hNeS; have hoB13 := hoBa.kept hg6 hAP.symm.ne; have hAP13 := (hAP.symm.step hoBa (Nat.le_succ _) hv6).symm)
            rw [HSk'.out.1, HSk'.out.2] at hoS13
            clear hoSa hoBa hBaa e0a e1a c3a hg6 hv6 hbz
            refine wp_region_noPanic ?_
            refine wp_region_held_drew (S := (fun w' : World => w'.cell? ⟨g8, 0, none⟩ = some (.int .i64 d) ∧ w'.cell? ⟨g8, 1, none⟩ = some (.slice A' P.length c'))) (by kernel_rfl) (⟨e0, e1⟩) (fun hHeld => ?_)
            have hh_D := hHeld
            have hoB_D := hoB13.drew
            have hoS_D := hoS13.drew
            have hB_D := hB13.drew
            have hNe_D := hNe13
            have hAP_D := hAP13
            obtain ⟨D, hD⟩ : ∃ D, D = W13.drew := ⟨_, rfl⟩
            rw [← hD] at hh_D hoB_D hoS_D hB_D hHeld ⊢
            clear hD
            refine wpAnyH_take (i := 0) (v := ?_) rfl (by kernel_rfl) (by kernel_rfl) (by kernel_rfl) (fun _ _ _ h => h) (Or.inl ⟨by rfl, ?_⟩) (by assumption) ?_
            rotate_left 1
            · intro w hSw; (try dsimp only at hSw); go_simp; try with_reducible rfl
            try simp only [Act.put, List.getElem_toArray, List.getElem_cons_zero, List.setIfInBounds_toArray, List.set_cons_zero, List.set_cons_succ]
            refine wpAnyH_take (i := 1) (v := ?_) rfl (by kernel_rfl) (by kernel_rfl) (by kernel_rfl) (fun _ _ _ h => h) (Or.inl ⟨by rfl, ?_⟩) (by assumption) ?_
            rotate_left 1
            · intro w hSw; (try dsimp only at hSw); go_simp; try with_reducible rfl
            try simp only [Act.put, List.getElem_toArray, List.getElem_cons_zero, List.getElem_cons_succ, List.setIfInBounds_toArray, List.set_cons_zero, List.set_cons_succ]
            refine wpAnyH_take (i := 2) (v := ?_) rfl (by kernel_rfl) (by kernel_rfl) (by kernel_rfl) (fun _ _ _ h => h) (Or.inl ⟨by rfl, ?_⟩) (by assumption) ?_
            rotate_left 1
            · intro w hSw; (try dsimp only at hSw); go_simp; try with_reducible rfl
            try simp only [Act.put, List.getElem_toArray, List.getElem_cons_zero, List.getElem_cons_succ, List.setIfInBounds_toArray, List.set_cons_zero, List.set_cons_succ]
            refine wpAnyH_take (i := 3) (v := ?_) rfl (by kernel_rfl) (by kernel_rfl) (by kernel_rfl) (fun _ _ _ h => h) (Or.inl ⟨by rfl, ?_⟩) (by assumption) ?_
            rotate_left 1
            · intro w hSw; (try dsimp only at hSw); go_simp; try with_reducible rfl
            try simp only [Act.put, List.getElem_toArray, List.getElem_cons_zero, List.getElem_cons_succ, List.setIfInBounds_toArray, List.set_cons_zero, List.set_cons_succ]
            refine wpAnyH_take (i := 4) (v := ?_) rfl (by kernel_rfl) (by kernel_rfl) (by kernel_rfl) (fun _ _ _ h => h) (Or.inl ⟨by rfl, ?_⟩) (by assumption) ?_
            rotate_left 1
            · intro w hSw; (try dsimp only at hSw); go_simp; try with_reducible rfl
            try simp only [Act.put, List.getElem_toArray, List.getElem_cons_zero, List.getElem_cons_succ, List.setIfInBounds_toArray, List.set_cons_zero, List.set_cons_succ]
            refine wpAnyH_take (i := 5) (v := ?_) rfl (by kernel_rfl) (by kernel_rfl) (by kernel_rfl) (fun _ _ _ h => h) (Or.inl ⟨by rfl, ?_⟩) (by assumption) ?_
            rotate_left 1
            · intro w hSw; (try dsimp only at hSw); go_simp; try with_reducible rfl
            try simp only [Act.put, List.getElem_toArray, List.getElem_cons_zero, List.getElem_cons_succ, List.setIfInBounds_toArray, List.set_cons_zero, List.set_cons_succ]
            refine wpAnyH_take (i := 8) (v := ?_) rfl (by kernel_rfl) (by kernel_rfl) (by kernel_rfl) (fun _ _ _ h => h) (Or.inl ⟨by rfl, ?_⟩) (by assumption) ?_
            rotate_left 1
            · intro w hSw; (try dsimp only at hSw); go_simp; try with_reducible rfl
            try simp only [Act.put, List.getElem_toArray, List.getElem_cons_zero, List.getElem_cons_succ, List.setIfInBounds_toArray, List.set_cons_zero, List.set_cons_succ]
            refine wpAnyH_take (i := 9) (v := ?_) rfl (by kernel_rfl) (by kernel_rfl) (by kernel_rfl) (fun _ _ _ h => h) (Or.inl ⟨by rfl, ?_⟩) (by assumption) ?_
            rotate_left 1
            · intro w hSw; (try dsimp only at hSw); go_simp; try with_reducible rfl
            try simp only [Act.put, List.getElem_toArray, List.getElem_cons_zero, List.getElem_cons_succ, List.setIfInBounds_toArray, List.set_cons_zero, List.set_cons_succ]
            refine wpAnyH_take (i := 10) (v := ?_) rfl (by kernel_rfl) (by kernel_rfl) (by kernel_rfl) (fun _ _ _ h => h) (Or.inl ⟨by rfl, ?_⟩) (by assumption) ?_
            rotate_left 1
            · intro w hSw; (try dsimp only at hSw); go_simp; try with_reducible rfl
            try simp only [Act.put, List.getElem_toArray, List.getElem_cons_zero, List.getElem_cons_succ, List.setIfInBounds_toArray, List.set_cons_zero, List.set_cons_succ]
            refine wpAnyH_take (i := 11) (v := ?_) rfl (by kernel_rfl) (by kernel_rfl) (by kernel_rfl) (fun _ _ _ h => h) (Or.inl ⟨by rfl, ?_⟩) (by assumption) ?_
            rotate_left 1
            · intro w hSw; (try dsimp only at hSw); go_simp; try with_reducible rfl
            try simp only [Act.put, List.getElem_toArray, List.getElem_cons_zero, List.getElem_cons_succ, List.setIfInBounds_toArray, List.set_cons_zero, List.set_cons_succ]
            refine wpAnyH_ready (rs := [6]) (by kernel_rfl) (by simp) ?_
            refine AllReadyH.cons (o := _) rfl (fun K hK => ?_) AllReadyH.nil
            go_simp
            go_at_call 39
            refine (HPut1.out _).mono ?_
            rintro e WA ⟨v1, rfl, hq1, hb1⟩
            have hh_WA : WA.cell? ⟨g8, 0, none⟩ = some (.int .i64 d) ∧ WA.cell? ⟨g8, 1, none⟩ = some (.slice A' P.length c') := ⟨(hb1.cell (cell_lt hh_D.1)).trans hh_D.1, (hb1.cell (cell_lt hh_D.2)).trans hh_D.2⟩
            have hoB_WA := ownsRow_below hoB_D hb1
            have hoS_WA := ownsRow_below hoS_D hb1
            have hB_WA := then_ hB_D hb1
            obtain ⟨A1, c1, rfl, _, _, _⟩ := ReadsK.of_own hq1
            refine hK.out _ _ hh_WA (fun hHeld => ?_)
            clear hK K
            try simp only [Act.put, List.getElem_toArray, List.getElem_cons_zero, List.getElem_cons_succ, List.setIfInBounds_toArray, List.set_cons_zero, List.set_cons_succ]
            have hNe_WA := hNe_D
            have hAP_WA := hAP_D
            refine wpAnyH_ready (rs := [7]) (by kernel_rfl) (by simp) ?_
            refine AllReadyH.cons (o := _) rfl (fun K hK => ?_) AllReadyH.nil
            refine step_append_allK rfl (.tmp 50) (.tmp 56) 49 rfl w.heap.size 5 i0 _ 1 1 Try.underlying49 hi0 hz0 hz1 hz2 rfl (by omega) (Value.slice A5 bl c5) (bl) _ hoB_WA WA.heap.size A1 B1.length c1 _ (own_reads hq1) rfl rfl (bys_one _) (by omega) (by omega) hB_WA.size ?_
            intro vB WB hoB_WB hg_WB hv_WB
            have hne_WA : ¬ some g8 = ((Value.slice A5 bl c5)).ownBlock := hNe_WA
            have hh_WB : WB.cell? ⟨g8, 0, none⟩ = some (.int .i64 d) ∧ WB.cell? ⟨g8, 1, none⟩ = some (.slice A' P.length c') := ⟨hg_WB.cell hh_WA.1 hne_WA, hg_WB.cell hh_WA.2 hne_WA⟩
            have hoS_WB := hoS_WA.kept hg_WB hAP_WA.ne
            have hAP_WB := hAP_WA.step hoS_WA (Nat.le_refl _) hv_WB
            have hB_WB := below_grown hB_WA hoB_WA (Nat.le_refl _) hB_WA.size hg_WB
            have hNe_WB : ¬ some g8 = vB.ownBlock := fun e => by rcases hv_WB with h | h; exact hNe_WA (e.trans h); have := cell_lt hh_WA.1; rw [h] at e; injection e with e; simp only at this; omega
            refine hK.out _ _ hh_WB (fun hHeld => ?_)
            clear hK K
            try simp only [Act.put, List.getElem_toArray, List.getElem_cons_zero, List.getElem_cons_succ, List.setIfInBounds_toArray, List.set_cons_zero, List.set_cons_succ]
            refine wpAnyH_ready (rs := [12]) (by kernel_rfl) (by simp) ?_
            refine AllReadyH.cons (o := _) rfl (fun K hK => ?_) AllReadyH.nil
            go_simp
            go_at_call 39
            refine (HPut2.out _).mono ?_
            rintro e WC ⟨v2, rfl, hq2, hb2⟩
            have hh_WC : WC.cell? ⟨g8, 0, none⟩ = some (.int .i64 d) ∧ WC.cell? ⟨g8, 1, none⟩ = some (.slice A' P.length c') := ⟨(hb2.cell (cell_lt hh_WB.1)).trans hh_WB.1, (hb2.cell (cell_lt hh_WB.2)).trans hh_WB.2⟩
            have hoB_WC := ownsRow_below hoB_WB hb2
            have hoS_WC := ownsRow_below hoS_WB hb2
            have hB_WC := then_ hB_WB hb2
            obtain ⟨A2, c2, rfl, _, _, _⟩ := ReadsK.of_own hq2
            refine hK.out _ _ hh_WC (fun hHeld => ?_)
            clear hK K
            try simp only [Act.put, List.getElem_toArray, List.getElem_cons_zero, List.getElem_cons_succ, List.setIfInBounds_toArray, List.set_cons_zero, List.set_cons_succ]
            have hNe_WC := hNe_WB
            have hAP_WC := hAP_WB
            refine wpAnyH_ready (rs := [13]) (by kernel_rfl) (by simp) ?_
            refine AllReadyH.cons (o := _) rfl (fun K hK => ?_) AllReadyH.nil
            refine step_append_allK rfl (.tmp 57) (.tmp 62) 49 rfl w.heap.size 5 i0 _ 1 1 Try.underlying49 hi0 hz0 hz1 hz2 rfl (by omega) vB (bl + B1.length) _ hoB_WC WC.heap.size A2 B2.length c2 _ (own_reads hq2) rfl rfl (bys_one _) (by omega) (by omega) hB_WC.size ?_
            intro vE WE hoB_WE hg_WE hv_WE
            have hne_WC : ¬ some g8 = (vB).ownBlock := hNe_WC
            have hh_WE : WE.cell? ⟨g8, 0, none⟩ = some (.int .i64 d) ∧ WE.cell? ⟨g8, 1, none⟩ = some (.slice A' P.length c') := ⟨hg_WE.cell hh_WC.1 hne_WC, hg_WE.cell hh_WC.2 hne_WC⟩
            have hoS_WE := hoS_WC.kept hg_WE hAP_WC.ne
            have hAP_WE := hAP_WC.step hoS_WC (Nat.le_refl _) hv_WE
            have hB_WE := below_grown hB_WC hoB_WC (Nat.le_refl _) hB_WC.size hg_WE
            have hNe_WE : ¬ some g8 = vE.ownBlock := fun e => by rcases hv_WE with h | h; exact hNe_WC (e.trans h); have := cell_lt hh_WC.1; rw [h] at e; injection e with e; simp only at this; omega
            refine hK.out _ _ hh_WE (fun hHeld => ?_)
            clear hK K
            try simp only [Act.put, List.getElem_toArray, List.getElem_cons_zero, List.getElem_cons_succ, List.setIfInBounds_toArray, List.set_cons_zero, List.set_cons_succ]
            refine wpAnyH_take (i := 14) (v := ?_) rfl (by kernel_rfl) (by kernel_rfl) (by kernel_rfl) (fun _ _ _ h => h) (Or.inl ⟨by rfl, ?_⟩) (by assumption) ?_
            rotate_left 1
            · intro w hSw; (try dsimp only at hSw); go_simp; try with_reducible rfl
            try simp only [Act.put, List.getElem_toArray, List.getElem_cons_zero, List.getElem_cons_succ, List.setIfInBounds_toArray, List.set_cons_zero, List.set_cons_succ]
            refine wpAnyH_done (by kernel_rfl) ?_ _
            refine NoPanic.normal ?_
            rw [bys_snoc, bys_snoc] at hoB_WE
            have hPB : (Bk ++ B1 ++ B2).length = bl + B1.length + B2.length := by rw [List.length_append, List.length_append, ← Hbl2.out]
            rw [← hPB] at hoB_WE
            have HE2 : Hid (bodyB (vals l) (k + 1) = (Bk ++ B1 ++ B2) ++ gapsB 0 P) := Lib.hid (by rw [HBn.out, Hent.out]; simp only [List.append_assoc])
            have hPl : (Bk ++ B1 ++ B2).length ≤ 60010 := by omega
            clear hPB
            generalize Bk ++ B1 ++ B2 = PB at *
            obtain ⟨f0, f1⟩ := hh_WE
            clear hh_D hh_WA hh_WB hh_WC hoB_WA hoB_WB hoB_WC hoS_WA hoS_WB hoS_WC hB_WA hB_WB hB_WC hoB_D hoS_D hB_D hg_WB hg_WE hv_WB hv_WE hNe_D hNe_WA hNe_WB hNe_WC hAP_D hAP_WA hAP_WB hAP_WC hq1 hq2 hb1 hb2 hoB13 hoS13 hB13 e0 e1 hNe13 hAP13
            try clear hPw
            go_wp2_with fail
            go_loopw [5, 10, 69] (fun b at_ t wr2 => ∃ t' : Nat, t' ≤ P.length ∧ t = .int .i64 (t' : Int) ∧ at_ = .int .i64 ((P.take t').getLast?.getD 0) ∧ wr2.ownsRow w.heap.size 30 1 v6 (1 + Sk'.length) (ints .u32 ((n : Int) :: Sk')) ∧ wr2.ownsRow w.heap.size 5 1 b (PB ++ gapsB 0 (P.take t')).length (bys (PB ++ gapsB 0 (P.take t'))) ∧ AP v6 b ∧ Below w.heap.size w wr2) (fun _ _ t _ => P.length - (intOf t).toNat)
            case atStart => exact ⟨0, by omega, rfl, rfl, hoS_WE, by simpa [gapsB] using hoB_WE, hAP_WE, hB_WE⟩
            case round =>
              clear hoS_WE hoB_WE hAP_WE hB_WE f0 f1
              obtain ⟨t, ht, rfl, rfl, hoSr, hoBr, hAPr, hBr⟩ := hrel
              by_cases hlt2 : t < P.length
              · obtain ⟨adp, htl, rfl, hbp, cp⟩ := (hP.keep (w' := wr) fun p hp => (hBr.cell hp).trans (hB.cell hp).symm).int hlt2
                have hlt2' : (t : Int) < (P.length : Int) := by omega
                have ht0 : (0 : Int) ≤ (t : Int) := by omega
                have hpt := HP.out _ (List.getElem_mem htl)
                have hgs := gaps_short P t (by omega)
                have hlb := HL.out t htl
                have HG := Lib.hid (show PB ++ gapsB 0 (P.take (t + 1)) = (PB ++ gapsB 0 (P.take t)) ++ putL (P[t] - (P.take t).getLast?.getD 0).toNat from by rw [gaps_step P t htl, List.append_assoc])
                have HLs := Lib.hid (last_snoc P t htl 0)
                have hQl : (PB ++ gapsB 0 (P.take t)).length ≤ 62000 := by rw [List.length_append]; omega
                generalize PB ++ gapsB 0 (P.take t) = QB at *
                generalize (P.take t).getLast?.getD 0 = a at *
                generalize P[t] = p at *
                have hsz := hBr.size
                go_wp2_with fail
                refine (putI (p - a) wr (by omega) (by omega)).mono ?_
                rintro e w4 ⟨v4, rfl, hown4, hb4⟩
                have hl4 := put_short (p - a).toNat
                generalize putL (p - a).toNat = B4 at *
                replace hoBr := ownsRow_below hoBr hb4
                replace hoSr := ownsRow_below hoSr hb4
                have hB4 := then_ hBr hb4
                obtain ⟨A4, c4, rfl, hr4, _, _⟩ := ReadsK.of_own hown4
                go_wp2_with (at_builtin; refine wpList_append_allK rfl (.tmp 73) (.tmp 78) 49 rfl w.heap.size 5 i0 _ 1 1 Try.underlying49 hi0 hz0 hz1 hz2 rfl (by omega) _ QB.length _ hoBr w4.heap.size A4 B4.length c4 _ hr4 rfl rfl (bys_one _) (by omega) (by omega) hB4.size ?_; intro v5 w5 hown5 hg5 hv5; have hB5 := below_grown hB4 hoBr (Nat.le_refl _) hB4.size hg5; rw [bys_snoc, ← List.length_append] at hown5)
                go_roundw
                case rel => exact ⟨t + 1, by omega, by go_num, by rw [HLs.out], hoSr.kept hg5 hAPr.ne, by rw [HG.out]; exact hown5, hAPr.step hoSr (Nat.le_refl _) hv5, hB5⟩
                case measure => simp [intOf]; omega
              · have hlt2' : ¬ (t : Int) < (P.length : Int) := by omega
                rw [List.take_of_length_le (by omega), ← HE2.out] at hoBr
                go_wp2
                go_roundw
                case rel => exact ⟨k + 1, by omega, by go_num, by rw [HWn.out], by rw [HSn'.out]; exact hoSr, hoBr, hAPr, hBr⟩
                case measure => simp [intOf]; omega
          · have g1' : ¬ (k : Int) + 4 ≤ (n : Int) := by omega
            have g3 : (1 : Int) ≤ (n : Int) := by omega
            obtain rfl := g2
            go_upto_region 11 with fail
            generalize wo.alloc (.cells #[.int .i64 d, .slice A' P.length c'] 52) = W12 at *
            generalize wo.heap.size = g8 at *
            go_wp2_with (at_builtin; refine wpList_append_oneB rfl (.tmp 40) (.tmp 48) 26 rfl w.heap.size 30 j0 _ 1 4 Try.underlying26 hj0 hy0 hy1 hy2 rfl (by omega) _ _ _ [.int .u32 (dl * 65536 + (bl : Int))] rfl hoSa rfl rfl (by simp [Value.oneCell']) (by omega) (by omega) hbz ?_; intro v6 W13 hoS13 hg6 hv6; have hB13 := below_grown hBaa hoSa (Nat.le_refl _) hbz hg6; have e0 := hg6.cell e0a hNeS; have e1 := hg6.cell e1a hNeS; have hoB13 := hoBa.kept hg6 hAP.symm.ne; have hAP13 := (hAP.symm.step hoBa (Nat.le_succ _) hv6).symm)
            rw [HSk'.out.1, HSk'.out.2] at hoS13
            clear hoSa hoBa hBaa e0a e1a c3a hg6 hv6 hbz
            refine wp_region_noPanic ?_
            refine wp_region_held_drew (S := (fun w' : World => w'.cell? ⟨g8, 0, none⟩ = some (.int .i64 d) ∧ w'.cell? ⟨g8, 1, none⟩ = some (.slice A' P.length c'))) (by kernel_rfl) (⟨e0, e1⟩) (fun hHeld => ?_)
            have hh_D := hHeld
            have hoB_D := hoB13.drew
            have hoS_D := hoS13.drew
            have hB_D := hB13.drew
            have hNe_D := hNe13
            have hAP_D := hAP13
            obtain ⟨D, hD⟩ : ∃ D, D = W13.drew := ⟨_, rfl⟩
            rw [← hD] at hh_D hoB_D hoS_D hB_D hHeld ⊢
            clear hD
            refine wpAnyH_take (i := 0) (v := ?_) rfl (by kernel_rfl) (by kernel_rfl) (by kernel_rfl) (fun _ _ _ h => h) (Or.inl ⟨by rfl, ?_⟩) (by assumption) ?_
            rotate_left 1
            · intro w hSw; (try dsimp only at hSw); go_simp; try with_reducible rfl
            try simp only [Act.put, List.getElem_toArray, List.getElem_cons_zero, List.setIfInBounds_toArray, List.set_cons_zero, List.set_cons_succ]
            refine wpAnyH_take (i := 1) (v := ?_) rfl (by kernel_rfl) (by kernel_rfl) (by kernel_rfl) (fun _ _ _ h => h) (Or.inl ⟨by rfl, ?_⟩) (by assumption) ?_
            rotate_left 1
            · intro w hSw; (try dsimp only at hSw); go_simp; try with_reducible rfl
            try simp only [Act.put, List.getElem_toArray, List.getElem_cons_zero, List.getElem_cons_succ, List.setIfInBounds_toArray, List.set_cons_zero, List.set_cons_succ]
            refine wpAnyH_take (i := 2) (v := ?_) rfl (by kernel_rfl) (by kernel_rfl) (by kernel_rfl) (fun _ _ _ h => h) (Or.inl ⟨by rfl, ?_⟩) (by assumption) ?_
            rotate_left 1
            · intro w hSw; (try dsimp only at hSw); go_simp; try with_reducible rfl
            try simp only [Act.put, List.getElem_toArray, List.getElem_cons_zero, List.getElem_cons_succ, List.setIfInBounds_toArray, List.set_cons_zero, List.set_cons_succ]
            refine wpAnyH_take (i := 3) (v := ?_) rfl (by kernel_rfl) (by kernel_rfl) (by kernel_rfl) (fun _ _ _ h => h) (Or.inl ⟨by rfl, ?_⟩) (by assumption) ?_
            rotate_left 1
            · intro w hSw; (try dsimp only at hSw); go_simp; try with_reducible rfl
            try simp only [Act.put, List.getElem_toArray, List.getElem_cons_zero, List.getElem_cons_succ, List.setIfInBounds_toArray, List.set_cons_zero, List.set_cons_succ]
            refine wpAnyH_take (i := 4) (v := ?_) rfl (by kernel_rfl) (by kernel_rfl) (by kernel_rfl) (fun _ _ _ h => h) (Or.inl ⟨by rfl, ?_⟩) (by assumption) ?_
            rotate_left 1
            · intro w hSw; (try dsimp only at hSw); go_simp; try with_reducible rfl
            try simp only [Act.put, List.getElem_toArray, List.getElem_cons_zero, List.getElem_cons_succ, List.setIfInBounds_toArray, List.set_cons_zero, List.set_cons_succ]
            refine wpAnyH_take (i := 5) (v := ?_) rfl (by kernel_rfl) (by kernel_rfl) (by kernel_rfl) (fun _ _ _ h => h) (Or.inl ⟨by rfl, ?_⟩) (by assumption) ?_
            rotate_left 1
            · intro w hSw; (try dsimp only at hSw); go_simp; try with_reducible rfl
            try simp only [Act.put, List.getElem_toArray, List.getElem_cons_zero, List.getElem_cons_succ, List.setIfInBounds_toArray, List.set_cons_zero, List.set_cons_succ]
            refine wpAnyH_take (i := 8) (v := ?_) rfl (by kernel_rfl) (by kernel_rfl) (by kernel_rfl) (fun _ _ _ h => h) (Or.inl ⟨by rfl, ?_⟩) (by assumption) ?_
            rotate_left 1
            · intro w hSw; (try dsimp only at hSw); go_simp; try with_reducible rfl
            try simp only [Act.put, List.getElem_toArray, List.getElem_cons_zero, List.getElem_cons_succ, List.setIfInBounds_toArray, List.set_cons_zero, List.set_cons_succ]
            refine wpAnyH_take (i := 9) (v := ?_) rfl (by kernel_rfl) (by kernel_rfl) (by kernel_rfl) (fun _ _ _ h => h) (Or.inl ⟨by rfl, ?_⟩) (by assumption) ?_
            rotate_left 1
            · intro w hSw; (try dsimp only at hSw); go_simp; try with_reducible rfl
            try simp only [Act.put, List.getElem_toArray, List.getElem_cons_zero, List.getElem_cons_succ, List.setIfInBounds_toArray, List.set_cons_zero, List.set_cons_succ]
            refine wpAnyH_take (i := 10) (v := ?_) rfl (by kernel_rfl) (by kernel_rfl) (by kernel_rfl) (fun _ _ _ h => h) (Or.inl ⟨by rfl, ?_⟩) (by assumption) ?_
            rotate_left 1
            · intro w hSw; (try dsimp only at hSw); go_simp; try with_reducible rfl
            try simp only [Act.put, List.getElem_toArray, List.getElem_cons_zero, List.getElem_cons_succ, List.setIfInBounds_toArray, List.set_cons_zero, List.set_cons_succ]
            refine wpAnyH_take (i := 11) (v := ?_) rfl (by kernel_rfl) (by kernel_rfl) (by kernel_rfl) (fun _ _ _ h => h) (Or.inl ⟨by rfl, ?_⟩) (by assumption) ?_
            rotate_left 1
            · intro w hSw; (try dsimp only at hSw); go_simp; try with_reducible rfl
            try simp only [Act.put, List.getElem_toArray, List.getElem_cons_zero, List.getElem_cons_succ, List.setIfInBounds_toArray, List.set_cons_zero, List.set_cons_succ]
            refine wpAnyH_ready (rs := [6]) (by kernel_rfl) (by simp) ?_
            refine AllReadyH.cons (o := _) rfl (fun K hK => ?_) AllReadyH.nil
            go_simp
            go_at_call 39
            refine (HPut1.out _).mono ?_
            rintro e WA ⟨v1, rfl, hq1, hb1⟩
            have hh_WA : WA.cell? ⟨g8, 0, none⟩ = some (.int .i64 d) ∧ WA.cell? ⟨g8, 1, none⟩ = some (.slice A' P.length c') := ⟨(hb1.cell (cell_lt hh_D.1)).trans hh_D.1, (hb1.cell (cell_lt hh_D.2)).trans hh_D.2⟩
            have hoB_WA := ownsRow_below hoB_D hb1
            have hoS_WA := ownsRow_below hoS_D hb1
            have hB_WA := then_ hB_D hb1
            obtain ⟨A1, c1, rfl, _, _, _⟩ := ReadsK.of_own hq1
            refine hK.out _ _ hh_WA (fun hHeld => ?_)
            clear hK K
            try simp only [Act.put, List.getElem_toArray, List.getElem_cons_zero, List.getElem_cons_succ, List.setIfInBounds_toArray, List.set_cons_zero, List.set_cons_succ]
            have hNe_WA := hNe_D
            have hAP_WA := hAP_D
            refine wpAnyH_ready (rs := [7]) (by kernel_rfl) (by simp) ?_
            refine AllReadyH.cons (o := _) rfl (fun K hK => ?_) AllReadyH.nil
            refine step_append_allK rfl (.tmp 50) (.tmp 56) 49 rfl w.heap.size 5 i0 _ 1 1 Try.underlying49 hi0 hz0 hz1 hz2 rfl (by omega) (Value.slice A5 bl c5) (bl) _ hoB_WA WA.heap.size A1 B1.length c1 _ (own_reads hq1) rfl rfl (bys_one _) (by omega) (by omega) hB_WA.size ?_
            intro vB WB hoB_WB hg_WB hv_WB
            have hne_WA : ¬ some g8 = ((Value.slice A5 bl c5)).ownBlock := hNe_WA
            have hh_WB : WB.cell? ⟨g8, 0, none⟩ = some (.int .i64 d) ∧ WB.cell? ⟨g8, 1, none⟩ = some (.slice A' P.length c') := ⟨hg_WB.cell hh_WA.1 hne_WA, hg_WB.cell hh_WA.2 hne_WA⟩
            have hoS_WB := hoS_WA.kept hg_WB hAP_WA.ne
            have hAP_WB := hAP_WA.step hoS_WA (Nat.le_refl _) hv_WB
            have hB_WB := below_grown hB_WA hoB_WA (Nat.le_refl _) hB_WA.size hg_WB
            have hNe_WB : ¬ some g8 = vB.ownBlock := fun e => by rcases hv_WB with h | h; exact hNe_WA (e.trans h); have := cell_lt hh_WA.1; rw [h] at e; injection e with e; simp only at this; omega
            refine hK.out _ _ hh_WB (fun hHeld => ?_)
            clear hK K
            try simp only [Act.put, List.getElem_toArray, List.getElem_cons_zero, List.getElem_cons_succ, List.setIfInBounds_toArray, List.set_cons_zero, List.set_cons_succ]
            refine wpAnyH_ready (rs := [12]) (by kernel_rfl) (by simp) ?_
            refine AllReadyH.cons (o := _) rfl (fun K hK => ?_) AllReadyH.nil
            go_simp
            go_at_call 39
            refine (HPut2.out _).mono ?_
            rintro e WC ⟨v2, rfl, hq2, hb2⟩
            have hh_WC : WC.cell? ⟨g8, 0, none⟩ = some (.int .i64 d) ∧ WC.cell? ⟨g8, 1, none⟩ = some (.slice A' P.length c') := ⟨(hb2.cell (cell_lt hh_WB.1)).trans hh_WB.1, (hb2.cell (cell_lt hh_WB.2)).trans hh_WB.2⟩
            have hoB_WC := ownsRow_below hoB_WB hb2
            have hoS_WC := ownsRow_below hoS_WB hb2
            have hB_WC := then_ hB_WB hb2
            obtain ⟨A2, c2, rfl, _, _, _⟩ := ReadsK.of_own hq2
            refine hK.out _ _ hh_WC (fun hHeld => ?_)
            clear hK K
            try simp only [Act.put, List.getElem_toArray, List.getElem_cons_zero, List.getElem_cons_succ, List.setIfInBounds_toArray, List.set_cons_zero, List.set_cons_succ]
            have hNe_WC := hNe_WB
            have hAP_WC := hAP_WB
            refine wpAnyH_ready (rs := [13]) (by kernel_rfl) (by simp) ?_
            refine AllReadyH.cons (o := _) rfl (fun K hK => ?_) AllReadyH.nil
            refine step_append_allK rfl (.tmp 57) (.tmp 62) 49 rfl w.heap.size 5 i0 _ 1 1 Try.underlying49 hi0 hz0 hz1 hz2 rfl (by omega) vB (bl + B1.length) _ hoB_WC WC.heap.size A2 B2.length c2 _ (own_reads hq2) rfl rfl (bys_one _) (by omega) (by omega) hB_WC.size ?_
            intro vE WE hoB_WE hg_WE hv_WE
            have hne_WC : ¬ some g8 = (vB).ownBlock := hNe_WC
            have hh_WE : WE.cell? ⟨g8, 0, none⟩ = some (.int .i64 d) ∧ WE.cell? ⟨g8, 1, none⟩ = some (.slice A' P.length c') := ⟨hg_WE.cell hh_WC.1 hne_WC, hg_WE.cell hh_WC.2 hne_WC⟩
            have hoS_WE := hoS_WC.kept hg_WE hAP_WC.ne
            have hAP_WE := hAP_WC.step hoS_WC (Nat.le_refl _) hv_WE
            have hB_WE := below_grown hB_WC hoB_WC (Nat.le_refl _) hB_WC.size hg_WE
            have hNe_WE : ¬ some g8 = vE.ownBlock := fun e => by rcases hv_WE with h | h; exact hNe_WC (e.trans h); have := cell_lt hh_WC.1; rw [h] at e; injection e with e; simp only at this; omega
            refine hK.out _ _ hh_WE (fun hHeld => ?_)
            clear hK K
            try simp only [Act.put, List.getElem_toArray, List.getElem_cons_zero, List.getElem_cons_succ, List.setIfInBounds_toArray, List.set_cons_zero, List.set_cons_succ]
            refine wpAnyH_take (i := 14) (v := ?_) rfl (by kernel_rfl) (by kernel_rfl) (by kernel_rfl) (fun _ _ _ h => h) (Or.inl ⟨by rfl, ?_⟩) (by assumption) ?_
            rotate_left 1
            · intro w hSw; (try dsimp only at hSw); go_simp; try with_reducible rfl
            try simp only [Act.put, List.getElem_toArray, List.getElem_cons_zero, List.getElem_cons_succ, List.setIfInBounds_toArray, List.set_cons_zero, List.set_cons_succ]
            refine wpAnyH_done (by kernel_rfl) ?_ _
            refine NoPanic.normal ?_
            rw [bys_snoc, bys_snoc] at hoB_WE
            have hPB : (Bk ++ B1 ++ B2).length = bl + B1.length + B2.length := by rw [List.length_append, List.length_append, ← Hbl2.out]
            rw [← hPB] at hoB_WE
            have HE2 : Hid (bodyB (vals l) (k + 1) = (Bk ++ B1 ++ B2) ++ gapsB 0 P) := Lib.hid (by rw [HBn.out, Hent.out]; simp only [List.append_assoc])
            have hPl : (Bk ++ B1 ++ B2).length ≤ 60010 := by omega
            clear hPB
            generalize Bk ++ B1 ++ B2 = PB at *
            obtain ⟨f0, f1⟩ := hh_WE
            clear hh_D hh_WA hh_WB hh_WC hoB_WA hoB_WB hoB_WC hoS_WA hoS_WB hoS_WC hB_WA hB_WB hB_WC hoB_D hoS_D hB_D hg_WB hg_WE hv_WB hv_WE hNe_D hNe_WA hNe_WB hNe_WC hAP_D hAP_WA hAP_WB hAP_WC hq1 hq2 hb1 hb2 hoB13 hoS13 hB13 e0 e1 hNe13 hAP13
            try clear hPw
            go_wp2_with fail
            go_loopw [5, 10, 69] (fun b at_ t wr2 => ∃ t' : Nat, t' ≤ P.length ∧ t = .int .i64 (t' : Int) ∧ at_ = .int .i64 ((P.take t').getLast?.getD 0) ∧ wr2.ownsRow w.heap.size 30 1 v6 (1 + Sk'.length) (ints .u32 ((n : Int) :: Sk')) ∧ wr2.ownsRow w.heap.size 5 1 b (PB ++ gapsB 0 (P.take t')).length (bys (PB ++ gapsB 0 (P.take t'))) ∧ AP v6 b ∧ Below w.heap.size w wr2) (fun _ _ t _ => P.length - (intOf t).toNat)
            case atStart => exact ⟨0, by omega, rfl, rfl, hoS_WE, by simpa [gapsB] using hoB_WE, hAP_WE, hB_WE⟩
            case round =>
              clear hoS_WE hoB_WE hAP_WE hB_WE f0 f1
              obtain ⟨t, ht, rfl, rfl, hoSr, hoBr, hAPr, hBr⟩ := hrel
              by_cases hlt2 : t < P.length
              · obtain ⟨adp, htl, rfl, hbp, cp⟩ := (hP.keep (w' := wr) fun p hp => (hBr.cell hp).trans (hB.cell hp).symm).int hlt2
                have hlt2' : (t : Int) < (P.length : Int) := by omega
                have ht0 : (0 : Int) ≤ (t : Int) := by omega
                have hpt := HP.out _ (List.getElem_mem htl)
                have hgs := gaps_short P t (by omega)
                have hlb := HL.out t htl
                have HG := Lib.hid (show PB ++ gapsB 0 (P.take (t + 1)) = (PB ++ gapsB 0 (P.take t)) ++ putL (P[t] - (P.take t).getLast?.getD 0).toNat from by rw [gaps_step P t htl, List.append_assoc])
                have HLs := Lib.hid (last_snoc P t htl 0)
                have hQl : (PB ++ gapsB 0 (P.take t)).length ≤ 62000 := by rw [List.length_append]; omega
                generalize PB ++ gapsB 0 (P.take t) = QB at *
                generalize (P.take t).getLast?.getD 0 = a at *
                generalize P[t] = p at *
                have hsz := hBr.size
                go_wp2_with fail
                refine (putI (p - a) wr (by omega) (by omega)).mono ?_
                rintro e w4 ⟨v4, rfl, hown4, hb4⟩
                have hl4 := put_short (p - a).toNat
                generalize putL (p - a).toNat = B4 at *
                replace hoBr := ownsRow_below hoBr hb4
                replace hoSr := ownsRow_below hoSr hb4
                have hB4 := then_ hBr hb4
                obtain ⟨A4, c4, rfl, hr4, _, _⟩ := ReadsK.of_own hown4
                go_wp2_with (at_builtin; refine wpList_append_allK rfl (.tmp 73) (.tmp 78) 49 rfl w.heap.size 5 i0 _ 1 1 Try.underlying49 hi0 hz0 hz1 hz2 rfl (by omega) _ QB.length _ hoBr w4.heap.size A4 B4.length c4 _ hr4 rfl rfl (bys_one _) (by omega) (by omega) hB4.size ?_; intro v5 w5 hown5 hg5 hv5; have hB5 := below_grown hB4 hoBr (Nat.le_refl _) hB4.size hg5; rw [bys_snoc, ← List.length_append] at hown5)
                go_roundw
                case rel => exact ⟨t + 1, by omega, by go_num, by rw [HLs.out], hoSr.kept hg5 hAPr.ne, by rw [HG.out]; exact hown5, hAPr.step hoSr (Nat.le_refl _) hv5, hB5⟩
                case measure => simp [intOf]; omega
              · have hlt2' : ¬ (t : Int) < (P.length : Int) := by omega
                rw [List.take_of_length_le (by omega), ← HE2.out] at hoBr
                go_wp2
                go_roundw
                case rel => exact ⟨k + 1, by omega, by go_num, by rw [HWn.out], by rw [HSn'.out]; exact hoSr, hoBr, hAPr, hBr⟩
                case measure => simp [intOf]; omega
        · have h4' : ((k : Int) % 4 == 0) = false := by simp; omega
          obtain rfl := HB1.out h4
          have HSn := Lib.hid (HSno.out h4)
          clear HB0 HB1 HSy HSno
          have hl1 := put_short (d - Ba).toNat
          have hl2 := put_short P.length
          obtain ⟨B1, hB1⟩ : ∃ B, B = putL (d - Ba).toNat := ⟨_, rfl⟩
          obtain ⟨B2, hB2⟩ : ∃ B, B = putL P.length := ⟨_, rfl⟩
          rw [← hB1] at hl1 Hent
          rw [← hB2] at hl2 Hent
          have HPut1 : Hid (∀ w : World, Calls Try.prog 39 #[.int .u32 (d - Ba)] w fun e w' => ∃ v, e = .returned v ∧ w'.ownsRow w.heap.size 5 1 v B1.length (bys B1) ∧ Below w.heap.size w w') := Lib.hid fun w => by rw [hB1]; exact putI _ w (by omega) (by omega)
          have HPut2 : Hid (∀ w : World, Calls Try.prog 39 #[.int .u32 (P.length : Int)] w fun e w' => ∃ v, e = .returned v ∧ w'.ownsRow w.heap.size 5 1 v B2.length (bys B2) ∧ Below w.heap.size w w') := Lib.hid fun w => by rw [hB2]; exact put_any _ w (by omega)
          clear hB1 hB2
          have hoS13 := hoS.alloc (.cells #[.int .i64 d, .slice A' P.length c'] 52)
          have hoB13 := hoB.alloc (.cells #[.int .i64 d, .slice A' P.length c'] 52)
          have hB13 : Below w.heap.size w (wr.alloc (.cells #[.int .i64 d, .slice A' P.length c'] 52)) := hB.alloc hB.size _
          have e0 : (wr.alloc (.cells #[.int .i64 d, .slice A' P.length c'] 52)).cell? ⟨wr.heap.size, 0, none⟩ = some (.int .i64 d) := (Row.new wr 52 [.int .i64 d, .slice A' P.length c']).cell 0
          have e1 : (wr.alloc (.cells #[.int .i64 d, .slice A' P.length c'] 52)).cell? ⟨wr.heap.size, 1, none⟩ = some (.slice A' P.length c') := (Row.new wr 52 [.int .i64 d, .slice A' P.length c']).cell 1
          have hNe13 : ¬ some wr.heap.size = (Value.slice A5 bl c5).ownBlock := fun e => by have := (hoB.lt _ e.symm).2; omega
          have hAP13 := hAP
          have hPw := hP.alloc hg0 (.cells #[.int .i64 d, .slice A' P.length c'] 52)
          have hq1w : IntKind.i64.wrap (d - Ba) = d - Ba := IntWalk.i64_in _ (by omega)
          have hq2w : IntKind.u32.wrap (d - Ba) = d - Ba := IntWalk.u32_in _ (by omega)
          have hq3w : IntKind.u32.wrap (P.length : Int) = (P.length : Int) := IntWalk.u32_in _ (by omega)
          obtain ⟨Sk', hSk'⟩ : ∃ S, S = Sk := ⟨_, rfl⟩
          rw [← hSk'] at hoS13
          have HSn' : Hid (skipsB (vals l) (k + 1) = Sk') := Lib.hid (by rw [HSn.out, hSk'])
          clear hrow hBa c0' hSk'
          obtain ⟨wo, rfl⟩ : ∃ wo : World, wo = wr := ⟨_, rfl⟩
          go_wp2_with fail
          generalize wo.alloc (.cells #[.int .i64 d, .slice A' P.length c'] 52) = W13 at *
          generalize wo.heap.size = g8 at *
          refine wp_region_noPanic ?_
          refine wp_region_held_drew (S := (fun w' : World => w'.cell? ⟨g8, 0, none⟩ = some (.int .i64 d) ∧ w'.cell? ⟨g8, 1, none⟩ = some (.slice A' P.length c'))) (by kernel_rfl) (⟨e0, e1⟩) (fun hHeld => ?_)
          have hh_D := hHeld
          have hoB_D := hoB13.drew
          have hoS_D := hoS13.drew
          have hB_D := hB13.drew
          have hNe_D := hNe13
          have hAP_D := hAP13
          obtain ⟨D, hD⟩ : ∃ D, D = W13.drew := ⟨_, rfl⟩
          rw [← hD] at hh_D hoB_D hoS_D hB_D hHeld ⊢
          clear hD
          refine wpAnyH_take (i := 0) (v := ?_) rfl (by kernel_rfl) (by kernel_rfl) (by kernel_rfl) (fun _ _ _ h => h) (Or.inl ⟨by rfl, ?_⟩) (by assumption) ?_
          rotate_left 1
          · intro w hSw; (try dsimp only at hSw); go_simp; try with_reducible rfl
          try simp only [Act.put, List.getElem_toArray, List.getElem_cons_zero, List.setIfInBounds_toArray, List.set_cons_zero, List.set_cons_succ]
          refine wpAnyH_take (i := 1) (v := ?_) rfl (by kernel_rfl) (by kernel_rfl) (by kernel_rfl) (fun _ _ _ h => h) (Or.inl ⟨by rfl, ?_⟩) (by assumption) ?_
          rotate_left 1
          · intro w hSw; (try dsimp only at hSw); go_simp; try with_reducible rfl
          try simp only [Act.put, List.getElem_toArray, List.getElem_cons_zero, List.getElem_cons_succ, List.setIfInBounds_toArray, List.set_cons_zero, List.set_cons_succ]
          refine wpAnyH_take (i := 2) (v := ?_) rfl (by kernel_rfl) (by kernel_rfl) (by kernel_rfl) (fun _ _ _ h => h) (Or.inl ⟨by rfl, ?_⟩) (by assumption) ?_
          rotate_left 1
          · intro w hSw; (try dsimp only at hSw); go_simp; try with_reducible rfl
          try simp only [Act.put, List.getElem_toArray, List.getElem_cons_zero, List.getElem_cons_succ, List.setIfInBounds_toArray, List.set_cons_zero, List.set_cons_succ]
          refine wpAnyH_take (i := 3) (v := ?_) rfl (by kernel_rfl) (by kernel_rfl) (by kernel_rfl) (fun _ _ _ h => h) (Or.inl ⟨by rfl, ?_⟩) (by assumption) ?_
          rotate_left 1
          · intro w hSw; (try dsimp only at hSw); go_simp; try with_reducible rfl
          try simp only [Act.put, List.getElem_toArray, List.getElem_cons_zero, List.getElem_cons_succ, List.setIfInBounds_toArray, List.set_cons_zero, List.set_cons_succ]
          refine wpAnyH_take (i := 4) (v := ?_) rfl (by kernel_rfl) (by kernel_rfl) (by kernel_rfl) (fun _ _ _ h => h) (Or.inl ⟨by rfl, ?_⟩) (by assumption) ?_
          rotate_left 1
          · intro w hSw; (try dsimp only at hSw); go_simp; try with_reducible rfl
          try simp only [Act.put, List.getElem_toArray, List.getElem_cons_zero, List.getElem_cons_succ, List.setIfInBounds_toArray, List.set_cons_zero, List.set_cons_succ]
          refine wpAnyH_take (i := 5) (v := ?_) rfl (by kernel_rfl) (by kernel_rfl) (by kernel_rfl) (fun _ _ _ h => h) (Or.inl ⟨by rfl, ?_⟩) (by assumption) ?_
          rotate_left 1
          · intro w hSw; (try dsimp only at hSw); go_simp; try with_reducible rfl
          try simp only [Act.put, List.getElem_toArray, List.getElem_cons_zero, List.getElem_cons_succ, List.setIfInBounds_toArray, List.set_cons_zero, List.set_cons_succ]
          refine wpAnyH_take (i := 8) (v := ?_) rfl (by kernel_rfl) (by kernel_rfl) (by kernel_rfl) (fun _ _ _ h => h) (Or.inl ⟨by rfl, ?_⟩) (by assumption) ?_
          rotate_left 1
          · intro w hSw; (try dsimp only at hSw); go_simp; try with_reducible rfl
          try simp only [Act.put, List.getElem_toArray, List.getElem_cons_zero, List.getElem_cons_succ, List.setIfInBounds_toArray, List.set_cons_zero, List.set_cons_succ]
          refine wpAnyH_take (i := 9) (v := ?_) rfl (by kernel_rfl) (by kernel_rfl) (by kernel_rfl) (fun _ _ _ h => h) (Or.inl ⟨by rfl, ?_⟩) (by assumption) ?_
          rotate_left 1
          · intro w hSw; (try dsimp only at hSw); go_simp; try with_reducible rfl
          try simp only [Act.put, List.getElem_toArray, List.getElem_cons_zero, List.getElem_cons_succ, List.setIfInBounds_toArray, List.set_cons_zero, List.set_cons_succ]
          refine wpAnyH_take (i := 10) (v := ?_) rfl (by kernel_rfl) (by kernel_rfl) (by kernel_rfl) (fun _ _ _ h => h) (Or.inl ⟨by rfl, ?_⟩) (by assumption) ?_
          rotate_left 1
          · intro w hSw; (try dsimp only at hSw); go_simp; try with_reducible rfl
          try simp only [Act.put, List.getElem_toArray, List.getElem_cons_zero, List.getElem_cons_succ, List.setIfInBounds_toArray, List.set_cons_zero, List.set_cons_succ]
          refine wpAnyH_take (i := 11) (v := ?_) rfl (by kernel_rfl) (by kernel_rfl) (by kernel_rfl) (fun _ _ _ h => h) (Or.inl ⟨by rfl, ?_⟩) (by assumption) ?_
          rotate_left 1
          · intro w hSw; (try dsimp only at hSw); go_simp; try with_reducible rfl
          try simp only [Act.put, List.getElem_toArray, List.getElem_cons_zero, List.getElem_cons_succ, List.setIfInBounds_toArray, List.set_cons_zero, List.set_cons_succ]
          refine wpAnyH_ready (rs := [6]) (by kernel_rfl) (by simp) ?_
          refine AllReadyH.cons (o := _) rfl (fun K hK => ?_) AllReadyH.nil
          go_simp
          go_at_call 39
          refine (HPut1.out _).mono ?_
          rintro e WA ⟨v1, rfl, hq1, hb1⟩
          have hh_WA : WA.cell? ⟨g8, 0, none⟩ = some (.int .i64 d) ∧ WA.cell? ⟨g8, 1, none⟩ = some (.slice A' P.length c') := ⟨(hb1.cell (cell_lt hh_D.1)).trans hh_D.1, (hb1.cell (cell_lt hh_D.2)).trans hh_D.2⟩
          have hoB_WA := ownsRow_below hoB_D hb1
          have hoS_WA := ownsRow_below hoS_D hb1
          have hB_WA := then_ hB_D hb1
          obtain ⟨A1, c1, rfl, _, _, _⟩ := ReadsK.of_own hq1
          refine hK.out _ _ hh_WA (fun hHeld => ?_)
          clear hK K
          try simp only [Act.put, List.getElem_toArray, List.getElem_cons_zero, List.getElem_cons_succ, List.setIfInBounds_toArray, List.set_cons_zero, List.set_cons_succ]
          have hNe_WA := hNe_D
          have hAP_WA := hAP_D
          refine wpAnyH_ready (rs := [7]) (by kernel_rfl) (by simp) ?_
          refine AllReadyH.cons (o := _) rfl (fun K hK => ?_) AllReadyH.nil
          refine step_append_allK rfl (.tmp 50) (.tmp 56) 49 rfl w.heap.size 5 i0 _ 1 1 Try.underlying49 hi0 hz0 hz1 hz2 rfl (by omega) (Value.slice A5 bl c5) (bl) _ hoB_WA WA.heap.size A1 B1.length c1 _ (own_reads hq1) rfl rfl (bys_one _) (by omega) (by omega) hB_WA.size ?_
          intro vB WB hoB_WB hg_WB hv_WB
          have hne_WA : ¬ some g8 = ((Value.slice A5 bl c5)).ownBlock := hNe_WA
          have hh_WB : WB.cell? ⟨g8, 0, none⟩ = some (.int .i64 d) ∧ WB.cell? ⟨g8, 1, none⟩ = some (.slice A' P.length c') := ⟨hg_WB.cell hh_WA.1 hne_WA, hg_WB.cell hh_WA.2 hne_WA⟩
          have hoS_WB := hoS_WA.kept hg_WB hAP_WA.ne
          have hAP_WB := hAP_WA.step hoS_WA (Nat.le_refl _) hv_WB
          have hB_WB := below_grown hB_WA hoB_WA (Nat.le_refl _) hB_WA.size hg_WB
          have hNe_WB : ¬ some g8 = vB.ownBlock := fun e => by rcases hv_WB with h | h; exact hNe_WA (e.trans h); have := cell_lt hh_WA.1; rw [h] at e; injection e with e; simp only at this; omega
          refine hK.out _ _ hh_WB (fun hHeld => ?_)
          clear hK K
          try simp only [Act.put, List.getElem_toArray, List.getElem_cons_zero, List.getElem_cons_succ, List.setIfInBounds_toArray, List.set_cons_zero, List.set_cons_succ]
          refine wpAnyH_ready (rs := [12]) (by kernel_rfl) (by simp) ?_
          refine AllReadyH.cons (o := _) rfl (fun K hK => ?_) AllReadyH.nil
          go_simp
          go_at_call 39
          refine (HPut2.out _).mono ?_
          rintro e WC ⟨v2, rfl, hq2, hb2⟩
          have hh_WC : WC.cell? ⟨g8, 0, none⟩ = some (.int .i64 d) ∧ WC.cell? ⟨g8, 1, none⟩ = some (.slice A' P.length c') := ⟨(hb2.cell (cell_lt hh_WB.1)).trans hh_WB.1, (hb2.cell (cell_lt hh_WB.2)).trans hh_WB.2⟩
          have hoB_WC := ownsRow_below hoB_WB hb2
          have hoS_WC := ownsRow_below hoS_WB hb2
          have hB_WC := then_ hB_WB hb2
          obtain ⟨A2, c2, rfl, _, _, _⟩ := ReadsK.of_own hq2
          refine hK.out _ _ hh_WC (fun hHeld => ?_)
          clear hK K
          try simp only [Act.put, List.getElem_toArray, List.getElem_cons_zero, List.getElem_cons_succ, List.setIfInBounds_toArray, List.set_cons_zero, List.set_cons_succ]
          have hNe_WC := hNe_WB
          have hAP_WC := hAP_WB
          refine wpAnyH_ready (rs := [13]) (by kernel_rfl) (by simp) ?_
          refine AllReadyH.cons (o := _) rfl (fun K hK => ?_) AllReadyH.nil
          refine step_append_allK rfl (.tmp 57) (.tmp 62) 49 rfl w.heap.size 5 i0 _ 1 1 Try.underlying49 hi0 hz0 hz1 hz2 rfl (by omega) vB (bl + B1.length) _ hoB_WC WC.heap.size A2 B2.length c2 _ (own_reads hq2) rfl rfl (bys_one _) (by omega) (by omega) hB_WC.size ?_
          intro vE WE hoB_WE hg_WE hv_WE
          have hne_WC : ¬ some g8 = (vB).ownBlock := hNe_WC
          have hh_WE : WE.cell? ⟨g8, 0, none⟩ = some (.int .i64 d) ∧ WE.cell? ⟨g8, 1, none⟩ = some (.slice A' P.length c') := ⟨hg_WE.cell hh_WC.1 hne_WC, hg_WE.cell hh_WC.2 hne_WC⟩
          have hoS_WE := hoS_WC.kept hg_WE hAP_WC.ne
          have hAP_WE := hAP_WC.step hoS_WC (Nat.le_refl _) hv_WE
          have hB_WE := below_grown hB_WC hoB_WC (Nat.le_refl _) hB_WC.size hg_WE
          have hNe_WE : ¬ some g8 = vE.ownBlock := fun e => by rcases hv_WE with h | h; exact hNe_WC (e.trans h); have := cell_lt hh_WC.1; rw [h] at e; injection e with e; simp only at this; omega
          refine hK.out _ _ hh_WE (fun hHeld => ?_)
          clear hK K
          try simp only [Act.put, List.getElem_toArray, List.getElem_cons_zero, List.getElem_cons_succ, List.setIfInBounds_toArray, List.set_cons_zero, List.set_cons_succ]
          refine wpAnyH_take (i := 14) (v := ?_) rfl (by kernel_rfl) (by kernel_rfl) (by kernel_rfl) (fun _ _ _ h => h) (Or.inl ⟨by rfl, ?_⟩) (by assumption) ?_
          rotate_left 1
          · intro w hSw; (try dsimp only at hSw); go_simp; try with_reducible rfl
          try simp only [Act.put, List.getElem_toArray, List.getElem_cons_zero, List.getElem_cons_succ, List.setIfInBounds_toArray, List.set_cons_zero, List.set_cons_succ]
          refine wpAnyH_done (by kernel_rfl) ?_ _
          refine NoPanic.normal ?_
          rw [bys_snoc, bys_snoc] at hoB_WE
          have hPB : (Bk ++ B1 ++ B2).length = bl + B1.length + B2.length := by rw [List.length_append, List.length_append, ← Hbl2.out]
          rw [← hPB] at hoB_WE
          have HE2 : Hid (bodyB (vals l) (k + 1) = (Bk ++ B1 ++ B2) ++ gapsB 0 P) := Lib.hid (by rw [HBn.out, Hent.out]; simp only [List.append_assoc])
          have hPl : (Bk ++ B1 ++ B2).length ≤ 60010 := by omega
          clear hPB
          generalize Bk ++ B1 ++ B2 = PB at *
          obtain ⟨f0, f1⟩ := hh_WE
          clear hh_D hh_WA hh_WB hh_WC hoB_WA hoB_WB hoB_WC hoS_WA hoS_WB hoS_WC hB_WA hB_WB hB_WC hoB_D hoS_D hB_D hg_WB hg_WE hv_WB hv_WE hNe_D hNe_WA hNe_WB hNe_WC hAP_D hAP_WA hAP_WB hAP_WC hq1 hq2 hb1 hb2 hoB13 hoS13 hB13 e0 e1 hNe13 hAP13
          try clear hPw
          go_wp2_with fail
          go_loopw [5, 10, 69] (fun b at_ t wr2 => ∃ t' : Nat, t' ≤ P.length ∧ t = .int .i64 (t' : Int) ∧ at_ = .int .i64 ((P.take t').getLast?.getD 0) ∧ wr2.ownsRow w.heap.size 30 1 u4 (1 + Sk'.length) (ints .u32 ((n : Int) :: Sk')) ∧ wr2.ownsRow w.heap.size 5 1 b (PB ++ gapsB 0 (P.take t')).length (bys (PB ++ gapsB 0 (P.take t'))) ∧ AP u4 b ∧ Below w.heap.size w wr2) (fun _ _ t _ => P.length - (intOf t).toNat)
          case atStart => exact ⟨0, by omega, rfl, rfl, hoS_WE, by simpa [gapsB] using hoB_WE, hAP_WE, hB_WE⟩
          case round =>
            clear hoS_WE hoB_WE hAP_WE hB_WE f0 f1
            obtain ⟨t, ht, rfl, rfl, hoSr, hoBr, hAPr, hBr⟩ := hrel
            by_cases hlt2 : t < P.length
            · obtain ⟨adp, htl, rfl, hbp, cp⟩ := (hP.keep (w' := wr) fun p hp => (hBr.cell hp).trans (hB.cell hp).symm).int hlt2
              have hlt2' : (t : Int) < (P.length : Int) := by omega
              have ht0 : (0 : Int) ≤ (t : Int) := by omega
              have hpt := HP.out _ (List.getElem_mem htl)
              have hgs := gaps_short P t (by omega)
              have hlb := HL.out t htl
              have HG := Lib.hid (show PB ++ gapsB 0 (P.take (t + 1)) = (PB ++ gapsB 0 (P.take t)) ++ putL (P[t] - (P.take t).getLast?.getD 0).toNat from by rw [gaps_step P t htl, List.append_assoc])
              have HLs := Lib.hid (last_snoc P t htl 0)
              have hQl : (PB ++ gapsB 0 (P.take t)).length ≤ 62000 := by rw [List.length_append]; omega
              generalize PB ++ gapsB 0 (P.take t) = QB at *
              generalize (P.take t).getLast?.getD 0 = a at *
              generalize P[t] = p at *
              have hsz := hBr.size
              go_wp2_with fail
              refine (putI (p - a) wr (by omega) (by omega)).mono ?_
              rintro e w4 ⟨v4, rfl, hown4, hb4⟩
              have hl4 := put_short (p - a).toNat
              generalize putL (p - a).toNat = B4 at *
              replace hoBr := ownsRow_below hoBr hb4
              replace hoSr := ownsRow_below hoSr hb4
              have hB4 := then_ hBr hb4
              obtain ⟨A4, c4, rfl, hr4, _, _⟩ := ReadsK.of_own hown4
              go_wp2_with (at_builtin; refine wpList_append_allK rfl (.tmp 73) (.tmp 78) 49 rfl w.heap.size 5 i0 _ 1 1 Try.underlying49 hi0 hz0 hz1 hz2 rfl (by omega) _ QB.length _ hoBr w4.heap.size A4 B4.length c4 _ hr4 rfl rfl (bys_one _) (by omega) (by omega) hB4.size ?_; intro v5 w5 hown5 hg5 hv5; have hB5 := below_grown hB4 hoBr (Nat.le_refl _) hB4.size hg5; rw [bys_snoc, ← List.length_append] at hown5)
              go_roundw
              case rel => exact ⟨t + 1, by omega, by go_num, by rw [HLs.out], hoSr.kept hg5 hAPr.ne, by rw [HG.out]; exact hown5, hAPr.step hoSr (Nat.le_refl _) hv5, hB5⟩
              case measure => simp [intOf]; omega
            · have hlt2' : ¬ (t : Int) < (P.length : Int) := by omega
              rw [List.take_of_length_le (by omega), ← HE2.out] at hoBr
              go_wp2
              go_roundw
              case rel => exact ⟨k + 1, by omega, by go_num, by rw [HWn.out], by rw [HSn'.out]; exact hoSr, hoBr, hAPr, hBr⟩
              case measure => simp [intOf]; omega
      · have hlt' : ¬ (k : Int) < (n : Int) := by omega
        obtain rfl : k = n := by omega
        have hsl := skipsB_len (vals l) k
        have hbl := bodyB_len HM.out k (by rw [Hvl.out]; omega)
        have HEL : Hid (encL (vals l) = ((k : Int) :: skipsB (vals l) k) ++ cellsB (bodyB (vals l) k)) := Lib.hid (by rw [encL, Hvl.out])
        have hsl3 : (skipsB (vals l) k).length ≤ 64 := by omega
        generalize skipsB (vals l) k = Sk at *
        generalize bodyB (vals l) k = Bk at *
        generalize hbl2' : Bk.length = bl at *
        have hbl4 : bl ≤ 60000 := by omega
        have Hbl2 := Lib.hid hbl2'.symm
        clear hbl2' hsl hbl
        have hcv := run_string_of (P := Try.prog) 49 9 5 Try.underlying49 Try.underlying5 Try.underlying9 hr5
        have HCe := cells_any ⟨Bk.toArray⟩ wr (by show Bk.toArray.size ≤ _; rw [List.size_toArray, ← Hbl2.out]; omega)
        have hcs : (⟨Bk.toArray⟩ : ByteArray).size = bl := by show Bk.toArray.size = _; rw [List.size_toArray, Hbl2.out]
        rw [hcs] at HCe
        have Hcb : Hid (cellsB Bk = cellsOf (⟨Bk.toArray⟩ : ByteArray).data.toList ((bl + 3) / 4)) := Lib.hid (by rw [cellsB, Hbl2.out])
        have hcl : (cellsOf (⟨Bk.toArray⟩ : ByteArray).data.toList ((bl + 3) / 4)).length = (bl + 3) / 4 := by simp [cellsOf]
        generalize cellsOf (⟨Bk.toArray⟩ : ByteArray).data.toList ((bl + 3) / 4) = CB at *
        have Hcl := Lib.hid hcl
        clear hcs hr5 hcl
        go_wp2_with fail
        refine HCe.mono ?_
        clear HCe
        rintro e w8 ⟨g, rfl, hrow8, hb8⟩
        replace hoS := ownsRow_below hoS hb8
        have hB8 := then_ hB hb8
        have hr8 := ReadsK.of_reads (hrow8.reads (n := (bl + 3) / 4) (by rw [ints_length, Hcl.out]))
        go_wp2_with (at_builtin; refine wpList_append_allK rfl (.tmp 83) (.tmp 86) 26 rfl w.heap.size 30 j0 _ 1 4 Try.underlying26 hj0 hy0 hy1 hy2 rfl (by omega) _ (1 + Sk.length) _ hoS w8.heap.size _ ((bl + 3) / 4) _ _ hr8 rfl rfl (ints_one _ _) (by omega) (by omega) hB8.size ?_; intro v9 w9 hown9 hg9 hv9; have hB9 := below_grown hB8 hoS (Nat.le_refl _) hB8.size hg9)
        go_ret2
        refine ⟨v9, by rw [HE.out]; rfl, ?_, hB9⟩
        rw [HE.out]
        show w9.ownsRow _ _ _ _ (encL (vals l)).length (ints .u32 (encL (vals l)))
        rw [HEL.out, Hcb.out, List.length_append, Hcl.out, List.length_cons, Nat.add_comm Sk.length 1]
        simpa [ints] using hown9
end Go.Proofs.Ytbbjlijdodnjaaa
