/- The walk of ref's entry. -/
import Derived.Test.YtbbjlijdodnjaaaBlkMay
import Derived.Test.YtbbjlijdodnjaaaVlqRefGet
namespace Go.Proofs.Ytbbjlijdodnjaaa
open Go.RowKit

theorem refPutI (x : Int) (w : World) (h0 : 0 ≤ x) (h1 : x < 4294967296) :
    Calls Try.prog 41 #[.int .u32 x] w fun e w' => ∃ v, e = .returned v ∧ w'.ownsRow w.heap.size 5 1 v (putL x.toNat).length (bys (putL x.toNat)) ∧ Below w.heap.size w w' := by
  have h := refPut_any x.toNat w (by omega)
  rwa [Int.toNat_of_nonneg h0] at h
theorem putI (x : Int) (w : World) (h0 : 0 ≤ x) (h1 : x < 4294967296) :
    Calls Try.prog 39 #[.int .u32 x] w fun e w' => ∃ v, e = .returned v ∧ w'.ownsRow w.heap.size 5 1 v (putL x.toNat).length (bys (putL x.toNat)) ∧ Below w.heap.size w w' := by
  have h := put_any x.toNat w (by omega)
  rwa [Int.toNat_of_nonneg h0] at h
theorem put_short (x : Nat) : (putL x).length ≤ 5 := (putF_len 4 x).2
theorem gaps_zero (P : List Int) (h : 0 < P.length) : gapsB 0 (P.take 1) = putL P[0].toNat := by
  cases P with
  | nil => simp at h
  | cons a P => simp [gapsB]
theorem gaps_next (P : List Int) (t : Nat) (h : t + 1 < P.length) : gapsB 0 (P.take (t + 1 + 1)) = gapsB 0 (P.take (t + 1)) ++ putL (P[t + 1] - P[t]).toNat := by
  rw [List.take_succ_eq_append_getElem h, gapsB_snoc, last_snoc P t (by omega)]
theorem gaps_short (P : List Int) (t : Nat) (h : t ≤ P.length) : (gapsB 0 (P.take t)).length ≤ 5 * t := by
  have : ∀ (l : List Int) (a : Int), (gapsB a l).length ≤ 5 * l.length := by
    intro l
    induction l with
    | nil => intro a; simp [gapsB]
    | cons n l ih =>
      intro a
      have h1 := ih n
      have h2 := put_short (n - a).toNat
      rw [gapsB, List.length_append, List.length_cons]
      omega
  have h1 := this (P.take t) 0
  rw [List.length_take, Nat.min_eq_left h] at h1
  exact h1
theorem base_0 {V : List En} {i : Nat} (h : i % 4 = 0) : baseAt V i = 0 := by rw [baseAt, if_pos h]
theorem base_1 {V : List En} {i : Nat} (h : ¬ (i + 1) % 4 = 0) : baseAt V (i + 1) = (enAt V i).1 := by rw [baseAt, if_neg h, Nat.add_sub_cancel]
theorem info_b8 : (Try.prog.info? 5).map (fun i => (i.zero, i.size, i.bytes)) = some (some (.int .u8 0), 1, 1) := by kernel_rfl
theorem bys_snoc (a b : List UInt8) : bys a ++ bys b = bys (a ++ b) := (bys_append a b).symm
set_option maxRecDepth 100000 in
set_option maxHeartbeats 2000000 in
theorem entry_any (l : List Ent) (A : Option Addr) (n c : Nat) (w : World) (hx : ReadsE w w.heap.size A n c l) (hm : MayP (vals l)) (i : Nat) (hi : i < n) :
    Calls Try.prog 32 #[.slice A n c, .int .i64 (i : Int)] w fun e w' => ∃ v, e = .returned v ∧ w'.ownsRow w.heap.size 5 1 v (entB (vals l) i).length (bys (entB (vals l) i)) ∧ Below w.heap.size w w' := by
  obtain ⟨i0, hi0, hz0, hz1, hz2⟩ := info_parts info_b8
  have hvl := hx.vlen
  have hn64 := hm.len
  have hib : i < (vals l).length := by rw [hvl]; exact hi
  have hd := hm.doc i hib
  have hp := hm.pos i hib
  have hbase := base_ok hm i hib
  obtain ⟨ad, d, P, A', c', rfl, hb, hen, c0, c1, hP⟩ := hx.at' hi
  have Hent : Hid (entB (vals l) i = putL (d - baseAt (vals l) i).toNat ++ putL P.length ++ gapsB 0 P) := Lib.hid (by rw [entB, hen])
  rw [hen] at hd hp hbase
  obtain ⟨hp1, hp2, hp3⟩ := hp
  have HP := Lib.hid (rising_all _ _ hp3)
  have HU := Lib.hid (rising_get _ _ hp3)
  have hi0' : (0 : Int) ≤ (i : Int) := by omega
  have hin : (i : Int) < (n : Int) := by omega
  simp only at hd hp1 hp2 hbase
  clear hp3
  have hpre : Hid (∀ k0, k0 + 1 = i → w.cell? (ad.add (k0 * 2)) = some (.int .i64 (enAt (vals l) k0).1)) := Lib.hid fun k0 hk0 => by
    obtain ⟨ad', d', P', A'', c'', e, hb', hen', c0', c1', hP'⟩ := hx.at' (i := k0) (by omega)
    injection e with e
    subst e
    rw [hen']
    exact c0'
  obtain ⟨E, hE⟩ : ∃ E, E = d - baseAt (vals l) i := ⟨_, rfl⟩
  rw [← hE] at Hent
  have hE0 : 0 ≤ E ∧ E < 4294967296 := by omega
  have HEd := Lib.hid hE
  have hbs := Lib.hid hbase
  clear hE hbase hen hib
  generalize entB (vals l) i = EB at *
  by_cases h4 : i % 4 = 0
  · have h4' : ((i : Int) % 4 != 0) = false := by simp; omega
    have HX : Hid (d = E) := Lib.hid (by rw [HEd.out, base_0 h4]; omega)
    go_enter Try.func32, Try.ntmps32
    go_wp2_with fail
    have HPut := refPutI d w (by omega) (by omega)
    refine HPut.mono ?_
    clear HPut
    rintro e w1 ⟨v1, rfl, hown1, hb1⟩
    rw [HX.out] at hown1
    have c1' := (hb1.cell (cell_lt c1)).trans c1
    have HPut := refPut_any P.length w1 (by omega)
    have hl1 := put_short E.toNat
    have hl2 := put_short P.length
    generalize hb1e : putL E.toNat = B1 at *
    generalize hb2e : putL P.length = B2 at *
    clear hb1e hb2e
    go_wp2_with fail
    refine HPut.mono ?_
    clear HPut
    rintro e w2 ⟨v2, rfl, hown2, hb2⟩
    have hown1 := ownsRow_below hown1 hb2
    have hB2 := then_ hb1 hb2
    have c1'' := (hb2.cell (cell_lt c1')).trans c1'
    clear hb2 hb1
    obtain ⟨A2, c2, rfl, hr2, _, _⟩ := ReadsK.of_own hown2
    go_wp2_with (at_builtin; refine wpList_append_allK rfl (.tmp 28) (.tmp 36) 49 rfl w.heap.size 5 i0 _ 1 1 Try.underlying49 hi0 hz0 hz1 hz2 rfl (by omega) _ B1.length _ hown1 w2.heap.size A2 B2.length c2 _ hr2 rfl rfl (bys_one _) (by omega) (by omega) hB2.size ?_; intro v3 w3 hown3 hg3 _; have hB3 := below_grown hB2 hown1 (Nat.le_refl _) hB2.size hg3; have c13 := (hB3.cell (cell_lt c1)).trans c1; rw [bys_snoc] at hown3)
    clear hown1 hown2 hr2 hg3 hB2 c1' c1''
    have hpl : (B1 ++ B2).length ≤ 10 := by rw [List.length_append]; omega
    rw [← List.length_append] at hown3
    generalize hpre2 : B1 ++ B2 = PB at *
    clear hpre2
    go_loopw [6, 8, 44] (fun v _ i2 wr => ∃ t : Nat, t ≤ P.length ∧ i2 = .int .i64 (t : Int) ∧ wr.ownsRow w.heap.size 5 1 v (PB ++ gapsB 0 (P.take t)).length (bys (PB ++ gapsB 0 (P.take t))) ∧ Below w.heap.size w wr) (fun _ _ i2 _ => P.length - (intOf i2).toNat)
    case atStart => exact ⟨0, by omega, rfl, by simpa [gapsB] using hown3, hB3⟩
    case round =>
      clear hown3 hB3 c13
      obtain ⟨t, ht, rfl, hown, hB⟩ := hrel
      have c1w := (hB.cell (cell_lt c1)).trans c1
      by_cases hlt : t < P.length
      · obtain ⟨adp, htl, rfl, hbp, cp⟩ := (hP.below hB).int hlt
        have hlt' : (t : Int) < (P.length : Int) := by omega
        have ht0 : (0 : Int) ≤ (t : Int) := by omega
        have hpt := HP.out _ (List.getElem_mem htl)
        have hgs := gaps_short P t (by omega)
        have hsz := hB.size
        rcases Nat.eq_zero_or_pos t with rfl | htp
        · have HG := Lib.hid (gaps_zero P htl)
          have hG0 : gapsB 0 (P.take 0) = [] := rfl
          rw [hG0, List.append_nil] at hown
          clear hG0 hgs
          generalize P[0] = p at *
          have cp' : wr.cell? adp = some (.int .i64 p) := by simpa [Addr.add] using cp
          clear cp
          go_wp2_with fail
          refine (refPutI p wr (by omega) (by omega)).mono ?_
          rintro e w4 ⟨v4, rfl, hown4, hb4⟩
          have hl4 := put_short p.toNat
          generalize putL p.toNat = B4 at *
          replace hown := ownsRow_below hown hb4
          have hB4 := then_ hB hb4
          obtain ⟨A4, c4, rfl, hr4, _, _⟩ := ReadsK.of_own hown4
          go_wp2_with (at_builtin; refine wpList_append_allK rfl (.tmp 68) (.tmp 71) 49 rfl w.heap.size 5 i0 _ 1 1 Try.underlying49 hi0 hz0 hz1 hz2 rfl (by omega) _ PB.length _ hown w4.heap.size A4 B4.length c4 _ hr4 rfl rfl (bys_one _) (by omega) (by omega) hB4.size ?_; intro v5 w5 hown5 hg5 _; have hB5 := below_grown hB4 hown (Nat.le_refl _) hB4.size hg5; rw [bys_snoc, ← List.length_append] at hown5)
          go_roundw
          case rel => exact ⟨1, by omega, rfl, by rw [HG.out]; exact hown5, hB5⟩
          case measure => simp [intOf]; omega
        · obtain ⟨t0, rfl⟩ : ∃ t0, t = t0 + 1 := ⟨t - 1, by omega⟩
          obtain ⟨adp', htl', e', hbp', cpp⟩ := (hP.below hB).int (i := t0) (by omega)
          injection e' with e'
          subst e'
          have HG := Lib.hid (show PB ++ gapsB 0 (P.take (t0 + 1 + 1)) = (PB ++ gapsB 0 (P.take (t0 + 1))) ++ putL (P[t0 + 1] - P[t0]).toNat from by rw [gaps_next P t0 htl, List.append_assoc])
          have hup := HU.out t0 htl
          have hpt' := HP.out _ (List.getElem_mem htl')
          have hgl : (PB ++ gapsB 0 (P.take (t0 + 1))).length ≤ 2000 := by rw [List.length_append]; omega
          generalize gapsB 0 (P.take (t0 + 1)) = GB at *
          clear hgs
          generalize P[t0 + 1] = p at *
          generalize P[t0] = pp at *
          have cp' : wr.cell? ⟨adp.block, adp.off + (t0 + 1), none⟩ = some (.int .i64 p) := by simpa [Addr.add] using cp
          clear cp
          have hs1 : (((t0 + 1 : Nat) : Int)) = (t0 : Int) + 1 := by omega
          go_wp2_with fail
          refine (refPutI (p - pp) wr (by omega) (by omega)).mono ?_
          rintro e w4 ⟨v4, rfl, hown4, hb4⟩
          have hl4 := put_short (p - pp).toNat
          generalize putL (p - pp).toNat = B4 at *
          replace hown := ownsRow_below hown hb4
          have hB4 := then_ hB hb4
          obtain ⟨A4, c4, rfl, hr4, _, _⟩ := ReadsK.of_own hown4
          generalize PB ++ GB = QB at *
          go_wp2_with (at_builtin; refine wpList_append_allK rfl (.tmp 68) (.tmp 71) 49 rfl w.heap.size 5 i0 _ 1 1 Try.underlying49 hi0 hz0 hz1 hz2 rfl (by omega) _ QB.length _ hown w4.heap.size A4 B4.length c4 _ hr4 rfl rfl (bys_one _) (by omega) (by omega) hB4.size ?_; intro v5 w5 hown5 hg5 _; have hB5 := below_grown hB4 hown (Nat.le_refl _) hB4.size hg5; rw [bys_snoc, ← List.length_append] at hown5)
          go_roundw
          case rel => exact ⟨t0 + 1 + 1, by omega, by go_num, by rw [HG.out]; exact hown5, hB5⟩
          case measure => simp [intOf]; omega
      · have hlt' : ¬ (t : Int) < (P.length : Int) := by omega
        rw [List.take_of_length_le (by omega), ← Hent.out] at hown
        go_wp2
        go_ret
        exact ⟨_, rfl, hown, hB⟩
  · obtain ⟨j, rfl⟩ : ∃ j, i = j + 1 := ⟨i - 1, by omega⟩
    have h4' : (((j + 1 : Nat) : Int) % 4 != 0) = true := by simp; omega
    have ep := hpre.out j rfl
    have HX : Hid (d - (enAt (vals l) j).1 = E) := Lib.hid (by rw [HEd.out, base_1 h4])
    have hdj : 0 ≤ (enAt (vals l) j).1 ∧ (enAt (vals l) j).1 ≤ 65535 := hm.doc j (by omega)
    have hbj := hbs.out.2
    rw [base_1 h4] at hbj
    generalize (enAt (vals l) j).1 = dp at *
    have hj1 : (((j + 1 : Nat) : Int)) = (j : Int) + 1 := by omega
    go_enter Try.func32, Try.ntmps32
    go_wp2_with fail
    have HPut := refPutI (d - dp) w (by omega) (by omega)
    refine HPut.mono ?_
    clear HPut
    rintro e w1 ⟨v1, rfl, hown1, hb1⟩
    rw [HX.out] at hown1
    have c1' := (hb1.cell (cell_lt c1)).trans c1
    have HPut := refPut_any P.length w1 (by omega)
    have hl1 := put_short E.toNat
    have hl2 := put_short P.length
    generalize hb1e : putL E.toNat = B1 at *
    generalize hb2e : putL P.length = B2 at *
    clear hb1e hb2e
    go_wp2_with fail
    refine HPut.mono ?_
    clear HPut
    rintro e w2 ⟨v2, rfl, hown2, hb2⟩
    have hown1 := ownsRow_below hown1 hb2
    have hB2 := then_ hb1 hb2
    have c1'' := (hb2.cell (cell_lt c1')).trans c1'
    clear hb2 hb1
    obtain ⟨A2, c2, rfl, hr2, _, _⟩ := ReadsK.of_own hown2
    go_wp2_with (at_builtin; refine wpList_append_allK rfl (.tmp 28) (.tmp 36) 49 rfl w.heap.size 5 i0 _ 1 1 Try.underlying49 hi0 hz0 hz1 hz2 rfl (by omega) _ B1.length _ hown1 w2.heap.size A2 B2.length c2 _ hr2 rfl rfl (bys_one _) (by omega) (by omega) hB2.size ?_; intro v3 w3 hown3 hg3 _; have hB3 := below_grown hB2 hown1 (Nat.le_refl _) hB2.size hg3; have c13 := (hB3.cell (cell_lt c1)).trans c1; rw [bys_snoc] at hown3)
    clear hown1 hown2 hr2 hg3 hB2 c1' c1''
    have hpl : (B1 ++ B2).length ≤ 10 := by rw [List.length_append]; omega
    rw [← List.length_append] at hown3
    generalize hpre2 : B1 ++ B2 = PB at *
    clear hpre2
    go_loopw [6, 8, 44] (fun v _ i2 wr => ∃ t : Nat, t ≤ P.length ∧ i2 = .int .i64 (t : Int) ∧ wr.ownsRow w.heap.size 5 1 v (PB ++ gapsB 0 (P.take t)).length (bys (PB ++ gapsB 0 (P.take t))) ∧ Below w.heap.size w wr) (fun _ _ i2 _ => P.length - (intOf i2).toNat)
    case atStart => exact ⟨0, by omega, rfl, by simpa [gapsB] using hown3, hB3⟩
    case round =>
      clear hown3 hB3 c13
      obtain ⟨t, ht, rfl, hown, hB⟩ := hrel
      have c1w := (hB.cell (cell_lt c1)).trans c1
      by_cases hlt : t < P.length
      · obtain ⟨adp, htl, rfl, hbp, cp⟩ := (hP.below hB).int hlt
        have hlt' : (t : Int) < (P.length : Int) := by omega
        have ht0 : (0 : Int) ≤ (t : Int) := by omega
        have hpt := HP.out _ (List.getElem_mem htl)
        have hgs := gaps_short P t (by omega)
        have hsz := hB.size
        rcases Nat.eq_zero_or_pos t with rfl | htp
        · have HG := Lib.hid (gaps_zero P htl)
          have hG0 : gapsB 0 (P.take 0) = [] := rfl
          rw [hG0, List.append_nil] at hown
          clear hG0 hgs
          generalize P[0] = p at *
          have cp' : wr.cell? adp = some (.int .i64 p) := by simpa [Addr.add] using cp
          clear cp
          go_wp2_with fail
          refine (refPutI p wr (by omega) (by omega)).mono ?_
          rintro e w4 ⟨v4, rfl, hown4, hb4⟩
          have hl4 := put_short p.toNat
          generalize putL p.toNat = B4 at *
          replace hown := ownsRow_below hown hb4
          have hB4 := then_ hB hb4
          obtain ⟨A4, c4, rfl, hr4, _, _⟩ := ReadsK.of_own hown4
          go_wp2_with (at_builtin; refine wpList_append_allK rfl (.tmp 68) (.tmp 71) 49 rfl w.heap.size 5 i0 _ 1 1 Try.underlying49 hi0 hz0 hz1 hz2 rfl (by omega) _ PB.length _ hown w4.heap.size A4 B4.length c4 _ hr4 rfl rfl (bys_one _) (by omega) (by omega) hB4.size ?_; intro v5 w5 hown5 hg5 _; have hB5 := below_grown hB4 hown (Nat.le_refl _) hB4.size hg5; rw [bys_snoc, ← List.length_append] at hown5)
          go_roundw
          case rel => exact ⟨1, by omega, rfl, by rw [HG.out]; exact hown5, hB5⟩
          case measure => simp [intOf]; omega
        · obtain ⟨t0, rfl⟩ : ∃ t0, t = t0 + 1 := ⟨t - 1, by omega⟩
          obtain ⟨adp', htl', e', hbp', cpp⟩ := (hP.below hB).int (i := t0) (by omega)
          injection e' with e'
          subst e'
          have HG := Lib.hid (show PB ++ gapsB 0 (P.take (t0 + 1 + 1)) = (PB ++ gapsB 0 (P.take (t0 + 1))) ++ putL (P[t0 + 1] - P[t0]).toNat from by rw [gaps_next P t0 htl, List.append_assoc])
          have hup := HU.out t0 htl
          have hpt' := HP.out _ (List.getElem_mem htl')
          have hgl : (PB ++ gapsB 0 (P.take (t0 + 1))).length ≤ 2000 := by rw [List.length_append]; omega
          generalize gapsB 0 (P.take (t0 + 1)) = GB at *
          clear hgs
          generalize P[t0 + 1] = p at *
          generalize P[t0] = pp at *
          have cp' : wr.cell? ⟨adp.block, adp.off + (t0 + 1), none⟩ = some (.int .i64 p) := by simpa [Addr.add] using cp
          clear cp
          have hs1 : (((t0 + 1 : Nat) : Int)) = (t0 : Int) + 1 := by omega
          go_wp2_with fail
          refine (refPutI (p - pp) wr (by omega) (by omega)).mono ?_
          rintro e w4 ⟨v4, rfl, hown4, hb4⟩
          have hl4 := put_short (p - pp).toNat
          generalize putL (p - pp).toNat = B4 at *
          replace hown := ownsRow_below hown hb4
          have hB4 := then_ hB hb4
          obtain ⟨A4, c4, rfl, hr4, _, _⟩ := ReadsK.of_own hown4
          generalize PB ++ GB = QB at *
          go_wp2_with (at_builtin; refine wpList_append_allK rfl (.tmp 68) (.tmp 71) 49 rfl w.heap.size 5 i0 _ 1 1 Try.underlying49 hi0 hz0 hz1 hz2 rfl (by omega) _ QB.length _ hown w4.heap.size A4 B4.length c4 _ hr4 rfl rfl (bys_one _) (by omega) (by omega) hB4.size ?_; intro v5 w5 hown5 hg5 _; have hB5 := below_grown hB4 hown (Nat.le_refl _) hB4.size hg5; rw [bys_snoc, ← List.length_append] at hown5)
          go_roundw
          case rel => exact ⟨t0 + 1 + 1, by omega, by go_num, by rw [HG.out]; exact hown5, hB5⟩
          case measure => simp [intOf]; omega
      · have hlt' : ¬ (t : Int) < (P.length : Int) := by omega
        rw [List.take_of_length_le (by omega), ← Hent.out] at hown
        go_wp2
        go_ret
        exact ⟨_, rfl, hown, hB⟩
end Go.Proofs.Ytbbjlijdodnjaaa
