/- The walk of the law RankTurned. -/
import Derived.Test.YtdkbiimhdbnplaaRankLawsB
import Derived.Shelf.RegionOpenPlain
namespace Go.Proofs.Ytdkbiimhdbnplaa
open Go.RowKit

section
variable {P : Program} {W : World}
theorem run_append_allK (t ty : TypeId) (base : Nat) (e : TypeId) (i : TypeInfo) (z : Value) (k bytes : Nat) (ht : P.underlying t = some (.slice e)) (hi : P.info? e = some i) (hz : i.zero = some z)
    (hsize : i.size = k) (hby : i.bytes = bytes) (hzs : z.cells.size = k) (h0 : 0 < k)
    (v : Value) (n : Nat) (xs : List Value) (hown : W.ownsRow base e k v n xs) (B : Nat) (A : Option Addr) (m c : Nat) (news : List Value) (hr : ReadsK k W B A m c news)
    (h1 : ∀ u ∈ news, u.oneCell' = true) (hnm : n + m ≤ 1099511627776) (hb8 : bytes ≤ 64) (hbase : base ≤ W.heap.size) :
    ∃ v' w', (Builtin.append_ #[t, t] ty #[v, .slice A m c]).run P W = .ok v' w' ∧ w'.ownsRow base e k v' (n + m) (xs ++ news) ∧ W.grownBy w' v.ownBlock ∧ (v'.ownBlock = v.ownBlock ∨ v'.ownBlock = some W.heap.size) := by
  have h63 : n + m ≤ maxLen := by simp only [maxLen]; omega
  have hbytes : (n + m) * bytes ≤ 140737488355328 := by
    have : (n + m) * bytes ≤ 1099511627776 * 64 := Nat.mul_le_mul (by omega) hb8
    omega
  rcases A with _ | ad
  · have hm : m = 0 := by
      rcases Nat.eq_zero_or_pos m with h0 | h0
      · exact h0
      · obtain ⟨ad, h, _⟩ := hr.at_ h0
        cases h
    subst hm
    have hn : news = [] := List.eq_nil_of_length_eq_zero (by rw [hr.len]; simp)
    subst hn
    refine ⟨v, W, ?_, by simpa using hown, World.grownBy.refl W _, .inl rfl⟩
    rcases hown.2 with ⟨rfl, rfl⟩ | ⟨g, cap, cur, rfl, _, _, hnc, _⟩
    · simp [Builtin.append_, run_underlying ht, sizeOf, typeInfo, hi, Builtin.lenOf, Builtin.firstCells]
    · simp [Builtin.append_, run_underlying ht, sizeOf, typeInfo, hi, Builtin.lenOf, Builtin.firstCells, hnc, storeCells]
  · have hcells : ∀ j u, news[j]? = some u → W.cell? (ad.add j) = some u := by
      intro j u hu
      rcases Nat.eq_zero_or_pos m with h0 | h0
      · subst h0
        have hn : news = [] := List.eq_nil_of_length_eq_zero (by rw [hr.len]; simp)
        subst hn
        simp at hu
      · obtain ⟨ad', h, _, hc⟩ := hr.at_ h0
        injection h with h
        subst h
        exact hc j u hu
    obtain ⟨v', w', hrun, h2, h3, _, h4⟩ := run_append_own_at (P := P) W base t ty e i z k bytes ht hi hz hsize hby hzs h0 v n xs hown ad m c news (by rw [hr.len]) hcells h1 h63 hbytes hbase
    exact ⟨v', w', hrun, h2, h3, h4⟩
theorem step_append_allK {ops : Array Oper} {o : Oper} {a : Act} {K : Act → World → Prop} {Q : Exit → Act → World → Prop} {E : Prop} (hgd : o.guard = none) (s x : Operand) (t : TypeId)
    (ho : o.op = .call { callee := .builtin .append, args := #[s, x], argTypes := #[t, t] })
    (base : Nat) (e : TypeId) (i : TypeInfo) (z : Value) (k bytes : Nat) (ht : P.underlying t = some (.slice e)) (hi : P.info? e = some i) (hz : i.zero = some z)
    (hsize : i.size = k) (hby : i.bytes = bytes) (hzs : z.cells.size = k) (h0 : 0 < k)
    (v : Value) (n : Nat) (xs : List Value) (hown : W.ownsRow base e k v n xs) (B : Nat) (A : Option Addr) (m c : Nat) (news : List Value) (hr : ReadsK k W B A m c news)
    (hs : a.eval s = v) (hx : a.eval x = .slice A m c) (h1 : ∀ u ∈ news, u.oneCell' = true)
    (hnm : n + m ≤ 1099511627776) (hb8 : bytes ≤ 64) (hbase : base ≤ W.heap.size)
    (h : ∀ v' w', w'.ownsRow base e k v' (n + m) (xs ++ news) → W.grownBy w' v.ownBlock → (v'.ownBlock = v.ownBlock ∨ v'.ownBlock = some W.heap.size) → K (a.put o.dst v') w') :
    if Region.wanted o (yielded ops a.tmps) = true then Oper.wp P o a W K Q else E := by
  have hw : Region.wanted o (yielded ops a.tmps) = true := by simp [Region.wanted, hgd]
  rw [if_pos hw]
  obtain ⟨v', w', hrun, h2, h3, h4⟩ := run_append_allK t o.type base e i z k bytes ht hi hz hsize hby hzs h0 v n xs hown B A m c news hr h1 hnm hb8 hbase
  unfold Oper.wp
  simp [execOp, ho, resolve, invoke, builtin, hs, hx, hrun, Result.andThen]
  exact h v' w' h2 h3 h4
end

theorem kk_inj (o : Int) {x y : Sc} (hx : ScOk x) (hy : ScOk y) (h : kk o x = kk o y) : x.1 = y.1 := by
  have := hx.lo; have := hx.hi; have := hy.lo; have := hy.hi
  unfold kk rkey at h
  omega
theorem keys_nodup (o : Int) (l : List Sc) (hok : ∀ x ∈ l, ScOk x) (h : ∀ a b (ha : a < l.length) (hb : b < l.length), b < a → l[a].1 ≠ l[b].1) : (l.map (kk o)).Nodup := by
  unfold List.Nodup
  rw [List.pairwise_map, List.pairwise_iff_getElem]
  intro i j hi hj hij e
  exact h j i hj hi hij (kk_inj o (hok _ (List.getElem_mem hj)) (hok _ (List.getElem_mem hi)) e.symm)
theorem top_turned (o : Int) (m : Nat) (l : List Sc) (t : Nat) (hn : (l.map (kk o)).Nodup) : topL o m (l.drop t ++ l.take t) = topL o m l := by
  have hp : l.Perm (l.drop t ++ l.take t) := by
    have h := List.perm_append_comm (l₁ := l.take t) (l₂ := l.drop t)
    rwa [List.take_append_drop] at h
  unfold topL
  rw [sortD_perm (kk o) hp hn]
theorem top_back (o : Int) (m : Nat) (l : List Sc) (hn : (l.map (kk o)).Nodup) : topL o m l.reverse = topL o m l := by
  unfold topL
  rw [sortD_perm (kk o) l.reverse_perm.symm hn]

set_option maxRecDepth 100000 in
set_option maxHeartbeats 1000000 in
theorem walkRankTurned {w : World} (l : List Sc) (A : Option Addr) (n c : Nat) (hx : ReadsK 3 w w.heap.size A n c (l.flatMap scC)) (_ : c ≤ maxLen) (hok : ∀ x ∈ l, ScOk x) (k : Int) (hk : (Lit.int .u8 k).wf = true) (lim : Int) (hlim : (Lit.int .i64 lim).wf = true) (o : Int) (_ : (Lit.int .i64 o).wf = true) :
    Calls Try.prog 7 #[.slice A n c, .int .u8 k, .int .i64 lim, .int .i64 o] w fun e w' => e = .returned (.bool true) ∧ Below w.heap.size w w' := by
  have hlim := wf64 hlim
  by_cases hn : 100 < n ∨ n = 0
  · rcases hn with hn | rfl
    · have hn' : (100 : Int) < (n : Int) := by omega
      go_enter Try.func7, Try.ntmps7
      go_wp2_with (go_at_call 8; refine (fixed_any _).mono ?_; rintro e w1 ⟨rfl, hb1⟩)
      go_ret
      exact ⟨rfl, hb1⟩
    · go_enter Try.func7, Try.ntmps7
      go_wp2_with (go_at_call 8; refine (fixed_any _).mono ?_; rintro e w1 ⟨rfl, hb1⟩)
      go_ret
      exact ⟨rfl, hb1⟩
  · have hn1 : ¬ (100 : Int) < (n : Int) := by omega
    have hn0 : ((n : Int) == 0) = false := by simp; omega
    have hn0' : ¬ (n : Int) = 0 := by omega
    obtain ⟨i0, hi0, hx0, hx1, hx2⟩ := info_parts info_scored
    have hll := hx.count scC_len (by omega)
    have HOK := Lib.hid hok
    have hcap := hx.cap
    obtain ⟨hk0, hk1⟩ : 0 ≤ k ∧ k ≤ 255 := by
      simp [Lit.wf, IntKind.min, IntKind.max, IntKind.signed, IntKind.bits] at hk; omega
    have hwk : IntKind.i64.wrap k = k := IntWalk.i64_in _ (by omega)
    obtain ⟨t, ht⟩ := Int.eq_ofNat_of_zero_le (show 0 ≤ k % (n : Int) from Int.emod_nonneg _ (by omega))
    have htn : t < n := by have := Int.emod_lt_of_pos k (show (0 : Int) < n by omega); omega
    have htm : k.tmod (n : Int) = (t : Int) := by rw [Int.tmod_eq_emod_of_nonneg hk0]; exact ht
    clear hok ht hn hk
    go_enter Try.func7, Try.ntmps7
    go_wp2
    go_loopw [27] (fun i wr => ∃ a q : Nat, a ≤ n ∧ i = .int .i64 a ∧ Hid (∀ x y (hx : x < l.length) (hy : y < l.length), x < a → y < x → l[x].1 ≠ l[y].1) ∧ wr = w.drewN q) (fun i _ => n - (intOf i).toNat)
    case atStart => exact ⟨0, 0, by omega, rfl, Lib.hid (fun x y _ _ h _ => by omega), rfl⟩
    case round =>
      obtain ⟨a, q, ha, rfl, hd, rfl⟩ := hrel
      by_cases hlt : a < n
      · have hlt' : (a : Int) < (n : Int) := by omega
        have ha0 : (0 : Int) ≤ (a : Int) := by omega
        go_wp2
        go_loopw [31] (fun i wr => ∃ b q : Nat, b ≤ a ∧ i = .int .i64 b ∧ Hid (∀ y (hx : a < l.length) (hy : y < l.length), y < b → l[a].1 ≠ l[y].1) ∧ wr = w.drewN q) (fun i _ => a - (intOf i).toNat)
        case atStart => exact ⟨0, q, by omega, rfl, Lib.hid (fun y _ _ h => by omega), rfl⟩
        case round =>
          obtain ⟨b, q, hb, rfl, he, rfl⟩ := hrel
          by_cases hltb : b < a
          · obtain ⟨ad, hga, rfl, hbl, c0, -⟩ := hx.at' scC_len (by omega) hlt
            obtain ⟨ad', hgb, hae, _, d0, -⟩ := hx.at' scC_len (by omega) (show b < n by omega)
            injection hae with hae
            subst hae
            have c0 : w.cell? (ad.add (a * 3)) = some (.int .i64 l[a].1) := c0 _ rfl
            have d0 : w.cell? (ad.add (b * 3)) = some (.int .i64 l[b].1) := d0 _ rfl
            have hltb' : (b : Int) < (a : Int) := by omega
            have hltn : (b : Int) < (n : Int) := by omega
            have hb0 : (0 : Int) ≤ (b : Int) := by omega
            by_cases hne : l[a].1 = l[b].1
            · rw [hne] at c0
              generalize l[b].1 = x at *
              go_wp2
              go_quiet (fail)
              go_wp2_with (go_at_call 8; refine (fixed_any _).mono ?_; rintro e w1 ⟨rfl, hb1⟩)
              go_ret
              exact ⟨rfl, by first | exact (below_drewN (Below.refl w.heap.size w) _).trans (hb1.mono (Nat.le_refl _)) | exact hb1⟩
            · have he2 : Hid (∀ y (hx : a < l.length) (hy : y < l.length), y < b + 1 → l[a].1 ≠ l[y].1) := Lib.hid fun y h1 h2 h3 => by
                by_cases e : y < b
                · exact he.out y h1 h2 e
                · obtain rfl : y = b := by omega
                  exact hne
              have hdec : (l[a].1 == l[b].1) = false := by simpa using hne
              generalize l[a].1 = x at *
              generalize l[b].1 = y at *
              clear he
              go_wp2
              go_quiet (fail)
              go_wp2
              go_roundw
              case rel => exact ⟨b + 1, _, by omega, by go_num, he2, rfl⟩
              case measure => simp [intOf]; omega
          · obtain rfl : b = a := by omega
            have hd2 : Hid (∀ x y (hx : x < l.length) (hy : y < l.length), x < b + 1 → y < x → l[x].1 ≠ l[y].1) := Lib.hid fun x y h1 h2 h3 h4 => by
              by_cases e : x < b
              · exact hd.out x y h1 h2 e h4
              · obtain rfl : x = b := by omega
                exact he.out y h1 h2 h4
            go_wp2
            go_roundw
            case rel => exact ⟨b + 1, _, by omega, by go_num, hd2, rfl⟩
            case measure => simp [intOf]; omega
      · obtain rfl : a = n := by omega
        have HND := Lib.hid (keys_nodup o l HOK.out (fun x y h1 h2 h3 => hd.out x y h1 h2 (by omega) h3))
        clear hd
        obtain ⟨ad, rfl, hbl, -⟩ := hx.at_ (by omega)
        have hct : ¬ c = t := by omega
        have hcut := (((hx.drewN q).drew).alloc (Nat.le_refl _) (.cells #[] 27)).cut (m := t) (by omega)
        have hfr := hx.front (m := t) (by omega)
        rw [if_neg hct, rec_drop scC_len] at hcut
        rw [rec_take scC_len] at hfr
        have own0 := own_empty (w.drewN q).drew 27 3
        have hB0 : Below w.heap.size w ((w.drewN q).drew.alloc (.cells #[] 27)) := ((below_drewN (Below.refl _ _) q).drew).alloc (Nat.le_refl _) _
        have hta : (t : Int) ≤ (a : Int) := by omega
        have htc : (t : Int) ≤ (c : Int) := by omega
        have htc' : t ≤ c := by omega
        have hta' : t ≤ a := by omega
        have mixed : Try.prog.follows .mixedOrders = true := by kernel_rfl
        have hwa : IntKind.i64.wrap ((a : Int) - 1) = (a : Int) - 1 := IntWalk.i64_in _ (by omega)
        go_wp2
        go_region_law_o (first
          | (refine step_append_allK rfl (.tmp 53) (.tmp 56) 22 rfl w.heap.size 27 i0 _ 3 24 Try.underlying22 hi0 hx0 hx1 hx2 rfl (by omega) _ 0 [] own0 w.heap.size (some (ad.add (t * 3))) (a - t) (c - t) _ hcut rfl rfl (scC_one _) (by omega) (by omega) hB0.size ?_; intro v1 w1 hown1 hg1 hob1; have hB1 := below_grown hB0 own0 (Nat.le_refl _) hB0.size hg1)
          | (refine step_append_allK rfl (.tmp 57) (.tmp 60) 22 rfl w.heap.size 27 i0 _ 3 24 Try.underlying22 hi0 hx0 hx1 hx2 rfl (by omega) _ (0 + (a - t)) _ hown1 w.heap.size (some ad) t c _ (hfr.below hB1) rfl rfl (scC_one _) (by omega) (by omega) hB1.size ?_; intro v2 w2 hown2 hg2 hob2; have hB2 := below_grown hB1 hown1 (Nat.le_refl _) hB1.size hg2))
        all_goals
          simp only [Nat.zero_add, List.nil_append] at hown2
          rw [← List.flatMap_append, Nat.sub_add_cancel hta'] at hown2
          obtain ⟨A2, c2, rfl, hr2, _, _⟩ := ReadsK.of_own hown2
          clear hown1 hg1 hob1 hg2 hob2 own0 hB0 hB1 hcut hfr hown2
          go_wp2
          go_loopw [13, 14] (fun b i wr => ∃ j : Nat, j ≤ a ∧ i = .int .i64 ((a : Int) - 1 - (j : Int)) ∧ wr.ownsRow w2.heap.size 27 3 b j ((l.reverse.take j).flatMap scC) ∧ Below w2.heap.size w2 wr) (fun _ i _ => (intOf i + 1).toNat)
          case atStart => exact ⟨0, by omega, by simp, World.ownsRow_nil _ _ _ _, Below.refl _ _⟩
          case round =>
            obtain ⟨j, hj, hi, hown, hB⟩ := hrel
            by_cases hlt : j < a
            · obtain ⟨p, hp⟩ : ∃ p : Nat, p = a - 1 - j := ⟨_, rfl⟩
              rw [show (a : Int) - 1 - (j : Int) = (p : Int) from by omega] at hi
              subst hi
              have hpa : p < a := by omega
              obtain ⟨ad', hgp, hae, _, c0, hcell⟩ := (hx.below (hB2.trans (hB.mono hB2.size))).at' scC_len (by omega) hpa
              injection hae with hae
              subst hae
              have c0 := c0 _ rfl
              have c1 := hcell 1 _ (by omega) rfl
              have cc2 := hcell 2 _ (by omega) rfl
              clear hcell
              have hpa' : (p : Int) < (a : Int) := by omega
              have hp0 : (0 : Int) ≤ (p : Int) := by omega
              have hwp : IntKind.i64.wrap ((p : Int) - 1) = (p : Int) - 1 := IntWalk.i64_in _ (by omega)
              have hrv := Lib.hid (show (l.reverse.take (j + 1)).flatMap scC = (l.reverse.take j).flatMap scC ++ scC l[p] from by
                rw [List.take_succ_eq_append_getElem (by rw [List.length_reverse]; omega), List.flatMap_append, List.flatMap_cons, List.flatMap_nil, List.append_nil, List.getElem_reverse]
                simp only [hp, hll]
                )
              have hjn : j ≤ 100 := by omega
              have hnx : (a : Int) - 1 - ((j + 1 : Nat) : Int) = (p : Int) - 1 := by omega
              have HNX := Lib.hid hnx
              clear hnx hp
              generalize l[p] = x at *
              obtain ⟨d, id, s⟩ := x
              simp only at c0 c1 cc2
              have hone : ∀ v ∈ [Value.int .i64 d, .int .u32 id, .float .f64 s], v.oneCell' = true := by simp [Value.oneCell']
              go_wp2_with (at_builtin; refine wpList_append_oneK rfl (.tmp 69) (.tmp 74) 22 rfl w2.heap.size 27 i0 _ 3 24 Try.underlying22 hi0 hx0 hx1 hx2 rfl (by omega) _ j _ [.int .i64 d, .int .u32 id, .float .f64 s] rfl hown rfl rfl hone (by omega) (by omega) hB.size ?_; intro v6 w6 hown6 hg6)
              go_roundw
              case rel => exact ⟨j + 1, by omega, by rw [HNX.out], by rw [hrv.out]; exact hown6, below_grown hB hown (Nat.le_refl _) hB.size hg6⟩
              case measure => simp [intOf]
            · obtain rfl : j = a := by omega
              rw [show (j : Int) - 1 - (j : Int) = -1 from by omega] at hi
              subst hi
              rw [List.take_of_length_le (by rw [List.length_reverse]; omega)] at hown
              obtain ⟨A3, c3, rfl, hr3, _, _⟩ := ReadsK.of_own hown
              have hB3 := hB2.trans (hB.mono hB2.size)
              have hx3 := (hx.below hB3).more hB3.size
              have e1 := top_turned o lim.toNat l t HND.out
              have e2 := top_back o lim.toNat l HND.out
              have hlen : (topL o lim.toNat l).length ≤ 200 := by have := topL_le o lim.toNat l; omega
              have T1 := fun w h => Lib.hid (top_any l (some ad) j c lim o w h HOK.out (by omega) hlim)
              have T2 := fun w h => Lib.hid (top_any (l.drop t ++ l.take t) A2 j c2 lim o w h (fun x hx => by rcases List.mem_append.1 hx with h | h; exact HOK.out x (List.mem_of_mem_drop h); exact HOK.out x (List.mem_of_mem_take h)) (by omega) hlim)
              have T3 := fun w h => Lib.hid (top_any l.reverse A3 j c3 lim o w h (fun x hx => HOK.out x (by simpa using hx)) (by omega) hlim)
              rw [e1] at T2
              rw [e2] at T3
              clear e1 e2
              generalize topL o lim.toNat l = TL at *
              have hr2' := (hr2.below hB).more hB.size
              clear hr2 hown hB2 hB
              go_wp2_with fail
              refine (T1 _ hx3).out.mono ?_
              rintro e w4 ⟨v4, rfl, hown4, hb4⟩
              have hB4 := hB3.trans (hb4.mono hB3.size)
              go_wp2_with fail
              refine (fixed_any _).mono ?_
              rintro e w5 ⟨rfl, hb5⟩
              have hB5 := hB4.trans (hb5.mono hB4.size)
              go_wp2_with fail
              refine (T2 _ ((((hr2'.below hb4).more hb4.size).below hb5).more hb5.size)).out.mono ?_
              rintro e w6 ⟨v6, rfl, hown6, hb6⟩
              have hB6 := hB5.trans (hb6.mono hB5.size)
              obtain ⟨A4, c4, rfl, hr4, _, _⟩ := ReadsK.of_own (ownsRow_below (ownsRow_below hown4 hb5) hb6)
              obtain ⟨A6, c6, rfl, hr6, _, _⟩ := ReadsK.of_own hown6
              go_wp2_with fail
              refine (same_yes TL _ _ _ _ _ _ _ hr6 hr4 (by omega)).mono ?_
              rintro e w7 ⟨rfl, hb7⟩
              have hB7 := hB6.trans (hb7.mono hB6.size)
              go_wp2_with fail
              refine (T3 _ ((((((((hr3.below hb4).more hb4.size).below hb5).more hb5.size).below hb6).more hb6.size).below hb7).more hb7.size)).out.mono ?_
              rintro e w8 ⟨v8, rfl, hown8, hb8⟩
              have hB8 := hB7.trans (hb8.mono hB7.size)
              obtain ⟨A8, c8, rfl, hr8, _, _⟩ := ReadsK.of_own hown8
              go_wp2_with fail
              refine (same_yes TL _ _ _ _ _ _ _ hr8 ((((hr4.below hb7).more hb7.size).below hb8).more hb8.size) (by omega)).mono ?_
              rintro e w9 ⟨rfl, hb9⟩
              go_wp2
              go_ret
              exact ⟨rfl, hB8.trans (hb9.mono hB8.size)⟩
end Go.Proofs.Ytdkbiimhdbnplaa
