/- The walk of ref.Encode of lists. -/
import Derived.Test.YtbbjlijdodnjaaaBlkEntry
import Derived.Test.YtbbjlijdodnjaaaBlkRefMay
import Derived.Test.YtbbjlijdodnjaaaPackRefCells
namespace Go.Proofs.Ytbbjlijdodnjaaa
open Go.RowKit

theorem skips_yes (V : List En) (i : Nat) (h : i % 4 = 0) : skipsB V (i + 1) = skipsB V i ++ [skipOf V i] := by rw [skipsB, if_pos h]
theorem skips_no (V : List En) (i : Nat) (h : ¬ i % 4 = 0) : skipsB V (i + 1) = skipsB V i := by rw [skipsB, if_neg h]
theorem ints_snoc1 (k : IntKind) (a : List Int) (x : Int) : ints k a ++ [.int k x] = ints k (a ++ [x]) := by simp [ints]
theorem own_lit1r (w : World) (e : TypeId) (us : List Value) (h : us.length ≤ 1000 := by simp) : (w.alloc (.cells us.toArray e)).ownsRow w.heap.size e 1 (.slice (some ⟨w.heap.size, 0, none⟩) us.length us.length) us.length us :=
  World.ownsRow_lit (base := w.heap.size) (e := e) (size := 1) w us.toArray us.length (Nat.le_refl _) (by simp only [maxLen]; omega) (by simp)
set_option maxRecDepth 100000 in
set_option maxHeartbeats 2000000 in
theorem refEnc_any (l : List Ent) (A : Option Addr) (n c : Nat) (w : World) (hx : ReadsE w w.heap.size A n c l) (hc : c ≤ maxLen) :
    Calls Try.prog 23 #[.slice A n c] w fun e w' => ∃ v, e = .returned (.tuple #[v, .int .i64 (encA (vals l)).2]) ∧ w'.ownsRow w.heap.size 30 1 v (encA (vals l)).1.length (ints .u32 (encA (vals l)).1) ∧ Below w.heap.size w w' := by
  obtain ⟨i0, hi0, hz0, hz1, hz2⟩ := info_parts info_b8
  obtain ⟨j0, hj0, hy0, hy1, hy2⟩ := info_parts info_u32
  have hvl := hx.vlen
  have HMay := refMay_any l A n c w hx hc
  go_enter Try.func23, Try.ntmps23
  go_wp2_with fail
  refine HMay.mono ?_
  clear HMay
  rintro e w1 ⟨rfl, hb1⟩
  cases hmay : mayL (vals l)
  · have HE : Hid (encA (vals l) = ([], 1)) := Lib.hid (by rw [encA, hmay]; rfl)
    clear hmay
    go_wp2
    go_ret2
    exact ⟨.slice none 0 0, by rw [HE.out]; rfl, by rw [HE.out]; exact World.ownsRow_nil _ _ _ _, hb1⟩
  · have HE : Hid (encA (vals l) = (encL (vals l), 0)) := Lib.hid (by rw [encA, if_pos hmay])
    have HM := Lib.hid (may_parts hmay)
    have hn64 := (may_parts hmay).len
    clear hmay
    rw [hvl] at hn64
    have Hvl := Lib.hid hvl
    clear hvl
    have hoS := own_empty w1 30 1
    have hoS2 := ownsRow_base (hoS.alloc (.cells #[] 5)) hb1.size
    have hoB := own_empty (w1.alloc (.cells #[] 30)) 5 1
    have hB2 : Below w.heap.size w ((w1.alloc (.cells #[] 30)).alloc (.cells #[] 5)) := (hb1.alloc hb1.size _).alloc (by have := hb1.size; simp; omega) _
    have hoB2 := ownsRow_base hoB (show w.heap.size ≤ _ from by have := hb1.size; simp; omega)
    have hAP : AP (.slice (some ⟨w1.heap.size, 0, none⟩) 0 0) (.slice (some ⟨(w1.alloc (.cells #[] 30)).heap.size, 0, none⟩) 0 0) := fun g h1 h2 => by
      simp [Value.ownBlock] at h1 h2
      omega
    clear hoS hoB
    go_wp2_with fail
    go_loopw [4, 5, 6, 7, 17] (fun sk b _ _ i wr => ∃ k : Nat, k ≤ n ∧ i = .int .i64 (k : Int) ∧ wr.ownsRow w.heap.size 30 1 sk (skipsB (vals l) k).length (ints .u32 (skipsB (vals l) k)) ∧ wr.ownsRow w.heap.size 5 1 b (bodyB (vals l) k).length (bys (bodyB (vals l) k)) ∧ AP sk b ∧ Below w.heap.size w wr) (fun _ _ _ _ i _ => n - (intOf i).toNat)
    case atStart => exact ⟨0, by omega, rfl, hoS2, by simpa [bodyB, bys] using hoB2, by simpa using hAP, hB2⟩
    case round =>
      clear hoS2 hoB2 hAP hB2
      obtain ⟨k, hk, rfl, hoS, hoB, hAP, hB⟩ := hrel
      obtain ⟨A5, c5, rfl, hr5, _, _⟩ := ownsRow_slice hoB
      by_cases hlt : k < n
      · have hlt' : (k : Int) < (n : Int) := by omega
        have hk0 : (0 : Int) ≤ (k : Int) := by omega
        have hkl : k < (vals l).length := by rw [Hvl.out]; exact hlt
        have HEnt := Lib.hid fun (w5 : World) (hb : Below w.heap.size w w5) => entry_any l A n c w5 ((hx.below hb).more hb.size) HM.out k hlt
        have hbl := bodyB_len HM.out k (by omega)
        have hel := entB_len HM.out k hkl
        have hsl := skipsB_len (vals l) k
        have HBn : Hid (bodyB (vals l) (k + 1) = bodyB (vals l) k ++ entB (vals l) k) := Lib.hid rfl
        have hsr := skip_range HM.out k hkl
        by_cases h4 : k % 4 = 0
        · have h4' : ((k : Int) % 4 == 0) = true := by simp; omega
          have HSn := Lib.hid (skips_yes (vals l) k h4)
          obtain ⟨ad, d, P, A', c', rfl, hb, hen, c0, _, _⟩ := (hx.below hB).at' (i := min (k + 4) n - 1) (by omega)
          have HSk : Hid (skipOf (vals l) k = 65536 * d + ((bodyB (vals l) k).length : Nat)) := Lib.hid (by rw [skipOf, Hvl.out, hen])
          have hd := HM.out.doc (min (k + 4) n - 1) (by rw [Hvl.out]; omega)
          rw [hen] at hd
          simp only at hd
          generalize skipsB (vals l) k = Sk at *
          generalize bodyB (vals l) k = Bk at *
          generalize entB (vals l) k = Ek at *
          generalize hbl2' : Bk.length = bl at *
          have hbl2 := hbl2'.symm
          clear hbl2'
          obtain ⟨wo, rfl⟩ : ∃ wo : World, wo = wr := ⟨_, rfl⟩
          go_wp2_with fail
          go_loopw [7, 8] (fun last k2 wr2 => ∃ q li : Nat, q ≤ 4 ∧ k + q ≤ n ∧ ((q = 0 ∧ li = k) ∨ (0 < q ∧ li + 1 = k + q)) ∧ k2 = .int .i64 ((k + q : Nat) : Int) ∧ last = .int .i64 (li : Int) ∧ wo = wr2) (fun _ k2 _ => k + 4 - (intOf k2).toNat)
          case atStart => exact ⟨0, k, by omega, by omega, .inl ⟨rfl, rfl⟩, rfl, rfl, rfl⟩
          case round =>
            obtain ⟨q, li, hq4, hqn, hli, rfl, rfl, rfl⟩ := hrel
            have hkq : ((k + q : Nat) : Int) = (k : Int) + (q : Int) := by omega
            by_cases hgo : q < 4 ∧ k + q < n
            · have g1 : (k : Int) + (q : Int) < (n : Int) := by omega
              have g2 : (q : Int) < 4 := by omega
              have Hli := Lib.hid hli
              clear hli hgo
              go_wp2
              go_roundw
              case rel => exact ⟨q + 1, k + q, by omega, by omega, .inr ⟨by omega, by omega⟩, by go_num, by go_num, by first | rfl | trivial⟩
              case measure => simp [intOf]; omega
            · obtain rfl : li = min (k + 4) n - 1 := by omega
              have hq0 : 0 < q := by omega
              have hl5 : min (k + 4) n - 1 < n := by omega
              generalize min (k + 4) n - 1 = li at *
              clear hli
              have hl0 : (0 : Int) ≤ (li : Int) := by omega
              have hsm : (0 : Int) ≤ 65536 * d + (bl : Int) := by omega
              have hsm2 : 65536 * d + (bl : Int) < 4294967296 := by rw [← HSk.out]; exact hsr.2.1
              have hln : (li : Int) < (n : Int) := by omega
              have hsl3 : Sk.length ≤ 64 := by omega
              have hbl4 : bl ≤ 60000 := by omega
              have Hbl2 := Lib.hid hbl2
              have hgs : (¬ (k : Int) + (q : Int) < (n : Int)) ∨ ((k : Int) + (q : Int) < (n : Int) ∧ ¬ (q : Int) < 4) := by omega
              have hBsz := hB.size
              clear hgo hkq hsr hbl2 hsl
              rcases hgs with g1 | ⟨g1, g2⟩
              all_goals
                go_wp2_with (at_builtin; refine wpList_append_oneB rfl (.tmp 38) (.tmp 49) 26 rfl w.heap.size 30 j0 _ 1 4 Try.underlying26 hj0 hy0 hy1 hy2 rfl (by omega) _ _ _ [.int .u32 (65536 * d + (bl : Int))] rfl hoS rfl rfl (by simp [Value.oneCell']) (by omega) (by omega) hBsz ?_; intro v6 w6 hown6 hg6 hv6; have hB6 := below_grown hB hoS (Nat.le_refl _) hBsz hg6; rw [ints_snoc1] at hown6; have hoB6 := hoB.kept hg6 hAP.symm.ne; have hAP6 := hAP.symm.step hoB (Nat.le_succ _) hv6)
                refine (HEnt.out w6 hB6).mono ?_
                rintro e w8 ⟨v8, rfl, hown8, hb8⟩
                obtain ⟨A8, c8, rfl, hr8, _, _⟩ := ReadsK.of_own hown8
                replace hown6 := ownsRow_below hown6 hb8
                replace hoB6 := ownsRow_below hoB6 hb8
                have hB8 := then_ hB6 hb8
                go_wp2_with (at_builtin; refine wpList_append_allK rfl (.tmp 51) (.tmp 54) 49 rfl w.heap.size 5 i0 _ 1 1 Try.underlying49 hi0 hz0 hz1 hz2 rfl (by omega) _ bl _ hoB6 w8.heap.size A8 Ek.length c8 _ hr8 rfl rfl (bys_one _) (by omega) (by omega) hB8.size ?_; intro v9 w9 hown9 hg9 hv9; have hB9 := below_grown hB8 hoB6 (Nat.le_refl _) hB8.size hg9; rw [bys_snoc] at hown9)
                go_roundw
                case rel => exact ⟨k + 1, by omega, by go_num, by rw [HSn.out, HSk.out]; simpa using hown6.kept hg9 hAP6.symm.ne, by rw [HBn.out, List.length_append, ← Hbl2.out]; exact hown9, hAP6.symm.step hown6 (Nat.le_refl _) hv9, hB9⟩
                case measure => simp [intOf]; omega
        · have h4' : ((k : Int) % 4 == 0) = false := by simp; omega
          have HSn := Lib.hid (skips_no (vals l) k h4)
          generalize skipsB (vals l) k = Sk at *
          generalize bodyB (vals l) k = Bk at *
          generalize entB (vals l) k = Ek at *
          generalize hbl2' : Bk.length = bl at *
          have hbl2 := hbl2'.symm
          clear hbl2'
          have Hbl2 := Lib.hid hbl2
          have hbl4 : bl ≤ 60000 := by omega
          clear hbl2 hsr hsl
          go_wp2_with fail
          refine (HEnt.out wr hB).mono ?_
          rintro e w8 ⟨v8, rfl, hown8, hb8⟩
          obtain ⟨A8, c8, rfl, hr8, _, _⟩ := ReadsK.of_own hown8
          replace hoS := ownsRow_below hoS hb8
          replace hoB := ownsRow_below hoB hb8
          have hB8 := then_ hB hb8
          go_wp2_with (at_builtin; refine wpList_append_allK rfl (.tmp 51) (.tmp 54) 49 rfl w.heap.size 5 i0 _ 1 1 Try.underlying49 hi0 hz0 hz1 hz2 rfl (by omega) _ bl _ hoB w8.heap.size A8 Ek.length c8 _ hr8 rfl rfl (bys_one _) (by omega) (by omega) hB8.size ?_; intro v9 w9 hown9 hg9 hv9; have hB9 := below_grown hB8 hoB (Nat.le_refl _) hB8.size hg9; rw [bys_snoc] at hown9)
          go_roundw
          case rel => exact ⟨k + 1, by omega, by go_num, by rw [HSn.out]; exact hoS.kept hg9 hAP.ne, by rw [HBn.out, List.length_append, ← Hbl2.out]; exact hown9, hAP.step hoS (Nat.le_refl _) hv9, hB9⟩
          case measure => simp [intOf]; omega
      · have hlt' : ¬ (k : Int) < (n : Int) := by omega
        obtain rfl : k = n := by omega
        have hsl := skipsB_len (vals l) k
        have hbl := bodyB_len HM.out k (by rw [Hvl.out]; omega)
        have HEL : Hid (encL (vals l) = ([(k : Int)] ++ skipsB (vals l) k) ++ cellsB (bodyB (vals l) k)) := Lib.hid (by rw [encL, Hvl.out]; rfl)
        generalize skipsB (vals l) k = Sk at *
        generalize bodyB (vals l) k = Bk at *
        generalize hbl2' : Bk.length = bl at *
        have hbl2 := hbl2'.symm
        clear hbl2'
        have hbl4 : bl ≤ 60000 := by omega
        have hsl3 : Sk.length ≤ 64 := by omega
        have Hbl2 := Lib.hid hbl2
        clear hsl hbl2 hbl
        obtain ⟨A4, c4, rfl, hr4, _, _⟩ := ReadsK.of_own hoS
        have hoC := ownsRow_base (own_lit1r wr 30 [.int .u32 (k : Int)]) hB.size
        have hoS' := hoS.alloc (.cells #[.int .u32 (k : Int)] 30)
        have hr4' := hr4.alloc (Nat.le_refl _) (.cells #[.int .u32 (k : Int)] 30)
        have hr5' := hr5.alloc (Nat.le_refl _) (.cells #[.int .u32 (k : Int)] 30)
        have hBc : Below w.heap.size w (wr.alloc (.cells #[.int .u32 (k : Int)] 30)) := hB.alloc hB.size _
        have hAPc : AP (.slice (some ⟨wr.heap.size, 0, none⟩) 1 1) (.slice A5 bl c5) := fun g h1 h2 => by
          have := (hoB.lt g h2).2
          simp [Value.ownBlock] at h1
          omega
        have hoB' := hoB.alloc (.cells #[.int .u32 (k : Int)] 30)
        clear hr4 hr5 hoS hoB
        go_wp2_with (at_builtin; refine wpList_append_allK rfl (.tmp 61) (.tmp 62) 26 rfl w.heap.size 30 j0 _ 1 4 Try.underlying26 hj0 hy0 hy1 hy2 rfl (by omega) _ 1 _ hoC wr.heap.size A4 Sk.length c4 _ hr4' rfl rfl (ints_one _ _) (by omega) (by omega) hBc.size ?_; intro v6 w6 hown6 hg6 hv6; have hB6 := below_grown hBc hoC (Nat.le_refl _) hBc.size hg6; have hoB6 := hoB'.kept hg6 hAPc.symm.ne)
        obtain ⟨_, _, e6, hr6, _, _⟩ := ownsRow_slice hoB6
        injection e6 with e61 e62 e63
        subst e61 e63
        have hcv := run_string_of (P := Try.prog) 49 9 5 Try.underlying49 Try.underlying5 Try.underlying9 hr6
        rw [hcv]
        have HCe := refCells_any ⟨Bk.toArray⟩ w6 (by show Bk.toArray.size ≤ _; rw [List.size_toArray, ← Hbl2.out]; omega)
        have hcs : (⟨Bk.toArray⟩ : ByteArray).size = bl := by show Bk.toArray.size = _; rw [List.size_toArray, Hbl2.out]
        rw [hcs] at HCe
        have Hcb : Hid (cellsB Bk = cellsOf (⟨Bk.toArray⟩ : ByteArray).data.toList ((bl + 3) / 4)) := Lib.hid (by rw [cellsB, Hbl2.out])
        have hcl : (cellsOf (⟨Bk.toArray⟩ : ByteArray).data.toList ((bl + 3) / 4)).length = (bl + 3) / 4 := by simp [cellsOf]
        generalize cellsOf (⟨Bk.toArray⟩ : ByteArray).data.toList ((bl + 3) / 4) = CB at *
        clear hcs hcv hr6 e62
        go_wp2_with fail
        refine HCe.mono ?_
        clear HCe
        rintro e w8 ⟨v8, rfl, hown8, hb8⟩
        obtain ⟨A8, c8, rfl, hr8, _, _⟩ := ReadsK.of_own hown8
        replace hown6 := ownsRow_below hown6 hb8
        have hB8 := then_ hB6 hb8
        have Hcl := Lib.hid hcl
        clear hcl
        go_wp2_with (at_builtin; refine wpList_append_allK rfl (.tmp 64) (.tmp 67) 26 rfl w.heap.size 30 j0 _ 1 4 Try.underlying26 hj0 hy0 hy1 hy2 rfl (by omega) _ (1 + Sk.length) _ hown6 w8.heap.size A8 ((bl + 3) / 4) c8 _ hr8 rfl rfl (ints_one _ _) (by omega) (by omega) hB8.size ?_; intro v9 w9 hown9 hg9 hv9; have hB9 := below_grown hB8 hown6 (Nat.le_refl _) hB8.size hg9)
        go_ret2
        refine ⟨v9, by rw [HE.out]; rfl, ?_, hB9⟩
        rw [HE.out]
        show w9.ownsRow _ _ _ _ (encL (vals l)).length (ints .u32 (encL (vals l)))
        rw [HEL.out, Hcb.out, List.length_append, List.length_append, Hcl.out]
        simpa [ints] using hown9
end Go.Proofs.Ytbbjlijdodnjaaa
