/- TokenCase, walked. -/
import Derived.Test.YtmofhpebcbpccaaDoorTokLaws
namespace Go.Proofs.YtmofhpebcbpccaaDoor
open Go.RowKit

theorem set_fold (f : Int → Int) (L : List Int) (k : Nat) (h : k < L.length) : (ints .i32 ((L.take k).map f ++ L.drop k)).set k (.int .i32 (f L[k])) = ints .i32 ((L.take (k + 1)).map f ++ L.drop (k + 1)) := by
  have hl : ((L.take k).map f).length = k := by rw [List.length_map, List.length_take]; omega
  rw [ints, ints, ← List.map_set, List.set_append_right _ _ (by omega), hl, Nat.sub_self, List.drop_eq_getElem_cons h, List.set_cons_zero, List.take_succ_eq_append_getElem h]
  simp only [List.map_append, List.map_cons, List.map_nil, List.append_assoc, List.cons_append, List.nil_append]
theorem get_fold (f : Int → Int) (L : List Int) (k : Nat) (h : k < L.length) : (ints .i32 ((L.take k).map f ++ L.drop k))[k]? = some (.int .i32 L[k]) := by
  have hl : ((L.take k).map f).length = k := by rw [List.length_map, List.length_take]; omega
  rw [ints, List.getElem?_map, List.getElem?_append_right (by omega), hl, Nat.sub_self, List.drop_eq_getElem_cons h]
  rfl
set_option maxRecDepth 100000 in
set_option maxHeartbeats 2000000 in
theorem walkTokenCase {w : World} (hL : LaidF w) (s : ByteArray) (_ : s.size ≤ maxLen) : Calls Tryd.prog 6 #[.string s] w fun e w' => e = .returned (.bool true) ∧ Below w.heap.size w w' := by
  by_cases hs : 500 < s.size
  · have hs' : (500 : Int) < (s.size : Int) := by omega
    have HF := fixed_any hL
    clear hs
    go_enter Tryd.func6, Tryd.ntmps6
    go_wp2_with fail
    refine HF.mono ?_
    rintro e w1 ⟨rfl, hb1⟩
    go_wp2
    go_ret
    exact ⟨rfl, hb1⟩
  · have hs' : ¬ (500 : Int) < (s.size : Int) := by omega
    have hrl := runesOf_len s
    have HC := Lib.hid (case_words s)
    have HR := refRunes_any s w (by omega)
    go_enter Tryd.func6, Tryd.ntmps6
    go_wp2_with fail
    refine HR.mono ?_
    clear HR
    rintro e w1 ⟨v1, rfl, hown1, hb1⟩
    obtain ⟨A1, c1, rfl, _, _, _⟩ := ownsRow_slice hown1
    generalize runesOf s = L at *
    obtain ⟨n, hn⟩ : ∃ n, n = L.length := ⟨_, rfl⟩
    rw [← hn] at hown1 hrl ⊢
    have Hn := Lib.hid hn
    clear hn
    go_wp2_with fail
    go_loopw [4, 13] (fun _ i wr => ∃ k : Nat, k ≤ n ∧ i = .int .i64 (k : Int) ∧ wr.ownsRow w.heap.size 21 1 (.slice A1 n c1) n (ints .i32 ((L.take k).map foldOf ++ L.drop k)) ∧ Below w.heap.size w wr) (fun _ i _ => n - (intOf i).toNat)
    case atStart => exact ⟨0, by omega, rfl, by simpa using hown1, hb1⟩
    case round =>
      obtain ⟨k, hk, rfl, hown, hB⟩ := hrel
      by_cases hlt : k < n
      · have hlt' : (k : Int) < (n : Int) := by omega
        have hk0 : (0 : Int) ≤ (k : Int) := by omega
        have hkl : k < L.length := by rw [← Hn.out]; exact hlt
        obtain ⟨g, cap, e, hg, _⟩ := hown.form (by omega)
        injection e with e1 e2 e3
        subst e1 e3
        clear e2
        have hcl := hown.cellAt k (by omega)
        have hfz := hown.frozenAt k
        rw [get_fold foldOf L k hkl] at hcl
        have HSt := Lib.hid (hown.stored k (.int .i32 (foldOf L[k])))
        rw [set_fold foldOf L k hkl] at HSt
        have HBt := Lib.hid (below_grown hB hown (Nat.le_refl _) hB.size HSt.out.2)
        go_wp2_with fail
        refine (rfold_any _ _).mono ?_
        rintro e w3 ⟨rfl, rfl⟩
        go_wp2
        go_roundw
        case rel => exact ⟨k + 1, by omega, by go_num, HSt.out.1, HBt.out⟩
        case measure => simp [intOf]; omega
      · have hlt' : ¬ (k : Int) < (n : Int) := by omega
        have hkn : k = n := by omega
        rw [List.take_of_length_le (by rw [← Hn.out]; omega), List.drop_eq_nil_of_le (by rw [← Hn.out]; omega), List.append_nil] at hown
        have HF := fixed_any (hL.below hB)
        clear hkn
        go_wp2_with fail
        refine HF.mono ?_
        clear HF
        rintro e w3 ⟨rfl, hb3⟩
        replace hown := ownsRow_below hown hb3
        have hB3 := then_ hB hb3
        obtain ⟨A4, c4, e4, hr4, _, _⟩ := ownsRow_slice hown
        injection e4 with e5 e6 e7
        subst e5 e7
        have hL3 := Hn.out
        have HT := refText_any (L.map foldOf) _ _ _ w3 hr4 (by omega)
        have htl := textOf_le (L.map foldOf)
        rw [List.length_map, ← hL3] at htl
        clear hL3 e6
        generalize hT : (⟨(textOf (L.map foldOf)).toArray⟩ : ByteArray) = T at *
        have hTs : T.size ≤ 2000 := by
          rw [← hT]
          show (textOf (L.map foldOf)).toArray.size ≤ 2000
          rw [List.size_toArray]
          omega
        clear hT htl
        go_wp2_with fail
        refine HT.mono ?_
        clear HT hr4 hown
        rintro e w5 ⟨rfl, hb5⟩
        have hB5 := then_ hB3 hb5
        have HW := words_any T (by omega) (hL.below hB5)
        rw [HC.out] at HW
        go_wp2_with fail
        refine HW.mono ?_
        clear HW
        rintro e w6 ⟨v6, rfl, hown6, hb6⟩
        have hB6 := then_ hB5 hb6
        have HW := words_any s (by omega) (hL.below hB6)
        go_wp2_with fail
        refine HW.mono ?_
        clear HW
        rintro e w7 ⟨v7, rfl, hown7, hb7⟩
        replace hown6 := ownsRow_below hown6 hb7
        have hB7 := then_ hB6 hb7
        have hwl := wordsOf_len s
        obtain ⟨A6, c6, rfl, hr6, _, _⟩ := ReadsK.of_own hown6
        obtain ⟨A7, c7, rfl, hr7, _, _⟩ := ReadsK.of_own hown7
        have HS := same_any _ _ _ _ _ _ _ _ _ hr6 hr7 (by omega) (by omega)
        rw [decide_eq_true rfl] at HS
        clear hr6 hr7 hown6 hown7 hwl
        generalize (wordsOf s).length = m at *
        go_wp2_with fail
        refine HS.mono ?_
        clear HS
        rintro e w8 ⟨rfl, hb8⟩
        have hB8 := then_ hB7 hb8
        go_wp2
        go_ret
        exact ⟨rfl, hB8⟩
end Go.Proofs.YtmofhpebcbpccaaDoor
