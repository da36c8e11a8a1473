/- TokenBehind, walked. -/
import Derived.Test.YtmofhpebcbpccaaDoorTokLaws
namespace Go.Proofs.YtmofhpebcbpccaaDoor
open Go.RowKit

theorem toks_top (k : Nat) (gs : List (List Int)) : ∀ x ∈ toks k gs, x.2.2 ≤ (k + gs.length : Nat) := by
  induction gs generalizing k with
  | nil => intro x hx; cases hx
  | cons g gs ih =>
    intro x hx
    rw [toks] at hx
    rcases List.mem_cons.1 hx with rfl | hx
    · show (k : Int) ≤ _
      omega
    · have := ih (k + 1) x hx
      rw [List.length_cons]
      omega
theorem words_top (s : ByteArray) (x : Tok) (hx : x ∈ wordsOf s) : 0 ≤ x.2.2 ∧ x.2.2 ≤ (s.size + 1 : Nat) := by
  refine ⟨(words_term s x hx).2.2.1, ?_⟩
  have h := toks_top 0 _ x (List.mem_filter.1 hx).1
  have h2 := allOf_len s
  rw [allOf, toks_len] at h2
  omega
theorem cat_size (a b : ByteArray) : (a ++ b).size = a.size + b.size := ByteArray.size_append
set_option maxRecDepth 100000 in
set_option maxHeartbeats 2000000 in
theorem walkTokenBehind {w : World} (hL : LaidF w) (a : ByteArray) (_ : a.size ≤ maxLen) (b : ByteArray) (_ : b.size ≤ maxLen) : Calls Tryd.prog 7 #[.string a, .string b] w fun e w' => e = .returned (.bool true) ∧ Below w.heap.size w w' := by
  by_cases hs : 500 < a.size
  · have hs' : (500 : Int) < (a.size : Int) := by omega
    have HF := fixed_any hL
    clear hs
    go_enter Tryd.func7, Tryd.ntmps7
    go_wp2_with fail
    refine HF.mono ?_
    rintro e w1 ⟨rfl, hb1⟩
    go_wp2
    go_ret
    exact ⟨rfl, hb1⟩
  · have hs' : ¬ (500 : Int) < (a.size : Int) := by omega
    by_cases hq : 500 < b.size
    · have hq' : (500 : Int) < (b.size : Int) := by omega
      have HF := fixed_any hL
      clear hs hq
      go_enter Tryd.func7, Tryd.ntmps7
      go_wp2_with fail
      refine HF.mono ?_
      rintro e w1 ⟨rfl, hb1⟩
      go_wp2
      go_ret
      exact ⟨rfl, hb1⟩
    · have hq' : ¬ (500 : Int) < (b.size : Int) := by omega
      obtain ⟨i0, hi0, hz0, hz1, hz2⟩ := info_parts info_tok
      have HA := all_any a (by omega) w
      have HSp := Lib.hid (words_sp a b)
      have HTop := Lib.hid (words_top b)
      have hNl := allOf_len a
      have hal := wordsOf_len a
      have hbl := wordsOf_len b
      go_enter Tryd.func7, Tryd.ntmps7
      go_wp2_with fail
      refine HA.mono ?_
      clear HA
      rintro e w1 ⟨v1, rfl, hown1, hb1⟩
      obtain ⟨A1, c1, rfl, _, _, _⟩ := ReadsK.of_own hown1
      clear hown1
      generalize (allOf a).length = N at *
      have hb2 : Below w.heap.size w (w1.alloc (.cells #[] 40)) := hb1.alloc hb1.size _
      have HW := words_any a (by omega) (hL.below hb2)
      have hown0 := ownsRow_base (own_empty w1 40 3) hb1.size
      go_wp2_with fail
      refine HW.mono ?_
      clear HW
      rintro e w3 ⟨v3, rfl, hown3, hb3⟩
      obtain ⟨A3, c3, rfl, hr3, _, _⟩ := ReadsK.of_own hown3
      have hB3 := then_ hb2 hb3
      replace hown0 := ownsRow_below hown0 hb3
      clear hown3 hb3
      have HWa := Lib.hid (show wordsOf a = wordsOf a from rfl)
      generalize hWa : wordsOf a = Wa at *
      clear hWa HWa
      obtain ⟨m, hm⟩ : ∃ m, m = Wa.length := ⟨_, rfl⟩
      rw [← hm] at hr3 hal ⊢
      have Hm := Lib.hid hm
      clear hm
      go_wp2_with (at_builtin; refine wpList_append_allK rfl (.tmp 21) (.tmp 23) 24 rfl w.heap.size 40 i0 _ 3 32 Tryd.underlying24 hi0 hz0 hz1 hz2 rfl (by omega) _ 0 [] hown0 w3.heap.size A3 m c3 _ hr3 rfl rfl (tokC_one _) (by omega) (by omega) hB3.size ?_; intro v4 w4 hown4 hg4 _; have hB4 := below_grown hB3 hown0 (Nat.le_refl _) hB3.size hg4)
      simp only [Nat.zero_add, List.nil_append] at hown4
      have HW := words_any b (by omega) (hL.below hB4)
      refine HW.mono ?_
      clear HW hr3 hown0
      rintro e w5 ⟨v5, rfl, hown5, hb5⟩
      obtain ⟨A5, c5, rfl, _, _, _⟩ := ReadsK.of_own hown5
      have hAP : AP v4 (.slice A5 (wordsOf b).length c5) := fun g h1 h2 => by
        have h1 := (hown4.lt g h1).2
        have h2 := (hown5.lt g h2).1
        omega
      replace hown4 := ownsRow_below hown4 hb5
      have hB5 := then_ hB4 hb5
      replace hown5 := ownsRow_base hown5 hB4.size
      clear hb5 hB4 hB3 hb2 hb1 hg4
      generalize wordsOf b = Wb at *
      obtain ⟨n, hn⟩ : ∃ n, n = Wb.length := ⟨_, rfl⟩
      rw [← hn] at hown5 hAP hbl ⊢
      have Hn := Lib.hid hn
      clear hn
      go_wp2_with fail
      go_loopw [6, 28] (fun out i wr => ∃ k : Nat, k ≤ n ∧ i = .int .i64 (k : Int) ∧ wr.ownsRow w.heap.size 40 3 out (Wa ++ (Wb.take k).map (shift N)).length ((Wa ++ (Wb.take k).map (shift N)).flatMap tokC) ∧ wr.ownsRow w.heap.size 40 3 (.slice A5 n c5) n (Wb.flatMap tokC) ∧ AP out (.slice A5 n c5) ∧ Below w.heap.size w wr) (fun _ i _ => n - (intOf i).toNat)
      case atStart => exact ⟨0, by omega, rfl, by simpa [← Hm.out] using hown4, hown5, hAP, hB5⟩
      case round =>
        clear hown4 hown5 hAP hB5
        obtain ⟨k, hk, rfl, hoI, hWI, hAI, hBI⟩ := hrel
        by_cases hlt : k < n
        · obtain ⟨ad3, hl3, rfl, hbl3, c0, hcell⟩ := (own_reads hWI).at' tokC_len (by omega) hlt
          have c0 := c0 _ rfl
          have c1 := hcell 1 _ (by omega) rfl
          have c2 := hcell 2 _ (by omega) rfl
          clear hcell
          have hlt3' : (k : Int) < (n : Int) := by omega
          have hk20 : (0 : Int) ≤ (k : Int) := by omega
          have HM := Lib.hid (map_snoc2 Wa (shift N) hl3)
          have hml : (Wa ++ (Wb.take k).map (shift N)).length ≤ 4000 := by
            have := Hm.out
            rw [List.length_append, List.length_map, List.length_take]
            omega
          obtain ⟨t0, t1⟩ := HTop.out _ (List.getElem_mem hl3)
          generalize Wb[k] = X at *
          obtain ⟨x0, x1, x2⟩ := X
          simp only at c0 c1 c2 HM t0 t1
          generalize (Wa ++ (Wb.take k).map (shift N)) = Os at *
          have hrow := Row.new wr 40 [.int .u8 0, .string ByteArray.empty, .int .i64 0]
          have hBa : Below w.heap.size w (wr.alloc (.cells #[.int .u8 0, .string ByteArray.empty, .int .i64 0] 40)) := hBI.alloc hBI.size _
          have hone : ∀ v ∈ [Value.int .u8 x0, .string x1, .int .i64 (x2 + (N : Int))], v.oneCell' = true := by simp [Value.oneCell']
          have hg0 : w.heap.size ≤ wr.heap.size := hBI.size
          have t1' : x2 ≤ 501 := by omega
          have hN5 : (N : Int) ≤ 501 := by omega
          clear t1
          go_wp2_with (first
            | (refine wpList_store_rowO rfl 40 (.tmp 8) (.tmp 31) rfl wr.heap.size [.int .u8 x0, .string x1, .int .i64 x2] rfl rfl 40 _ hrow (by kernel_rfl) rfl rfl w.heap.size w hBa hg0 ?_; intro w3 hr3 hB3 hs3 hk3; have g2 : w3.cell? ⟨wr.heap.size, 2, none⟩ = some (.int .i64 x2) := hr3.cell 2)
            | (refine wpList_store_cellO rfl 3 (.tmp 36) (.tmp 35) rfl wr.heap.size 2 (.int .i64 (x2 + (N : Int))) rfl rfl 40 _ hr3 (by simp) rfl (by kernel_rfl) w.heap.size w hB3 hg0 ?_; intro w4 hr4 hB4 hs4 hk4; have e0 : w4.cell? ⟨wr.heap.size, 0, none⟩ = some (.int .u8 x0) := hr4.cell 0; have e1 : w4.cell? ⟨wr.heap.size, 1, none⟩ = some (.string x1) := hr4.cell 1; have e2 : w4.cell? ⟨wr.heap.size, 2, none⟩ = some (.int .i64 (x2 + (N : Int))) := hr4.cell 2; have h6 := own_apart hoI hBa hB4 (hs4.trans hs3) (fun k h => (hk4 k h).trans (hk3 k h)); have hW4 := own_apart hWI hBa hB4 (hs4.trans hs3) (fun k h => (hk4 k h).trans (hk3 k h)); clear c0 c1 c2 g2 hk3 hk4 hs3 hs4)
            | (at_builtin; refine wpList_append_oneB rfl (.tmp 37) (.tmp 39) 24 rfl w.heap.size 40 i0 _ 3 32 Tryd.underlying24 hi0 hz0 hz1 hz2 rfl (by omega) _ _ _ [.int .u8 x0, .string x1, .int .i64 (x2 + (N : Int))] rfl h6 rfl rfl hone (by omega) (by omega) hB4.size ?_; intro v6 w6 hown6 hg6 hv6))
          go_roundw
          case rel => exact ⟨k + 1, by omega, by go_num, by rw [HM.out]; simpa [tokC, shift] using hown6, hW4.kept hg6 hAI.symm.ne, (hAI.symm.step hW4 (Nat.le_succ _) hv6).symm, below_grown hB4 h6 (Nat.le_refl _) hB4.size hg6⟩
          case measure => simp [intOf]; omega
        · have hlt3' : ¬ (k : Int) < (n : Int) := by omega
          rw [List.take_of_length_le (by rw [← Hn.out]; omega)] at hoI
          have HF := fixed_any (hL.below hBI)
          go_wp2_with fail
          refine HF.mono ?_
          clear HF
          rintro e w7 ⟨rfl, hb7⟩
          replace hoI := ownsRow_below hoI hb7
          have hB7 := then_ hBI hb7
          have hc1 : (a ++ { data := #[32] } : ByteArray).size = a.size + 1 := cat_size _ _
          have hc2 : (a ++ { data := #[32] } ++ b : ByteArray).size = a.size + 1 + b.size := by rw [cat_size, hc1]
          have HW := words_any (a ++ { data := #[32] } ++ b) (by omega) (hL.below hB7)
          have hcl := wordsOf_len (a ++ { data := #[32] } ++ b)
          rw [HSp.out] at HW hcl
          go_wp2_with fail
          refine HW.mono ?_
          clear HW
          rintro e w8 ⟨v8, rfl, hown8, hb8⟩
          replace hoI := ownsRow_below hoI hb8
          have hB8 := then_ hB7 hb8
          obtain ⟨A8, c8, rfl, hr8, _, _⟩ := ReadsK.of_own hown8
          obtain ⟨A9, c9, rfl, hr9, _, _⟩ := ReadsK.of_own hoI
          have HS := same_any _ _ _ _ _ _ _ _ _ hr8 hr9 (by omega) (by omega)
          rw [decide_eq_true rfl] at HS
          clear hr8 hr9 hown8 hoI hcl hc1 hc2
          generalize (Wa ++ List.map (shift N) Wb).length = q at *
          go_wp2_with fail
          refine HS.mono ?_
          clear HS
          rintro e w9 ⟨rfl, hb9⟩
          have hB9 := then_ hB8 hb9
          go_wp2
          go_ret
          exact ⟨rfl, hB9⟩
end Go.Proofs.YtmofhpebcbpccaaDoor
