/- TokenTerms, walked. -/
import Derived.Test.YtmofhpebcbpccaaDoorTokLaws
namespace Go.Proofs.YtmofhpebcbpccaaDoor
open Go.RowKit

/-- The place of the word ahead of word k. -/
def wasOf (W : List Tok) (k : Nat) : Int := match k with | 0 => -1 | k + 1 => (W.getD k (0, ⟨#[]⟩, 0)).2.2
theorem getD_get {α : Type} (l : List α) (k : Nat) (d : α) (h : k < l.length) : l.getD k d = l[k] := by simp [List.getD, h]
theorem was_lt (s : ByteArray) (k : Nat) (h : k < (wordsOf s).length) : wasOf (wordsOf s) k < (wordsOf s)[k].2.2 := by
  cases k with
  | zero =>
    have := (words_term s _ (List.getElem_mem h)).2.2.1
    show (-1 : Int) < _
    omega
  | succ k =>
    have h1 := List.pairwise_iff_getElem.1 (words_rise s) k (k + 1) (by omega) h (by omega)
    rw [wasOf, getD_get _ _ _ (by omega)]
    exact h1
theorem was_next (W : List Tok) (k : Nat) (h : k < W.length) : wasOf W (k + 1) = W[k].2.2 := by
  rw [wasOf, getD_get _ _ _ h]
set_option maxRecDepth 100000 in
set_option maxHeartbeats 2000000 in
theorem walkTokenTerms {w : World} (hL : LaidF w) (s : ByteArray) (_ : s.size ≤ maxLen) : Calls Tryd.prog 8 #[.string s] w fun e w' => e = .returned (.bool true) ∧ Below w.heap.size w w' := by
  by_cases hs : 1000 < s.size
  · have hs' : (1000 : Int) < (s.size : Int) := by omega
    have HF := fixed_any hL
    clear hs
    go_enter Tryd.func8, Tryd.ntmps8
    go_wp2_with fail
    refine HF.mono ?_
    rintro e w1 ⟨rfl, hb1⟩
    go_wp2
    go_ret
    exact ⟨rfl, hb1⟩
  · have hs' : ¬ (1000 : Int) < (s.size : Int) := by omega
    have HW := words_any s (by omega) hL
    have hwl := wordsOf_len s
    have HWas : Hid (∀ k (h : k < (wordsOf s).length), wasOf (wordsOf s) k < (wordsOf s)[k].2.2) := Lib.hid (was_lt s)
    have HTerm : Hid (∀ x ∈ wordsOf s, 1 ≤ x.2.1.size ∧ x.2.1.size ≤ 16 ∧ 0 ≤ x.2.2 ∧ wordsOf x.2.1 = [(0, x.2.1, 0)]) := Lib.hid (words_term s)
    go_enter Tryd.func8, Tryd.ntmps8
    go_wp2_with fail
    refine HW.mono ?_
    clear HW
    rintro e w1 ⟨v1, rfl, hown1, hb1⟩
    obtain ⟨A1, c1, rfl, hr1, _, _⟩ := ReadsK.of_own hown1
    clear hown1
    generalize wordsOf s = W at *
    obtain ⟨n, hn⟩ : ∃ n, n = W.length := ⟨_, rfl⟩
    rw [← hn] at hr1 hwl ⊢
    have Hn := Lib.hid hn
    have hn1 : n ≤ 1001 := by omega
    clear hwl
    clear hn
    go_wp2_with fail
    go_loopw [3, 5, 6, 14] (fun was _ _ i wr => ∃ k : Nat, k ≤ n ∧ i = .int .i64 (k : Int) ∧ was = .int .i64 (wasOf W k) ∧ Below w1.heap.size w1 wr) (fun _ _ _ i _ => n - (intOf i).toNat)
    case atStart => exact ⟨0, by omega, rfl, rfl, Below.refl _ _⟩
    case round =>
      obtain ⟨k, hk, rfl, rfl, hB⟩ := hrel
      by_cases hlt : k < n
      · have hlt' : (k : Int) < (n : Int) := by omega
        have hk0 : (0 : Int) ≤ (k : Int) := by omega
        obtain ⟨ad, hl, rfl, hbl, c0, hcell⟩ := (hr1.below hB).at' tokC_len (by omega) hlt
        have c0 := c0 _ rfl
        have c1 := hcell 1 _ (by omega) rfl
        have c2 := hcell 2 _ (by omega) rfl
        clear hcell
        have hwas := HWas.out k hl
        have HNx := Lib.hid (was_next W k hl)
        obtain ⟨t1, t2, t3, t4⟩ := HTerm.out _ (List.getElem_mem hl)
        have HX := Lib.hid t4
        clear t4
        generalize W[k] = X at *
        obtain ⟨x0, x1, x2⟩ := X
        simp only at c0 c1 c2 hwas HNx t1 t2 t3 HX
        generalize wasOf W k = P at *
        have hrow := Row.new wr 40 [.int .u8 0, .string ByteArray.empty, .int .i64 0]
        have hBw : w.heap.size ≤ w1.heap.size := hb1.size
        have hBa : Below w1.heap.size w1 (wr.alloc (.cells #[.int .u8 0, .string ByteArray.empty, .int .i64 0] 40)) := hB.alloc hB.size _
        have hg0 : w1.heap.size ≤ wr.heap.size := hB.size
        have t1' : ¬ (x1.size : Int) < 1 := by omega
        have t2' : ¬ (16 : Int) < (x1.size : Int) := by omega
        have hw' : ¬ x2 ≤ P := by omega
        go_wp2_with (refine wpList_store_rowO rfl 40 (.tmp 5) (.tmp 17) rfl wr.heap.size [.int .u8 x0, .string x1, .int .i64 x2] rfl rfl 40 _ hrow (by kernel_rfl) rfl rfl w1.heap.size w1 hBa hg0 ?_; intro w3 hr3 hB3 hs3 hk3; have e0 : w3.cell? ⟨wr.heap.size, 0, none⟩ = some (.int .u8 x0) := hr3.cell 0; have e1 : w3.cell? ⟨wr.heap.size, 1, none⟩ = some (.string x1) := hr3.cell 1; have e2 : w3.cell? ⟨wr.heap.size, 2, none⟩ = some (.int .i64 x2) := hr3.cell 2; clear c0 c1 c2 hk3 hs3)
        have HI := words_any x1 (by omega) ((hL.below hb1).below hB3)
        rw [HX.out] at HI
        refine HI.mono ?_
        clear HI
        rintro e w4 ⟨v4, rfl, hown4, hb4⟩
        have f1 := (hb4.cell (cell_lt e1)).trans e1
        have f2 := (hb4.cell (cell_lt e2)).trans e2
        have hB4 := then_ hB3 hb4
        have hB5 := then_ hb1 hB4
        obtain ⟨A4, c4, rfl, hr4, _, _⟩ := ReadsK.of_own hown4
        obtain ⟨ad4, hl4, rfl, hbl4, d0, hcell⟩ := hr4.at' (f := tokC) (l := [(0, x1, 0)]) tokC_len (by omega) (show 0 < [((0, x1, 0) : Tok)].length by simp)
        have d1 : w4.cell? ⟨ad4.block, ad4.off + 1, none⟩ = some (.string x1) := hcell 1 _ (by omega) rfl
        have d2 : w4.cell? ⟨ad4.block, ad4.off + 2, none⟩ = some (.int .i64 0) := hcell 2 _ (by omega) rfl
        clear hcell e0 e1 e2 hown4 hr4 d0
        go_wp2
        go_quiet (fail)
        go_wp2
        go_roundw
        case rel => exact ⟨k + 1, by omega, by go_num, by rw [HNx.out], below_drewN hB4 _⟩
        case measure => simp [intOf]; omega
      · have hlt' : ¬ (k : Int) < (n : Int) := by omega
        have hB4 := then_ hb1 hB
        have HF := fixed_any (hL.below hB4)
        go_wp2_with fail
        refine HF.mono ?_
        clear HF
        rintro e w3 ⟨rfl, hb3⟩
        have hB3 := then_ hB4 hb3
        go_wp2
        go_ret
        exact ⟨rfl, hB3⟩
end Go.Proofs.YtmofhpebcbpccaaDoor
