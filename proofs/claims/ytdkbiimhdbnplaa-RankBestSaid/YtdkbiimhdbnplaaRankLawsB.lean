/- The walks of the laws RankTops, RankLimits. -/
import Derived.Test.YtdkbiimhdbnplaaRankGo
namespace Go.Proofs.Ytdkbiimhdbnplaa
open Go.RowKit

theorem topL_le (o : Int) (m : Nat) (l : List Sc) : (topL o m l).length ≤ l.length := by
  unfold topL
  rw [List.length_take, sortD_len]
  omega
theorem own_empty (w : World) (e : TypeId) (k : Nat) : (w.alloc (.cells #[] e)).ownsRow w.heap.size e k (.slice (some ⟨w.heap.size, 0, none⟩) 0 0) 0 [] :=
  ⟨by simp, .inr ⟨w.heap.size, 0, #[], rfl, Nat.le_refl _, heap_alloc_new _ _, Nat.le_refl _, by simp [maxLen], by simp, by simp⟩⟩

set_option maxRecDepth 100000 in
set_option maxHeartbeats 1000000 in
theorem walkRankTops {w : World} (l : List Sc) (A : Option Addr) (n c : Nat) (hx : ReadsK 3 w w.heap.size A n c (l.flatMap scC)) (_ : c ≤ maxLen) (hok : ∀ x ∈ l, ScOk x) (lim : Int) (hlim : (Lit.int .i64 lim).wf = true) (o : Int) (_ : (Lit.int .i64 o).wf = true) :
    Calls Try.prog 5 #[.slice A n c, .int .i64 lim, .int .i64 o] w fun e w' => e = .returned (.bool true) ∧ Below w.heap.size w w' := by
  have hlim := wf64 hlim
  by_cases hn : 200 < n
  · have hn' : (200 : Int) < (n : Int) := by omega
    go_enter Try.func5, Try.ntmps5
    go_wp2_with (go_at_call 8; refine (fixed_any _).mono ?_; rintro e w1 ⟨rfl, hb1⟩)
    go_ret
    exact ⟨rfl, hb1⟩
  · have hn' : ¬ (200 : Int) < (n : Int) := by omega
    obtain ⟨i0, hi0, hx0, hx1, hx2⟩ := info_parts info_scored
    have hll := hx.count scC_len (by omega)
    have HOK := Lib.hid hok
    have hlen : (topL o lim.toNat l).length ≤ 200 := by have := topL_le o lim.toNat l; omega
    clear hok
    have own0 := own_empty w 27 3
    have hx' := hx.alloc (Nat.le_refl _) (.cells #[] 27)
    have hB0 := (Below.refl w.heap.size w).alloc (Nat.le_refl _) (.cells #[] 27)
    go_enter Try.func5, Try.ntmps5
    go_wp2_with (at_builtin; refine wpList_append_allK rfl (.tmp 13) (.tmp 14) 22 rfl w.heap.size 27 i0 _ 3 24 Try.underlying22 hi0 hx0 hx1 hx2 rfl (by omega) _ 0 [] own0 w.heap.size A n c _ hx' rfl rfl (scC_one l) (by omega) (by omega) hB0.size ?_; intro v1 w1 hown1 hg1 hob1; have hB1 := below_grown hB0 own0 (Nat.le_refl _) hB0.size hg1; simp only [Nat.zero_add, List.nil_append] at hown1; obtain ⟨A1, c1, rfl, hr1, hm1, _⟩ := ReadsK.of_own hown1)
    refine (top_any l A1 n c1 lim o w1 hr1 HOK.out (by omega) hlim).mono ?_
    rintro e w2 ⟨v2, rfl, hown2, hb2⟩
    have hB2 := then_ hB1 hb2
    have hx2' := (hx.below hB2).more hB2.size
    go_wp2_with fail
    refine (refTop_any l A n c lim o w2 hx2' HOK.out (by omega) hlim).mono ?_
    rintro e w3 ⟨v3, rfl, hown3, hb3⟩
    have hB3 := then_ hB2 hb3
    obtain ⟨A2, c2, rfl, hr2, _, _⟩ := ReadsK.of_own (ownsRow_below hown2 hb3)
    obtain ⟨A3, c3, rfl, hr3, _, _⟩ := ReadsK.of_own hown3
    go_wp2_with fail
    refine (same_yes (topL o lim.toNat l) _ _ _ _ _ _ _ hr2 hr3 (by omega)).mono ?_
    rintro e w4 ⟨rfl, hb4⟩
    have hB4 := then_ hB3 hb4
    have hr4 := ((hr1.below hb2).more hb2.size).below hb3 |>.more hb3.size |>.below hb4 |>.more hb4.size
    clear hr2 hr3 hown2 hown3 hr1 hown1 hb2 hb3 hb4 own0 hx' hB0 hB1 hB2 hB3 hx2' hlen
    go_wp2_with fail
    go_loopw [28] (fun i wr => ∃ k : Nat, k ≤ n ∧ i = .int .i64 k ∧ Below w4.heap.size w4 wr) (fun i _ => n - (intOf i).toNat)
    case atStart => exact ⟨0, by omega, rfl, Below.refl _ _⟩
    case round =>
      obtain ⟨k, hk, rfl, hB⟩ := hrel
      by_cases hlt : k < n
      · obtain ⟨ad, hkl, rfl, hbl, c0, hcell⟩ := (hr4.below hB).at' scC_len (by omega) hlt
        obtain ⟨ad', hkl', rfl, hbl', d0, hcell'⟩ := ((hx.below hB4).below (hB.mono hB4.size)).at' scC_len (by omega) hlt
        have c0 := c0 _ rfl
        have k1 := hcell 1 _ (by omega) rfl
        have k2 := hcell 2 _ (by omega) rfl
        have d0 := d0 _ rfl
        have d1 := hcell' 1 _ (by omega) rfl
        have d2 := hcell' 2 _ (by omega) rfl
        clear hcell hcell'
        have hlt' : (k : Int) < (n : Int) := by omega
        have hk0 : (0 : Int) ≤ (k : Int) := by omega
        generalize l[k] = x at *
        obtain ⟨d, id, s⟩ := x
        simp only at c0 k1 k2 d0 d1 d2
        have hdd : (d != d) = false := by simp
        have hid : (id != id) = false := by simp
        go_wp2
        go_quiet ((go_at_call 14; exact Calls.quiet_of_same ((refBits_any _ _).mono fun _ _ h => ⟨h.1, h.2.symm⟩)))
        go_wp2
        go_roundw
        case rel => exact ⟨k + 1, by omega, by go_num, by first | exact below_drewN hB _ | exact hB⟩
        case measure => simp [intOf]; omega
      · obtain rfl : k = n := by omega
        go_wp2_with (go_at_call 8; refine (fixed_any _).mono ?_; rintro e w5 ⟨rfl, hb5⟩)
        go_ret
        exact ⟨rfl, then_ (then_ hB4 hB) hb5⟩

theorem topL_front (o : Int) (a b : Nat) (l : List Sc) (h : a ≤ b) : (topL o b l).take (topL o a l).length = topL o a l := by
  unfold topL
  generalize sortD (kk o) l = s
  rw [List.length_take, List.take_take]
  by_cases h1 : a ≤ s.length
  · rw [show min (min a s.length) b = a by omega]
  · rw [show min (min a s.length) b = s.length by omega, List.take_of_length_le (Nat.le_refl _), List.take_of_length_le (by omega)]

set_option maxRecDepth 100000 in
set_option maxHeartbeats 1000000 in
theorem walkRankLimits {w : World} (l : List Sc) (A : Option Addr) (n c : Nat) (hx : ReadsK 3 w w.heap.size A n c (l.flatMap scC)) (_ : c ≤ maxLen) (hok : ∀ x ∈ l, ScOk x) (a : Int) (ha : (Lit.int .i64 a).wf = true) (b : Int) (hb : (Lit.int .i64 b).wf = true) (o : Int) (_ : (Lit.int .i64 o).wf = true) :
    Calls Try.prog 6 #[.slice A n c, .int .i64 a, .int .i64 b, .int .i64 o] w fun e w' => e = .returned (.bool true) ∧ Below w.heap.size w w' := by
  have ha := wf64 ha
  have hb := wf64 hb
  by_cases hn : 200 < n
  · have hn' : (200 : Int) < (n : Int) := by omega
    go_enter Try.func6, Try.ntmps6
    go_wp2_with (go_at_call 8; refine (fixed_any _).mono ?_; rintro e w1 ⟨rfl, hb1⟩)
    go_ret
    exact ⟨rfl, hb1⟩
  · have hn' : ¬ (200 : Int) < (n : Int) := by omega
    have hll := hx.count scC_len (by omega)
    have HOK := Lib.hid hok
    clear hok
    have key : ∀ p q : Int, p ≤ q → -9223372036854775808 ≤ p → q ≤ 9223372036854775807 → (topL o p.toNat l).length ≤ 200 ∧ (topL o q.toNat l).length ≤ 200 ∧ max 0 (min p (n : Int)) = ((topL o p.toNat l).length : Int) ∧ max 0 (min q (n : Int)) = ((topL o q.toNat l).length : Int) ∧ (topL o q.toNat l).take (topL o p.toNat l).length = topL o p.toNat l ∧ (topL o p.toNat l).length ≤ (topL o q.toNat l).length := by
      intro p q hpq _ _
      have e1 : (topL o p.toNat l).length = min p.toNat l.length := by unfold topL; rw [List.length_take, sortD_len]
      have e2 : (topL o q.toNat l).length = min q.toNat l.length := by unfold topL; rw [List.length_take, sortD_len]
      exact ⟨by omega, by omega, by omega, by omega, topL_front o _ _ l (by omega), by omega⟩
    have KEY := Lib.hid key
    clear key
    by_cases hab : b < a
    · obtain ⟨g1, g2, g3, g4, g5, g6⟩ := KEY.out b a (by omega) (by omega) (by omega)
      have G5 := Lib.hid g5
      have TA := fun w h => Lib.hid (top_any l A n c a o w h HOK.out (by omega) ha)
      have TB := fun w h => Lib.hid (top_any l A n c b o w h HOK.out (by omega) hb)
      clear g5 KEY ha hb
      generalize topL o a.toNat l = LA at *
      generalize topL o b.toNat l = LB at *
      go_enter Try.func6, Try.ntmps6
      go_wp2_with fail
      refine (TB _ hx).out.mono ?_
      rintro e w1 ⟨v1, rfl, hown1, hb1⟩
      go_wp2_with fail
      refine (TA _ ((hx.below hb1).more hb1.size)).out.mono ?_
      rintro e w2 ⟨v2, rfl, hown2, hb2⟩
      obtain ⟨A1, c1, rfl, hr1, hm1, _⟩ := ReadsK.of_own (ownsRow_below hown1 hb2)
      obtain ⟨A2, c2, rfl, hr2, hm2, _⟩ := ReadsK.of_own hown2
      have hcap := hr2.cap
      have hcap' : LB.length ≤ c2 := by omega
      have hr3 := hr2.front (m := LB.length) (by omega)
      rw [rec_take hitC_len, G5.out] at hr3
      have hB2 := then_ hb1 hb2
      go_wp2_with (first | (go_at_call 8; refine (fixed_any _).mono ?_; rintro e w3 ⟨rfl, hb3⟩) | (go_at_call 12; refine (same_yes LB _ _ _ _ _ _ _ ((hr1.below hb3).more hb3.size) ((hr3.below hb3).more hb3.size) (by omega)).mono ?_; rintro e w4 ⟨rfl, hb4⟩))
      go_ret
      exact ⟨rfl, then_ (then_ hB2 hb3) hb4⟩
    · obtain ⟨g1, g2, g3, g4, g5, g6⟩ := KEY.out a b (by omega) (by omega) (by omega)
      have G5 := Lib.hid g5
      have TA := fun w h => Lib.hid (top_any l A n c a o w h HOK.out (by omega) ha)
      have TB := fun w h => Lib.hid (top_any l A n c b o w h HOK.out (by omega) hb)
      clear g5 KEY ha hb
      generalize topL o a.toNat l = LA at *
      generalize topL o b.toNat l = LB at *
      go_enter Try.func6, Try.ntmps6
      go_wp2_with fail
      refine (TA _ hx).out.mono ?_
      rintro e w1 ⟨v1, rfl, hown1, hb1⟩
      go_wp2_with fail
      refine (TB _ ((hx.below hb1).more hb1.size)).out.mono ?_
      rintro e w2 ⟨v2, rfl, hown2, hb2⟩
      obtain ⟨A1, c1, rfl, hr1, hm1, _⟩ := ReadsK.of_own (ownsRow_below hown1 hb2)
      obtain ⟨A2, c2, rfl, hr2, hm2, _⟩ := ReadsK.of_own hown2
      have hcap := hr2.cap
      have hcap' : LA.length ≤ c2 := by omega
      have hr3 := hr2.front (m := LA.length) (by omega)
      rw [rec_take hitC_len, G5.out] at hr3
      have hB2 := then_ hb1 hb2
      go_wp2_with (first | (go_at_call 8; refine (fixed_any _).mono ?_; rintro e w3 ⟨rfl, hb3⟩) | (go_at_call 12; refine (same_yes LA _ _ _ _ _ _ _ ((hr1.below hb3).more hb3.size) ((hr3.below hb3).more hb3.size) (by omega)).mono ?_; rintro e w4 ⟨rfl, hb4⟩))
      go_ret
      exact ⟨rfl, then_ (then_ hB2 hb3) hb4⟩
end Go.Proofs.Ytdkbiimhdbnplaa
