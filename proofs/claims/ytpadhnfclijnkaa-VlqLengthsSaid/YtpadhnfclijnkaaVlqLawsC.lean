/- The walks of VlqPuts, VlqAll, VlqLengths. -/
import Derived.Test.YtpadhnfclijnkaaVlqLawsB
namespace Go.Proofs.Ytpadhnfclijnkaa
open Go.RowKit

set_option maxRecDepth 100000 in
set_option maxHeartbeats 1000000 in
theorem walkVlqPuts (n : Int) (hn : (Lit.int .u32 n).wf = true) (l1 : List Int) (A1 : Option Addr) (m1 c1 : Nat) (w : World) (hr1 : Reads w w.heap.size A1 m1 c1 (ints .u8 l1)) (hw1 : ∀ x ∈ l1, (Lit.int .u8 x).wf = true)
    (l2 : List Int) (A2 : Option Addr) (m2 c2 : Nat) (hr2 : Reads w w.heap.size A2 m2 c2 (ints .u8 l2)) (hw2 : ∀ x ∈ l2, (Lit.int .u8 x).wf = true) :
    Calls Try.prog 3 #[.int .u32 n, .slice A1 m1 c1, .slice A2 m2 c2] w fun e w' => e = .returned (.bool true) ∧ Below w.heap.size w w' := by
  obtain ⟨b1, hb1⟩ := bytes_of l1 hw1
  obtain ⟨b2, hb2⟩ := bytes_of l2 hw2
  rw [hb1] at hr1
  rw [hb2] at hr2
  obtain ⟨n0, n1⟩ := wf32 hn
  obtain ⟨k, rfl⟩ := Int.eq_ofNat_of_zero_le n0
  clear hb1 hb2 hw1 hw2 hn n0
  obtain ⟨i0, hi0, hz0, hz1, hz2⟩ := info_parts info_u8
  by_cases h1 : 500 < m1
  · have h' : (500 : Int) < (m1 : Int) := by omega
    go_enter Try.func3, Try.ntmps3
    go_wp2_with (go_at_call 8; refine (fixed_any _).mono ?_; rintro e w1 ⟨rfl, hb1⟩)
    go_ret
    exact ⟨rfl, hb1⟩
  · by_cases h2 : 500 < m2
    · have h1' : ¬ (500 : Int) < (m1 : Int) := by omega
      have h' : (500 : Int) < (m2 : Int) := by omega
      go_enter Try.func3, Try.ntmps3
      go_wp2_with (go_at_call 8; refine (fixed_any _).mono ?_; rintro e w1 ⟨rfl, hb1⟩)
      go_ret
      exact ⟨rfl, hb1⟩
    · have h1' : ¬ (500 : Int) < (m1 : Int) := by omega
      have h2' : ¬ (500 : Int) < (m2 : Int) := by omega
      have hk : k < 4294967296 := by omega
      have hp := (put_facts k hk).2.1
      have hl1 : b1.length = m1 := by have := hr1.len; rwa [bys_length] at this
      have Hl1 := Lib.hid hl1
      have Hg := Lib.hid (get_mid b1 b2 k hk)
      clear hl1
      go_enter Try.func3, Try.ntmps3
      go_wp2_with fail
      refine (put_any k _ hk).mono ?_
      rintro e w1 ⟨v1, rfl, hown1, hb1⟩
      obtain ⟨B1, d1, rfl, hq1, _⟩ := ownsRow_slice hown1
      have own0 := built_new w1 5 [] (by simp)
      have hra := ((hr1.below hb1).more hb1.size).alloc (Nat.le_refl _) (.cells #[] 5)
      have hpl : (putL k).length ≤ 5 := hp
      go_wp2_with (first | (at_builtin; refine wpList_append_all rfl (.tmp 23) (.tmp 24) 23 rfl w1.heap.size 5 i0 (.int .u8 0) 1 Try.underlying23 hi0 hz0 hz1 hz2 rfl _ _ _ own0 _ _ _ _ _ hra rfl rfl (bys_one _) (by simp; omega) (by omega) (by simp) ?_; intro v2 w2 own2 hg2; have hba := below_grown ((Below.refl w1.heap.size w1).alloc (Nat.le_refl _) _) own0 (Nat.le_refl _) (by simp) hg2) | (at_builtin; refine wpList_append_all rfl (.tmp 25) (.tmp 26) 23 rfl w1.heap.size 5 i0 (.int .u8 0) 1 Try.underlying23 hi0 hz0 hz1 hz2 rfl _ _ _ own2 _ _ _ _ _ (hq1.below hba) rfl rfl (bys_one _) (by simp; omega) (by omega) hba.size ?_; intro v3 w3 own3 hg3; have hbb := below_grown hba own2 (Nat.le_refl _) hba.size hg3) | (at_builtin; refine wpList_append_all rfl (.tmp 27) (.tmp 28) 23 rfl w1.heap.size 5 i0 (.int .u8 0) 1 Try.underlying23 hi0 hz0 hz1 hz2 rfl _ _ _ own3 _ _ _ _ _ (((hr2.below hb1).more hb1.size).below hbb) rfl rfl (bys_one _) (by simp; omega) (by omega) hbb.size ?_; intro v4 w4 own4 hg4; have hbc := below_grown hbb own3 (Nat.le_refl _) hbb.size hg4))
      have e4 : ([] ++ bys b1 ++ bys (putL k) ++ bys b2) = bys (b1 ++ putL k ++ b2) := by simp [bys]
      have e4' : ([] : List Value).length + m1 + (putL k).length + m2 = m1 + (putL k).length + m2 := by simp
      rw [e4, e4'] at own4
      clear e4 e4'
      obtain ⟨A4, c4, hv4, hr4, -⟩ := ownsRow_slice own4
      rw [hv4]
      have Hv4 := Lib.hid hv4
      clear hv4
      have HG : ∀ w', Reads w' w'.heap.size A4 (m1 + (putL k).length + m2) c4 (bys (b1 ++ putL k ++ b2)) → Calls Try.prog 10 #[.slice A4 (m1 + (putL k).length + m2) c4, .int .i64 m1] w' fun e w'' => e = .returned (.tuple #[.int .u32 k, .int .i64 ((m1 + (putL k).length : Nat) : Int), .int .i64 0]) ∧ w' = w'' := fun w' h => by
        have := get_any _ _ _ _ m1 w' h (by omega) (by omega)
        have hg := Hg.out
        rw [Hl1.out] at hg
        rw [hg] at this
        exact this
      refine (HG _ hr4).mono ?_
      rintro e w' ⟨rfl, rfl⟩
      clear HG
      have h4 := then_ hb1 hbc
      go_wp2_with fail
      refine (fixed_any _).mono ?_
      rintro e w5 ⟨rfl, hb5⟩
      go_wp2_with fail
      refine (refPut_any k _ hk).mono ?_
      rintro e w6 ⟨v6, rfl, hown6, hb6⟩
      obtain ⟨A6, c6, rfl, hr6, _⟩ := ownsRow_slice hown6
      have hq6 := ((((hq1.below hbc).more hbc.size).below hb5).more hb5.size |>.below hb6).more hb6.size
      go_wp2_with fail
      refine (sameBy_yes _ _ _ _ _ _ _ _ _ hq6 hr6 (by omega) rfl).mono ?_
      rintro e w7 ⟨rfl, hb7⟩
      go_wp2
      go_ret
      exact ⟨rfl, then_ (then_ (then_ h4 hb5) hb6) hb7⟩

theorem allF_len (b : List UInt8) (N : Nat) : ∀ f p acc, acc.length + f ≤ N → (allF b f p acc).1.length ≤ N := by
  intro f
  induction f with
  | zero => intro p acc h; exact h
  | succ f ih =>
    intro p acc h
    rw [allF]
    split
    · split
      · exact ih _ _ (by simp; omega)
      · simp
    · show acc.length ≤ N; omega
theorem all_len (b : List UInt8) (N : Nat) (h : b.length ≤ N) : (allL b).1.length ≤ N := allF_len b N b.length 0 [] (by simpa using h)
theorem prefix_len (l : List Int) (k : Nat) (h : k ≤ l.length) (hl : l.length ≤ 200) : (catPut (l.take k)).length ≤ 1000 := by
  have := catPut_len (l.take k)
  rw [List.length_take] at this
  omega

set_option maxRecDepth 100000 in
set_option maxHeartbeats 1000000 in
theorem walkVlqAll (l1 : List Int) (A1 : Option Addr) (m1 c1 : Nat) (w : World) (hr1 : Reads w w.heap.size A1 m1 c1 (ints .u8 l1)) (hw1 : ∀ x ∈ l1, (Lit.int .u8 x).wf = true)
    (l2 : List Int) (A2 : Option Addr) (m2 c2 : Nat) (hr2 : Reads w w.heap.size A2 m2 c2 (ints .u32 l2)) (hw2 : ∀ x ∈ l2, (Lit.int .u32 x).wf = true) :
    Calls Try.prog 7 #[.slice A1 m1 c1, .slice A2 m2 c2] w fun e w' => e = .returned (.bool true) ∧ Below w.heap.size w w' := by
  obtain ⟨b1, hb1⟩ := bytes_of l1 hw1
  rw [hb1] at hr1
  have hw : ∀ x ∈ l2, 0 ≤ x ∧ x < 4294967296 := fun x hx => wf32 (hw2 x hx)
  have Hw := Lib.hid hw
  clear hb1 hw1 hw2 hw
  obtain ⟨i0, hi0, hz0, hz1, hz2⟩ := info_parts info_u8
  by_cases h1 : 1000 < m1
  · have h' : (1000 : Int) < (m1 : Int) := by omega
    go_enter Try.func7, Try.ntmps7
    go_wp2_with (go_at_call 8; refine (fixed_any _).mono ?_; rintro e w1 ⟨rfl, hb1⟩)
    go_ret
    exact ⟨rfl, hb1⟩
  · by_cases h2 : 200 < m2
    · have h1' : ¬ (1000 : Int) < (m1 : Int) := by omega
      have h' : (200 : Int) < (m2 : Int) := by omega
      go_enter Try.func7, Try.ntmps7
      go_wp2_with (go_at_call 8; refine (fixed_any _).mono ?_; rintro e w1 ⟨rfl, hb1⟩)
      go_ret
      exact ⟨rfl, hb1⟩
    · have h1' : decide ((1000 : Int) < (m1 : Int)) = false := by simp; omega
      have h2' : decide ((200 : Int) < (m2 : Int)) = false := by simp; omega
      have hl2 : l2.length = m2 := by simpa using hr2.len
      have Hl2 := Lib.hid hl2
      have Hall := Lib.hid (allL_cat l2 Hw.out)
      have Hpre := Lib.hid (fun k (hk : k ≤ m2) => prefix_len l2 k (by omega) (by omega))
      clear hl2
      go_enter Try.func7, Try.ntmps7
      go_wp2_with fail
      refine (all_any b1 _ _ _ _ hr1 (by omega)).mono ?_
      rintro e w1 ⟨v1, rfl, hown1, hb1⟩
      obtain ⟨B1, d1, rfl, hq1, _⟩ := ownsRow_slice hown1
      go_wp2_with fail
      refine (refAll_any b1 _ _ _ _ ((hr1.below hb1).more hb1.size) (by omega)).mono ?_
      rintro e w2 ⟨v2, rfl, hown2, hb2⟩
      obtain ⟨B2, d2, rfl, hq2, _⟩ := ownsRow_slice hown2
      have hb12 := then_ hb1 hb2
      have Hall2 : Hid ((allL b1).1.length ≤ 1048576) := Lib.hid (all_len b1 1048576 (by have := hr1.len; rw [bys_length] at this; omega))
      generalize allL b1 = R at *
      obtain ⟨R1, R2⟩ := R
      go_wp2_with fail
      go_loopw [9, 35] (fun v i wr => ∃ k : Nat, k ≤ m2 ∧ i = .int .i64 k ∧ wr.ownsRow w2.heap.size 5 1 v (catPut (l2.take k)).length (bys (catPut (l2.take k))) ∧ Below w2.heap.size w2 wr) (fun _ i _ => m2 - (intOf i).toNat)
      case atStart => exact ⟨0, Nat.zero_le _, rfl, World.ownsRow_nil _ _ _ _, Below.refl _ _⟩
      case round =>
        obtain ⟨k, hk, rfl, hown, hb⟩ := hrel
        have hsz := hb.size
        have hcl := Hpre.out k hk
        have hq2a : Reads wr wr.heap.size A2 m2 c2 (ints .u32 l2) := (((hr2.below hb12).more hb12.size).below hb).more hsz
        by_cases hlt : k < m2
        · obtain ⟨ad, hk2, rfl, hbl, hc⟩ := hq2a.int hlt
          have hwk := Hw.out _ (List.getElem_mem hk2)
          have Hst := Lib.hid (catPut_take l2 k hk2)
          obtain ⟨x, hx⟩ := Int.eq_ofNat_of_zero_le hwk.1
          have hxn : l2[k].toNat = x := by omega
          rw [hx] at hc
          have HX := Lib.hid hxn
          have hx32 : x < 4294967296 := by omega
          have hlt' : (k : Int) < (m2 : Int) := by omega
          clear hx hxn hwk
          have hpl := putF_len 4 x
          go_wp2_with (first | (go_at_call 9; refine (put_any _ _ hx32).mono ?_; rintro e w3 ⟨v3, rfl, hown3, hb3⟩; obtain ⟨A3, c3, rfl, hr3, _⟩ := ownsRow_slice hown3) | (at_builtin; refine wpList_append_all rfl _ _ 23 rfl w2.heap.size 5 i0 (.int .u8 0) 1 Try.underlying23 hi0 hz0 hz1 hz2 rfl _ _ _ (ownsRow_below hown hb3) _ _ _ _ _ hr3 rfl rfl (bys_one _) (by unfold putL; omega) (by omega) (by have := hb3.size; omega) ?_; intro v4 w4 hown4 hg4))
          go_roundw
          case rel =>
            refine ⟨k + 1, by omega, by go_num, ?_, below_grown (hb.trans (hb3.mono hsz)) (ownsRow_below hown hb3) (Nat.le_refl _) (by have := hb3.size; omega) hg4⟩
            rw [Hst.out, HX.out, List.length_append, bys_append]; exact hown4
          case measure => simp [intOf]; omega
        · have Hk : Hid (l2.take k = l2) := Lib.hid (List.take_of_length_le (by rw [Hl2.out]; omega))
          rw [Hk.out] at hown hcl
          obtain ⟨A5, c5, hv5, hr5, -⟩ := ownsRow_slice hown
          rw [hv5]
          have Hv5 := Lib.hid hv5
          clear hv5 hown
          have hb2' := then_ hb12 hb
          have hlt' : ¬ (k : Int) < (m2 : Int) := by omega
          go_wp2_with fail
          have HA : ∀ w', Reads w' w'.heap.size A5 (catPut l2).length c5 (bys (catPut l2)) → Calls Try.prog 15 #[.slice A5 (catPut l2).length c5] w' fun e w'' => ∃ v, e = .returned (.tuple #[v, .int .i64 0]) ∧ w''.ownsRow w'.heap.size 22 1 v l2.length (ints .u32 l2) ∧ Below w'.heap.size w' w'' := fun w' h => by
            have := all_any (catPut l2) _ _ _ w' h (by omega)
            rw [Hall.out] at this; exact this
          refine (HA _ hr5).mono ?_
          rintro e w6 ⟨v6, rfl, hown6, hb6⟩
          clear HA
          obtain ⟨A6, c6, rfl, hr6, _⟩ := ownsRow_slice hown6
          go_wp2_with fail
          refine (fixed_any _).mono ?_
          rintro e w7 ⟨rfl, hb7⟩
          go_wp2_with fail
          have hx1 := (((((((hq1.below hb2).more hb2.size).below hb).more hsz).below hb6).more hb6.size).below hb7).more hb7.size
          have hx2 := (((((hq2.below hb).more hsz).below hb6).more hb6.size).below hb7).more hb7.size
          refine (same32_yes _ _ _ _ _ _ _ _ _ hx1 hx2 Hall2.out rfl).mono ?_
          rintro e w8 ⟨rfl, hb8⟩
          have hx3 := (hr2.below hb2').more hb2'.size
          go_wp2_with fail
          refine (same32_yes _ _ _ _ _ _ _ _ _ ((((hr6.below hb7).more hb7.size).below hb8).more hb8.size) ((((((hx3.below hb6).more hb6.size).below hb7).more hb7.size).below hb8).more hb8.size) (by rw [Hl2.out]; omega) rfl).mono ?_
          rintro e w9 ⟨rfl, hb9⟩
          go_wp2
          go_ret
          exact ⟨rfl, then_ (then_ (then_ (then_ hb2' hb6) hb7) hb8) hb9⟩
end Go.Proofs.Ytpadhnfclijnkaa
