/- The walks of the laws UtfTexts and UtfBack. -/
import Derived.Test.YtcgcbemhbkjijaaUtfFixed
import Derived.Test.YtcgcbemhbkjijaaUtfMath
namespace Go.Proofs.Ytcgcbemhbkjijaa
open Go.RowKit

theorem take_map_succ (l : List Int) (k : Nat) (h : k < l.length) : (l.take (k + 1)).map fix = (l.take k).map fix ++ [fix l[k]] := by rw [List.take_succ_eq_append_getElem h, List.map_append]; rfl
theorem str_eq (X : List UInt8) : ((⟨X.toArray⟩ : ByteArray).toList == (⟨X.toArray⟩ : ByteArray).toList) = true := by simp
theorem size_of (X : List UInt8) : (⟨X.toArray⟩ : ByteArray).size = X.length := by simp [ByteArray.size]

set_option maxHeartbeats 1000000 in
theorem walkUtfTexts (l : List Int) (A : Option Addr) (n c : Nat) (w : World) (hr : Reads w w.heap.size A n c (ints .i32 l)) (_ : ∀ x ∈ l, (Lit.int .i32 x).wf = true) :
    Calls Try.prog 7 #[.slice A n c] w fun e w' => e = .returned (.bool true) ∧ Below w.heap.size w w' := by
  obtain ⟨i0, hi0, hz0, hz1, hz2⟩ := info_parts info_rune
  by_cases h : 500 < n
  · go_enter Try.func7, Try.ntmps7
    have h' : (500 : Int) < (n : Int) := by omega
    go_wp2_with (go_at_call 9; refine (fixed_any _).mono ?_; rintro e w1 ⟨rfl, hb1⟩)
    go_ret
    exact ⟨rfl, hb1⟩
  · have lx : l.length = n := by simpa using hr.len
    have Lx := Lib.hid lx
    have htl := textOf_le l
    have Hrt := Lib.hid (runesOf_text l)
    have h' : decide ((500 : Int) < (n : Int)) = false := by simp; omega
    have hts : (textOf l).length ≤ 2000 := by omega
    clear lx htl
    go_enter Try.func7, Try.ntmps7
    go_wp2_with (go_at_call 15; refine (text_any _ _ _ _ _ hr (by omega)).mono ?_; rintro e w1 ⟨rfl, hb1⟩)
    go_loopw [4, 15] (fun v i wr => ∃ k : Nat, k ≤ n ∧ i = .int .i64 k ∧ wr.ownsRow w1.heap.size 21 1 v k (ints .i32 ((l.take k).map fix)) ∧ Below w1.heap.size w1 wr) (fun _ i _ => n - (intOf i).toNat)
    case atStart => exact ⟨0, Nat.zero_le _, rfl, World.ownsRow_nil _ _ _ _, Below.refl _ _⟩
    case round =>
      obtain ⟨k, hk, rfl, hown, hb⟩ := hrel
      have hsz := hb.size
      have hs1 := hb1.size
      by_cases hlt : k < n
      · obtain ⟨ad, h1, rfl, hbl, hc⟩ := hr.int hlt
        have hc' : wr.cell? (ad.add k) = some (.int .i32 l[k]) := by rw [hb.cell (by rw [add_block]; omega), hb1.cell (by rw [add_block]; exact hbl)]; exact hc
        have Hst := Lib.hid (take_map_succ l k h1)
        have hlt' : (k : Int) < (n : Int) := by omega
        clear hc
        by_cases hv : Utf8.valid l[k] = true
        · have Hf := Lib.hid (fix_of _ hv)
          go_wp2_with (first | (go_at_call 16; refine (may_any _ _).mono ?_; rintro e w' ⟨rfl, rfl⟩) | (at_builtin; refine wpList_append_one rfl _ _ 24 rfl w1.heap.size 21 i0 (.int .i32 0) 4 Try.underlying24 hi0 hz0 hz1 hz2 rfl _ _ _ (.int .i32 l[k]) hown rfl rfl rfl (by omega) (by omega) hsz ?_; intro v2 w2 hown2 hg2))
          go_roundw
          case rel => exact ⟨k + 1, by omega, by go_num, by rw [Hst.out, Hf.out, ints_append]; exact hown2, below_grown hb hown (Nat.le_refl _) hsz hg2⟩
          case measure => simp [intOf]; omega
        · have hv' : Utf8.valid l[k] = false := by simpa using hv
          have Hf : Hid (fix l[k] = 65533) := Lib.hid (if_neg hv)
          clear hv
          go_wp2_with (first | (go_at_call 16; refine (may_any _ _).mono ?_; rintro e w' ⟨rfl, rfl⟩) | (at_builtin; refine wpList_append_one rfl _ _ 24 rfl w1.heap.size 21 i0 (.int .i32 0) 4 Try.underlying24 hi0 hz0 hz1 hz2 rfl _ _ _ (.int .i32 65533) hown rfl rfl rfl (by omega) (by omega) hsz ?_; intro v2 w2 hown2 hg2))
          go_roundw
          case rel => exact ⟨k + 1, by omega, by go_num, by rw [Hst.out, Hf.out, ints_append]; exact hown2, below_grown hb hown (Nat.le_refl _) hsz hg2⟩
          case measure => simp [intOf]; omega
      · have Hk : Hid (k = n) := Lib.hid (by omega)
        obtain ⟨A', c', hv, hrw, -⟩ := ownsRow_slice hown
        have HL : Hid ((l.take k).map fix = l.map fix) := Lib.hid (by rw [List.take_of_length_le (by rw [Lx.out, Hk.out]; omega)])
        rw [HL.out] at hrw
        rw [hv]
        have Hv := Lib.hid hv
        have hrr := (hr.below hb1).more hs1
        clear hv hown
        go_wp2_with fail
        refine (fixed_any _).mono ?_
        rintro e w3 ⟨rfl, hb3⟩
        have hs3 := hb3.size
        go_wp2_with fail
        refine (refText_any l _ _ _ _ (((hrr.below hb).more hsz).below hb3 |>.more hs3) (by omega)).mono ?_
        rintro e w4 ⟨rfl, hb4⟩
        go_wp2_with fail
        have HR : ∀ w, Calls Try.prog 11 #[.string ⟨(textOf l).toArray⟩] w fun e w' => ∃ v, e = .returned v ∧ w'.ownsRow w.heap.size 21 1 v (l.map fix).length (ints .i32 (l.map fix)) ∧ Below w.heap.size w w' := fun w => by
          have := runes_any ⟨(textOf l).toArray⟩ w (by rw [size_of]; omega)
          rw [Hrt.out] at this; exact this
        refine (HR _).mono ?_
        rintro e w5 ⟨v5, rfl, hown5, hb5⟩
        obtain ⟨A5, c5, rfl, hr5, _⟩ := ownsRow_slice hown5
        clear HR
        rw [List.length_map] at hr5
        go_wp2_with fail
        refine (same_yes _ _ _ _ _ _ _ _ _ hr5 ((((hrw.below hb3).more hb3.size).below hb4 |>.more hb4.size).below hb5 |>.more hb5.size) (by have := Lx.out; omega) rfl).mono ?_
        rintro e w6 ⟨rfl, hb6⟩
        go_wp2
        go_ret
        exact ⟨rfl, then_ (then_ (then_ (then_ (then_ hb1 hb) hb3) hb4) hb5) hb6⟩

def allOk (l : List Int) : Bool := l.all (fun r => r != 65533)
theorem allOk_snoc (l : List Int) (k : Nat) (h : k < l.length) : allOk (l.take (k + 1)) = (allOk (l.take k) && (l[k] != 65533)) := by
  unfold allOk; rw [List.take_succ_eq_append_getElem h]; simp only [List.all_append, List.all_cons, List.all_nil, Bool.and_true]
theorem allOk_back (s : ByteArray) (h : allOk (runesOf s) = true) : (⟨(textOf (runesOf s)).toArray⟩ : ByteArray) = s := by
  apply runesOf_back
  intro r hr
  simp only [allOk, List.all_eq_true] at h
  simpa using h r hr
theorem text_again (s : ByteArray) : textOf (runesOf ⟨(textOf (runesOf s)).toArray⟩) = textOf (runesOf s) := by
  rw [runesOf_text, map_fix _ (runesOf_valid s)]

set_option maxHeartbeats 2000000 in
theorem walkUtfBack (s : ByteArray) (_ : s.size ≤ maxLen) (w : World) : Calls Try.prog 8 #[.string s] w fun e w' => e = .returned (.bool true) ∧ Below w.heap.size w w' := by
  by_cases h : 1000 < s.size
  · go_enter Try.func8, Try.ntmps8
    go_wp2_with (go_at_call 9; refine (fixed_any _).mono ?_; rintro e w1 ⟨rfl, hb1⟩)
    go_ret
    exact ⟨rfl, hb1⟩
  · have hl := runesOf_len s
    have htl := textOf_le (runesOf s)
    have Hback := Lib.hid (allOk_back s)
    have Hag := Lib.hid (text_again s)
    have h' : decide ((1000 : Int) < (s.size : Int)) = false := by simp; omega
    go_enter Try.func8, Try.ntmps8
    go_wp2_with (go_at_call 12; refine (refRunes_any _ _ (by omega)).mono ?_; rintro e w1 ⟨v1, rfl, hown1, hb1⟩; obtain ⟨A1, c1, rfl, hr1, _⟩ := ownsRow_slice hown1)
    go_loop [3, 14] (fun v i => ∃ k : Nat, k ≤ (runesOf s).length ∧ i = .int .i64 k ∧ v = .bool (allOk ((runesOf s).take k))) (fun _ i => (runesOf s).length - (intOf i).toNat)
    case atStart => exact ⟨0, Nat.zero_le _, rfl, rfl⟩
    case round =>
      obtain ⟨k, hk, rfl, rfl⟩ := hrel
      by_cases hlt : k < (runesOf s).length
      · obtain ⟨ad, h1, rfl, hbl, hc⟩ := hr1.int hlt
        have hst := allOk_snoc (runesOf s) k h1
        have Hst := Lib.hid hst
        have hlt' : (k : Int) < ((runesOf s).length : Int) := by omega
        clear hst
        generalize hbb : allOk ((runesOf s).take k) = bb at *
        have Hbb := Lib.hid hbb
        clear hbb
        cases bb
        · go_wp2
          go_round
          case rel => exact ⟨k + 1, by omega, by go_num, by rw [Hst.out]; rfl⟩
          case measure => simp [intOf]; omega
        · go_wp2
          go_round
          case rel => exact ⟨k + 1, by omega, by go_num, by rw [Hst.out]; simp⟩
          case measure => simp [intOf]; omega
      · have Hk : Hid ((runesOf s).take k = runesOf s) := Lib.hid (List.take_of_length_le (by omega))
        rw [Hk.out]
        go_wp2_with fail
        refine (runes_any _ _ (by omega)).mono ?_
        rintro e w2 ⟨v2, rfl, hown2, hb2⟩
        obtain ⟨A2, c2, rfl, hr2, _⟩ := ownsRow_slice hown2
        go_wp2_with fail
        refine (text_any _ _ _ _ _ hr2 (by omega)).mono ?_
        rintro e w3 ⟨rfl, hb3⟩
        go_wp2_with fail
        refine (fixed_any _).mono ?_
        rintro e w4 ⟨rfl, hb4⟩
        have HT : ∀ (A : Option Addr) (n c : Nat) (w : World), Reads w w.heap.size A n c (ints .i32 (runesOf ⟨(textOf (runesOf s)).toArray⟩)) → n ≤ 1048576 → Calls Try.prog 15 #[.slice A n c] w fun e w' => e = .returned (.string ⟨(textOf (runesOf s)).toArray⟩) ∧ Below w.heap.size w w' := fun A n c w hx hn => by
          have := text_any _ A n c w hx hn
          rw [Hag.out] at this; exact this
        have HT := Lib.hid HT
        have HRl : (runesOf ⟨(textOf (runesOf s)).toArray⟩).length ≤ 4000 := by have := runesOf_len ⟨(textOf (runesOf s)).toArray⟩; rw [size_of] at this; omega
        have HRs : (⟨(textOf (runesOf s)).toArray⟩ : ByteArray).size ≤ 1048576 := by rw [size_of]; omega
        generalize hbb : allOk (runesOf s) = bb at *
        cases bb
        · go_wp2_with fail
          refine (runes_any _ _ HRs).mono ?_
          rintro e w5 ⟨v5, rfl, hown5, hb5⟩
          obtain ⟨A5, c5, rfl, hr5, _⟩ := ownsRow_slice hown5
          go_wp2_with fail
          refine (HT.out _ _ _ _ hr5 (by omega)).mono ?_
          rintro e w6 ⟨rfl, hb6⟩
          go_wp2
          go_ret
          exact ⟨rfl, then_ (then_ (then_ (then_ (then_ hb1 hb2) hb3) hb4) hb5) hb6⟩
        · have hq : (textOf (runesOf s) == s.toList) = true := by
            have h2 := congrArg ByteArray.toList (Hback.out rfl)
            simpa using h2
          go_wp2_with fail
          refine (runes_any _ _ HRs).mono ?_
          rintro e w5 ⟨v5, rfl, hown5, hb5⟩
          obtain ⟨A5, c5, rfl, hr5, _⟩ := ownsRow_slice hown5
          go_wp2_with fail
          refine (HT.out _ _ _ _ hr5 (by omega)).mono ?_
          rintro e w6 ⟨rfl, hb6⟩
          go_wp2
          go_ret
          exact ⟨rfl, then_ (then_ (then_ (then_ (then_ hb1 hb2) hb3) hb4) hb5) hb6⟩
end Go.Proofs.Ytcgcbemhbkjijaa
