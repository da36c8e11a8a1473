/- The walks of the laws UtfApart and UtfLess. -/
import Derived.Test.YtcgcbemhbkjijaaUtfFixed
import Derived.Test.YtcgcbemhbkjijaaUtfMath
import Derived.Deep.RegionHeld3
import Derived.Deep.RegionWith
import Derived.Test.YtcgcbemhbkjijaaUtfLawsC
namespace Go.Proofs.Ytcgcbemhbkjijaa
open Go.RowKit

set_option maxHeartbeats 1000000 in
theorem walkUtfLess (s : ByteArray) (_ : s.size ≤ maxLen) (n : Int) (hn : (Lit.int .i64 n).wf = true) (w : World) : Calls Try.prog 6 #[.string s, .int .i64 n] w fun e w' => e = .returned (.bool true) ∧ Below w.heap.size w w' := by
  have hb : -9223372036854775808 ≤ n ∧ n ≤ 9223372036854775807 := by
    simp [Lit.wf, IntKind.min, IntKind.max, IntKind.signed, IntKind.bits] at hn; omega
  clear hn
  obtain ⟨hn0, hn1⟩ := hb
  by_cases h : 1000 < s.size
  · go_enter Try.func6, Try.ntmps6
    go_wp2_with (go_at_call 9; refine (fixed_any _).mono ?_; rintro e w1 ⟨rfl, hb1⟩)
    go_ret
    exact ⟨rfl, hb1⟩
  · have hl1 := runesOf_len s
    have hl2 := runesOf_many s
    obtain ⟨m, hm, hf, -, -⟩ := fitL_take n (runesOf s)
    have HF : ∀ w, Calls Try.prog 13 #[.string s, .int .i64 n] w fun e w' => e = .returned (.string ⟨(textOf ((runesOf s).take m)).toArray⟩) ∧ Below w.heap.size w w' := fun w => by
      have := fit_any s n w (by omega) hn0 hn1
      rw [hf] at this; exact this
    have hrt : runesOf ⟨(textOf ((runesOf s).take m)).toArray⟩ = (runesOf s).take m := by
      rw [runesOf_text, map_fix _ (fun r hr => runesOf_valid s r (List.mem_of_mem_take hr))]
    have htl := textOf_le ((runesOf s).take m)
    have HR : ∀ w, Calls Try.prog 11 #[.string ⟨(textOf ((runesOf s).take m)).toArray⟩] w fun e w' => ∃ A c, e = .returned (.slice A m c) ∧ Reads w' w'.heap.size A m c (ints .i32 ((runesOf s).take m)) ∧ Below w.heap.size w w' := fun w => by
      have hlt : ((runesOf s).take m).length = m := by rw [List.length_take]; omega
      refine (runes_any ⟨(textOf ((runesOf s).take m)).toArray⟩ w (by rw [size_of]; omega)).mono ?_
      rw [hrt, hlt]
      rintro e w' ⟨v, rfl, hown, hb⟩
      obtain ⟨A, c, rfl, hr, _⟩ := ownsRow_slice hown
      exact ⟨A, c, rfl, hr, hb⟩
    have HF := Lib.hid HF
    have HR := Lib.hid HR
    clear hf hrt htl
    go_enter Try.func6, Try.ntmps6
    go_wp2_with fail
    refine (runes_any _ _ (by omega)).mono ?_
    rintro e w1 ⟨v1, rfl, hown1, hb1⟩
    obtain ⟨A1, c1, rfl, hr1, _⟩ := ownsRow_slice hown1
    go_wp2_with fail
    refine (HF.out _).mono ?_
    rintro e w2 ⟨rfl, hb2⟩
    go_wp2_with fail
    refine (HR.out _).mono ?_
    rintro e w3 ⟨A3, c3, rfl, hr3, hb3⟩
    have hr1' := ((((hr1.below hb2).more hb2.size).below hb3).more hb3.size).front (k := m) (by omega)
    rw [show (ints .i32 (runesOf s)).take m = ints .i32 ((runesOf s).take m) from by simp [ints, List.map_take]] at hr1'
    have hmc : m ≤ c1 := by have := hr1'.cap; omega
    go_wp2_with fail
    have hml : ((m : Int) ≤ ((runesOf s).length : Int)) := by omega
    go_region_held3 (fun _ => True) (trivial) (first | (go_at_call 9; refine (fixed_any _).mono ?_; rintro e w4 ⟨rfl, hb4⟩) | (go_at_call 11; refine (HR.out _).mono ?_; rintro e w5 ⟨A5, c5, rfl, hr5, hb5⟩) | (go_at_call 10; refine (same_yes _ _ _ _ _ _ _ _ _ hr5 ((((hr1'.drew.below hb4).more hb4.size).below hb5).more hb5.size) (by omega) rfl).mono ?_; rintro e w6 ⟨rfl, hb6⟩))
    go_wp2
    go_ret
    exact ⟨rfl, then_ (then_ (then_ (then_ (then_ hb1 hb2) hb3).drew hb4) hb5) hb6⟩

theorem app_runes (a b : ByteArray) (c : Int) (h0 : 0 ≤ c) (h1 : c < 128) : runesOf (a ++ Utf8.encode c ++ b) = runesOf a ++ [c] ++ runesOf b := by
  obtain ⟨n, rfl⟩ := Int.eq_ofNat_of_zero_le h0
  have hk := nat_byte n (by omega)
  generalize UInt8.ofNat n = k at *
  subst hk
  have h : (Utf8.encode (k.toNat : Int)).data.toList = [k] := by rw [enc_data]; exact bys_inj (enc_1 _ h0 h1)
  have e : (a ++ Utf8.encode (k.toNat : Int) ++ b).data.toList = a.data.toList ++ k :: b.data.toList := by
    simp only [ByteArray.data_append, Array.toList_append, h, List.append_assoc, List.singleton_append]
  rw [runesOf_L, e, runesOf_app a k b (by omega), List.append_assoc]
  rfl

set_option maxHeartbeats 1000000 in
theorem walkUtfApart (a : ByteArray) (_ : a.size ≤ maxLen) (c : Int) (hc : (Lit.int .u8 c).wf = true) (b : ByteArray) (_ : b.size ≤ maxLen) (w : World) : Calls Try.prog 5 #[.string a, .int .u8 c, .string b] w fun e w' => e = .returned (.bool true) ∧ Below w.heap.size w w' := by
  obtain ⟨i0, hi0, hz0, hz1, hz2⟩ := info_parts info_rune
  have hb : 0 ≤ c ∧ c ≤ 255 := by
    simp [Lit.wf, IntKind.min, IntKind.max, IntKind.signed, IntKind.bits] at hc; omega
  clear hc
  by_cases ha : 500 < a.size
  · go_enter Try.func5, Try.ntmps5
    go_wp2_with (go_at_call 9; refine (fixed_any _).mono ?_; rintro e w1 ⟨rfl, hb1⟩)
    go_ret
    exact ⟨rfl, hb1⟩
  · by_cases hbb : 500 < b.size
    · go_enter Try.func5, Try.ntmps5
      go_wp2_with (go_at_call 9; refine (fixed_any _).mono ?_; rintro e w1 ⟨rfl, hb1⟩)
      go_ret
      exact ⟨rfl, hb1⟩
    · have hla := runesOf_len a
      have hlb := runesOf_len b
      go_enter Try.func5, Try.ntmps5
      go_wp2_with fail
      refine (runes_any _ _ (by omega)).mono ?_
      rintro e w1 ⟨v1, rfl, hown1, hb1⟩
      obtain ⟨A1, c1, rfl, hr1, _⟩ := ownsRow_slice hown1
      have own0 := ownsRow_below (built_new w 21 [] (by simp)) hb1
      have hs1 : w.heap.size + 1 ≤ w1.heap.size := by have := hb1.size; simpa using this
      have hb1' : Below w.heap.size w w1 := then_ ((Below.refl _ _).alloc (Nat.le_refl _) _) hb1
      have hc0 : 0 ≤ c % 128 := by omega
      have hc1 : c % 128 < 128 := by omega
      have HA := Lib.hid (app_runes a b (c % 128) hc0 hc1)
      have hsz : (a ++ Utf8.encode (c % 128) ++ b).size ≤ 1048576 := by
        have := enc_len_le (c % 128)
        rw [ByteArray.size_append, ByteArray.size_append, enc_size]; omega
      have hp1 : a.size + (Utf8.encode (c % 128)).size ≤ 9223372036854775807 := by rw [ByteArray.size_append, ByteArray.size_append] at hsz; omega
      have hp2 : (a ++ Utf8.encode (c % 128)).size + b.size ≤ 9223372036854775807 := by rw [ByteArray.size_append] at hsz; omega
      go_wp2_with (first | (at_builtin; refine wpList_append_all rfl (.tmp 19) (.tmp 21) 24 rfl w.heap.size 21 i0 (.int .i32 0) 4 Try.underlying24 hi0 hz0 hz1 hz2 rfl _ _ _ own0 _ _ _ _ _ hr1 rfl rfl (ints_one _ _) (by simp; omega) (by omega) (by omega) ?_; intro v2 w2 own2 hg2) | (at_builtin; refine wpList_append_one rfl (.tmp 22) (.tmp 25) 24 rfl w.heap.size 21 i0 (.int .i32 0) 4 Try.underlying24 hi0 hz0 hz1 hz2 rfl _ _ _ (.int .i32 (c % 128)) own2 rfl rfl rfl (by simp; omega) (by omega) (by have := hg2.size; omega) ?_; intro v3 w3 own3 hg3))
      have hb2 := below_grown hb1' own0 (Nat.le_refl _) (by omega) hg2
      have hb3 := below_grown hb2 own2 (Nat.le_refl _) (by have := hg2.size; omega) hg3
      have hs3 : w.heap.size ≤ w3.heap.size := hb3.size
      refine (runes_any _ _ (by omega)).mono ?_
      rintro e w4 ⟨v4, rfl, hown4, hb4⟩
      obtain ⟨A4, c4, rfl, hr4, _⟩ := ownsRow_slice hown4
      have own4 := ownsRow_below own3 hb4
      go_wp2_with (at_builtin; refine wpList_append_all rfl (.tmp 26) (.tmp 28) 24 rfl w.heap.size 21 i0 (.int .i32 0) 4 Try.underlying24 hi0 hz0 hz1 hz2 rfl _ _ _ own4 _ _ _ _ _ hr4 rfl rfl (ints_one _ _) (by simp; omega) (by omega) (by have := hb4.size; omega) ?_; intro v5 w5 own5 hg5)
      have hb5 := below_grown (then_ hb3 hb4) own4 (Nat.le_refl _) (by have := hb4.size; omega) hg5
      obtain ⟨A5, c5, hv5, hr5, -⟩ := ownsRow_slice own5
      rw [hv5]
      have Hv5 := Lib.hid hv5
      clear hv5
      refine (fixed_any _).mono ?_
      rintro e w6 ⟨rfl, hb6⟩
      go_wp2_with fail
      refine (runes_any _ _ hsz).mono ?_
      rw [HA.out]
      rintro e w7 ⟨v7, rfl, hown7, hb7⟩
      obtain ⟨A7, c7, rfl, hr7, _⟩ := ownsRow_slice hown7
      have hr5' : Reads w7 w7.heap.size A5 ((runesOf a).length + 1 + (runesOf b).length) c5 (ints .i32 (runesOf a ++ [c % 128] ++ runesOf b)) := by
        have h1 := (((hr5.below hb6).more hb6.size).below hb7).more hb7.size
        have e : ([] ++ ints .i32 (runesOf a) ++ [Value.int .i32 (c % 128)] ++ ints .i32 (runesOf b)) = ints .i32 (runesOf a ++ [c % 128] ++ runesOf b) := by simp [ints]
        have e' : ([] : List Value).length + (runesOf a).length + 1 + (runesOf b).length = (runesOf a).length + 1 + (runesOf b).length := by simp
        rw [e, e'] at h1
        exact h1
      have e7 : (runesOf a ++ [c % 128] ++ runesOf b).length = (runesOf a).length + ((runesOf b).length + 1) := by simp
      rw [e7] at hr7
      have HE7 := Lib.hid e7
      clear e7
      go_wp2_with fail
      refine (same_yes _ _ _ _ _ _ _ _ _ hr7 hr5' (by omega) rfl).mono ?_
      rintro e w8 ⟨rfl, hb8⟩
      go_wp2
      go_ret
      exact ⟨rfl, then_ (then_ (then_ hb5 hb6) hb7) hb8⟩
end Go.Proofs.Ytcgcbemhbkjijaa
