/- The walks of the laws UtfFits, UtfTexts, UtfBack. -/
import Derived.Test.YtcgcbemhbkjijaaUtfFixed
import Derived.Test.YtcgcbemhbkjijaaUtfMath
namespace Go.Proofs.Ytcgcbemhbkjijaa
open Go.RowKit

set_option maxHeartbeats 1000000 in
theorem walkUtfFits (s : ByteArray) (_ : s.size ≤ maxLen) (n : Int) (hn : (Lit.int .i64 n).wf = true) (w : World) : Calls Try.prog 4 #[.string s, .int .i64 n] w fun e w' => e = .returned (.bool true) ∧ Below w.heap.size w w' := by
  have hb : -9223372036854775808 ≤ n ∧ n ≤ 9223372036854775807 := by
    simp [Lit.wf, IntKind.min, IntKind.max, IntKind.signed, IntKind.bits] at hn; omega
  clear hn
  obtain ⟨hn0, hn1⟩ := hb
  by_cases h : 300 < s.size
  · go_enter Try.func4, Try.ntmps4
    go_wp2_with (go_at_call 9; refine (fixed_any _).mono ?_; rintro e w1 ⟨rfl, hb1⟩)
    go_ret
    exact ⟨rfl, hb1⟩
  · obtain ⟨m, hm, hf, hbst, hlen⟩ := fitL_take n (runesOf s)
    have HF : ∀ w, Calls Try.prog 13 #[.string s, .int .i64 n] w fun e w' => e = .returned (.string ⟨(textOf ((runesOf s).take m)).toArray⟩) ∧ Below w.heap.size w w' := fun w => by
      have := fit_any s n w (by omega) hn0 hn1
      rw [hf] at this; exact this
    have HB : ∀ w, Calls Try.prog 14 #[.string s, .int .i64 n] w fun e w' => e = .returned (.string ⟨(textOf ((runesOf s).take m)).toArray⟩) ∧ Below w.heap.size w w' := fun w => by
      have := refFit_any s n w (by omega)
      rw [hbst] at this; exact this
    generalize textOf ((runesOf s).take m) = X at *
    have HF := Lib.hid HF
    have HB := Lib.hid HB
    clear hf hbst hm
    go_enter Try.func4, Try.ntmps4
    go_wp2_with fail
    refine (HF.out _).mono ?_
    rintro e w1 ⟨rfl, hb1⟩
    go_wp2_with fail
    refine (fixed_any _).mono ?_
    rintro e w2 ⟨rfl, hb2⟩
    go_wp2_with fail
    refine (HB.out _).mono ?_
    rintro e w3 ⟨rfl, hb3⟩
    rcases hlen with hl | hl
    · go_wp2
      go_ret
      exact ⟨rfl, then_ (then_ hb1 hb2) hb3⟩
    · subst hl
      go_wp2
      all_goals
        go_ret
        exact ⟨rfl, then_ (then_ hb1 hb2) hb3⟩
end Go.Proofs.Ytcgcbemhbkjijaa
