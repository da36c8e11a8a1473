/- The walks of the laws UtfRunes, UtfFits, UtfTexts. -/
import Derived.Test.YtcgcbemhbkjijaaUtfFixed
import Derived.Test.YtcgcbemhbkjijaaUtfMath
namespace Go.Proofs.Ytcgcbemhbkjijaa
open Go.RowKit

set_option maxHeartbeats 1000000 in
theorem walkUtfRunes (s : ByteArray) (_ : s.size ≤ maxLen) (w : World) : Calls Try.prog 3 #[.string s] w fun e w' => e = .returned (.bool true) ∧ Below w.heap.size w w' := by
  by_cases h : 1000 < s.size
  · go_enter Try.func3, Try.ntmps3
    go_wp2_with (go_at_call 9; refine (fixed_any _).mono ?_; rintro e w1 ⟨rfl, hb1⟩)
    go_ret
    exact ⟨rfl, hb1⟩
  · go_enter Try.func3, Try.ntmps3
    go_wp2_with fail
    refine (fixed_any _).mono ?_
    rintro e w1 ⟨rfl, hb1⟩
    go_wp2_with fail
    refine (runes_any _ _ (by omega)).mono ?_
    rintro e w2 ⟨v2, rfl, hown2, hb2⟩
    obtain ⟨A2, c2, rfl, hr2, _⟩ := ownsRow_slice hown2
    go_wp2_with fail
    refine (refRunes_any _ _ (by omega)).mono ?_
    rintro e w3 ⟨v3, rfl, hown3, hb3⟩
    obtain ⟨A3, c3, rfl, hr3, _⟩ := ownsRow_slice hown3
    go_wp2_with fail
    refine (same_yes _ _ _ _ _ _ _ _ _ ((hr2.below hb3).more hb3.size) hr3 (by have := runesOf_len s; omega) rfl).mono ?_
    rintro e w4 ⟨rfl, hb4⟩
    go_wp2
    go_ret
    exact ⟨rfl, then_ (then_ (then_ hb1 hb2) hb3) hb4⟩
end Go.Proofs.Ytcgcbemhbkjijaa
