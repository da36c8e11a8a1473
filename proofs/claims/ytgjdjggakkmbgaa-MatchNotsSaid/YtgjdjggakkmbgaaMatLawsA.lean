/- MatchPhrases, walked. -/
import Derived.Test.YtgjdjggakkmbgaaMatOpen
import Derived.Test.YtgjdjggakkmbgaaMatRight
import Derived.Test.YtgjdjggakkmbgaaMatFix
namespace Go.Proofs.Ytgjdjggakkmbgaa
open Go.RowKit

set_option maxRecDepth 100000 in
set_option maxHeartbeats 4000000 in
theorem walkMatchPhrases {w : World} (ts : List Tk) (A : Option Addr) (n c : Nat) (hx : ReadsT w w.heap.size A n c ts) (_ : c ≤ maxLen) (ls : List Ln) (A1 : Option Addr) (n1 c1 : Nat) (hy : ReadsL w w.heap.size A1 n1 c1 ls) (_ : c1 ≤ maxLen) :
    Calls Try.prog 3 #[.slice A n c, .slice A1 n1 c1] w fun e w' => e = .returned (.bool true) ∧ Below w.heap.size w w' := by
  have HR := right_any ls A n c A1 n1 c1 w hy
  have HF := fixed_any
  go_enter Try.func3, Try.ntmps3
  go_wp2_with fail
  refine HR.mono ?_
  clear HR
  rintro e w1 ⟨rfl | ⟨rfl, hn, hn1, hM⟩, hb1⟩
  · go_wp2_with fail
    refine (HF _).mono ?_
    rintro e w2 ⟨rfl, hb2⟩
    go_wp2
    go_ret
    exact ⟨rfl, then_ hb1 hb2⟩
  · go_wp2_with fail
    refine (HF _).mono ?_
    rintro e w2 ⟨rfl, hb2⟩
    have hB2 := then_ hb1 hb2
    have HP := phrase_any ts ls A n c A1 n1 c1 w2 ((ReadsK.below hx hB2).more hB2.size) ((hy.below hB2).more hB2.size) hn hM
    have HM := Lib.hid hM
    have hfl : (phF (tkP ts) (lnV ls)).length ≤ 1048576 := by
      rw [phF]
      split
      · simp
      · rename_i hcnd
        have h1 := phP_len (tkP ts) (lnV ls) ((lnV ls).getD 0 []).length
        have h2 : ((lnV ls).getD 0 []).length ≤ 64 := by
          by_cases h0 : 0 < (lnV ls).length
          · exact (may_at HM.out 0 h0).len
          · rw [List.getD, List.getElem?_eq_none (by omega)]
            simp
        omega
    clear hM
    go_wp2_with fail
    refine HP.mono ?_
    clear HP
    rintro e w3 ⟨v3, rfl, hown3, hb3⟩
    have hB3 := then_ hB2 hb3
    have HQ := refPhrase_any ts ls A n c A1 n1 c1 w3 ((ReadsK.below hx hB3).more hB3.size) ((hy.below hB3).more hB3.size) hn HM.out
    obtain ⟨A3, c3, rfl, hr3, _, _⟩ := ReadsK.of_own hown3
    clear hown3
    go_wp2_with fail
    refine HQ.mono ?_
    clear HQ
    rintro e w4 ⟨v4, rfl, hown4, hb4⟩
    have hB4 := then_ hB3 hb4
    obtain ⟨A4, c4, rfl, hr4, _, _⟩ := ReadsK.of_own hown4
    have HS := sameF_yes (phF (tkP ts) (lnV ls)) A3 A4 _ c3 _ c4 w4 ((hr3.below hb4).more hb4.size) hr4 hfl
    clear hown4 hr3 hr4
    generalize (phF (tkP ts) (lnV ls)).length = L at *
    go_wp2_with fail
    refine HS.mono ?_
    clear HS
    rintro e w5 ⟨rfl, hb5⟩
    go_wp2
    go_ret
    exact ⟨rfl, then_ hB4 hb5⟩
end Go.Proofs.Ytgjdjggakkmbgaa
