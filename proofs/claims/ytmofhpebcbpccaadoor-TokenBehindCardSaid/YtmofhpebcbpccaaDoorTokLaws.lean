/- The laws of the words, walked: the easy ones. -/
import Derived.Test.YtmofhpebcbpccaaDoorTokFixed
import Derived.Test.YtmofhpebcbpccaaDoorTokWorld
namespace Go.Proofs.YtmofhpebcbpccaaDoor
open Go.RowKit Go.ChangeShapes Go.WideShapes Go.Deep

theorem flat_one {α β : Type} (f : α → β) (l : List α) : l.flatMap (fun x => [f x]) = l.map f := by
  induction l with
  | nil => rfl
  | cons a l ih => rw [List.flatMap_cons, ih]; rfl
section
variable {H : Type} {enc : TypeId × Value → H} {w : World} {base : Nat} {spare : Nat → Bool} {held : Bool} {r : Reach} {b0 : Nat} {v : Value} {d : DataW H} {p : List MemPlace}
theorem reads_strs (hval : Value.okWide Tryd.prog w r b0 27 v) (h : DataW.Trod enc Tryd.prog w base spare held 27 v d p) :
    ∃ A n c, ∃ l : List ByteArray, v = .slice A n c ∧ Reads w w.heap.size A n c (strs l) ∧ c ≤ maxLen ∧ (A = none → n = 0 ∧ c = 0) := by
  obtain ⟨a0, len0, cap0, rfl⟩ := okWide_slice Tryd.underlying27 hval
  obtain ⟨fuel, hf⟩ := h
  obtain ⟨A, n, c, l, hcs, hr, hm, -, hz⟩ := open_recs (f := fun s : ByteArray => [Value.string s]) (k := 1) (fun _ => rfl) (by omega) (fun _ => True) Tryd.underlying27 (by kernel_rfl) (fun cs n y hy => by
    obtain ⟨s, hs, _⟩ := DataW.trod_string Tryd.underlying9 hy
    exact ⟨s, hs, trivial⟩) hf
  simp [Value.cells] at hcs
  obtain ⟨rfl, rfl, rfl⟩ := hcs
  have e : l.flatMap (fun s : ByteArray => [Value.string s]) = strs l := flat_one Value.string l
  exact ⟨_, _, _, l, rfl, ⟨by rw [← e, hr.len]; omega, hr.cap, by rw [← e]; exact hr.at_⟩, hm, hz⟩
end

set_option maxRecDepth 100000 in
set_option maxHeartbeats 2000000 in
theorem walkTokenWords {w : World} (hL : LaidF w) (s : ByteArray) (_ : s.size ≤ maxLen) : Calls Tryd.prog 3 #[.string s] w fun e w' => e = .returned (.bool true) ∧ Below w.heap.size w w' := by
  have HF := fixed_any hL
  by_cases hs : 1000 < s.size
  · have hs' : (1000 : Int) < (s.size : Int) := by omega
    clear hs
    go_enter Tryd.func3, Tryd.ntmps3
    go_wp2_with fail
    refine HF.mono ?_
    rintro e w1 ⟨rfl, hb1⟩
    go_wp2
    go_ret
    exact ⟨rfl, hb1⟩
  · have hs' : ¬ (1000 : Int) < (s.size : Int) := by omega
    go_enter Tryd.func3, Tryd.ntmps3
    go_wp2_with fail
    refine HF.mono ?_
    clear HF
    rintro e w1 ⟨rfl, hb1⟩
    have HW := words_any s (by omega) (hL.below hb1)
    have hwl := wordsOf_len s
    have hwl2 : (wordsOf s).length ≤ 1048576 := by omega
    clear hwl
    go_wp2_with fail
    refine HW.mono ?_
    clear HW
    rintro e w2 ⟨v2, rfl, hown2, hb2⟩
    have HW := refWords_any s (by omega) w2
    clear hs
    go_wp2_with fail
    refine HW.mono ?_
    clear HW
    rintro e w3 ⟨v3, rfl, hown3, hb3⟩
    have hown2 := ownsRow_below hown2 hb3
    obtain ⟨A2, c2, rfl, hr2, _, _⟩ := ReadsK.of_own hown2
    obtain ⟨A3, c3, rfl, hr3, _, _⟩ := ReadsK.of_own hown3
    have hB3 := then_ (then_ hb1 hb2) hb3
    have HS := same_any _ _ _ _ _ _ _ _ _ hr2 hr3 hwl2 hwl2
    rw [decide_eq_true rfl] at HS
    clear hr2 hr3 hown2 hown3 hb1 hb2 hb3
    generalize (wordsOf s).length = m at *
    go_wp2_with fail
    refine HS.mono ?_
    clear HS
    rintro e w4 ⟨rfl, hb4⟩
    have hB4 := then_ hB3 hb4
    clear hb4 hB3
    go_wp2_with fail
    refine (stop_any s w4).mono ?_
    rintro e w5 ⟨rfl, rfl⟩
    go_wp2_with fail
    refine (refStop_any s w4).mono ?_
    rintro e w6 ⟨rfl, hb6⟩
    have hB6 := then_ hB4 hb6
    generalize isStop s = b
    cases b
    · go_wp2
      go_ret
      exact ⟨rfl, hB6⟩
    · go_wp2
      go_ret
      exact ⟨rfl, hB6⟩
end Go.Proofs.YtmofhpebcbpccaaDoor
