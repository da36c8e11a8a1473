/- The walks of token.Stop, ref.Stops and ref.Stop: printed by wip/bin/gen_stop.py. -/
import Derived.Test.YtmofhpebcbpccaaDoorTokMath
import Derived.Test.YtmofhpebcbpccaaDoorReadsK
namespace Go.Proofs.YtmofhpebcbpccaaDoor
open Go.RowKit

set_option maxHeartbeats 4000000 in
theorem stop_any (s : ByteArray) (w : World) : Calls Tryd.prog 13 #[.string s] w fun e w' => e = .returned (.bool (isStop s)) ∧ w = w' := by
  cases h : isStop s
  · have h0 : (s.toList == [97]) = false := stop_no h _ (by simp [stopsL])
    have h1 : (s.toList == [97, 110]) = false := stop_no h _ (by simp [stopsL])
    have h2 : (s.toList == [97, 110, 100]) = false := stop_no h _ (by simp [stopsL])
    have h3 : (s.toList == [97, 114, 101]) = false := stop_no h _ (by simp [stopsL])
    have h4 : (s.toList == [97, 115]) = false := stop_no h _ (by simp [stopsL])
    have h5 : (s.toList == [97, 116]) = false := stop_no h _ (by simp [stopsL])
    have h6 : (s.toList == [98, 101]) = false := stop_no h _ (by simp [stopsL])
    have h7 : (s.toList == [98, 121]) = false := stop_no h _ (by simp [stopsL])
    have h8 : (s.toList == [102, 111, 114]) = false := stop_no h _ (by simp [stopsL])
    have h9 : (s.toList == [105, 110]) = false := stop_no h _ (by simp [stopsL])
    have h10 : (s.toList == [105, 115]) = false := stop_no h _ (by simp [stopsL])
    have h11 : (s.toList == [105, 116]) = false := stop_no h _ (by simp [stopsL])
    have h12 : (s.toList == [111, 102]) = false := stop_no h _ (by simp [stopsL])
    have h13 : (s.toList == [111, 110]) = false := stop_no h _ (by simp [stopsL])
    have h14 : (s.toList == [111, 114]) = false := stop_no h _ (by simp [stopsL])
    have h15 : (s.toList == [116, 104, 101]) = false := stop_no h _ (by simp [stopsL])
    have h16 : (s.toList == [116, 111]) = false := stop_no h _ (by simp [stopsL])
    clear h
    go_enter Tryd.func13, Tryd.ntmps13
    go_wp2
    go_ret
    exact ⟨rfl, rfl⟩
  · obtain ⟨t, hm, rfl⟩ := stop_yes h
    clear h
    simp only [stopsL, List.mem_cons, List.mem_nil_iff, or_false] at hm
    rcases hm with rfl | rfl | rfl | rfl | rfl | rfl | rfl | rfl | rfl | rfl | rfl | rfl | rfl | rfl | rfl | rfl | rfl
    all_goals
      go_enter Tryd.func13, Tryd.ntmps13
      go_wp2
      go_ret
      exact ⟨rfl, rfl⟩
end Go.Proofs.YtmofhpebcbpccaaDoor
