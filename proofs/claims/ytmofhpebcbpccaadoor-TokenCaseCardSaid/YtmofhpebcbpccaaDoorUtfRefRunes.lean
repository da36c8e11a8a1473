/- The walks of ref.Runes, utf.Text, ref.Text. -/
import Derived.Test.YtmofhpebcbpccaaDoorUtfAtAll
import Derived.Test.YtmofhpebcbpccaaDoorUtfRunes
namespace Go.Proofs.YtmofhpebcbpccaaDoor
open Go.RowKit

set_option maxHeartbeats 1000000 in
theorem refRunes_any (s : ByteArray) (w : World) (hs : s.size ≤ 1048576) :
    Calls Tryd.prog 17 #[.string s] w fun e w' => ∃ v, e = .returned v ∧ w'.ownsRow w.heap.size 21 1 v (runesOf s).length (ints .i32 (runesOf s)) ∧ Below w.heap.size w w' := by
  obtain ⟨i0, hi0, hz0, hz1, hz2⟩ := info_parts info_rune
  go_enter Tryd.func17, Tryd.ntmps17
  go_wp2
  go_loopw [3, 4] (fun v i wr => ∃ (p : Nat) (acc : List Int), i = .int .i64 p ∧ p ≤ s.size + 4 ∧ acc.length ≤ p ∧ acc ++ runesAt s (s.size - p) p = runesOf s ∧
      wr.ownsRow w.heap.size 21 1 v acc.length (ints .i32 acc) ∧ Below w.heap.size w wr) (fun _ i _ => s.size + 5 - (intOf i).toNat)
  case atStart =>
    refine ⟨0, [], rfl, by omega, by simp, by simp [runesOf], ?_, (Below.refl _ _).alloc (Nat.le_refl _) _⟩
    exact built_new w _ [] (by simp)
  case round =>
    obtain ⟨p, acc, rfl, hp4, hl, hacc, hown, hb⟩ := hrel
    by_cases hp : p < s.size
    · have hw := width_pos s p
      have hw4 := width_le s p
      have hstep := Lib.hid (runesAt_step s p hp)
      have hdl : acc.length < 1048576 := by omega
      have hsz := hb.size
      have Hacc := Lib.hid hacc
      clear hacc
      rcases refAt_decode s p hp with ⟨h0, hd⟩ | ⟨hne, hd⟩
      · have HC : ∀ w, Calls Tryd.prog 27 #[.string s, .int .i64 p] w fun e w' => e = .returned (.tuple #[.int .i32 0, .int .i64 0]) ∧ Below w.heap.size w w' := fun w => by
          have := at_any s p w hp hs
          rw [h0] at this
          exact this
        have HC := Lib.hid HC
        have Hd := Lib.hid hd
        clear h0 hd hw hw4
        go_wp2_with (first | (go_at_call 27; refine (HC.out _).mono ?_; rintro e w1 ⟨rfl, hb1⟩) | (at_builtin; refine wpList_append_one rfl _ _ 35 rfl w.heap.size 21 i0 (.int .i32 0) 4 Tryd.underlying35 hi0 hz0 hz1 hz2 rfl _ _ _ (.int .i32 65533) (ownsRow_below hown hb1) rfl rfl rfl (by omega) (by omega) (by have := hb1.size; omega) ?_; intro v2 w2 hown2 hg2))
        go_roundw
        case rel =>
          refine ⟨p + 1, acc ++ [65533], by go_num, by omega, by simp; omega, ?_, by rw [List.length_append, ints_append]; exact hown2, below_grown (hb.trans (hb1.mono hsz)) (ownsRow_below hown hb1) (Nat.le_refl _) (by have := hb1.size; omega) hg2⟩
          rw [List.append_assoc, List.singleton_append, ← Hacc.out, hstep.out, Hd.out]; rfl
        case measure => simp [intOf]; omega
      · have HC : ∀ w, Calls Tryd.prog 27 #[.string s, .int .i64 p] w fun e w' => e = .returned (.tuple #[.int .i32 ((Utf8.decode s p).1 : Nat), .int .i64 ((Utf8.decode s p).2 : Nat)]) ∧ Below w.heap.size w w' := fun w => by
          have := at_any s p w hp hs
          rw [hd] at this
          exact this
        have HC := Lib.hid HC
        have hk : (((Utf8.decode s p).2 : Int) == 0) = false := by simp; omega
        clear hne hd
        go_wp2_with (first | (go_at_call 27; refine (HC.out _).mono ?_; rintro e w1 ⟨rfl, hb1⟩) | (at_builtin; refine wpList_append_one rfl _ _ 35 rfl w.heap.size 21 i0 (.int .i32 0) 4 Tryd.underlying35 hi0 hz0 hz1 hz2 rfl _ _ _ (.int .i32 ((Utf8.decode s p).1 : Nat)) (ownsRow_below hown hb1) rfl rfl rfl (by omega) (by omega) (by have := hb1.size; omega) ?_; intro v2 w2 hown2 hg2))
        go_roundw
        case rel =>
          refine ⟨p + (Utf8.decode s p).2, acc ++ [((Utf8.decode s p).1 : Int)], by go_num, by omega, by simp; omega, ?_, by rw [List.length_append, ints_append]; exact hown2, below_grown (hb.trans (hb1.mono hsz)) (ownsRow_below hown hb1) (Nat.le_refl _) (by have := hb1.size; omega) hg2⟩
          rw [List.append_assoc, List.singleton_append, ← Hacc.out, hstep.out]
        case measure => simp [intOf]; omega
    · have Hf : Hid (acc = runesOf s) := Lib.hid (by rw [runesAt_end s _ p (by omega)] at hacc; simpa using hacc)
      clear hacc
      go_wp2
      go_ret
      refine ⟨_, rfl, ?_, hb⟩
      rw [← Hf.out]; exact hown
end Go.Proofs.YtmofhpebcbpccaaDoor
