/- The walks of ploverlaw01.fixed and ref01.New; the law MemNew. -/
import Derived.Test.YtdmeidibhapnbaaMem
namespace Go.Proofs.Ytdmeidibhapnbaa
open Go.RowKit

theorem refNew_ok (n : Nat) (w : World) (h1 : 1 ≤ n) (h2 : n ≤ 65536) :
    Calls Try.prog 9 #[.int .i64 n] w fun e w' => e = .returned (.tuple #[.agg #[.int .i64 n, .slice none 0 0, .int .i64 0], .int .i64 0]) ∧ Below w.heap.size w w' := by
  go_enter Try.func9, Try.ntmps9
  go_wp2
  exact bodyPost_ret (v := .tuple #[.agg #[.int .i64 n, .slice none 0 0, .int .i64 0], .int .i64 0]) (by simp [results, Try.results9, go_sem]) rfl ⟨rfl, (Below.refl _ _).alloc (Nat.le_refl _) _⟩
theorem refNew_no (n : Int) (w : World) (h : n < 1 ∨ 65536 < n) :
    Calls Try.prog 9 #[.int .i64 n] w fun e w' => e = .returned (.tuple #[.agg #[.int .i64 0, .slice none 0 0, .int .i64 0], .int .i64 1]) ∧ Below w.heap.size w w' := by
  rcases h with h | h
  · go_enter Try.func9, Try.ntmps9
    go_wp2
    exact bodyPost_ret (v := .tuple #[.agg #[.int .i64 0, .slice none 0 0, .int .i64 0], .int .i64 1]) (by simp [results, Try.results9, go_sem]) rfl ⟨rfl, (Below.refl _ _).alloc (Nat.le_refl _) _⟩
  · have h' : ¬ n < 1 := by omega
    go_enter Try.func9, Try.ntmps9
    go_wp2
    exact bodyPost_ret (v := .tuple #[.agg #[.int .i64 0, .slice none 0 0, .int .i64 0], .int .i64 1]) (by simp [results, Try.results9, go_sem]) rfl ⟨rfl, (Below.refl _ _).alloc (Nat.le_refl _) _⟩

set_option maxHeartbeats 1000000 in
theorem fixed_any (w : World) : Calls Try.prog 10 #[] w fun e w' => e = .returned (.bool true) ∧ Below w.heap.size w w' := by
  go_enter Try.func10, Try.ntmps10
  go_wp2_with fail
  refine (new_ok 2 _ (by omega) (by omega)).mono ?_
  rintro e w1 ⟨b, g, rfl, hm1, hb, hg, hb1⟩
  go_wp2_with fail
  refine (store_ok 1 7 b g 2 _ _ _ _ hm1 (by omega) (by omega) (by omega)).mono ?_
  rintro e w2 ⟨rfl, hm2, ho2⟩
  go_wp2_with fail
  refine (load_ok 1 7 b g 2 _ _ _ _ hm2 (by omega) rfl (by omega) (by omega)).mono ?_
  rintro e w3 ⟨rfl, hm3, ho3⟩
  go_wp2_with fail
  refine (load_ok 0 0 b g 2 _ _ _ _ hm3 (by omega) rfl (by omega) (by omega)).mono ?_
  rintro e w4 ⟨rfl, hm4, ho4⟩
  go_wp2_with fail
  refine (store_no 2 1 b g 2 _ _ _ _ hm4 (by omega)).mono ?_
  rintro e w' ⟨rfl, rfl⟩
  go_wp2_with fail
  refine (loads_ok b g 2 _ _ _ _ hm4).mono ?_
  rintro e w' ⟨rfl, rfl⟩
  go_wp2_with fail
  refine (stores_ok b g 2 _ _ _ _ hm4).mono ?_
  rintro e w' ⟨rfl, rfl⟩
  go_wp2
  go_ret
  exact ⟨rfl, (((ho2.trans ho3).trans ho4).below hb1 hb hg hb1.size)⟩

set_option maxHeartbeats 1000000 in
theorem walkMemNew (n : Int) (_ : (Lit.int .i64 n).wf = true) (a : Int) (_ : (Lit.int .i64 a).wf = true) (v : Int) (_ : (Lit.int .u32 v).wf = true) (w : World) :
    Calls Try.prog 7 #[.int .i64 n, .int .i64 a, .int .u32 v] w fun e w' => e = .returned (.bool true) ∧ Below w.heap.size w w' := by
  by_cases h : 1 ≤ n ∧ n ≤ 65536
  · obtain ⟨m, rfl⟩ := Int.eq_ofNat_of_zero_le (show 0 ≤ n by omega)
    obtain ⟨h1, h2⟩ := h
    go_enter Try.func7, Try.ntmps7
    go_wp2_with fail
    refine (new_ok m _ (by omega) (by omega)).mono ?_
    rintro e w1 ⟨b, g, rfl, hm1, hb, hg, hb1⟩
    go_wp2_with fail
    refine (refNew_ok m _ (by omega) (by omega)).mono ?_
    rintro e w2 ⟨rfl, hb2⟩
    go_wp2_with fail
    refine (fixed_any _).mono ?_
    rintro e w3 ⟨rfl, hb3⟩
    have hm3 := ((hm1.below hb2).alloc (.cells #[.int .i64 m, .slice none 0 0, .int .i64 0] 30)).below hb3
    go_wp2_with (first | (go_at_call 15; (with_reducible refine (len_ok b g m _ _ _ _ hm3).mono ?_); rintro e w' ⟨rfl, rfl⟩) | (go_at_call 11; refine (load_nil _ _).mono ?_; rintro e w' ⟨rfl, rfl⟩) | (go_at_call 14; refine (store_nil _ _ _).mono ?_; rintro e w' ⟨rfl, rfl⟩) | (go_at_call 15; (with_reducible refine (len_nil _).mono ?_); rintro e w' ⟨rfl, rfl⟩) | (go_at_call 16; (with_reducible refine (loads_nil _).mono ?_); rintro e w' ⟨rfl, rfl⟩) | (go_at_call 17; (with_reducible refine (stores_nil _).mono ?_); rintro e w' ⟨rfl, rfl⟩) | (go_at_call 18; (with_reducible refine (cells_nil _).mono ?_); rintro e w' ⟨rfl, rfl⟩))
    go_ret
    exact ⟨rfl, then_ (al_ (then_ hb1 hb2) _) hb3⟩
  · have h' : n < 1 ∨ 65536 < n := by omega
    go_enter Try.func7, Try.ntmps7
    go_wp2_with fail
    refine (new_no n _ h').mono ?_
    rintro e w' ⟨rfl, rfl⟩
    go_wp2_with fail
    refine (refNew_no n _ h').mono ?_
    rintro e w2 ⟨rfl, hb2⟩
    go_wp2_with fail
    refine (fixed_any _).mono ?_
    rintro e w3 ⟨rfl, hb3⟩
    go_wp2_with (first | (go_at_call 11; refine (load_nil _ _).mono ?_; rintro e w' ⟨rfl, rfl⟩) | (go_at_call 14; refine (store_nil _ _ _).mono ?_; rintro e w' ⟨rfl, rfl⟩) | (go_at_call 15; (with_reducible refine (len_nil _).mono ?_); rintro e w' ⟨rfl, rfl⟩) | (go_at_call 16; (with_reducible refine (loads_nil _).mono ?_); rintro e w' ⟨rfl, rfl⟩) | (go_at_call 17; (with_reducible refine (stores_nil _).mono ?_); rintro e w' ⟨rfl, rfl⟩) | (go_at_call 18; (with_reducible refine (cells_nil _).mono ?_); rintro e w' ⟨rfl, rfl⟩))
    all_goals
      go_ret
      exact ⟨rfl, then_ (al_ hb2 _) hb3⟩
end Go.Proofs.Ytdmeidibhapnbaa
