/- The walk of the reference's Class. -/
import Derived.Test.YtmofhpebcbpccaaDoorRows
import Derived.Deep.QuietTactic
import Derived.BigQuiet
import Derived.Test.YtmofhpebcbpccaaDoorKit
namespace Go.Proofs.YtmofhpebcbpccaaDoor
open Go.RowKit

theorem in_yes (r a b : Int) (w : World) (h : a ≤ r ∧ r ≤ b) :
    Calls Tryd.prog 28 #[.int .i32 r, .int .i32 a, .int .i32 b] w fun e w' => e = .returned (.bool true) ∧ w' = w := by
  obtain ⟨h1, h2⟩ := h
  go_enter Tryd.func28, Tryd.ntmps28
  go_wp2
  go_ret
  exact ⟨rfl, rfl⟩
theorem in_no (r a b : Int) (w : World) (h : ¬ (a ≤ r ∧ r ≤ b)) :
    Calls Tryd.prog 28 #[.int .i32 r, .int .i32 a, .int .i32 b] w fun e w' => e = .returned (.bool false) ∧ w' = w := by
  by_cases h1 : a ≤ r
  · have h2 : ¬ r ≤ b := fun h2 => h ⟨h1, h2⟩
    clear h
    go_enter Tryd.func28, Tryd.ntmps28
    go_wp2
    go_ret
    exact ⟨rfl, rfl⟩
  · clear h
    go_enter Tryd.func28, Tryd.ntmps28
    go_wp2
    go_ret
    exact ⟨rfl, rfl⟩

/-- A digit, by its number. -/
def IsD (r : Int) : Prop := (48 ≤ r ∧ r ≤ 57) ∨ (1632 ≤ r ∧ r ≤ 1641)
/-- A letter, by its number. -/
def IsL (r : Int) : Prop := (65 ≤ r ∧ r ≤ 90) ∨ (97 ≤ r ∧ r ≤ 122) ∨ (192 ≤ r ∧ r ≤ 214) ∨ (216 ≤ r ∧ r ≤ 246) ∨ (248 ≤ r ∧ r ≤ 591) ∨ r = 902 ∨ (904 ≤ r ∧ r ≤ 906) ∨ r = 908 ∨ (910 ≤ r ∧ r ≤ 929) ∨ (931 ≤ r ∧ r ≤ 974) ∨ (1024 ≤ r ∧ r ≤ 1153) ∨ (1162 ≤ r ∧ r ≤ 1327) ∨ (1488 ≤ r ∧ r ≤ 1514) ∨ (19968 ≤ r ∧ r ≤ 40959) ∨ (44032 ≤ r ∧ r ≤ 55203)
/-- Neither. -/
def IsN (r : Int) : Prop := r ≤ 47 ∨ (58 ≤ r ∧ r ≤ 64) ∨ (91 ≤ r ∧ r ≤ 96) ∨ (123 ≤ r ∧ r ≤ 191) ∨ r = 215 ∨ r = 247 ∨ (592 ≤ r ∧ r ≤ 901) ∨ r = 903 ∨ r = 907 ∨ r = 909 ∨ r = 930 ∨ (975 ≤ r ∧ r ≤ 1023) ∨ (1154 ≤ r ∧ r ≤ 1161) ∨ (1328 ≤ r ∧ r ≤ 1487) ∨ (1515 ≤ r ∧ r ≤ 1631) ∨ (1642 ≤ r ∧ r ≤ 19967) ∨ (40960 ≤ r ∧ r ≤ 44031) ∨ 55204 ≤ r
theorem is_any (r : Int) : IsD r ∨ IsL r ∨ IsN r := by
  unfold IsD IsL IsN
  by_cases g0 : r < 48
  · omega
  by_cases k0 : r ≤ 57
  · omega
  by_cases g1 : r < 65
  · omega
  by_cases k1 : r ≤ 90
  · omega
  by_cases g2 : r < 97
  · omega
  by_cases k2 : r ≤ 122
  · omega
  by_cases g3 : r < 192
  · omega
  by_cases k3 : r ≤ 214
  · omega
  by_cases g4 : r < 216
  · omega
  by_cases k4 : r ≤ 246
  · omega
  by_cases g5 : r < 248
  · omega
  by_cases k5 : r ≤ 591
  · omega
  by_cases g6 : r < 902
  · omega
  by_cases k6 : r ≤ 902
  · omega
  by_cases g7 : r < 904
  · omega
  by_cases k7 : r ≤ 906
  · omega
  by_cases g8 : r < 908
  · omega
  by_cases k8 : r ≤ 908
  · omega
  by_cases g9 : r < 910
  · omega
  by_cases k9 : r ≤ 929
  · omega
  by_cases g10 : r < 931
  · omega
  by_cases k10 : r ≤ 974
  · omega
  by_cases g11 : r < 1024
  · omega
  by_cases k11 : r ≤ 1153
  · omega
  by_cases g12 : r < 1162
  · omega
  by_cases k12 : r ≤ 1327
  · omega
  by_cases g13 : r < 1488
  · omega
  by_cases k13 : r ≤ 1514
  · omega
  by_cases g14 : r < 1632
  · omega
  by_cases k14 : r ≤ 1641
  · omega
  by_cases g15 : r < 19968
  · omega
  by_cases k15 : r ≤ 40959
  · omega
  by_cases g16 : r < 44032
  · omega
  by_cases k16 : r ≤ 55203
  · omega
  omega

set_option maxHeartbeats 4000000 in
theorem rclass_D (r : Int) (w : World) (h : IsD r) :
    Calls Tryd.prog 30 #[.int .i32 r] w fun e w' => e = .returned (.int .i64 2) ∧ w' = w := by
  unfold IsD at h
  rcases h with h | h
  all_goals
    try have e1 : (r == 902) = false := by simp; omega
    try have e2 : (r == 908) = false := by simp; omega
    try have e3 : (r != 215) = true := by simp; omega
    try have e4 : (r != 247) = true := by simp; omega
    go_enter Tryd.func30, Tryd.ntmps30
    go_wp2_with (first | (refine (in_yes _ _ _ _ (by first | assumption | omega)).mono ?_; rintro _ _ ⟨rfl, rfl⟩) | (refine (in_no _ _ _ _ (by first | assumption | omega)).mono ?_; rintro _ _ ⟨rfl, rfl⟩))
    go_ret
    exact ⟨rfl, rfl⟩

set_option maxHeartbeats 4000000 in
theorem rclass_L (r : Int) (w : World) (h : IsL r) :
    Calls Tryd.prog 30 #[.int .i32 r] w fun e w' => e = .returned (.int .i64 1) ∧ w' = w := by
  unfold IsL at h
  rcases h with h | h | h | h | h | rfl | h | rfl | h | h | h | h | h | h | h
  all_goals
    try have e1 : (r == 902) = false := by simp; omega
    try have e2 : (r == 908) = false := by simp; omega
    try have e3 : (r != 215) = true := by simp; omega
    try have e4 : (r != 247) = true := by simp; omega
    go_enter Tryd.func30, Tryd.ntmps30
    go_wp2_with (first | (refine (in_yes _ _ _ _ (by first | assumption | omega)).mono ?_; rintro _ _ ⟨rfl, rfl⟩) | (refine (in_no _ _ _ _ (by first | assumption | omega)).mono ?_; rintro _ _ ⟨rfl, rfl⟩))
    go_ret
    exact ⟨rfl, rfl⟩

set_option maxHeartbeats 4000000 in
theorem rclass_N (r : Int) (w : World) (h : IsN r) :
    Calls Tryd.prog 30 #[.int .i32 r] w fun e w' => e = .returned (.int .i64 0) ∧ w' = w := by
  unfold IsN at h
  rcases h with h | h | h | h | rfl | rfl | h | rfl | rfl | rfl | rfl | h | h | h | h | h | h | h
  all_goals
    try have e1 : (r == 902) = false := by simp; omega
    try have e2 : (r == 908) = false := by simp; omega
    try have e3 : (r != 215) = true := by simp; omega
    try have e4 : (r != 247) = true := by simp; omega
    go_enter Tryd.func30, Tryd.ntmps30
    go_wp2_with (first | (refine (in_yes _ _ _ _ (by first | assumption | omega)).mono ?_; rintro _ _ ⟨rfl, rfl⟩) | (refine (in_no _ _ _ _ (by first | assumption | omega)).mono ?_; rintro _ _ ⟨rfl, rfl⟩))
    go_ret
    exact ⟨rfl, rfl⟩
end Go.Proofs.YtmofhpebcbpccaaDoor
