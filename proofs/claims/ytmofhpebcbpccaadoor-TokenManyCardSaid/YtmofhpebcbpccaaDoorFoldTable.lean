/- The plain law of class: the table gives letters. -/
import Derived.Test.YtmofhpebcbpccaaDoorFoldClass
import Derived.Test.YtmofhpebcbpccaaDoorFoldRefC
namespace Go.Proofs.YtmofhpebcbpccaaDoor
open Go.RowKit

theorem classF_eq (r : Int) : classF r 13 0 =
  (if r < 65 then 0 else if r ≤ 90 then 1 else if r < 97 then 0 else if r ≤ 122 then 1 else if r < 192 then 0 else if r ≤ 214 then 1 else if r < 216 then 0 else if r ≤ 246 then 1 else if r < 248 then 0 else if r ≤ 591 then 1 else if r < 902 then 0 else if r ≤ 902 then 1 else if r < 904 then 0 else if r ≤ 906 then 1 else if r < 908 then 0 else if r ≤ 908 then 1 else if r < 910 then 0 else if r ≤ 929 then 1 else if r < 931 then 0 else if r ≤ 974 then 1 else if r < 1024 then 0 else if r ≤ 1153 then 1 else if r < 1162 then 0 else if r ≤ 1327 then 1 else if r < 1488 then 0 else if r ≤ 1514 then 1 else 0) := rfl
theorem class_D (r : Int) (h : IsD r) : classOf r = 2 := by
  unfold IsD at h
  rw [classOf, if_pos (by omega)]
theorem class_L (r : Int) (h : IsL r) : classOf r = 1 := by
  unfold IsL at h
  rcases h with h | h | h | h | h | rfl | h | rfl | h | h | h | h | h | h | h
  all_goals first
    | rfl
    | (rw [classOf, if_neg (by omega)]; first | exact if_pos (by omega) | (rw [if_neg (by omega), classF_eq]; repeat' first | rfl | (rw [if_pos (by omega)]) | (rw [if_neg (by omega)])))
theorem class_N (r : Int) (h : IsN r) : classOf r = 0 := by
  unfold IsN at h
  rcases h with h | h | h | h | rfl | rfl | h | rfl | rfl | rfl | rfl | h | h | h | h | h | h | h
  all_goals first
    | rfl
    | (rw [classOf, if_neg (by omega), if_neg (by omega), classF_eq]; repeat' first | rfl | (rw [if_pos (by omega)]) | (rw [if_neg (by omega)]))
theorem rclass_any (r : Int) (w : World) :
    Calls Tryd.prog 30 #[.int .i32 r] w fun e w' => e = .returned (.int .i64 (classOf r)) ∧ w' = w := by
  rcases is_any r with h | h | h
  · rw [class_D r h]; exact rclass_D r w h
  · rw [class_L r h]; exact rclass_L r w h
  · rw [class_N r h]; exact rclass_N r w h
end Go.Proofs.YtmofhpebcbpccaaDoor
