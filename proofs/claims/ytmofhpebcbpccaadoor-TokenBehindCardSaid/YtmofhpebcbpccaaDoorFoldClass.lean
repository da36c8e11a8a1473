/- The walks of fold.Class and ref.Class. -/
import Derived.Test.YtmofhpebcbpccaaDoorRows
import Derived.Deep.QuietTactic
import Derived.BigQuiet
import Derived.Test.YtmofhpebcbpccaaDoorKit
namespace Go.Proofs.YtmofhpebcbpccaaDoor
open Go.RowKit

def letL : List Int := [65, 90, 97, 122, 192, 214, 216, 246, 248, 591, 902, 902, 904, 906, 908, 908, 910, 929, 931, 974, 1024, 1153, 1162, 1327, 1488, 1514]
def loL (k : Nat) : Int := letL.getD (2 * k) 0
def hiL (k : Nat) : Int := letL.getD (2 * k + 1) 0
theorem run_index_let (k : Nat) (hk : k < 13) (w : World) : (Instr.index 53 (.agg (ints .i32 letL).toArray) (.int .i64 (k : Int))).run Tryd.prog w = .ok (.agg #[.int .i32 (loL k), .int .i32 (hiL k)]) w := by
  rcases (show k = 0 ∨ k = 1 ∨ k = 2 ∨ k = 3 ∨ k = 4 ∨ k = 5 ∨ k = 6 ∨ k = 7 ∨ k = 8 ∨ k = 9 ∨ k = 10 ∨ k = 11 ∨ k = 12 from by omega) with rfl | rfl | rfl | rfl | rfl | rfl | rfl | rfl | rfl | rfl | rfl | rfl | rfl
  all_goals kernel_rfl
/-- The class of a number, by the table. -/
def classF (r : Int) : Nat → Nat → Int
  | 0, _ => 0
  | f + 1, k => if r < loL k then 0 else if r ≤ hiL k then 1 else classF r f (k + 1)
def classOf (r : Int) : Int :=
  if (48 ≤ r ∧ r ≤ 57) ∨ (1632 ≤ r ∧ r ≤ 1641) then 2 else if (19968 ≤ r ∧ r ≤ 40959) ∨ (44032 ≤ r ∧ r ≤ 55203) then 1 else classF r 13 0

/-- The tables as they lie. -/
structure Tabs (w : World) : Prop where
  lets : ∃ t fr, w.heap[(1 : Nat)]? = some (.cells (ints .i32 letL).toArray t fr)
  h0 : w.cell? ⟨0, 0, none⟩ = some (.int .i32 19968)
  h1 : w.cell? ⟨0, 1, none⟩ = some (.int .i32 40959)
  h2 : w.cell? ⟨0, 2, none⟩ = some (.int .i32 44032)
  h3 : w.cell? ⟨0, 3, none⟩ = some (.int .i32 55203)

set_option maxHeartbeats 1000000 in
theorem class_dig (r : Int) (w : World) (h : (48 ≤ r ∧ r ≤ 57) ∨ (1632 ≤ r ∧ r ≤ 1641)) :
    Calls Tryd.prog 22 #[.int .i32 r] w fun e w' => e = .returned (.int .i64 2) ∧ Below w.heap.size w w' := by
  rcases h with ⟨h, h'⟩ | ⟨h, h'⟩
  all_goals
    go_enter Tryd.func22, Tryd.ntmps22
    go_wp2
    go_step3
    go_wp2
    try rw [Exit.noGoto_ret]
    go_ret
    exact ⟨rfl, Below.refl _ _⟩
set_option maxHeartbeats 1000000 in
theorem class_let (r : Int) (w : World) (hT : Tabs w) (h1 : r < 48 ∨ (57 < r ∧ r < 1632) ∨ (1641 < r ∧ r < 19968) ∨ (40959 < r ∧ r < 44032) ∨ 55203 < r) :
    Calls Tryd.prog 22 #[.int .i32 r] w fun e w' => e = .returned (.int .i64 (classF r 13 0)) ∧ Below w.heap.size w w' := by
  obtain ⟨⟨tt, fr, hl⟩, t0, t1, t2, t3⟩ := hT
  have HL := Lib.hid hl
  clear hl
  rcases h1 with h | ⟨h, h'⟩ | ⟨h, h'⟩ | ⟨h, h'⟩ | h
  all_goals
    go_enter Tryd.func22, Tryd.ntmps22
    go_wp2_with fail
    go_step3
    go_wp2_with (refine wpList_load_row rfl 53 _ rfl 1 rfl tt _ fr _ HL.out Tryd.underlying53 rfl (by kernel_rfl) ?_)
    go_step3
    go_wp2_with (refine wpList_load_row rfl 53 _ rfl 1 rfl tt _ fr _ HL.out Tryd.underlying53 rfl (by kernel_rfl) ?_)
    go_loopw [3, 45] (fun c i wr => ∃ k : Nat, k ≤ 13 ∧ c = .int .i64 0 ∧ i = .int .i64 k ∧ classF r (13 - k) k = classF r 13 0 ∧ Below w.heap.size w wr) (fun _ i _ => 13 - (intOf i).toNat)
    case atStart => exact ⟨0, by omega, rfl, rfl, rfl, Below.refl _ _⟩
    case round =>
      obtain ⟨k, hk, rfl, rfl, hcl, hb⟩ := hrel
      by_cases hlt : k < 13
      · obtain ⟨f, hf⟩ : ∃ f, 13 - k = f + 1 := ⟨13 - k - 1, by omega⟩
        rw [hf, classF] at hcl
        have hI := fun wr => run_index_let k hlt wr
        by_cases h1 : r < loL k
        · rw [if_pos h1] at hcl
          go_wp2
          try rw [Exit.noGoto_ret]
          go_ret
          rw [← hcl]
          exact ⟨rfl, hb.alloc hb.size _⟩
        · rw [if_neg h1] at hcl
          by_cases h2 : r ≤ hiL k
          · rw [if_pos h2] at hcl
            go_wp2
            try rw [Exit.noGoto_ret]
            go_ret
            rw [← hcl]
            exact ⟨rfl, hb.alloc hb.size _⟩
          · rw [if_neg h2] at hcl
            go_wp2
            go_roundw
            case rel => exact ⟨k + 1, by omega, rfl, by go_num, by rw [show 13 - (k + 1) = f from by omega]; exact hcl, hb.alloc hb.size _⟩
            case measure => simp [intOf]; omega
      · go_wp2
        try rw [Exit.noGoto_ret]
        go_ret
        refine ⟨?_, hb⟩
        rw [show 13 - k = 0 from by omega] at hcl
        rw [← hcl]; rfl
set_option maxHeartbeats 1000000 in
theorem class_high (r : Int) (w : World) (hT : Tabs w) (h1 : (19968 ≤ r ∧ r ≤ 40959) ∨ (44032 ≤ r ∧ r ≤ 55203)) :
    Calls Tryd.prog 22 #[.int .i32 r] w fun e w' => e = .returned (.int .i64 1) ∧ Below w.heap.size w w' := by
  obtain ⟨_, t0, t1, t2, t3⟩ := hT
  rcases h1 with ⟨h, h'⟩ | ⟨h, h'⟩
  all_goals
    go_enter Tryd.func22, Tryd.ntmps22
    go_wp2
    go_step3
    go_wp2
    try rw [Exit.noGoto_ret]
    go_ret
    exact ⟨rfl, Below.refl _ _⟩
theorem class_any (r : Int) (w : World) (hT : Tabs w) :
    Calls Tryd.prog 22 #[.int .i32 r] w fun e w' => e = .returned (.int .i64 (classOf r)) ∧ Below w.heap.size w w' := by
  rw [classOf]
  by_cases h1 : (48 ≤ r ∧ r ≤ 57) ∨ (1632 ≤ r ∧ r ≤ 1641)
  · rw [if_pos h1]; exact class_dig r w h1
  · rw [if_neg h1]
    by_cases h2 : (19968 ≤ r ∧ r ≤ 40959) ∨ (44032 ≤ r ∧ r ≤ 55203)
    · rw [if_pos h2]; exact class_high r w hT h2
    · rw [if_neg h2]; exact class_let r w hT (by omega)
end Go.Proofs.YtmofhpebcbpccaaDoor
