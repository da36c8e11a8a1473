/- The walk of ref.Cells. -/
import Derived.Test.YtbbjlijdodnjaaaPackCells
namespace Go.Proofs.Ytbbjlijdodnjaaa
open Go.RowKit

/-- What the inner loop has gathered after m steps, from byte i + 3 downwards. -/
def accW (l : List UInt8) (i : Nat) : Nat → Nat
  | 0 => 0
  | m + 1 => accW l i m * 256 + byteD l (i + (3 - m))
theorem accW_lt (l : List UInt8) (i m : Nat) : accW l i m < 256 ^ m := by
  induction m with
  | zero => simp [accW]
  | succ m ih =>
    have := byteD_lt l (i + (3 - m))
    rw [accW, Nat.pow_succ]
    omega
theorem accW_4 (l : List UInt8) (j : Nat) : accW l (4 * j) 4 = word4 l j := by
  simp only [accW, word4, show 4 * j + (3 - 0) = 4 * j + 3 from rfl, show 4 * j + (3 - 1) = 4 * j + 2 from rfl, show 4 * j + (3 - 2) = 4 * j + 1 from rfl, show 4 * j + (3 - 3) = 4 * j from rfl]
  omega
theorem cellsOf_snoc (l : List UInt8) (j : Nat) : cellsOf l (j + 1) = cellsOf l j ++ [(word4 l j : Int)] := by simp [cellsOf, List.range_succ]
theorem byteD_out (s : ByteArray) (k : Nat) (h : ¬ k < s.size) : byteD s.data.toList k = 0 := by
  have h' : s.data.size ≤ k := by have : ¬ k < s.data.size := h; omega
  unfold byteD
  rw [List.getD, Array.getElem?_toList, Array.getElem?_eq_none h']; rfl

set_option maxHeartbeats 800000 in
theorem refCells_any (s : ByteArray) (w : World) (hs : s.size ≤ 1048576) :
    Calls Try.prog 33 #[.string s] w fun e w' => ∃ v, e = .returned v ∧ w'.ownsRow w.heap.size 30 1 v ((s.size + 3) / 4) (ints .u32 (cellsOf s.data.toList ((s.size + 3) / 4))) ∧ Below w.heap.size w w' := by
  obtain ⟨i0, hi0, hz0, hz1, hz2⟩ := info_parts info_u32
  go_enter Try.func33, Try.ntmps33
  go_wp2
  go_loopw [3, 4] (fun v i wr => ∃ j : Nat, j ≤ (s.size + 3) / 4 ∧ i = .int .i64 ((4 * j : Nat) : Int) ∧ wr.ownsRow w.heap.size 30 1 v j (ints .u32 (cellsOf s.data.toList j)) ∧ Below w.heap.size w wr) (fun _ i _ => s.size + 4 - (intOf i).toNat)
  case atStart => exact ⟨0, Nat.zero_le _, rfl, built_new w _ [] (by simp), (Below.refl _ _).alloc (Nat.le_refl _) _⟩
  case round =>
    obtain ⟨j, hj, rfl, hown, hb⟩ := hrel
    have hsz := hb.size
    by_cases hlt : 4 * j < s.size
    · have hlt' : ((4 * j : Nat) : Int) < (s.size : Int) := by omega
      have HW := Lib.hid (accW_4 s.data.toList j)
      have HS := Lib.hid (cellsOf_snoc s.data.toList j)
      generalize hq : 4 * j = q at *
      have Hq := Lib.hid hq
      have hjq : 4 * j ≤ q := by omega
      have hqj : q ≤ 4 * j := by omega
      clear hq
      go_wp2
      go_loop [5, 6] (fun n k => ∃ m : Nat, m ≤ 4 ∧ k = .int .i64 (3 - (m : Int)) ∧ n = .int .u32 (accW s.data.toList q m : Nat)) (fun _ k => (intOf k + 1).toNat)
      case atStart => exact ⟨0, by omega, by simp, rfl⟩
      case round =>
        obtain ⟨m, hm, rfl, rfl⟩ := hrel
        have hacc := accW_lt s.data.toList q m
        by_cases hm4 : m < 4
        · have hm3 : (0 : Int) ≤ 3 - (m : Int) := by omega
          have hpow : accW s.data.toList q m < 16777216 := Nat.lt_of_lt_of_le hacc (by rcases (show m = 0 ∨ m = 1 ∨ m = 2 ∨ m = 3 from by omega) with rfl | rfl | rfl | rfl <;> decide)
          by_cases hin : q + (3 - m) < s.size
          · have Hb := Lib.hid (byteD_get s (q + (3 - m)) hin)
            have hin' : (q : Int) + (3 - (m : Int)) < (s.size : Int) := by omega
            clear hacc
            go_wp2
            go_round
            case rel =>
              have hby := (s[q + (3 - m)]'hin).toNat_lt
              have hb2 := Hb.out
              refine ⟨m + 1, by omega, by go_num, congrArg (Value.int .u32) ?_⟩
              rw [accW, hb2]
              omega
            case measure => simp [intOf]; omega
          · have Hb := Lib.hid (byteD_out s (q + (3 - m)) hin)
            have hin' : ¬ (q : Int) + (3 - (m : Int)) < (s.size : Int) := by omega
            clear hacc
            go_wp2
            go_round
            case rel =>
              have hb2 := Hb.out
              refine ⟨m + 1, by omega, by go_num, congrArg (Value.int .u32) ?_⟩
              rw [accW, hb2]
              omega
            case measure => simp [intOf]; omega
        · have hm4' : Hid (m = 4) := Lib.hid (by omega)
          have hneg : 3 - (m : Int) < 0 := by omega
          rw [hm4'.out, HW.out]
          go_wp2_with (at_builtin; refine wpList_append_one rfl _ _ 26 rfl w.heap.size 30 i0 (.int .u32 0) 4 Try.underlying26 hi0 hz0 hz1 hz2 rfl _ _ _ (.int .u32 (word4 s.data.toList j : Nat)) hown rfl rfl rfl (by omega) (by omega) hsz ?_; intro v2 w2 hown2 hg2)
          go_roundw
          case rel => exact ⟨j + 1, by omega, by go_num, by rw [HS.out, ints_append]; exact hown2, below_grown hb hown (Nat.le_refl _) hsz hg2⟩
          case measure => simp [intOf]; omega
    · have hlt' : ¬ ((4 * j : Nat) : Int) < (s.size : Int) := by omega
      have hjj : Hid (j = (s.size + 3) / 4) := Lib.hid (by omega)
      go_wp2
      go_ret
      refine ⟨_, rfl, ?_, hb⟩
      rw [← hjj.out]; exact hown
end Go.Proofs.Ytbbjlijdodnjaaa
