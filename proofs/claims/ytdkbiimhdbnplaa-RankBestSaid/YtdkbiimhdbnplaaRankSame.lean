/- The walks of ref20.Same (of one list twice), of ploverlaw20.fixed; rank's walks in the middle of a law. -/
import Derived.Test.YtdkbiimhdbnplaaRankRef
import Derived.Lib.SmallJoins
import Derived.Laws.OwnMore
namespace Go.Proofs.Ytdkbiimhdbnplaa
open Go.RowKit

set_option maxHeartbeats 1000000 in
theorem same_yes (l : List Sc) (A A' : Option Addr) (n c n' c' : Nat) (w : World) (hx : ReadsK 2 w w.heap.size A n c (l.flatMap hitC)) (hy : ReadsK 2 w w.heap.size A' n' c' (l.flatMap hitC)) (hn : n ≤ 1000000) :
    Calls Try.prog 12 #[.slice A n c, .slice A' n' c'] w fun e w' => e = .returned (.bool true) ∧ Below w.heap.size w w' := by
  have lx := hx.count hitC_len (by omega)
  have ly := hy.count hitC_len (by omega)
  obtain rfl : n' = n := by omega
  have HX := Lib.hid hx
  have HY := Lib.hid hy
  clear hx hy
  go_enter Try.func12, Try.ntmps12
  go_wp2
  go_loopw [13] (fun i wr => ∃ k : Nat, k ≤ n' ∧ i = .int .i64 k ∧ Below w.heap.size w wr) (fun i _ => n' - (intOf i).toNat)
  case atStart => exact ⟨0, by omega, rfl, Below.refl _ _⟩
  case round =>
    obtain ⟨k, hk, rfl, hB⟩ := hrel
    by_cases hlt : k < n'
    · obtain ⟨ad, hkl, rfl, hbl, c0, hcell⟩ := (HX.out.below hB).at' hitC_len (by omega) hlt
      obtain ⟨ad', hkl', rfl, hbl', d0, hcell'⟩ := (HY.out.below hB).at' hitC_len (by omega) hlt
      have c0 := c0 _ rfl
      have c1 := hcell 1 _ (by omega) rfl
      have d0 := d0 _ rfl
      have d1 := hcell' 1 _ (by omega) rfl
      clear hcell hcell'
      have hlt' : (k : Int) < (n' : Int) := by omega
      have hk0 : (0 : Int) ≤ (k : Int) := by omega
      generalize l[k] = x at *
      obtain ⟨d, id, s⟩ := x
      simp only at c0 c1 d0 d1
      have hid : (id != id) = false := by simp
      go_wp2
      go_quiet ((go_at_call 14; exact Calls.quiet_of_same ((refBits_any _ _).mono fun _ _ h => ⟨h.1, h.2.symm⟩)))
      go_wp2
      go_roundw
      case rel => exact ⟨k + 1, by omega, by go_num, by first | exact below_drewN hB _ | exact hB⟩
      case measure => simp [intOf]; omega
    · obtain rfl : k = n' := by omega
      go_wp2
      go_ret
      exact ⟨rfl, hB⟩

theorem reads_lit (k : Nat) (w : World) (e : TypeId) (us : List Value) (n : Nat) (h : us.length = n * k) : ReadsK k (w.alloc (.cells us.toArray e)) (w.heap.size + 1) (some ⟨w.heap.size, 0, none⟩) n n us :=
  ⟨h, Nat.le_refl _, fun _ => ⟨_, rfl, Nat.lt_succ_self _, fun j u hu => by
    have := cell_of_row (w.alloc (.cells us.toArray e)) w.heap.size j us.toArray e (0, 0) (heap_alloc_new w _)
    rw [List.getElem?_toArray, hu] at this
    rw [Addr.add_lit, Nat.zero_add]
    exact this⟩⟩
def exL : List Sc := [(1, 1, 4602678819172646912), (2, 2, 9221120237041090561), (3, 3, 4602678819172646912), (4, 4, 4611686018427387904)]
theorem exL_ok : ∀ x ∈ exL, ScOk x := by
  intro x hx
  simp only [exL, List.mem_cons, List.not_mem_nil, or_false] at hx
  rcases hx with rfl | rfl | rfl | rfl <;> exact ⟨by decide, by decide, by decide⟩
theorem exL_rank : topL 0 3 exL = [(4, 4, 4611686018427387904), (3, 3, 4602678819172646912), (1, 1, 4602678819172646912)] := by decide +kernel
theorem exL_new : topL 1 3 exL = [(4, 4, 4611686018427387904), (3, 3, 4602678819172646912), (2, 2, 9221120237041090561)] := by decide +kernel
section
variable {W w : World}
theorem top_go (l : List Sc) (A : Option Addr) (n c : Nat) (lim o : Int) (B : Nat) (hx : ReadsK 3 w B A n c (l.flatMap scC)) (hBw : B ≤ w.heap.size) (hsc : ∀ x ∈ l, ScOk x) (hn : n ≤ 100000) (hlim : -9223372036854775808 ≤ lim ∧ lim ≤ 9223372036854775807) (hb : Below W.heap.size W w) :
    Calls Try.prog 9 #[.slice A n c, .int .i64 lim, .int .i64 o] w fun e w' => ∃ v, e = .returned v ∧ w'.ownsRow w.heap.size 32 2 v (topL o lim.toNat l).length ((topL o lim.toNat l).flatMap hitC) ∧ Below w.heap.size w w' ∧ Below W.heap.size W w' :=
  (top_any l A n c lim o w (hx.more hBw) hsc hn hlim).mono fun _ _ ⟨v, h1, h2, h3⟩ => ⟨v, h1, h2, h3, hb.trans (h3.mono hb.size)⟩
end
set_option maxRecDepth 100000 in
set_option maxHeartbeats 2000000 in
theorem fixed_any (w : World) : Calls Try.prog 8 #[] w fun e w' => e = .returned (.bool true) ∧ Below w.heap.size w w' := by
  have hstf := store_float
  have hx := reads_lit 3 w 27 (exL.flatMap scC) 4 rfl
  go_enter Try.func8, Try.ntmps8
  go_wp2_with (go_at_call 15; refine (nan_any _).mono ?_; rintro e w' ⟨rfl, rfl⟩)
  refine (top_any exL (some ⟨w.heap.size, 0, none⟩) 4 4 3 0 (w.alloc (.cells (exL.flatMap scC).toArray 27)) (hx.more (by simp)) exL_ok (by omega) (by omega)).mono ?_
  rw [show (3 : Int).toNat = 3 from rfl, exL_rank]
  rintro e w1 ⟨v1, rfl, hown1, hb1⟩
  go_wp2_with fail
  refine (top_any exL (some ⟨w.heap.size, 0, none⟩) 4 4 3 1 w1 ((hx.below (hb1.mono (by simp))).more (by have := hb1.size; simpa using this)) exL_ok (by omega) (by omega)).mono ?_
  rw [show (3 : Int).toNat = 3 from rfl, exL_new]
  rintro e w2 ⟨v2, rfl, hown2, hb2⟩
  change w1.ownsRow _ _ 2 v1 3 _ at hown1
  change w2.ownsRow _ _ 2 v2 3 _ at hown2
  obtain ⟨g1, c1, rfl, -, -⟩ := hown1.form (by omega)
  obtain ⟨g2, c2, rfl, -, -⟩ := hown2.form (by omega)
  have hown1' := ownsRow_below hown1 hb2
  have a0 : w2.cell? ⟨g1, 0, none⟩ = some (.int .u32 4) := hown1'.cellAt 0 (by decide)
  have a1 : w2.cell? ⟨g1, 2, none⟩ = some (.int .u32 3) := hown1'.cellAt 2 (by decide)
  have a2 : w2.cell? ⟨g1, 4, none⟩ = some (.int .u32 1) := hown1'.cellAt 4 (by decide)
  have b0 : w2.cell? ⟨g2, 0, none⟩ = some (.int .u32 4) := hown2.cellAt 0 (by decide)
  have b1 : w2.cell? ⟨g2, 2, none⟩ = some (.int .u32 3) := hown2.cellAt 2 (by decide)
  have b2 : w2.cell? ⟨g2, 4, none⟩ = some (.int .u32 2) := hown2.cellAt 4 (by decide)
  go_wp2
  go_ret
  exact ⟨rfl, then_ (then_ (al_ (Below.refl _ _) _) hb1) hb2⟩
end Go.Proofs.Ytdkbiimhdbnplaa
