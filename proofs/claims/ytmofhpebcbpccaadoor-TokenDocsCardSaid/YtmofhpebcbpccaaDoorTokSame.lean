/- Words in memory; the walk of ref.Same over words. -/
import Derived.Test.YtmofhpebcbpccaaDoorTokRef
import Derived.Deep.RegionHeld3
namespace Go.Proofs.YtmofhpebcbpccaaDoor
open Go.RowKit

def tokC (x : Tok) : List Value := [.int .u8 x.1, .string x.2.1, .int .i64 x.2.2]
theorem tokC_len (x : Tok) : (tokC x).length = 3 := rfl
theorem tokC_one (l : List Tok) : ∀ u ∈ l.flatMap tokC, u.oneCell' = true := by
  intro u hu
  obtain ⟨x, _, hx⟩ := List.mem_flatMap.1 hu
  simp only [tokC, List.mem_cons, List.mem_nil_iff, or_false] at hx
  rcases hx with rfl | rfl | rfl <;> rfl
theorem info_tok : (Tryd.prog.info? 40).map (fun i => (i.zero, i.size, i.bytes)) = some (some (.agg #[.int .u8 0, .string ByteArray.empty, .int .i64 0]), 3, 32) := by kernel_rfl
theorem tok_eq0 (a b c d : Int) (s u : ByteArray) (w : World) : (Op.equalIn 10000 40 (.agg #[.int .u8 a, .string s, .int .i64 c]) (.agg #[.int .u8 b, .string u, .int .i64 d])).run Tryd.prog w = .ok (a == b && s.toList == u.toList && c == d) w := by
  have hS : Tryd.prog.underlying 40 = some (.struct (Tryd.prog.fieldsOf 40)) := by kernel_rfl
  have hp : Tryd.prog.stoodInHeld 40 = false := by kernel_rfl
  rw [show (10000 : Nat) = 9999 + 1 from rfl, run_equalIn_agg w 9999 40 _ _ hS hp]
  simp only [Program.fieldsOf, Tryd.underlying40]
  go_simp
  by_cases h1 : a = b
  · by_cases h2 : s.toList = u.toList
    · by_cases h3 : c = d
      · simp [h1, h2, h3]
      · simp [h1, h2, h3]
    · simp [h1, h2]
  · simp [h1]
theorem toList_inj (s u : ByteArray) : (s.toList == u.toList) = decide (s = u) := by
  rw [Bool.eq_iff_iff, Go.Lib.bytes_beq_iff, decide_eq_true_iff]
theorem tok_eq (x y : Tok) (w : World) : (Op.equalIn 10000 40 (.agg #[.int .u8 x.1, .string x.2.1, .int .i64 x.2.2]) (.agg #[.int .u8 y.1, .string y.2.1, .int .i64 y.2.2])).run Tryd.prog w = .ok (decide (x = y)) w := by
  rw [tok_eq0, toList_inj]
  congr 1
  rw [Bool.eq_iff_iff]
  obtain ⟨a, s, c⟩ := x
  obtain ⟨b, u, d⟩ := y
  simp [and_assoc]
theorem guardTok : Tryd.prog.eqGuardType Tryd.prog.depth 40 = false := by kernel_rfl

theorem taken_ne {xs ys : List Tok} {k : Nat} (hx : k < xs.length) (hy : k < ys.length) (h : xs[k] ≠ ys[k]) : xs ≠ ys := fun e => h (by subst e; rfl)
theorem taken_succ {xs ys : List Tok} {k : Nat} (hx : k < xs.length) (hy : k < ys.length) (h : xs.take k = ys.take k) (e : xs[k] = ys[k]) : xs.take (k + 1) = ys.take (k + 1) := by
  rw [List.take_succ_eq_append_getElem hx, List.take_succ_eq_append_getElem hy, h, e]
set_option maxHeartbeats 1000000 in
theorem same_any (xs ys : List Tok) (A A' : Option Addr) (n c n' c' : Nat) (w : World) (hx : ReadsK 3 w w.heap.size A n c (xs.flatMap tokC)) (hy : ReadsK 3 w w.heap.size A' n' c' (ys.flatMap tokC)) (hn : n ≤ 1048576) (hn' : n' ≤ 1048576) :
    Calls Tryd.prog 10 #[.slice A n c, .slice A' n' c'] w fun e w' => e = .returned (.bool (decide (xs = ys))) ∧ Below w.heap.size w w' := by
  have lx := hx.count tokC_len (by omega)
  have ly := hy.count tokC_len (by omega)
  by_cases hl : n = n'
  · subst hl
    have Lx := Lib.hid lx
    have Ly := Lib.hid ly
    clear lx ly
    go_enter Tryd.func10, Tryd.ntmps10
    go_wp2
    go_loopw [13] (fun i wr => ∃ k : Nat, k ≤ n ∧ i = .int .i64 k ∧ xs.take k = ys.take k ∧ ∃ q, wr = w.drewN q) (fun i _ => n - (intOf i).toNat)
    case atStart => exact ⟨0, Nat.zero_le _, rfl, rfl, 0, rfl⟩
    case round =>
      obtain ⟨k, hk, rfl, ht, q, rfl⟩ := hrel
      have Ht := Lib.hid ht
      clear ht
      by_cases hlt : k < n
      · obtain ⟨ad, h1, rfl, hb, c0, hcell⟩ := hx.at' tokC_len (by omega) hlt
        have c0 := c0 _ rfl
        have c1 := hcell 1 _ (by omega) rfl
        have c2 := hcell 2 _ (by omega) rfl
        clear hcell
        obtain ⟨ad', h1', rfl, hb', d0, hcell⟩ := hy.at' tokC_len (by omega) hlt
        have d0 := d0 _ rfl
        have d1 := hcell 1 _ (by omega) rfl
        have d2 := hcell 2 _ (by omega) rfl
        clear hcell
        have hlt' : (k : Int) < (n : Int) := by omega
        have hk0 : (0 : Int) ≤ (k : Int) := by omega
        have HX := Lib.hid (fun h => taken_succ h1 h1' Ht.out h)
        have HY := Lib.hid (taken_ne h1 h1')
        generalize hX : xs[k] = X at *
        generalize hY : ys[k] = Y at *
        obtain ⟨x0, x1, x2⟩ := X
        obtain ⟨y0, y1, y2⟩ := Y
        have hgd := guardTok
        have heq := tok_eq (x0, x1, x2) (y0, y1, y2)
        simp only at heq c0 c1 c2 d0 d1 d2
        go_wp2
        go_quiet (fail)
        generalize hq : (!decide (x0 = y0) || (!decide (x1 = y1) || !decide (x2 = y2))) = t
        clear heq hgd
        cases t
        · have Hs := Lib.hid (HX.out (by simp at hq; simp [hq]))
          clear hq
          go_wp2
          go_roundw
          case rel => exact ⟨k + 1, by omega, by go_num, Hs.out, _, rfl⟩
          case measure => simp [intOf]; omega
        · have Hs := Lib.hid (HY.out (by intro e; injection e with e1 e2; injection e2 with e2 e3; simp [e1, e2, e3] at hq))
          clear hq
          go_wp2
          go_ret
          exact ⟨by rw [decide_eq_false Hs.out]; rfl, below_drewN (below_drewN (Below.refl _ _) _) _⟩
      · have hkn : k = n := by omega
        have Hs : Hid (xs = ys) := by
          have := Ht.out
          rwa [List.take_of_length_le (by rw [Lx.out]; omega), List.take_of_length_le (by rw [Ly.out]; omega)] at this
        clear hkn
        go_wp2
        go_ret
        exact ⟨by rw [decide_eq_true Hs.out]; rfl, below_drewN (Below.refl _ _) _⟩
  · have Hs : Hid (xs ≠ ys) := fun e => hl (by rw [← lx, ← ly, e])
    have hne : ((n : Int) != (n' : Int)) = true := by simp; omega
    clear lx ly
    go_enter Tryd.func10, Tryd.ntmps10
    go_wp2
    go_ret
    exact ⟨by rw [decide_eq_false Hs.out]; rfl, Below.refl _ _⟩
end Go.Proofs.YtmofhpebcbpccaaDoor
