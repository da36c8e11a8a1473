/- The walks of ref01's At and Store. -/
import Derived.Test.YtdmeidibhapnbaaMemLaws
import Derived.RegionTactic
namespace Go.Proofs.Ytdmeidibhapnbaa
open Go.RowKit

def stCells (s : Int × Int) : List Value := [.int .i64 s.1, .int .u32 s.2]
theorem stCells_len (s : Int × Int) : (stCells s).length = 2 := rfl
/-- What was stored there last. -/
def lastOf (log : List (Int × Int)) (a : Int) : Int := log.foldl (fun r s => if s.1 = a then s.2 else r) 0
theorem lastOf_snoc (log : List (Int × Int)) (s : Int × Int) (a : Int) : lastOf (log ++ [s]) a = if s.1 = a then s.2 else lastOf log a := by
  simp [lastOf]

set_option maxHeartbeats 1000000 in
theorem at_any (a : Int) (N : Nat) (log : List (Int × Int)) (A : Option Addr) (n c : Nat) (lo : Int) (w : World) (hx : ReadsK 2 w w.heap.size A n c (log.flatMap stCells)) (hn : n ≤ 100000) (h : 0 ≤ a ∧ a < N) :
    Calls Try.prog 12 #[.agg #[.int .i64 N, .slice A n c, .int .i64 lo], .int .i64 a] w fun e w' => e = .returned (.tuple #[.int .u32 (lastOf log a), .bool true]) ∧ Below w.heap.size w w' := by
  obtain ⟨ha0, ha1⟩ := h
  have HL := Lib.hid (hx.count stCells_len (by omega))
  go_enter Try.func12, Try.ntmps12
  go_wp2
  go_loopw [6] (fun i wr => ∃ k : Nat, k ≤ n ∧ i = .int .i64 ((k : Int) - 1) ∧ Hid (lastOf (log.take k) a = lastOf log a) ∧ wr = w.alloc (.cells #[.int .i64 N, .slice A n c, .int .i64 lo] 30)) (fun i _ => (intOf i + 1).toNat)
  case atStart => exact ⟨n, Nat.le_refl _, rfl, by rw [← HL.out]; exact Lib.hid (by rw [List.take_length]), rfl⟩
  case round =>
    obtain ⟨k, hk, rfl, HT, rfl⟩ := hrel
    rcases Nat.eq_zero_or_pos k with rfl | hk0
    · go_wp2
      go_ret2
      have := HT.out
      rw [List.take_zero] at this
      rw [← this]
      exact ⟨rfl, (Below.refl _ _).alloc (Nat.le_refl _) _⟩
    · obtain ⟨j, rfl⟩ : ∃ j, k = j + 1 := ⟨k - 1, by omega⟩
      obtain ⟨ad, h1, rfl, hbl, c0, hcell⟩ := (hx.alloc (Nat.le_refl _) (.cells #[.int .i64 N, .slice A n c, .int .i64 lo] 30)).at' stCells_len (by omega) (show j < n by omega)
      have c0 := c0 _ rfl
      have c1 := hcell 1 _ (by omega) rfl
      clear hcell
      have e0 : ((j + 1 : Nat) : Int) - 1 = (j : Int) := by omega
      have hj : (j : Int) < (n : Int) := by omega
      have hj0 : (0 : Int) ≤ (j : Int) := by omega
      rw [e0]
      have HS := Lib.hid (List.take_succ_eq_append_getElem h1)
      have hT := HT.out
      rw [HS.out, lastOf_snoc] at hT
      clear e0
      generalize log[j] = X at *
      by_cases he : X.1 = a
      · rw [if_pos he] at hT
        have e1 : (X.1 == a) = true := by simp [he]
        have HT2 := Lib.hid hT
        clear he hT
        go_wp2
        go_ret2
        exact ⟨by rw [← HT2.out]; rfl, (Below.refl _ _).alloc (Nat.le_refl _) _⟩
      · rw [if_neg he] at hT
        have e1 : (X.1 == a) = false := by simp [he]
        have HT2 := Lib.hid hT
        clear he hT
        go_wp2
        go_roundw
        case rel => exact ⟨j, by omega, rfl, HT2, trivial⟩
        case measure => simp [intOf]
theorem at_no (a : Int) (N : Nat) (A : Option Addr) (n c : Nat) (lo : Int) (w : World) (h : a < 0 ∨ (N : Int) ≤ a) :
    Calls Try.prog 12 #[.agg #[.int .i64 N, .slice A n c, .int .i64 lo], .int .i64 a] w fun e w' => e = .returned (.tuple #[.int .u32 0, .bool false]) ∧ Below w.heap.size w w' := by
  rcases h with h | h
  · go_enter Try.func12, Try.ntmps12
    go_wp2
    go_ret2
    exact ⟨rfl, (Below.refl _ _).alloc (Nat.le_refl _) _⟩
  · have h' : ¬ a < 0 := by omega
    go_enter Try.func12, Try.ntmps12
    go_wp2
    go_ret2
    exact ⟨rfl, (Below.refl _ _).alloc (Nat.le_refl _) _⟩
theorem refStore_no (a v : Int) (N : Nat) (A : Option Addr) (n c : Nat) (lo : Int) (w : World) (h : a < 0 ∨ (N : Int) ≤ a) :
    Calls Try.prog 13 #[.agg #[.int .i64 N, .slice A n c, .int .i64 lo], .int .i64 a, .int .u32 v] w fun e w' => e = .returned (.tuple #[.int .i64 2, .agg #[.int .i64 N, .slice A n c, .int .i64 lo]]) ∧ Below w.heap.size w w' := by
  rcases h with h | h
  · go_enter Try.func13, Try.ntmps13
    go_wp2
    go_region
    all_goals
      go_wp2
      exact bodyPost_ret (v := .tuple #[.int .i64 2, .agg #[.int .i64 N, .slice A n c, .int .i64 lo]]) (by simp [results, Try.results13, go_sem]) rfl ⟨rfl, (((Below.refl _ _).alloc (Nat.le_refl _) _).alloc (by simp) _).drew⟩
  · have h' : ¬ a < 0 := by omega
    go_enter Try.func13, Try.ntmps13
    go_wp2
    go_region
    all_goals
      go_wp2
      exact bodyPost_ret (v := .tuple #[.int .i64 2, .agg #[.int .i64 N, .slice A n c, .int .i64 lo]]) (by simp [results, Try.results13, go_sem]) rfl ⟨rfl, (((Below.refl _ _).alloc (Nat.le_refl _) _).alloc (by simp) _).drew⟩

theorem info_st : (Try.prog.info? 56).map (fun i => (i.zero, i.size, i.bytes)) = some (some (.agg #[.int .i64 0, .int .u32 0]), 2, 16) := by kernel_rfl
theorem st_one (log : List (Int × Int)) : ∀ u ∈ log.flatMap stCells, u.oneCell' = true := by
  intro u hu
  simp only [List.mem_flatMap, stCells, List.mem_cons, List.not_mem_nil, or_false] at hu
  obtain ⟨s, _, rfl | rfl⟩ := hu <;> rfl

set_option maxHeartbeats 1000000 in
theorem refStore_ok (a v : Int) (N : Nat) (log : List (Int × Int)) (A : Option Addr) (n c : Nat) (lo : Int) (w : World) (hx : ReadsK 2 w w.heap.size A n c (log.flatMap stCells)) (hn : n ≤ 100000) (h : 0 ≤ a ∧ a < N) :
    Calls Try.prog 13 #[.agg #[.int .i64 N, .slice A n c, .int .i64 lo], .int .i64 a, .int .u32 v] w fun e w' => ∃ A' c', e = .returned (.tuple #[.int .i64 0, .agg #[.int .i64 N, .slice A' (n + 1) c', .int .i64 lo]]) ∧ ReadsK 2 w' w'.heap.size A' (n + 1) c' ((log ++ [(a, v)]).flatMap stCells) ∧ (∀ ad, A' = some ad → w.heap.size ≤ ad.block) ∧ Below w.heap.size w w' := by
  obtain ⟨ha0, ha1⟩ := h
  obtain ⟨i0, hi0, hz0, hz1, hz2⟩ := info_parts info_st
  go_enter Try.func13, Try.ntmps13
  have hx3 := ((hx.alloc (Nat.le_refl _) (.cells #[.int .i64 N, .slice A n c, .int .i64 lo] 30)).alloc (by simp) (.cells #[.int .i64 0, .slice none 0 0, .int .i64 0] 30)).alloc (by simp; omega) (.cells #[] 56)
  have own0 : (((w.alloc (.cells #[.int .i64 N, .slice A n c, .int .i64 lo] 30)).alloc (.cells #[.int .i64 0, .slice none 0 0, .int .i64 0] 30)).alloc (.cells #[] 56)).ownsRow (w.heap.size + 1 + 1) 56 2 (.slice (some ⟨w.heap.size + 1 + 1, 0, none⟩) 0 0) 0 [] :=
    ⟨rfl, .inr ⟨w.heap.size + 1 + 1, 0, #[], rfl, Nat.le_refl _, by
      have := heap_alloc_new ((w.alloc (.cells #[.int .i64 N, .slice A n c, .int .i64 lo] 30)).alloc (.cells #[.int .i64 0, .slice none 0 0, .int .i64 0] 30)) (.cells #[] 56)
      simpa using this, Nat.le_refl _, by simp [maxLen], rfl, rfl⟩⟩
  have hB0 : Below (w.heap.size + 1 + 1) ((w.alloc (.cells #[.int .i64 N, .slice A n c, .int .i64 lo] 30)).alloc (.cells #[.int .i64 0, .slice none 0 0, .int .i64 0] 30)) (((w.alloc (.cells #[.int .i64 N, .slice A n c, .int .i64 lo] 30)).alloc (.cells #[.int .i64 0, .slice none 0 0, .int .i64 0] 30)).alloc (.cells #[] 56)) := (Below.refl _ _).alloc (by simp) _
  go_wp2_with (first
    | (at_builtin; refine wpList_append_allK rfl (.tmp 19) (.tmp 21) 28 rfl (w.heap.size + 1 + 1) 56 i0 _ 2 16 Try.underlying28 hi0 hz0 hz1 hz2 rfl (by omega) _ 0 [] own0 w.heap.size A n c _ hx3 rfl rfl (st_one log) (by omega) (by omega) (by simp) ?_; intro v1 w1 hown1 hg1 _; have hB1 := below_grown hB0 own0 (Nat.le_refl _) (by simp) hg1)
    | (at_builtin; refine wpList_append_oneK rfl (.tmp 23) (.tmp 27) 28 rfl (w.heap.size + 1 + 1) 56 i0 _ 2 16 Try.underlying28 hi0 hz0 hz1 hz2 rfl (by omega) v1 (0 + n) _ [.int .i64 a, .int .u32 v] rfl hown1 rfl rfl (by simp [Value.oneCell']) (by omega) (by omega) (by have := hB1.size; simp at this; omega) ?_; intro v2 w2 hown2 hg2; simp only [Nat.zero_add, List.nil_append] at hown2; have hs1 := hB1.size; simp only [World.size_alloc] at hs1; have hB2 := below_grown hB1 hown1 (Nat.le_refl _) hs1 hg2; have hr0 := (((Row.new w 30 [.int .i64 N, .slice A n c, .int .i64 lo]).alloc (.cells #[.int .i64 0, .slice none 0 0, .int .i64 0] 30)).below hB2 (by omega)); have hr1 := ((Row.new (w.alloc (.cells #[.int .i64 N, .slice A n c, .int .i64 lo] 30)) 30 [.int .i64 0, .slice none 0 0, .int .i64 0]).below hB2 (by simp)); simp only [World.size_alloc] at hr1; have k0 : w2.cell? ⟨w.heap.size, 0, none⟩ = some (.int .i64 N) := hr0.cell 0; have k1 : w2.cell? ⟨w.heap.size, 1, none⟩ = some (.slice A n c) := hr0.cell 1; have k2 : w2.cell? ⟨w.heap.size, 2, none⟩ = some (.int .i64 lo) := hr0.cell 2; have f1 := hr0.frozen 1; have r0 : w2.cell? ⟨w.heap.size + 1, 0, none⟩ = some (.int .i64 0) := hr1.cell 0; have r1 : w2.cell? ⟨w.heap.size + 1, 1, none⟩ = some (.slice none 0 0) := hr1.cell 1; have r2 : w2.cell? ⟨w.heap.size + 1, 2, none⟩ = some (.int .i64 0) := hr1.cell 2; have g0 := hr1.frozen 0; have g1 := hr1.frozen 1; have g2 := hr1.frozen 2; obtain ⟨A2, c2, rfl, hr2, _, _⟩ := ReadsK.of_own hown2))
  have hfrom := own_from hown2
  go_region
  go_wp2
  have hs2 : w.heap.size + 1 + 1 ≤ w2.heap.size := by have := hB2.size; simpa using this
  refine bodyPost_ret (v := .tuple #[.int .i64 0, .agg #[.int .i64 N, .slice A2 (n + 1) c2, .int .i64 lo]]) (by simp [results, Try.results13, go_sem, r0, r1, r2]) rfl ⟨A2, c2, rfl, ?_, fun ad h => by have := hfrom ad h; omega, ?_⟩
  · have e1 : (log ++ [(a, v)]).flatMap stCells = log.flatMap stCells ++ [.int .i64 a, .int .u32 v] := by simp [stCells]
    rw [e1]
    have := ((((hr2.far (p := ⟨w.heap.size, 1, none⟩) (fun ad h => by have := hfrom ad h; simp; omega) (.slice A2 (n + 1) c2)).far (p := ⟨w.heap.size + 1, 0, none⟩) (fun ad h => by have := hfrom ad h; simp; omega) (.int .i64 N)).far (p := ⟨w.heap.size + 1, 1, none⟩) (fun ad h => by have := hfrom ad h; simp; omega) (.slice A2 (n + 1) c2)).far (p := ⟨w.heap.size + 1, 2, none⟩) (fun ad h => by have := hfrom ad h; simp; omega) (.int .i64 lo)).drew
    refine this.more ?_
    simp [World.setCell]
  · have hb : Below w.heap.size w w2 := ((((Below.refl _ _).alloc (Nat.le_refl _) _).alloc (by simp) _).trans (hB2.mono (by omega)))
    exact ((((hb.setCell (Nat.le_refl _) _).setCell (Nat.le_succ _) _).setCell (Nat.le_succ _) _).setCell (Nat.le_succ _) _).drew
end Go.Proofs.Ytdmeidibhapnbaa
