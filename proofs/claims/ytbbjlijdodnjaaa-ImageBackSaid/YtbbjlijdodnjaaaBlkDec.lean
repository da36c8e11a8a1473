/- The walk of block.Decode. -/
import Derived.Test.YtbbjlijdodnjaaaBlkDecA
import Derived.Test.YtbbjlijdodnjaaaBlkDecB
namespace Go.Proofs.Ytbbjlijdodnjaaa
open Go.RowKit
set_option maxRecDepth 100000 in
set_option maxHeartbeats 20000000 in
theorem decO_any (cells : List Int) (hw : ∀ x ∈ cells, 0 ≤ x ∧ x < 4294967296) (A : Option Addr) (n c : Nat) (w : World) (hx : Reads w w.heap.size A n c (ints .u32 cells)) (hn : n ≤ 20000) :
    Calls Try.prog 24 #[.slice A n c] w fun e w' => ∃ (A' : Option Addr) (n' c' : Nat) (l : List Ent), e = .returned (.tuple #[.slice A' n' c', .int .i64 (decB cells).2]) ∧ ReadsE w' w'.heap.size A' n' c' l ∧ c' ≤ maxLen ∧ vals l = (decB cells).1 ∧ Below w.heap.size w w' ∧ OwnE w' w.heap.size (.slice A' n' c') l := by
  obtain ⟨i0, hi0, hz0, hz1, hz2⟩ := info_parts info_int
  obtain ⟨j0, hj0, hy0, hy1, hy2⟩ := info_parts info_ent
  have lx : cells.length = n := by simpa using hx.len
  by_cases h0 : n = 0
  · subst h0
    have HD := Lib.hid (decB_short (cells := cells) (fun h => h.1 (List.length_eq_zero_iff.1 lx)))
    clear lx
    go_enter Try.func24, Try.ntmps24
    go_wp2
    go_ret2
    exact ⟨none, 0, 0, [], by rw [HD.out]; rfl, ReadsE.nil_ _ _ _ _, Nat.zero_le _, by rw [HD.out]; rfl, Below.refl _ _, OwnE.nil_ _ _⟩
  · obtain ⟨ad, hl0, rfl, hb, hc0⟩ := hx.int (i := 0) (by omega)
    have hc0' : w.cell? ad = some (.int .u32 cells[0]) := by simpa [Addr.add] using hc0
    have hg0 : cells.getD 0 0 = cells[0] := by simp [List.getD, hl0]
    have hwx := hw _ (List.getElem_mem hl0)
    have hcap := hx.cap
    have hx0 : ((n : Int) == 0) = false := beq_false_of_ne (by omega)
    by_cases h64 : 64 < cells[0]
    · have HD := Lib.hid (decB_short (cells := cells) (fun h => by have := h.2.1; rw [hg0] at this; omega))
      clear lx hg0
      generalize cells[0] = x0 at *
      go_enter Try.func24, Try.ntmps24
      go_wp2
      go_ret2
      exact ⟨none, 0, 0, [], by rw [HD.out]; rfl, ReadsE.nil_ _ _ _ _, Nat.zero_le _, by rw [HD.out]; rfl, Below.refl _ _, OwnE.nil_ _ _⟩
    · obtain ⟨N, hN⟩ : ∃ N : Nat, cells[0] = (N : Int) := ⟨cells[0].toNat, by omega⟩
      have hN64 : N ≤ 64 := by omega
      have hfr : fromOf cells = 1 + (N + 3) / 4 := by rw [fromOf, hg0, hN]; rfl
      rw [hN] at hc0'
      by_cases hsh : n < 1 + (N + 3) / 4
      · have HD := Lib.hid (decB_short (cells := cells) (fun h => by have := h.2.2; rw [hfr] at this; omega))
        have hsh' : (n : Int) < 1 + ((N : Int) + 4 - 1) / 4 := by omega
        clear lx hg0 h64 hfr hN hsh hc0
        go_enter Try.func24, Try.ntmps24
        go_wp2
        go_ret2
        exact ⟨none, 0, 0, [], by rw [HD.out]; rfl, ReadsE.nil_ _ _ _ _, Nat.zero_le _, by rw [HD.out]; rfl, Below.refl _ _, OwnE.nil_ _ _⟩
      · by_cases hcf : c = 1 + (N + 3) / 4
        · exact dec_a cells hw ad n c w hx hn h0 N hl0 hN hN64 hsh hcf
        · exact dec_b cells hw ad n c w hx hn h0 N hl0 hN hN64 hsh hcf
theorem dec_any (cells : List Int) (hw : ∀ x ∈ cells, 0 ≤ x ∧ x < 4294967296) (A : Option Addr) (n c : Nat) (w : World) (hx : Reads w w.heap.size A n c (ints .u32 cells)) (hn : n ≤ 20000) :
    Calls Try.prog 24 #[.slice A n c] w fun e w' => ∃ (A' : Option Addr) (n' c' : Nat) (l : List Ent), e = .returned (.tuple #[.slice A' n' c', .int .i64 (decB cells).2]) ∧ ReadsE w' w'.heap.size A' n' c' l ∧ c' ≤ maxLen ∧ vals l = (decB cells).1 ∧ Below w.heap.size w w' := by
  refine (decO_any cells hw A n c w hx hn).mono ?_
  rintro e w' ⟨A', n', c', l, h1, h2, h3, h4, h5, _⟩
  exact ⟨A', n', c', l, h1, h2, h3, h4, h5⟩
end Go.Proofs.Ytbbjlijdodnjaaa
