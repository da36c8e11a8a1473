/- The walks of ref.Stops, ref.Stop. -/
import Derived.Test.YtmofhpebcbpccaaDoorTokStop
namespace Go.Proofs.YtmofhpebcbpccaaDoor
open Go.RowKit

def strs (l : List ByteArray) : List Value := l.map .string
theorem Reads.str {w : World} {B n c : Nat} {A : Option Addr} {l : List ByteArray} (h : Reads w B A n c (strs l)) {i : Nat} (hi : i < n) : ∃ (ad : Addr) (hl : i < l.length), A = some ad ∧ ad.block < B ∧ w.cell? (ad.add i) = some (.string l[i]) := by
  obtain ⟨ad, e, hb, hc⟩ := h.get hi
  have hl : i < l.length := by have := h.len; simp [strs] at this; omega
  exact ⟨ad, hl, e, hb, by rw [hc]; simp [strs]⟩
theorem built_reads (w : World) (e : TypeId) (cs : List Value) : Reads (w.alloc (.cells cs.toArray e)) (w.alloc (.cells cs.toArray e)).heap.size (some ⟨w.heap.size, 0, none⟩) cs.length cs.length cs := by
  refine ⟨rfl, Nat.le_refl _, fun _ => ⟨_, rfl, by simp, ?_⟩⟩
  exact World.news_of_block (cs := cs.toArray) (fr := (0, 0)) (heap_alloc_new w _)
def stopsB : List ByteArray := stopsL.map fun t => ⟨t.toArray⟩
theorem refStops_any (w : World) : Calls Tryd.prog 26 #[] w fun e w' => ∃ A, e = .returned (.slice A 17 17) ∧ Reads w' w'.heap.size A 17 17 (strs stopsB) ∧ Below w.heap.size w w' := by
  go_enter Tryd.func26, Tryd.ntmps26
  go_wp2
  go_ret
  exact ⟨_, rfl, built_reads w 9 (strs stopsB), (Below.refl _ _).alloc (Nat.le_refl _) _⟩
set_option maxHeartbeats 1000000 in
theorem refStop_any (s : ByteArray) (w : World) : Calls Tryd.prog 14 #[.string s] w fun e w' => e = .returned (.bool (isStop s)) ∧ Below w.heap.size w w' := by
  go_enter Tryd.func14, Tryd.ntmps14
  go_wp2_with fail
  refine (refStops_any _).mono ?_
  rintro e w1 ⟨A, rfl, hr, hb1⟩
  go_wp2_with fail
  go_loopw [8] (fun i wr => ∃ k : Nat, k ≤ 17 ∧ i = .int .i64 k ∧ Hid (∀ (j : Nat) (t : List UInt8), j < k → stopsL[j]? = some t → (s.toList == t) = false) ∧ Below w1.heap.size w1 wr) (fun i _ => 17 - (intOf i).toNat)
  case atStart => exact ⟨0, by omega, rfl, Lib.hid fun j t h => by omega, Below.refl _ _⟩
  case round =>
    obtain ⟨k, hk, rfl, HN, hb⟩ := hrel
    by_cases hlt : k < 17
    · obtain ⟨ad, hl, rfl, hbl, hc⟩ := (hr.below hb).str hlt
      have hl' : k < stopsL.length := by simpa [stopsB] using hl
      have he : (stopsB[k]).toList = stopsL[k] := by simp [stopsB]
      generalize hsB : stopsB[k] = b at hc he
      have hlt' : (k : Int) < 17 := by omega
      have hk0 : (0 : Int) ≤ (k : Int) := by omega
      clear hsB
      cases hq : (stopsL[k] == s.toList)
      · have hq' : (b.toList == s.toList) = false := by rw [he]; exact hq
        have HN' : Hid (∀ (j : Nat) (t : List UInt8), j < k + 1 → stopsL[j]? = some t → (s.toList == t) = false) := Lib.hid fun j t hj ht => by
          by_cases e : j = k
          · subst e
            rw [List.getElem?_eq_getElem hl'] at ht
            injection ht with ht
            rw [← ht]
            rw [beq_eq_false_iff_ne] at hq ⊢
            exact fun e => hq e.symm
          · exact HN.out j t (by omega) ht
        clear he hq
        go_wp2
        go_roundw
        case rel => exact ⟨k + 1, by omega, by go_num, HN', hb⟩
        case measure => simp [intOf]; omega
      · have hq' : (b.toList == s.toList) = true := by rw [he]; exact hq
        have hs : Hid (isStop s = true) := Lib.hid (List.any_eq_true.2 ⟨stopsL[k], List.getElem_mem hl', by rw [beq_iff_eq] at hq ⊢; exact hq.symm⟩)
        clear he hq
        go_wp2
        go_ret
        exact ⟨by rw [hs.out]; rfl, then_ hb1 hb⟩
    · have hs : Hid (isStop s = false) := Lib.hid (List.any_eq_false.2 fun t ht => by
        obtain ⟨j, hj, rfl⟩ := List.getElem_of_mem ht
        have := HN.out j _ (Nat.lt_of_lt_of_le hj (by simp [stopsL]; omega)) (List.getElem?_eq_getElem hj)
        simpa using this)
      obtain rfl : k = 17 := by omega
      go_wp2
      go_ret
      exact ⟨by rw [hs.out]; rfl, then_ hb1 hb⟩
end Go.Proofs.YtmofhpebcbpccaaDoor
