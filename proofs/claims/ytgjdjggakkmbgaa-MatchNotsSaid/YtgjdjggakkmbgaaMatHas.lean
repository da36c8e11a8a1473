/- The walks of ref18's has and places. -/
import Derived.Test.YtgjdjggakkmbgaaRows
import Derived.Test.YtgjdjggakkmbgaaMatMem
namespace Go.Proofs.Ytgjdjggakkmbgaa
open Go.RowKit

theorem has_any (l : List Int) (x : Int) (A : Option Addr) (n c : Nat) (w : World) (hx : Reads w w.heap.size A n c (ints .i64 l)) (hn : n ≤ 1048576) :
    Calls Try.prog 28 #[.slice A n c, .int .i64 x] w fun e w' => e = .returned (.bool (decide (x ∈ l))) ∧ w = w' := by
  have lx : l.length = n := by simpa using hx.len
  have hcap := hx.cap
  have Lx := Lib.hid lx
  clear lx
  go_enter Try.func28, Try.ntmps28
  go_wp2
  go_loopw [8] (fun i wr => ∃ k : Nat, k ≤ n ∧ i = .int .i64 (k : Int) ∧ Hid (∀ j (h : j < l.length), j < k → l[j] ≠ x) ∧ w = wr) (fun i _ => n - (intOf i).toNat)
  case atStart => exact ⟨0, Nat.zero_le _, rfl, Lib.hid (fun j h hj => by omega), rfl⟩
  case round =>
    obtain ⟨k, hk, rfl, HN, rfl⟩ := hrel
    by_cases hlt : k < n
    · obtain ⟨ad, h1, rfl, hb, hc⟩ := hx.int hlt
      have hlt' : (k : Int) < (n : Int) := by omega
      have hk0 : (0 : Int) ≤ (k : Int) := by omega
      by_cases he : l[k] = x
      · have hb2 : (l[k] == x) = true := by simp [he]
        have Hs : Hid (decide (x ∈ l) = true) := Lib.hid (by simp only [decide_eq_true_eq]; rw [← he]; exact List.getElem_mem h1)
        clear he
        go_wp2
        go_ret
        exact ⟨by rw [Hs.out]; rfl, rfl⟩
      · have hb2 : (l[k] == x) = false := by simp [he]
        have HN2 : Hid (∀ j (h : j < l.length), j < k + 1 → l[j] ≠ x) := Lib.hid (fun j h hj => by
          by_cases e : j = k
          · subst e; exact he
          · exact HN.out j h (by omega))
        clear he
        go_wp2
        go_roundw
        case rel => exact ⟨k + 1, by omega, by go_num, HN2, by first | rfl | trivial⟩
        case measure => simp [intOf]; omega
    · have hlt' : ¬ (k : Int) < (n : Int) := by omega
      have Hs : Hid (decide (x ∈ l) = false) := Lib.hid (by
        simp only [decide_eq_false_iff_not]
        intro h
        obtain ⟨j, hj, e⟩ := List.getElem_of_mem h
        exact HN.out j hj (by have := Lx.out; omega) e)
      go_wp2
      go_ret
      exact ⟨by rw [Hs.out]; rfl, rfl⟩

theorem places_any (l : List Ent) (doc : Int) (A : Option Addr) (n c : Nat) (w : World) (hx : ReadsE w w.heap.size A n c l) (hn : n ≤ 1048576) :
    Calls Try.prog 27 #[.slice A n c, .int .i64 doc] w fun e w' => ∃ A' c', e = .returned (.slice A' (plcF (vals l) doc).length c') ∧ Reads w w.heap.size A' (plcF (vals l) doc).length c' (ints .i64 (plcF (vals l) doc)) ∧ w = w' := by
  have Hvl := Lib.hid hx.vlen
  have hcap := hx.row.cap
  go_enter Try.func27, Try.ntmps27
  go_wp2
  go_loopw [8] (fun i wr => ∃ k : Nat, k ≤ n ∧ i = .int .i64 (k : Int) ∧ Hid (∀ j, j < k → (enAt (vals l) j).1 ≠ doc) ∧ w = wr) (fun i _ => n - (intOf i).toNat)
  case atStart => exact ⟨0, Nat.zero_le _, rfl, Lib.hid (fun j hj => by omega), rfl⟩
  case round =>
    obtain ⟨k, hk, rfl, HN, rfl⟩ := hrel
    by_cases hlt : k < n
    · obtain ⟨ad, d, P, A', c', rfl, hb, hen, c0, c1, hP⟩ := hx.at' hlt
      have hlt' : (k : Int) < (n : Int) := by omega
      have hk0 : (0 : Int) ≤ (k : Int) := by omega
      by_cases he : d = doc
      · subst he
        have Hs : Hid (plcF (vals l) d = P) := Lib.hid (by
          have := plc_first (vals l) d k (by rw [Hvl.out]; exact hlt) (by rw [hen]) HN.out
          rw [this, hen])
        clear hen
        go_wp2
        go_ret
        rw [Hs.out]
        exact ⟨A', c', rfl, hP, rfl⟩
      · have hb2 : (d == doc) = false := by simp [he]
        have HN2 : Hid (∀ j, j < k + 1 → (enAt (vals l) j).1 ≠ doc) := Lib.hid (fun j hj => by
          by_cases e : j = k
          · subst e; rw [hen]; exact he
          · exact HN.out j (by omega))
        clear he hen
        go_wp2
        go_roundw
        case rel => exact ⟨k + 1, by omega, by go_num, HN2, by first | rfl | trivial⟩
        case measure => simp [intOf]; omega
    · have hlt' : ¬ (k : Int) < (n : Int) := by omega
      have Hs : Hid (plcF (vals l) doc = []) := Lib.hid (plc_none _ _ (fun j hj => HN.out j (by have := Hvl.out; omega)))
      go_wp2
      go_ret
      rw [Hs.out]
      exact ⟨none, 0, rfl, Reads.nil_ _ _, rfl⟩
end Go.Proofs.Ytgjdjggakkmbgaa
