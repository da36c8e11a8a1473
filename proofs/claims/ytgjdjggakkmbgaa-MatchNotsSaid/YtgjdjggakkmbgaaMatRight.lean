/- The walk of law18's right. -/
import Derived.Test.YtgjdjggakkmbgaaRefMay
import Derived.Test.YtgjdjggakkmbgaaMatMem
namespace Go.Proofs.Ytgjdjggakkmbgaa
open Go.RowKit

set_option maxRecDepth 100000 in
set_option maxHeartbeats 4000000 in
theorem right_any (ls : List Ln) (A : Option Addr) (n c : Nat) (A1 : Option Addr) (n1 c1 : Nat) (w : World) (hy : ReadsL w w.heap.size A1 n1 c1 ls) :
    Calls Try.prog 8 #[.slice A n c, .slice A1 n1 c1] w fun e w' => (e = .returned (.bool false) ∨ (e = .returned (.bool true) ∧ n ≤ 20 ∧ n1 ≤ 20 ∧ ∀ V ∈ lnV ls, MayP V)) ∧ Below w.heap.size w w' := by
  have hll := Lib.hid hy.vlen
  have hcap := hy.row.cap
  by_cases hn : n ≤ 20 ∧ n1 ≤ 20
  · have h1 : ¬ (20 : Int) < (n : Int) := by omega
    have h2 : ¬ (20 : Int) < (n1 : Int) := by omega
    go_enter Try.func8, Try.ntmps8
    go_wp2_with fail
    go_loopw [5, 20] (fun s i wr => ∃ (k : Nat) (x : Int), k ≤ n1 ∧ i = .int .i64 (k : Int) ∧ s = .int .i64 x ∧ 0 ≤ x ∧ x ≤ 1000 ∧ Hid (∀ j, j < k → MayP ((lnV ls).getD j [])) ∧ Below w.heap.size w wr) (fun _ i _ => n1 - (intOf i).toNat)
    case atStart => exact ⟨0, 0, by omega, rfl, rfl, by omega, by omega, Lib.hid (fun j hj => by omega), Below.refl _ _⟩
    case round =>
      obtain ⟨k, x, hk, rfl, rfl, hx0, hx1, HM, hB⟩ := hrel
      by_cases hlt : k < n1
      · have hlt' : (k : Int) < (n1 : Int) := by omega
        have hk0 : (0 : Int) ≤ (k : Int) := by omega
        obtain ⟨al, A', n', c', l', rfl, hb1, cl, he, hv, _⟩ := (hy.below hB).at' hlt
        have hvl := he.vlen
        rw [hv] at hvl
        have HMay := refMay_any l' A' n' c' wr (he.more hB.size)
        rw [hv] at HMay
        by_cases h64 : 64 < n'
        · have h64' : (64 : Int) < (n' : Int) := by omega
          go_wp2
          go_ret
          exact ⟨.inl rfl, hB⟩
        · have h64' : ¬ (64 : Int) < (n' : Int) := by omega
          have Hvl := Lib.hid hvl
          clear hvl
          go_wp2_with fail
          refine HMay.mono ?_
          clear HMay
          rintro e w2 ⟨rfl, hb2⟩
          have hB2 := then_ hB hb2
          cases hm : mayL ((lnV ls).getD k []) with
          | false =>
            clear hm
            go_wp2
            go_ret
            exact ⟨.inl rfl, hB2⟩
          | true =>
            have hmp := may_parts hm
            have HMp := Lib.hid hmp
            have HM2 : Hid (∀ j, j < k + 1 → MayP ((lnV ls).getD j [])) := Lib.hid (fun j hj => by
              by_cases e : j = k
              · subst e; exact hmp
              · exact HM.out j (by omega))
            have he2 := he.keep (w' := w2) (fun p hp => (hB2.cell hp).trans (hB.cell hp).symm)
            clear hm hmp
            go_wp2_with fail
            go_loopw [5, 34] (fun s i wr2 => ∃ (t : Nat) (y : Int), t ≤ n' ∧ i = .int .i64 (t : Int) ∧ s = .int .i64 y ∧ 0 ≤ y ∧ y ≤ 1000 + 256 * (t : Int) ∧ Below w.heap.size w wr2) (fun _ i _ => n' - (intOf i).toNat)
            case atStart => exact ⟨0, x, by omega, rfl, rfl, by omega, by omega, hB2⟩
            case round =>
              obtain ⟨t, y, ht, rfl, rfl, hy0, hy1, hB3⟩ := hrel
              by_cases hlt2 : t < n'
              · have hlt2' : (t : Int) < (n' : Int) := by omega
                obtain ⟨ad, d, P, A2, c2, rfl, hbd, hen, e0, e1, _⟩ := (he2.keep (w' := wr) (fun p hp => (hB3.cell hp).trans (hB2.cell hp).symm)).at' hlt2
                rw [hv] at hen
                have hp9 := (HMp.out.pos t (by rw [Hvl.out]; exact hlt2)).2.1
                rw [hen] at hp9
                simp only at hp9
                have hBa : Below w.heap.size w (wr.alloc (.cells #[.int .i64 d, .slice A2 P.length c2] 46)) := hB3.alloc hB3.size _
                clear hen
                go_wp2
                go_roundw
                case rel => exact ⟨t + 1, y + P.length, by omega, by go_num, by go_num, by omega, by omega, hBa⟩
                case measure => simp [intOf]; omega
              · have hlt2' : ¬ (t : Int) < (n' : Int) := by omega
                by_cases hbig : 1000 < y
                · go_wp2
                  go_ret
                  exact ⟨.inl rfl, hB3⟩
                · go_wp2
                  go_roundw
                  case rel => exact ⟨k + 1, y, by omega, by go_num, rfl, by omega, by omega, HM2, hB3⟩
                  case measure => simp [intOf]; omega
      · have hlt' : ¬ (k : Int) < (n1 : Int) := by omega
        have Hall : Hid (∀ V ∈ lnV ls, MayP V) := Lib.hid (fun V hV => by
          obtain ⟨j, hj, rfl⟩ := List.getElem_of_mem hV
          have := HM.out j (by have := hll.out; omega)
          rwa [List.getD, List.getElem?_eq_getElem hj] at this)
        have hn2 := Lib.hid hn
        go_wp2
        go_ret
        first | exact ⟨.inr ⟨rfl, hn2.out.1, hn2.out.2, Hall.out⟩, hB⟩ | exact ⟨.inr ⟨rfl, Hall.out⟩, hB⟩
  · by_cases h1 : 20 < n
    · have h1' : (20 : Int) < (n : Int) := by omega
      go_enter Try.func8, Try.ntmps8
      go_wp2
      go_ret
      exact ⟨.inl rfl, Below.refl _ _⟩
    · have h1' : ¬ (20 : Int) < (n : Int) := by omega
      have h2' : (20 : Int) < (n1 : Int) := by omega
      clear hn
      go_enter Try.func8, Try.ntmps8
      go_wp2
      go_ret
      exact ⟨.inl rfl, Below.refl _ _⟩
end Go.Proofs.Ytgjdjggakkmbgaa
