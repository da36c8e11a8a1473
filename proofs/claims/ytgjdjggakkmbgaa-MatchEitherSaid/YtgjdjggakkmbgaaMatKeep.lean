/- The walk of match.keep. -/
import Derived.Test.YtgjdjggakkmbgaaRows
import Derived.Test.YtgjdjggakkmbgaaNodeMem
import Derived.Test.YtgjdjggakkmbgaaEntInfo
namespace Go.Proofs.Ytgjdjggakkmbgaa
open Go.RowKit

theorem skip_nil (d : Int) : skipL [] d = [] := rfl
theorem skip_yes {f : Fd} {r : List Fd} {d : Int} (h : f.1 < d) : skipL (f :: r) d = skipL r d := by rw [skipL, List.dropWhile_cons_of_pos (by simpa using h)]; rfl
theorem skip_no {f : Fd} {r : List Fd} {d : Int} (h : ¬ f.1 < d) : skipL (f :: r) d = f :: r := by rw [skipL, List.dropWhile_cons_of_neg (by simpa using h)]
theorem hit_nil {l : List Fd} {d : Int} (h : skipL l d = []) : hitL l d = false := by rw [hitL, h]
theorem hit_cons {l r : List Fd} {f : Fd} {d : Int} (h : skipL l d = f :: r) : hitL l d = decide (f.1 = d) := by rw [hitL, h]
def lenV (v : Value) : Nat := match v with | .slice _ n _ => n | _ => 0

theorem ReadsK.tail2 {w : World} {B n c : Nat} {A : Option Addr} {f : Fd} {r : List Fd} (h : ReadsK 2 w B A n c ((f :: r).flatMap fdC)) : ∃ A', ReadsK 2 w B A' (n - 1) (c - 1) (r.flatMap fdC) ∧ A' = (if c = 1 then A else A.map (·.add (1 * 2))) := by
  have hn : r.length + 1 = n := by have := h.count fdC_len (by omega); simpa using this
  have := h.cut (m := 1) (by omega)
  exact ⟨_, by simpa [fdC] using this, rfl⟩
set_option maxRecDepth 100000 in
set_option maxHeartbeats 4000000 in
theorem keep_any (all : List Int) (l : List Fd) (A : Option Addr) (n c : Nat) (A1 : Option Addr) (n1 c1 : Nat) (B : Nat) (w : World) (hx : Reads w B A n c (ints .i64 all)) (hy : ReadsK 2 w B A1 n1 c1 (l.flatMap fdC)) (hB0 : B ≤ w.heap.size) (hn : n ≤ 1000) (hc1 : c1 ≤ maxLen) :
    Calls Try.prog 29 #[.slice A n c, .slice A1 n1 c1] w fun e w' => ∃ v, e = .returned v ∧ w'.ownsRow w.heap.size 3 1 v (keepF all l).length (ints .i64 (keepF all l)) ∧ Below w.heap.size w w' := by
  obtain ⟨i0, hi0, hz0, hz1, hz2⟩ := info_parts info_int
  have lx : all.length = n := by simpa using hx.len
  have hcap := hx.cap
  have Lx := Lib.hid lx
  have hkl : ∀ i, (keepS all l i).1.length ≤ i := fun i => by
    induction i with
    | zero => simp [keepS]
    | succ i ih => rw [keepS]; split <;> simp <;> omega
  have HKl := Lib.hid hkl
  clear lx hkl
  go_enter Try.func29, Try.ntmps29
  go_wp2_with fail
  go_loopw [1, 5, 10] (fun lv out i wr => ∃ (k : Nat) (A2 : Option Addr) (n2 c2 : Nat), k ≤ n ∧ i = .int .i64 (k : Int) ∧ lv = .slice A2 n2 c2 ∧ ReadsK 2 w B A2 n2 c2 ((keepS all l k).2.flatMap fdC) ∧ c2 ≤ maxLen ∧ wr.ownsRow w.heap.size 3 1 out (keepS all l k).1.length (ints .i64 (keepS all l k).1) ∧ Below w.heap.size w wr) (fun _ _ i _ => n - (intOf i).toNat)
  case atStart => exact ⟨0, A1, n1, c1, by omega, rfl, rfl, hy, hc1, World.ownsRow_nil _ _ _ _, Below.refl _ _⟩
  case round =>
    obtain ⟨k, A2, n2, c2, hk, rfl, rfl, hr2, hc2, ho, hB⟩ := hrel
    by_cases hlt : k < n
    · have hlt' : (k : Int) < (n : Int) := by omega
      have hk0 : (0 : Int) ≤ (k : Int) := by omega
      obtain ⟨ad, hl0, rfl, hbd, c0⟩ := ((hx.more hB0).below hB).int hlt
      have hg : all.getD k 0 = all[k] := by simp [List.getD, hl0]
      have hks : keepS all l (k + 1) = (if hitL (keepS all l k).2 all[k] = true then (keepS all l k).1 ++ [all[k]] else (keepS all l k).1, skipL (keepS all l k).2 all[k]) := by rw [keepS, hg]
      have hol := HKl.out k
      have Hks := Lib.hid hks
      clear hks hg
      generalize all[k] = d at *
      generalize keepS all l k = KS at *
      obtain ⟨O, L0⟩ := KS
      simp only at hr2 ho hol
      obtain ⟨wo, rfl⟩ : ∃ wo : World, wo = wr := ⟨_, rfl⟩
      go_wp2_with fail
      go_loopw [1] (fun lv wr2 => ∃ (A3 : Option Addr) (n3 c3 : Nat) (L : List Fd), lv = .slice A3 n3 c3 ∧ ReadsK 2 w B A3 n3 c3 (L.flatMap fdC) ∧ c3 ≤ maxLen ∧ Hid (skipL L d = skipL L0 d) ∧ wo = wr2) (fun lv _ => lenV lv)
      case atStart => exact ⟨A2, n2, c2, L0, rfl, hr2, hc2, Lib.hid rfl, by first | rfl | trivial⟩
      case round =>
        clear hr2 hc2
        obtain ⟨A3, n3, c3, L, rfl, hr3, hc3, HS, rfl⟩ := hrel
        have hcap3 := hr3.cap
        have hn3 := hr3.count fdC_len (by omega)
        cases L with
        | nil =>
          obtain rfl : n3 = 0 := by simpa using hn3.symm
          have HS2 : Hid (skipL L0 d = []) := Lib.hid (by rw [← HS.out]; rfl)
          have HF : Hid (keepS all l (k + 1) = (O, [])) := Lib.hid (by rw [Hks.out, hit_nil HS2.out, HS2.out]; simp)
          go_wp2
          go_roundw
          case rel => exact ⟨k + 1, A3, 0, c3, by omega, by go_num, rfl, by rw [HF.out]; exact hr3, hc3, by rw [HF.out]; exact ho, hB⟩
          case measure => simp [intOf]; omega
        | cons f r =>
          obtain ⟨m, hm⟩ : ∃ m, r.length = m := ⟨_, rfl⟩
          obtain rfl : n3 = m + 1 := by simpa [hm] using hn3.symm
          have Hm := Lib.hid hm
          clear hn3 hm
          obtain ⟨ad3, hl3, rfl, hb3, f0, f1⟩ := hr3.fd (i := 0) (by omega)
          have f0 : w.cell? ad3 = some (.int .i64 f.1) := by simpa [Addr.add] using f0
          have f0w : wo.cell? ad3 = some (.int .i64 f.1) := (hB.cell (by omega)).trans f0
          have hn0 : (0 : Int) < (m : Int) + 1 := by omega
          by_cases hfd : f.1 < d
          · obtain ⟨A', hr', hA'⟩ := hr3.tail2
            have HS2 : Hid (skipL r d = skipL L0 d) := Lib.hid (by rw [← HS.out, skip_yes hfd])
            have h1n : (1 : Int) ≤ (m : Int) + 1 := by omega
            have h1c : (1 : Int) ≤ (c3 : Int) := by omega
            have hnc : (m : Int) + 1 ≤ (c3 : Int) := by omega
            by_cases hc31 : c3 = 1
            · subst hc31
              rw [if_pos rfl] at hA'
              subst hA'
              obtain rfl : m = 0 := by omega
              obtain rfl : r = [] := List.eq_nil_of_length_eq_zero Hm.out
              go_wp2
              exact ⟨⟨_, _, _, [], rfl, hr', Nat.zero_le _, HS2, trivial⟩, by simp [lenV]⟩
            · rw [if_neg hc31] at hA'
              subst hA'
              rw [Nat.add_sub_cancel] at hr'
              go_wp2
              exact ⟨⟨_, _, _, r, rfl, hr', by omega, HS2, trivial⟩, by simp [lenV]⟩
          · have HS2 : Hid (skipL L0 d = f :: r) := Lib.hid (by rw [← HS.out, skip_no hfd])
            have Hhit := Lib.hid (hit_cons HS2.out)
            by_cases hfe : f.1 = d
            · have hfe' : (f.1 == d) = true := by simp [hfe]
              have HF : Hid (keepS all l (k + 1) = (O ++ [d], f :: r)) := Lib.hid (by rw [Hks.out, Hhit.out, HS2.out, hfe]; simp)
              clear hfe
              go_wp2_with (at_builtin; refine wpList_append_oneB rfl (.tmp 38) (.tmp 40) 32 rfl w.heap.size 3 i0 _ 1 8 Try.underlying32 hi0 hz0 hz1 hz2 rfl (by omega) _ O.length _ [.int .i64 d] rfl ho rfl rfl (by simp [Value.oneCell']) (by omega) (by omega) hB.size ?_; intro v9 w9 hown9 hg9 hv9)
              have hB9 := below_grown hB ho (Nat.le_refl _) hB.size hg9
              go_roundw
              case rel => exact ⟨k + 1, some ad3, m + 1, c3, by omega, by go_num, rfl, by rw [HF.out]; exact hr3, hc3, by rw [HF.out, List.length_append]; simpa [ints] using hown9, hB9⟩
              case measure => simp [intOf]; omega
            · have hfe' : (f.1 == d) = false := by simp [hfe]
              have HF : Hid (keepS all l (k + 1) = (O, f :: r)) := Lib.hid (by rw [Hks.out, Hhit.out, HS2.out]; simp [hfe])
              clear hfe
              go_wp2
              go_roundw
              case rel => exact ⟨k + 1, some ad3, m + 1, c3, by omega, by go_num, rfl, by rw [HF.out]; exact hr3, hc3, by rw [HF.out]; exact ho, hB⟩
              case measure => simp [intOf]; omega
    · have hlt' : ¬ (k : Int) < (n : Int) := by omega
      obtain rfl : n = k := by omega
      have HF : Hid (keepF all l = (keepS all l n).1) := Lib.hid (by rw [keepF, Lx.out])
      go_wp2
      go_ret
      rw [HF.out]
      exact ⟨_, rfl, ho, hB⟩
end Go.Proofs.Ytgjdjggakkmbgaa
