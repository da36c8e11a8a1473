/- The walk of ref18.Phrase. -/
import Derived.Test.YtgjdjggakkmbgaaMatTimes
namespace Go.Proofs.Ytgjdjggakkmbgaa
open Go.RowKit

theorem info_fd : (Try.prog.info? 44).map (fun i => (i.zero, i.size, i.bytes)) = some (some (.agg #[.int .i64 0, .int .i64 0]), 2, 16) := by kernel_rfl
set_option maxRecDepth 100000 in
set_option maxHeartbeats 4000000 in
theorem refPhrase_any (ts : List Tk) (ls : List Ln) (A : Option Addr) (n c : Nat) (A1 : Option Addr) (n1 c1 : Nat) (w : World) (hx : ReadsT w w.heap.size A n c ts) (hy : ReadsL w w.heap.size A1 n1 c1 ls) (hn9 : n ≤ 20) (hM : ∀ V ∈ lnV ls, MayP V) :
    Calls Try.prog 12 #[.slice A n c, .slice A1 n1 c1] w fun e w' => ∃ v, e = .returned v ∧ w'.ownsRow w.heap.size 44 2 v (phF (tkP ts) (lnV ls)).length ((phF (tkP ts) (lnV ls)).flatMap fdC) ∧ Below w.heap.size w w' := by
  obtain ⟨i0, hi0, hz0, hz1, hz2⟩ := info_parts info_fd
  have hoE := own_empty w 44 2
  have hBe : Below w.heap.size w (w.alloc (.cells #[] 44)) := (Below.refl _ _).alloc (Nat.le_refl _) _
  have htl := Lib.hid hx.tkLen
  have hll := Lib.hid hy.vlen
  have hcap := hx.cap
  by_cases hno : n = 0 ∨ ¬ n = n1
  · have HP : Hid (phF (tkP ts) (lnV ls) = []) := Lib.hid (by
      rw [phF, if_pos]
      rcases hno with h | h
      · exact .inl (List.eq_nil_of_length_eq_zero (by rw [htl.out, h]))
      · exact .inr (.inl (by rw [htl.out, hll.out]; exact h)))
    by_cases h0 : n = 0
    · subst h0
      clear hno
      go_enter Try.func12, Try.ntmps12
      go_wp2
      go_ret
      rw [HP.out]
      exact ⟨_, rfl, by simpa using hoE, hBe⟩
    · have hx0 : ((n : Int) == 0) = false := beq_false_of_ne (by omega)
      have hne : ((n : Int) != (n1 : Int)) = true := by
        have : ¬ n = n1 := by rcases hno with h | h; exact absurd h h0; exact h
        simp; omega
      clear hno
      go_enter Try.func12, Try.ntmps12
      go_wp2
      go_ret
      rw [HP.out]
      exact ⟨_, rfl, by simpa using hoE, hBe⟩
  · obtain ⟨h0, hn1⟩ : ¬ n = 0 ∧ n = n1 := by omega
    subst hn1
    have hx0 : ((n : Int) == 0) = false := beq_false_of_ne (by omega)
    have HM := Lib.hid hM
    clear hno hM
    go_enter Try.func12, Try.ntmps12
    go_wp2_with fail
    have hx1 := hx.alloc (Nat.le_refl _) (.cells #[] 44)
    generalize hw0 : w.alloc (.cells #[] 44) = w0 at *
    have hs0 : w0.heap.size = w.heap.size + 1 := by rw [← hw0]; simp
    have Hw0 := Lib.hid hw0
    clear hw0
    go_loopw [23] (fun i wr => ∃ k : Nat, k ≤ n ∧ i = .int .i64 (k : Int) ∧ Hid (∀ j, j < k → 0 ≤ (tkP ts).getD j 0 ∧ (tkP ts).getD j 0 ≤ 65535) ∧ w0 = wr) (fun i _ => n - (intOf i).toNat)
    case atStart => exact ⟨0, by omega, rfl, Lib.hid (fun j hj => by omega), by first | rfl | trivial⟩
    case round =>
      obtain ⟨k, hk, rfl, HR, rfl⟩ := hrel
      by_cases hlt : k < n
      · have hlt' : (k : Int) < (n : Int) := by omega
        have hk0 : (0 : Int) ≤ (k : Int) := by omega
        obtain ⟨a0, f0, s0, rfl, hb0, hi1, _, _, c0⟩ := hx1.tk hlt
        obtain ⟨p, hp⟩ : ∃ p, (tkP ts).getD k 0 = p := ⟨_, rfl⟩
        rw [hp] at c0
        by_cases hbad : p < 0 ∨ 65535 < p
        · have HP : Hid (phF (tkP ts) (lnV ls) = []) := Lib.hid (by
            have hf : inRange (tkP ts) = false := by
              cases h : inRange (tkP ts) with
              | false => rfl
              | true =>
                have := range_at h k (by rw [htl.out]; exact hlt)
                omega
            rw [phF, if_pos (.inr (.inr hf))])
          rcases hbad with hb | hb
          · go_wp2
            go_ret
            rw [HP.out]
            exact ⟨_, rfl, by simpa using hoE, hBe⟩
          · have hb2 : ¬ p < 0 := by omega
            go_wp2
            go_ret
            rw [HP.out]
            exact ⟨_, rfl, by simpa using hoE, hBe⟩
        · have hb1 : ¬ p < 0 := by omega
          have hb2 : ¬ 65535 < p := by omega
          have HR2 : Hid (∀ j, j < k + 1 → 0 ≤ (tkP ts).getD j 0 ∧ (tkP ts).getD j 0 ≤ 65535) := Lib.hid (fun j hj => by
            by_cases e : j = k
            · subst e; rw [hp]; omega
            · exact HR.out j (by omega))
          clear hp
          go_wp2
          go_roundw
          case rel => exact ⟨k + 1, by omega, by go_num, HR2, by first | rfl | trivial⟩
          case measure => simp [intOf]; omega
      · have hlt' : ¬ (k : Int) < (n : Int) := by omega
        obtain rfl : n = k := by omega
        have hrg : inRange (tkP ts) = true := by
          rw [inRange, List.all_eq_true]
          intro t ht
          obtain ⟨j, hj, rfl⟩ := List.getElem_of_mem ht
          have := HR.out j (by rw [htl.out] at hj; exact hj)
          rw [List.getD, List.getElem?_eq_getElem hj] at this
          simpa using this
        have HP : Hid (phF (tkP ts) (lnV ls) = phP (tkP ts) (lnV ls) ((lnV ls).getD 0 []).length) := Lib.hid (by
          rw [phF, if_neg]
          rintro (h | h | h)
          · exact h0 (by rw [← htl.out, h]; rfl)
          · exact h (by rw [htl.out, hll.out])
          · rw [hrg] at h; cases h)
        have HRg := Lib.hid hrg
        clear hrg
        have hy0 : ReadsL w0 w.heap.size A1 n c1 ls := hy.keep (fun p hp => by rw [← Hw0.out]; exact World.cell?_alloc_lt w _ p hp)
        obtain ⟨al, A', n', c', l', rfl, hb1, cl, he1, hv1, _⟩ := hy0.at' (i := 0) (by omega)
        have cl0 : w0.cell? al = some (.slice A' n' c') := by simpa [Addr.add] using cl
        have hm0 := may_at HM.out 0 (by rw [hll.out]; omega)
        have hn64 := hm0.len
        have hvl := he1.vlen
        rw [hv1] at hvl
        rw [hvl] at hn64
        have Hvl := Lib.hid hvl
        have hal : al.block < w.heap.size := hb1
        clear hvl hm0 cl
        go_wp2_with fail
        go_loopw [5, 46] (fun out i wr => ∃ t : Nat, t ≤ n' ∧ i = .int .i64 (t : Int) ∧ wr.ownsRow w.heap.size 44 2 out (phP (tkP ts) (lnV ls) t).length ((phP (tkP ts) (lnV ls) t).flatMap fdC) ∧ Below w.heap.size w wr) (fun _ i _ => n' - (intOf i).toNat)
        case atStart => exact ⟨0, by omega, rfl, by simpa [phP] using hoE, hBe⟩
        case round =>
          clear hoE hBe
          obtain ⟨t, ht, rfl, ho, hB⟩ := hrel
          by_cases hlt3 : t < n'
          · have hlt3' : (t : Int) < (n' : Int) := by omega
            have ht0 : (0 : Int) ≤ (t : Int) := by omega
            have clr : wr.cell? al = some (.slice A' n' c') := (hB.cell hal).trans (by rw [← cl0, ← Hw0.out]; exact (World.cell?_alloc_lt w _ _ hal).symm)
            have her := he1.keep (w' := wr) (fun p hp => (hB.cell hp).trans (by rw [← Hw0.out]; exact (World.cell?_alloc_lt w _ p hp).symm))
            obtain ⟨ad, d, P, A2, c2, rfl, hbd, hen, d0, _, _⟩ := her.at' hlt3
            rw [hv1] at hen
            have HT := times_any ts ls d _ n c _ n c1 wr ((hx.below hB).more hB.size) ((hy.below hB).more hB.size) (by omega) rfl hn9 HRg.out HM.out
            have hps := phP_s (tkP ts) (lnV ls) t (by rw [Hvl.out]; exact hlt3)
            rw [hen, foundF] at hps
            simp only at hps
            have hpl := phP_len (tkP ts) (lnV ls) t
            generalize phP (tkP ts) (lnV ls) t = Ft at *
            generalize timesF (tkP ts) (lnV ls) d = tm at *
            have Hps := Lib.hid hps
            clear hps hen
            go_wp2_with fail
            refine HT.mono ?_
            clear HT
            rintro e w2 ⟨rfl, q, rfl⟩
            have hBd := below_drewN hB q
            have hod : (wr.drewN q).ownsRow w.heap.size 44 2 u5 Ft.length (Ft.flatMap fdC) := ho
            have clq : (wr.drewN q).cell? al = some (.slice (some ad) n' c') := clr
            have dq : (wr.drewN q).cell? (ad.add (t * 2)) = some (.int .i64 d) := d0
            clear ho hB clr d0 her
            by_cases h0 : 0 < tm
            · have h0' : (0 : Int) < (tm : Int) := by omega
              have HF : Hid (phP (tkP ts) (lnV ls) (t + 1) = Ft ++ [(d, (tm : Int))]) := Lib.hid (by rw [Hps.out, if_pos h0]; rfl)
              go_wp2_with (at_builtin; refine wpList_append_oneB rfl (.tmp 61) (.tmp 71) 27 rfl w.heap.size 44 i0 _ 2 16 Try.underlying27 hi0 hz0 hz1 hz2 rfl (by omega) _ Ft.length _ [.int .i64 d, .int .i64 (tm : Int)] rfl hod rfl rfl (by simp [Value.oneCell']) (by omega) (by omega) hBd.size ?_; intro v6 w6 hown6 hg6 hv6; have hB6 := below_grown hBd hod (Nat.le_refl _) hBd.size hg6)
              go_roundw
              case rel => exact ⟨t + 1, by omega, by go_num, by rw [HF.out, List.length_append]; simpa [fdC] using hown6, hB6⟩
              case measure => simp [intOf]; omega
            · have h0' : ¬ (0 : Int) < (tm : Int) := by omega
              have HF : Hid (phP (tkP ts) (lnV ls) (t + 1) = Ft) := Lib.hid (by rw [Hps.out, if_neg h0]; simp)
              go_wp2
              go_roundw
              case rel => exact ⟨t + 1, by omega, by go_num, by rw [HF.out]; exact hod, hBd⟩
              case measure => simp [intOf]; omega
          · have hlt3' : ¬ (t : Int) < (n' : Int) := by omega
            obtain rfl : n' = t := by omega
            have HF : Hid (phF (tkP ts) (lnV ls) = phP (tkP ts) (lnV ls) n') := Lib.hid (by rw [HP.out, Hvl.out])
            go_wp2
            go_ret
            rw [HF.out]
            exact ⟨_, rfl, ho, hB⟩
end Go.Proofs.Ytgjdjggakkmbgaa
