/- MatchLeast, walked. -/
import Derived.Test.YtgjdjggakkmbgaaMatLawsA
import Derived.Test.YtgjdjggakkmbgaaMatPlain
namespace Go.Proofs.Ytgjdjggakkmbgaa
open Go.RowKit

set_option maxRecDepth 100000 in
set_option maxHeartbeats 8000000 in
theorem walkMatchLeast {w : World} (ts : List Tk) (A : Option Addr) (n c : Nat) (hx : ReadsT w w.heap.size A n c ts) (_ : c ≤ maxLen) (ls : List Ln) (A1 : Option Addr) (n1 c1 : Nat) (hy : ReadsL w w.heap.size A1 n1 c1 ls) (_ : c1 ≤ maxLen) :
    Calls Try.prog 7 #[.slice A n c, .slice A1 n1 c1] w fun e w' => e = .returned (.bool true) ∧ Below w.heap.size w w' := by
  have HR := right_any ls A n c A1 n1 c1 w hy
  have HF := fixed_any
  have htl := Lib.hid hx.tkLen
  have hll := Lib.hid hy.vlen
  have hcap1 := hy.row.cap
  go_enter Try.func7, Try.ntmps7
  go_wp2_with fail
  refine HR.mono ?_
  clear HR
  rintro e w1 ⟨rfl | ⟨rfl, hn, hn1, hM⟩, hb1⟩
  · go_wp2_with fail
    refine (HF _).mono ?_
    rintro e w2 ⟨rfl, hb2⟩
    go_wp2
    go_ret
    exact ⟨rfl, then_ hb1 hb2⟩
  · have HP := phrase_any ts ls A n c A1 n1 c1 w1 ((ReadsK.below hx hb1).more hb1.size) ((hy.below hb1).more hb1.size) hn hM
    have HRise := Lib.hid (found_rise (T := tkP ts) hM)
    have HMem := Lib.hid (fun f (hf : f ∈ phF (tkP ts) (lnV ls)) => found_mem hf)
    have hL64 := ph_len (T := tkP ts) hM
    have HM := Lib.hid hM
    clear hM
    generalize phF (tkP ts) (lnV ls) = L at *
    go_wp2_with fail
    refine HP.mono ?_
    clear HP
    rintro e w2 ⟨v2, rfl, hown2, hb2⟩
    have hB2 := then_ hb1 hb2
    obtain ⟨A2, c2, rfl, hr2, _, _⟩ := ReadsK.of_own hown2
    have hLc := hr2.cap
    clear hown2
    go_wp2_with fail
    go_loopw [5, 22] (fun was i wr => ∃ (k : Nat) (x : Int), k ≤ L.length ∧ i = .int .i64 (k : Int) ∧ was = .int .i64 x ∧ Hid (∀ j (h : j < L.length), k ≤ j → x < L[j].1) ∧ Below w.heap.size w wr ∧ Below w2.heap.size w2 wr) (fun _ i _ => L.length - (intOf i).toNat)
    case atStart => exact ⟨0, -1, by omega, rfl, rfl, Lib.hid (fun j h _ => by
      obtain ⟨_, h2, _, e, he, hfe, _⟩ := HMem.out L[j] (List.getElem_mem h)
      rw [hfe]
      show -1 < e.1
      obtain ⟨i, hi, rfl⟩ := List.getElem_of_mem he
      have h0 : 0 < (lnV ls).length := by
        rcases Nat.eq_zero_or_pos (lnV ls).length with h0 | h0
        · rw [List.getD, List.getElem?_eq_none (by omega)] at hi; simp at hi
        · exact h0
      have := (may_at HM.out 0 h0).doc i hi
      rw [enAt_get _ i hi] at this
      omega), hB2, Below.refl _ _⟩
    case round =>
      obtain ⟨k, x, hk, rfl, rfl, HX, hB, hB22⟩ := hrel
      by_cases hlt : k < L.length
      · have hlt' : (k : Int) < (L.length : Int) := by omega
        have hk0 : (0 : Int) ≤ (k : Int) := by omega
        obtain ⟨ad, hl0, rfl, hbd, d0, d1⟩ := (hr2.below hB22).fd hlt
        have hxd := HX.out k hl0 (Nat.le_refl _)
        obtain ⟨hT0, hTL, _, e, he, hfe, htp⟩ := HMem.out L[k] (List.getElem_mem hl0)
        have HX2 : Hid (∀ j (h : j < L.length), k + 1 ≤ j → L[k].1 < L[j].1) := Lib.hid (fun j h hj => List.pairwise_iff_getElem.1 HRise.out k j hl0 h (by omega))
        have Hle := Lib.hid (fun j (hj : j < n1) => times_le HM.out L[k].1 (by rw [hll.out]; omega) j (by rw [hTL, hll.out]; exact hj))
        have hL2 : L[k].2 = (timesF (tkP ts) (lnV ls) L[k].1 : Nat) := by rw [hfe]
        have htp' : 0 < timesF (tkP ts) (lnV ls) L[k].1 := by rw [hfe]; exact htp
        generalize timesF (tkP ts) (lnV ls) L[k].1 = tm at *
        generalize L[k] = f at *
        obtain ⟨fd, ft⟩ := f
        simp only at hxd hL2 d0 d1 HX2
        subst hL2
        have hBa : Below w.heap.size w (wr.alloc (.cells #[.int .i64 fd, .int .i64 (tm : Int)] 44)) := hB.alloc hB.size _
        have hBa2 : Below w2.heap.size w2 (wr.alloc (.cells #[.int .i64 fd, .int .i64 (tm : Int)] 44)) := hB22.alloc hB22.size _
        have hrf := Row.new wr 44 [.int .i64 fd, .int .i64 (tm : Int)]
        obtain ⟨f0, hf0⟩ : ∃ f0, wr.heap.size = f0 := ⟨_, rfl⟩
        have hsf : (wr.alloc (.cells #[.int .i64 fd, .int .i64 (tm : Int)] 44)).heap.size = f0 + 1 := by simp [hf0]
        rw [hf0] at hrf
        have hwf : w.heap.size ≤ f0 := by have := hB.size; omega
        have h2f : w2.heap.size ≤ f0 := by have := hB22.size; omega
        have hd1 : ¬ fd ≤ x := by omega
        have hd2 : ¬ (tm : Int) < 1 := by omega
        clear hfe htp htp' he hT0
        go_wp2_with fail
        try rw [hf0]
        generalize wr.alloc (.cells #[.int .i64 fd, .int .i64 (tm : Int)] 44) = wf at *
        have Hf0 := Lib.hid hf0
        have Hsf := Lib.hid hsf
        clear hf0 hsf d0 d1
        go_loopw [39] (fun i wr2 => ∃ j : Nat, j ≤ n1 ∧ i = .int .i64 (j : Int) ∧ Below w.heap.size w wr2 ∧ Below w2.heap.size w2 wr2 ∧ Row wr2 f0 44 [.int .i64 fd, .int .i64 (tm : Int)]) (fun i _ => n1 - (intOf i).toNat)
        case atStart => exact ⟨0, by omega, rfl, hBa, hBa2, hrf⟩
        case round =>
          clear hrf hBa hBa2
          obtain ⟨j, hj, rfl, hB3, hB32, hrf⟩ := hrel
          by_cases hlt2 : j < n1
          · have hlt2' : (j : Int) < (n1 : Int) := by omega
            obtain ⟨al, A3, n3, c3, l3, rfl, hbl, cl, he3, hv3, _⟩ := (hy.below hB3).at' hlt2
            have hm3 := may_at HM.out j (by rw [hll.out]; exact hlt2)
            have Hm3 := Lib.hid hm3
            have hvl3 := he3.vlen
            rw [hv3] at hvl3
            have hn64 := hm3.len
            rw [hvl3] at hn64
            have Hvl3 := Lib.hid hvl3
            have htl9 := Hle.out j hlt2
            have Htl9 := Lib.hid htl9
            clear hm3 hvl3 htl9
            obtain ⟨wo, rfl⟩ : ∃ wo : World, wo = wr := ⟨_, rfl⟩
            go_wp2_with fail
            go_loopw [10, 45] (fun m i wr3 => ∃ t : Nat, t ≤ n3 ∧ i = .int .i64 (t : Int) ∧ m = .int .i64 (((plcF (((lnV ls).getD j []).take t) fd).length : Nat) : Int) ∧ Below w.heap.size w wr3 ∧ Below w2.heap.size w2 wr3 ∧ Row wr3 f0 44 [.int .i64 fd, .int .i64 (tm : Int)]) (fun _ i _ => n3 - (intOf i).toNat)
            case atStart => exact ⟨0, by omega, rfl, rfl, hB3, hB32, hrf⟩
            case round =>
              clear hrf
              obtain ⟨t, ht, rfl, rfl, hB4, hB42, hrf⟩ := hrel
              have q0 : wr.cell? ⟨f0, 0, none⟩ = some (.int .i64 fd) := hrf.cell 0
              have q1 : wr.cell? ⟨f0, 1, none⟩ = some (.int .i64 (tm : Int)) := hrf.cell 1
              by_cases hlt3 : t < n3
              · have hlt3' : (t : Int) < (n3 : Int) := by omega
                obtain ⟨ae, d, P, A5, c5, rfl, hbe, hen, e0, e1, _⟩ := (he3.keep (w' := wr) (fun p hp => (hB4.cell hp).trans (hB3.cell hp).symm)).at' hlt3
                rw [hv3] at hen
                have hB5 : Below w.heap.size w (wr.alloc (.cells #[.int .i64 d, .slice A5 P.length c5] 46)) := hB4.alloc hB4.size _
                have hB52 : Below w2.heap.size w2 (wr.alloc (.cells #[.int .i64 d, .slice A5 P.length c5] 46)) := hB42.alloc hB42.size _
                have hrf5 := hrf.alloc (.cells #[.int .i64 d, .slice A5 P.length c5] 46)
                have q05 : (wr.alloc (.cells #[.int .i64 d, .slice A5 P.length c5] 46)).cell? ⟨f0, 0, none⟩ = some (.int .i64 fd) := hrf5.cell 0
                by_cases hdf : d = fd
                · have hdf' : (d == fd) = true := by simp [hdf]
                  have HP2 : Hid (plcF (((lnV ls).getD j []).take (t + 1)) fd = P) := Lib.hid (by
                    have := plc_take_yes Hm3.out t (by rw [Hvl3.out]; exact hlt3)
                    rw [hen] at this
                    rw [← hdf]
                    exact this)
                  clear hdf hen
                  go_wp2
                  go_roundw
                  case rel => exact ⟨t + 1, by omega, by go_num, by rw [HP2.out], hB5, hB52, hrf5⟩
                  case measure => simp [intOf]; omega
                · have hdf' : (d == fd) = false := by simp [hdf]
                  have HP2 : Hid (plcF (((lnV ls).getD j []).take (t + 1)) fd = plcF (((lnV ls).getD j []).take t) fd) := Lib.hid (plc_take_no _ _ t (by rw [Hvl3.out]; exact hlt3) (by rw [hen]; exact hdf))
                  clear hdf hen
                  go_wp2
                  go_roundw
                  case rel => exact ⟨t + 1, by omega, by go_num, by rw [HP2.out], hB5, hB52, hrf5⟩
                  case measure => simp [intOf]; omega
              · have hlt3' : ¬ (t : Int) < (n3 : Int) := by omega
                obtain rfl : n3 = t := by omega
                have hpt : tm ≤ (plcF (((lnV ls).getD j []).take n3) fd).length := by rw [List.take_of_length_le (by rw [Hvl3.out]; exact Nat.le_refl _)]; exact Htl9.out
                generalize (plcF (((lnV ls).getD j []).take n3) fd).length = pl at *
                have hpt' : ¬ (pl : Int) < (tm : Int) := by omega
                go_wp2
                go_roundw
                case rel => exact ⟨j + 1, by omega, by go_num, hB4, hB42, hrf⟩
                case measure => simp [intOf]; omega
          · have hlt2' : ¬ (j : Int) < (n1 : Int) := by omega
            go_wp2
            go_roundw
            case rel => exact ⟨k + 1, fd, by omega, by go_num, rfl, HX2, hB3, hB32⟩
            case measure => simp [intOf]; omega
      · have hlt' : ¬ (k : Int) < (L.length : Int) := by omega
        go_wp2_with fail
        refine (HF _).mono ?_
        rintro e w9 ⟨rfl, hb9⟩
        go_wp2
        go_ret
        exact ⟨rfl, then_ hB hb9⟩
end Go.Proofs.Ytgjdjggakkmbgaa
