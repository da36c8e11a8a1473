/- The walk of match.Phrase: printed by wip/bin/gen_matphrase.py. -/
import Derived.Test.YtgjdjggakkmbgaaMatEntry
import Derived.Test.YtgjdjggakkmbgaaMatRef
import Derived.Test.YtgjdjggakkmbgaaHand
namespace Go.Proofs.Ytgjdjggakkmbgaa
open Go.RowKit

/-- The entries of a document, list by list. -/
def RP (w : World) (Ls : List (List En)) (d : Int) (R : List Ent) : Prop := ∀ j (h : j < R.length), R[j].2.1 = d ∧ Reads w w.heap.size R[j].1.A R[j].1.n R[j].1.c (ints .i64 R[j].2.2) ∧ R[j].2.2 = plcF (Ls.getD j []) d
theorem RP.snoc {w : World} {Ls : List (List En)} {d : Int} {R : List Ent} (h : RP w Ls d R) (x : Ent) (h1 : x.2.1 = d) (h2 : Reads w w.heap.size x.1.A x.1.n x.1.c (ints .i64 x.2.2)) (h3 : x.2.2 = plcF (Ls.getD R.length []) d) : RP w Ls d (R ++ [x]) := fun j hj => by
  by_cases hl : j < R.length
  · rw [List.getElem_append_left hl]
    exact h j hl
  · obtain rfl : j = R.length := by rw [List.length_append] at hj; simp at hj; omega
    rw [List.getElem_append_right (Nat.le_refl _)]
    simp only [Nat.sub_self, List.getElem_cons_zero]
    exact ⟨h1, h2, h3⟩
/-- A document that one of the lists lacks is not found. -/
theorem times_none {T : List Int} {Ls : List (List En)} {d : Int} (k : Nat) (hk : k < T.length) (hn : plcF (Ls.getD k []) d = []) : timesF T Ls d = 0 := by
  rw [timesF, List.countP_eq_zero]
  intro p _
  rw [okM_no hk (by rw [hitK, hn]; simp)]
  simp

set_option maxRecDepth 100000 in
set_option maxHeartbeats 20000000 in
theorem phrase_any (ts : List Tk) (ls : List Ln) (A : Option Addr) (n c : Nat) (A1 : Option Addr) (n1 c1 : Nat) (w : World) (hx : ReadsT w w.heap.size A n c ts) (hy : ReadsL w w.heap.size A1 n1 c1 ls) (hn9 : n ≤ 20) (hM : ∀ V ∈ lnV ls, MayP V) :
    Calls Try.prog 11 #[.slice A n c, .slice A1 n1 c1] w fun e w' => ∃ v, e = .returned v ∧ w'.ownsRow w.heap.size 44 2 v (phF (tkP ts) (lnV ls)).length ((phF (tkP ts) (lnV ls)).flatMap fdC) ∧ Below w.heap.size w w' := by
  obtain ⟨i0, hi0, hz0, hz1, hz2⟩ := info_parts info_fd
  obtain ⟨j0, hj0, hy0, hy1, hy2⟩ := info_parts info_ent
  have htl := Lib.hid hx.tkLen
  have hll := Lib.hid hy.vlen
  have hcap := hx.cap
  by_cases hno : n = 0 ∨ ¬ n = n1
  · have HP : Hid (phF (tkP ts) (lnV ls) = []) := Lib.hid (by
      rw [phF, if_pos]
      rcases hno with h | h
      · exact .inl (List.eq_nil_of_length_eq_zero (by rw [htl.out, h]))
      · exact .inr (.inl (by rw [htl.out, hll.out]; exact h)))
    by_cases h0 : n = 0
    · subst h0
      clear hno
      go_enter Try.func11, Try.ntmps11
      go_wp2
      go_step3
      go_wp2
      try rw [Exit.noGoto_ret]
      go_ret
      rw [HP.out]
      exact ⟨_, rfl, World.ownsRow_nil _ _ _ _, Below.refl _ _⟩
    · have hx0 : ((n : Int) == 0) = false := beq_false_of_ne (by omega)
      have hne : ((n1 : Int) != (n : Int)) = true := by
        have : ¬ n = n1 := by rcases hno with h | h; exact absurd h h0; exact h
        simp; omega
      clear hno
      go_enter Try.func11, Try.ntmps11
      go_wp2
      go_step3
      go_wp2
      try rw [Exit.noGoto_ret]
      go_ret
      rw [HP.out]
      exact ⟨_, rfl, World.ownsRow_nil _ _ _ _, Below.refl _ _⟩
  · obtain ⟨h0, hn1⟩ : ¬ n = 0 ∧ n = n1 := by omega
    subst hn1
    have hx0 : ((n : Int) == 0) = false := beq_false_of_ne (by omega)
    have HM := Lib.hid hM
    clear hno hM
    go_enter Try.func11, Try.ntmps11
    go_wp2_with fail
    go_step3
    go_wp2_with fail
    go_loopw [34] (fun i wr => ∃ k : Nat, k ≤ n ∧ i = .int .i64 (k : Int) ∧ Hid (∀ j, j < k → 0 ≤ (tkP ts).getD j 0 ∧ (tkP ts).getD j 0 ≤ 65535) ∧ Below w.heap.size w wr) (fun i _ => n - (intOf i).toNat)
    case atStart => exact ⟨0, by omega, rfl, Lib.hid (fun j hj => by omega), Below.refl _ _⟩
    case round =>
      obtain ⟨k, hk, rfl, HR, hB⟩ := hrel
      by_cases hlt : k < n
      · have hlt' : (k : Int) < (n : Int) := by omega
        have hk0 : (0 : Int) ≤ (k : Int) := by omega
        obtain ⟨a0, f0, s0, rfl, hb0, hi1, t0, t1, c0⟩ := (ReadsK.below hx hB).tk hlt
        obtain ⟨p, hp⟩ : ∃ p, (tkP ts).getD k 0 = p := ⟨_, rfl⟩
        rw [hp] at c0
        have hBa : Below w.heap.size w (wr.alloc (.cells #[.int .u8 f0, .string s0, .int .i64 p] 41)) := hB.alloc hB.size _
        by_cases hbad : p < 0 ∨ 65535 < p
        · have HP : Hid (phF (tkP ts) (lnV ls) = []) := Lib.hid (by
            have hf : inRange (tkP ts) = false := by
              cases h : inRange (tkP ts) with
              | false => rfl
              | true =>
                have := range_at h k (by rw [htl.out]; exact hlt)
                omega
            rw [phF, if_pos (.inr (.inr hf))])
          rcases hbad with hb | hb
          · go_wp2
            try rw [Exit.noGoto_ret]
            go_ret
            rw [HP.out]
            exact ⟨_, rfl, World.ownsRow_nil _ _ _ _, hBa⟩
          · have hb2 : ¬ p < 0 := by omega
            go_wp2
            try rw [Exit.noGoto_ret]
            go_ret
            rw [HP.out]
            exact ⟨_, rfl, World.ownsRow_nil _ _ _ _, hBa⟩
        · have hb1 : ¬ p < 0 := by omega
          have hb2 : ¬ 65535 < p := by omega
          have HR2 : Hid (∀ j, j < k + 1 → 0 ≤ (tkP ts).getD j 0 ∧ (tkP ts).getD j 0 ≤ 65535) := Lib.hid (fun j hj => by
            by_cases e : j = k
            · subst e; rw [hp]; omega
            · exact HR.out j (by omega))
          clear hp
          go_wp2
          go_roundw
          case rel => exact ⟨k + 1, by omega, by go_num, HR2, hBa⟩
          case measure => simp [intOf]; omega
      · have hlt' : ¬ (k : Int) < (n : Int) := by omega
        obtain rfl : n = k := by omega
        have hrg : inRange (tkP ts) = true := by
          rw [inRange, List.all_eq_true]
          intro t ht
          obtain ⟨j, hj, rfl⟩ := List.getElem_of_mem ht
          have := HR.out j (by rw [htl.out] at hj; exact hj)
          rw [List.getD, List.getElem?_eq_getElem hj] at this
          simpa using this
        have HP : Hid (phF (tkP ts) (lnV ls) = phP (tkP ts) (lnV ls) ((lnV ls).getD 0 []).length) := Lib.hid (by
          rw [phF, if_neg]
          rintro (h | h | h)
          · exact h0 (by rw [← htl.out, h]; rfl)
          · exact h (by rw [htl.out, hll.out])
          · rw [hrg] at h; cases h)
        clear hrg
        obtain ⟨al, A', n', c', l', rfl, hb1, cl, he1, hv1, _⟩ := (hy.below hB).at' (i := 0) (by omega)
        have cl0 : wr.cell? al = some (.slice A' n' c') := by simpa [Addr.add] using cl
        have hm0 := may_at HM.out 0 (by rw [hll.out]; omega)
        have Hm0 := Lib.hid hm0
        have hn64 := hm0.len
        have hvl := he1.vlen
        rw [hv1] at hvl
        rw [hvl] at hn64
        have Hvl := Lib.hid hvl
        obtain ⟨a0, f0, s0, rfl, hb0, hi1, _, _, cp0⟩ := hx.tk (i := 0) (by omega)
        have h00 := HR.out 0 (by omega)
        generalize ht0 : (tkP ts).getD 0 0 = t0 at *
        have hc0 : w.cell? ⟨a0.block, a0.off + 2, none⟩ = some (.int .i64 t0) := by simpa [Addr.add] using cp0
        have Ht0 := Lib.hid ht0
        clear hvl hm0 cl ht0 cp0
        obtain ⟨w0, rfl⟩ : ∃ w0 : World, w0 = wr := ⟨_, rfl⟩
        have hB0 := hB
        go_wp2_with fail
        go_step3
        go_wp2_with fail
        go_loopw [7, 51] (fun out i wr => ∃ t : Nat, t ≤ n' ∧ i = .int .i64 (t : Int) ∧ wr.ownsRow w.heap.size 44 2 out (phP (tkP ts) (lnV ls) t).length ((phP (tkP ts) (lnV ls) t).flatMap fdC) ∧ Below w.heap.size w wr) (fun _ i _ => n' - (intOf i).toNat)
        case atStart => exact ⟨0, by omega, rfl, World.ownsRow_nil _ _ _ _, hB0⟩
        case round =>
          clear hB
          obtain ⟨t, ht, rfl, ho, hB⟩ := hrel
          by_cases hlt3 : t < n'
          · have hlt3' : (t : Int) < (n' : Int) := by omega
            have her := he1.keep (w' := wr) (fun p hp => (hB.cell hp).trans (hB0.cell hp).symm)
            obtain ⟨ad, d, P0, A2, c2, rfl, hbd, hen, e0, e1, hP0⟩ := her.at' hlt3
            rw [hv1] at hen
            have hPl : plcF ((lnV ls).getD 0 []) d = P0 := by
              have := plc_may Hm0.out d t (by rw [Hvl.out]; exact hlt3) (by rw [hen])
              rw [this, hen]
            have hdr := Hm0.out.doc t (by rw [Hvl.out]; exact hlt3)
            rw [hen] at hdr
            simp only at hdr
            obtain ⟨hP9, hPr, _⟩ := plc_ok Hm0.out d
            rw [hPl] at hP9 hPr
            have HPr := Lib.hid hPr
            have HPl := Lib.hid hPl
            have Hps := Lib.hid (phP_s (tkP ts) (lnV ls) t (by rw [Hvl.out]; exact hlt3))
            rw [hen, foundF] at Hps
            simp only at Hps
            have hpl := phP_len (tkP ts) (lnV ls) t
            generalize phP (tkP ts) (lnV ls) t = Ft at *
            obtain ⟨wo, rfl⟩ : ∃ wo : World, wo = wr := ⟨_, rfl⟩
            have hBf : Below w.heap.size w (wo.alloc (.cells #[.int .i64 d, .slice A2 P0.length c2] 46)) := hB.alloc hB.size _
            have hrf := Row.new wo 46 [.int .i64 d, .slice A2 P0.length c2]
            have hof := ho.alloc (.cells #[.int .i64 d, .slice A2 P0.length c2] 46)
            have hP0w : Reads w w.heap.size A2 P0.length c2 (ints .i64 P0) := hP0.keep (fun p hp => (hB.cell hp).symm)
            have hlo := ho.lt
            obtain ⟨f, hf⟩ : ∃ f, wo.heap.size = f := ⟨_, rfl⟩
            have hsf : (wo.alloc (.cells #[.int .i64 d, .slice A2 P0.length c2] 46)).heap.size = f + 1 := by simp [hf]
            have hwf : w.heap.size ≤ f := by have := hB.size; omega
            rw [hf] at hrf hlo
            have Hen := Lib.hid hen
            clear hen hPr hPl
            go_wp2_with fail
            try rw [hf]
            generalize hW : wo.alloc (.cells #[.int .i64 d, .slice A2 P0.length c2] 46) = wf at *
            have HW := Lib.hid hW
            have Hf := Lib.hid hf
            have Hsf := Lib.hid hsf
            clear hW hf hsf ho hB e0 e1 hP0 her
            go_step3
            go_wp2_with fail
            go_loopw [10, 57] (fun rest i wr3 => ∃ (k : Nat) (R : List Ent), k ≤ n ∧ i = .int .i64 (k : Int) ∧ R.length = k ∧ wr3.ownsRow (f + 1) 46 2 rest k (R.flatMap enC) ∧ Hid (RP w (lnV ls) d R) ∧ Below (f + 1) wf wr3) (fun _ i _ => n - (intOf i).toNat)
            case atStart => exact ⟨0, [], by omega, rfl, rfl, World.ownsRow_nil _ _ _ _, Lib.hid (fun j hj => by simp at hj), Below.refl _ _⟩
            case round =>
              obtain ⟨k, R, hk, rfl, hR, hoR, HRp, hB3⟩ := hrel
              have hBw : Below w.heap.size w wr := hBf.trans (hB3.mono (by omega))
              have hsw : f + 1 ≤ wr.heap.size := by have := hB3.size; have := Hsf.out; omega
              have hrow3 := hrf.below hB3 (by omega)
              by_cases hlt4 : k < n
              · have hlt4' : (k : Int) < (n : Int) := by omega
                obtain ⟨al3, A3, n3, c3, l3, e3, _, cl3, he3, hv3, _⟩ := (hy.below hBw).at' hlt4
                injection e3 with e3
                subst e3
                have q0 : wr.cell? ⟨f, 0, none⟩ = some (.int .i64 d) := hrow3.cell 0
                have hm3 := may_at HM.out k (by rw [hll.out]; exact hlt4)
                have HE := entry_any w.heap.size l3 d A3 n3 c3 wr he3 hBw.size (by rw [hv3]; exact hm3) hdr.1 hdr.2
                have Hm3 := Lib.hid hm3
                have Hn3 := Lib.hid he3.vlen
                rw [hv3] at HE Hn3
                clear hm3 hv3 he3
                go_wp2_with fail
                refine HE.mono ?_
                clear HE
                rintro e w5 ⟨⟨i5, A5, P5, c5, hi5, hen5, rfl, hr5⟩ | ⟨hno5, rfl⟩, hb5⟩
                · have hB5 : Below (f + 1) wf w5 := hB3.trans (hb5.mono hsw)
                  have hBw5 : Below w.heap.size w w5 := hBw.trans (hb5.mono hBw.size)
                  have hP5 : plcF ((lnV ls).getD k []) d = P5 := by
                    have := plc_may Hm3.out d i5 (by rw [Hn3.out]; exact hi5) (by rw [hen5])
                    rw [this, hen5]
                  have HRp2 : Hid (RP w (lnV ls) d (R ++ [(⟨A5, P5.length, c5⟩, (d, P5))])) := Lib.hid (HRp.out.snoc _ rfl (hr5.keep (fun p hp => (hBw.cell hp).symm)) (by rw [hR]; exact hP5.symm))
                  have hoR6 := (ownsRow_below hoR hb5).alloc (.cells #[.int .i64 d, .slice A5 P5.length c5] 46)
                  have hs5 : f + 1 ≤ w5.heap.size := by have := hb5.size; omega
                  have hB6 : Below (f + 1) wf (w5.alloc (.cells #[.int .i64 d, .slice A5 P5.length c5] 46)) := hB5.alloc hs5 _
                  have hs6 : f + 1 ≤ (w5.alloc (.cells #[.int .i64 d, .slice A5 P5.length c5] 46)).heap.size := by simp; omega
                  have HR2 := Lib.hid (show (R ++ [((⟨A5, P5.length, c5⟩ : Hd), (d, P5))]).length = k + 1 by rw [List.length_append, hR]; rfl)
                  clear hen5 hP5 hR
                  go_wp2_with (at_builtin; refine wpList_append_oneB rfl (.tmp 70) (.tmp 72) 42 rfl (f + 1) 46 j0 _ 2 32 Try.underlying42 hj0 hy0 hy1 hy2 rfl (by omega) _ k _ [.int .i64 d, .slice A5 P5.length c5] rfl hoR6 rfl (by rw [World.size_alloc]; rfl) (by simp [Value.oneCell']) (by omega) (by omega) hs6 ?_; intro v8 w8 hown8 hg8 hv8)
                  have hB8 := below_grown hB6 hoR6 (Nat.le_refl _) hs6 hg8
                  go_roundw
                  case rel => exact ⟨k + 1, R ++ [(⟨A5, P5.length, c5⟩, (d, P5))], by omega, by go_num, HR2.out, by simpa [enC] using hown8, HRp2, hB8⟩
                  case measure => simp [intOf]; omega
                · have hT0 : timesF (tkP ts) (lnV ls) d = 0 := times_none k (by rw [htl.out]; exact hlt4) (plc_none _ _ (fun j hj => hno5 j (by rw [Hn3.out] at hj; exact hj)))
                  have HF : Hid (phP (tkP ts) (lnV ls) (t + 1) = Ft) := Lib.hid (by rw [Hps.out, hT0]; simp)
                  have hB5 : Below (f + 1) wf w5 := hB3.trans (hb5.mono hsw)
                  have hBw5 : Below w.heap.size w w5 := hBw.trans (hb5.mono hBw.size)
                  have hBx : Below (f + 1) wf (w5.alloc (.cells #[.int .i64 0, .slice none 0 0] 46)) := hB5.alloc (by have := hb5.size; omega) _
                  have hBwx : Below w.heap.size w (w5.alloc (.cells #[.int .i64 0, .slice none 0 0] 46)) := hBw5.alloc hBw5.size _
                  have hox := ownsRow_below hof (show Below wf.heap.size wf _ by rw [Hsf.out]; exact hBx)
                  clear hT0 hno5
                  go_wp2
                  rw [Exit.noGoto_exit]
                  go_wp2
                  go_roundw
                  case rel => exact ⟨t + 1, by omega, by go_num, by rw [HF.out]; exact hox, hBwx⟩
                  case measure => simp [intOf]; omega
              · have hlt4' : ¬ (k : Int) < (n : Int) := by omega
                obtain rfl : n = k := by omega
                obtain ⟨w3, rfl⟩ : ∃ w3 : World, w3 = wr := ⟨_, rfl⟩
                obtain ⟨A6, c6, rfl, hrR, hc6, _⟩ := ReadsK.of_own hoR
                have q0 : w3.cell? ⟨f, 0, none⟩ = some (.int .i64 d) := hrow3.cell 0
                have q1 : w3.cell? ⟨f, 1, none⟩ = some (.slice A2 P0.length c2) := hrow3.cell 1
                have HTF : Hid (timesF (tkP ts) (lnV ls) d = P0.countP (fun p => okM (tkP ts) (lnV ls) d p n)) := Lib.hid (by rw [timesF, HPl.out, htl.out])
                have hrfq := hrow3
                go_wp2_with fail
                go_step3
                go_wp2_with fail
                go_loopw [15, 78] (fun cnt i wr4 => ∃ s : Nat, s ≤ P0.length ∧ i = .int .i64 (s : Int) ∧ cnt = .int .i64 (((P0.take s).countP (fun p => okM (tkP ts) (lnV ls) d p n) : Nat) : Int) ∧ Below w3.heap.size w3 wr4) (fun _ i _ => P0.length - (intOf i).toNat)
                case atStart => exact ⟨0, by omega, rfl, rfl, Below.refl _ _⟩
                case round =>
                  obtain ⟨s, hs, rfl, rfl, hB4⟩ := hrel
                  have hBw4 : Below w.heap.size w wr := hBw.trans (hB4.mono hBw.size)
                  have hcb : (P0.take s).countP (fun p => okM (tkP ts) (lnV ls) d p n) ≤ s := by
                    have h1 := List.countP_le_length (p := fun p => okM (tkP ts) (lnV ls) d p n) (l := P0.take s)
                    rw [List.length_take] at h1
                    omega
                  by_cases hlt5 : s < P0.length
                  · have hlt5' : (s : Int) < (P0.length : Int) := by omega
                    have HC := Lib.hid (count_s (fun p => okM (tkP ts) (lnV ls) d p n) P0 s hlt5)
                    obtain ⟨ap, hl0, rfl, _, cp⟩ := (hP0w.below hBw4).int hlt5
                    have hpr := HPr.out P0[s] (List.getElem_mem hl0)
                    generalize P0[s] = p at *
                    generalize hcnt : (P0.take s).countP (fun p => okM (tkP ts) (lnV ls) d p n) = cnt at *
                    have Hcnt := Lib.hid hcnt
                    have ct0 := (hBw4.cell (show (⟨a0.block, a0.off + 2, none⟩ : Addr).block < w.heap.size from hb0)).trans hc0
                    clear hcnt
                    obtain ⟨w4, rfl⟩ : ∃ w4 : World, w4 = wr := ⟨_, rfl⟩
                    go_wp2_with fail
                    go_loopw [90] (fun i wr5 => ∃ k : Nat, k ≤ n ∧ i = .int .i64 (k : Int) ∧ Hid (okM (tkP ts) (lnV ls) d p k = true) ∧ Below w4.heap.size w4 wr5) (fun i _ => n - (intOf i).toNat)
                    case atStart => exact ⟨0, by omega, rfl, Lib.hid rfl, Below.refl _ _⟩
                    case round =>
                      obtain ⟨k, hk, rfl, HOk, hB5⟩ := hrel
                      have hB35 : Below w3.heap.size w3 wr := hB4.trans (hB5.mono hB4.size)
                      have hBw5 : Below w.heap.size w wr := hBw4.trans (hB5.mono hBw4.size)
                      by_cases hlt6 : k < n
                      · have hlt6' : (k : Int) < (n : Int) := by omega
                        obtain ⟨aR, hlR, rfl, hbR, cR0, cR1⟩ := (hrR.below hB35).at' enC_len (by omega) hlt6
                        have cR0 := cR0 _ rfl
                        have cR1 := cR1 1 _ (by omega) rfl
                        obtain ⟨hRd, hRr, hRp⟩ := HRp.out k hlR
                        have hRl : R[k].2.2.length = R[k].1.n := by simpa using hRr.len
                        generalize R[k] = X at *
                        obtain ⟨⟨Ak, nk, ck⟩, ⟨dk, Pk⟩⟩ := X
                        simp only at hRd hRr hRp hRl cR0 cR1
                        subst hRd
                        obtain ⟨a02, f2, s2, e2, _, _, _, _, c4⟩ := hx.tk hlt6
                        injection e2 with e2
                        subst e2
                        have htk := HR.out k hlt6
                        obtain ⟨hk9, _, hkr⟩ := plc_ok (may_at HM.out k (by rw [hll.out]; exact hlt6)) dk
                        rw [← hRp] at hk9 hkr
                        have HOs := Lib.hid (okM_s (tkP ts) (lnV ls) dk p k)
                        have HHit : Hid (hitK (tkP ts) (lnV ls) dk p k = decide (p - t0 + (tkP ts).getD k 0 ∈ Pk)) := Lib.hid (by rw [hitK, offA, Ht0.out, hRp])
                        generalize (tkP ts).getD k 0 = tv at *
                        have hB6 : Below w4.heap.size w4 (wr.alloc (.cells #[.int .i64 dk, .slice Ak nk ck] 46)) := hB5.alloc hB5.size _
                        have hBw6 : Below w.heap.size w (wr.alloc (.cells #[.int .i64 dk, .slice Ak nk ck] 46)) := hBw5.alloc hBw5.size _
                        have hB36 : Below w3.heap.size w3 (wr.alloc (.cells #[.int .i64 dk, .slice Ak nk ck] 46)) := hB35.alloc hB35.size _
                        have hr6 := Row.new wr 46 [.int .i64 dk, .slice Ak nk ck]
                        have hw1 : IntKind.i64.wrap (p - t0 + tv) = p - t0 + tv := IntWalk.i64_in _ (by omega)
                        obtain ⟨hit, hhit⟩ : ∃ b, decide (p - t0 + tv ∈ Pk) = b := ⟨_, rfl⟩
                        rw [hhit] at HHit
                        go_wp2_with fail
                        obtain ⟨g6, hg6⟩ : ∃ g6, wr.heap.size = g6 := ⟨_, rfl⟩
                        try rw [hg6]
                        rw [hg6] at hr6
                        generalize wr.alloc (.cells #[.int .i64 dk, .slice Ak nk ck] 46) = w6 at *
                        have q6 : w6.drew.cell? ⟨g6, 1, none⟩ = some (.slice Ak nk ck) := hr6.cell 1
                        have c4d : w6.drew.cell? ⟨(a0.add (k * 3)).block, (a0.add (k * 3)).off + 2, none⟩ = some (.int .i64 tv) := (hBw6.cell (show (⟨(a0.add (k * 3)).block, (a0.add (k * 3)).off + 2, none⟩ : Addr).block < w.heap.size by show (a0.add (k * 3)).block < _; rw [Go.Proofs.Ytgjdjggakkmbgaa.add_block]; exact hb0)).trans c4
                        have HS := Lib.hid (search_any Pk (p - t0 + tv) Ak nk ck w6.drew (show Reads w6.drew w6.drew.heap.size Ak nk ck (ints .i64 Pk) from ((hRr.below hBw6).more hBw6.size).drew) hkr (by omega))
                        rw [hhit] at HS
                        have HHit2 := Lib.hid HHit.out
                        have hBd4 : Below w4.heap.size w4 w6.drew := hB6.drew
                        have hBd3 : Below w3.heap.size w3 w6.drew := hB36.drew
                        clear hr6 c4 hhit cR0 cR1 hRr hRl hRp hkr HHit hB6 hB36 hBw6
                        refine wp_region_open (S := (fun w' : World => w'.cell? ⟨g6, 1, none⟩ = some (.slice Ak nk ck) ∧ w'.cell? ⟨(a0.add (k * 3)).block, (a0.add (k * 3)).off + 2, none⟩ = some (.int .i64 tv))) #[false, false, false, false, false, false, false, false, false, false, false, false, false, false, false] 15 (by kernel_rfl) (by kernel_rfl) rfl (⟨q6, c4d⟩) (fun hHeld => ?_)
                        refine tk (i := 0) (v := ?_) rfl (by kernel_rfl) (by kernel_rfl) (by kernel_rfl) (Or.inl ⟨by rfl, ?_⟩) (by assumption) ?_; rotate_left 1
                        · intro w hSw; (try dsimp only at hSw); go_simp; try with_reducible rfl
                        try simp only [Act.put, List.getElem_toArray, List.getElem_cons_zero, List.setIfInBounds_toArray, List.set_cons_zero, List.set_cons_succ]
                        refine tk (i := 1) (v := ?_) rfl (by kernel_rfl) (by kernel_rfl) (by kernel_rfl) (Or.inl ⟨by rfl, ?_⟩) (by assumption) ?_; rotate_left 1
                        · intro w hSw; (try dsimp only at hSw); go_simp; try with_reducible rfl
                        try simp only [Act.put, List.getElem_toArray, List.getElem_cons_zero, List.getElem_cons_succ, List.setIfInBounds_toArray, List.set_cons_zero, List.set_cons_succ]
                        refine tk (i := 2) (v := ?_) rfl (by kernel_rfl) (by kernel_rfl) (by kernel_rfl) (Or.inl ⟨by rfl, ?_⟩) (by assumption) ?_; rotate_left 1
                        · intro w hSw; (try dsimp only at hSw); go_simp; try with_reducible rfl
                        try simp only [Act.put, List.getElem_toArray, List.getElem_cons_zero, List.getElem_cons_succ, List.setIfInBounds_toArray, List.set_cons_zero, List.set_cons_succ]
                        refine tk (i := 3) (v := ?_) rfl (by kernel_rfl) (by kernel_rfl) (by kernel_rfl) (Or.inl ⟨by rfl, ?_⟩) (by assumption) ?_; rotate_left 1
                        · intro w hSw; (try dsimp only at hSw); go_simp; try with_reducible rfl
                        try simp only [Act.put, List.getElem_toArray, List.getElem_cons_zero, List.getElem_cons_succ, List.setIfInBounds_toArray, List.set_cons_zero, List.set_cons_succ]
                        refine tk (i := 4) (v := ?_) rfl (by kernel_rfl) (by kernel_rfl) (by kernel_rfl) (Or.inl ⟨by rfl, ?_⟩) (by assumption) ?_; rotate_left 1
                        · intro w hSw; (try dsimp only at hSw); go_simp; try with_reducible rfl
                        try simp only [Act.put, List.getElem_toArray, List.getElem_cons_zero, List.getElem_cons_succ, List.setIfInBounds_toArray, List.set_cons_zero, List.set_cons_succ]
                        refine tk (i := 5) (v := ?_) rfl (by kernel_rfl) (by kernel_rfl) (by kernel_rfl) (Or.inl ⟨by rfl, ?_⟩) (by assumption) ?_; rotate_left 1
                        · intro w hSw; (try dsimp only at hSw); go_simp; try with_reducible rfl
                        try simp only [Act.put, List.getElem_toArray, List.getElem_cons_zero, List.getElem_cons_succ, List.setIfInBounds_toArray, List.set_cons_zero, List.set_cons_succ]
                        refine tk (i := 6) (v := ?_) rfl (by kernel_rfl) (by kernel_rfl) (by kernel_rfl) (Or.inl ⟨by rfl, ?_⟩) (by assumption) ?_; rotate_left 1
                        · intro w hSw; (try dsimp only at hSw); go_simp; try with_reducible rfl
                        try simp only [Act.put, List.getElem_toArray, List.getElem_cons_zero, List.getElem_cons_succ, List.setIfInBounds_toArray, List.set_cons_zero, List.set_cons_succ]
                        refine tk (i := 7) (v := ?_) rfl (by kernel_rfl) (by kernel_rfl) (by kernel_rfl) (Or.inl ⟨by rfl, ?_⟩) (by assumption) ?_; rotate_left 1
                        · intro w hSw; (try dsimp only at hSw); go_simp; try with_reducible rfl
                        try simp only [Act.put, List.getElem_toArray, List.getElem_cons_zero, List.getElem_cons_succ, List.setIfInBounds_toArray, List.set_cons_zero, List.set_cons_succ]
                        refine tk (i := 8) (v := ?_) rfl (by kernel_rfl) (by kernel_rfl) (by kernel_rfl) (Or.inl ⟨by rfl, ?_⟩) (by assumption) ?_; rotate_left 1
                        · intro w hSw; (try dsimp only at hSw); go_simp; try with_reducible rfl
                        try simp only [Act.put, List.getElem_toArray, List.getElem_cons_zero, List.getElem_cons_succ, List.setIfInBounds_toArray, List.set_cons_zero, List.set_cons_succ]
                        refine wpAnyH_ready (rs := [9]) (by kernel_rfl) (by simp) ?_
                        refine AllReadyH.cons (o := _) rfl (fun K hK => ?_) AllReadyH.nil
                        go_simp
                        go_at_call 19
                        refine HS.out.mono ?_
                        rintro e w9 ⟨i9, rfl, rfl⟩
                        refine hK.out _ _ hHeld (fun hHeld => ?_)
                        clear hK K
                        try simp only [List.setIfInBounds_toArray, List.set_cons_zero, List.set_cons_succ]
                        refine tk (i := 10) (v := ?_) rfl (by kernel_rfl) (by kernel_rfl) (by kernel_rfl) (Or.inl ⟨by rfl, ?_⟩) (by assumption) ?_; rotate_left 1
                        · intro w hSw; (try dsimp only at hSw); go_simp; try with_reducible rfl
                        try simp only [Act.put, List.getElem_toArray, List.getElem_cons_zero, List.getElem_cons_succ, List.setIfInBounds_toArray, List.set_cons_zero, List.set_cons_succ]
                        refine tk (i := 11) (v := ?_) rfl (by kernel_rfl) (by kernel_rfl) (by kernel_rfl) (Or.inl ⟨by rfl, ?_⟩) (by assumption) ?_; rotate_left 1
                        · intro w hSw; (try dsimp only at hSw); go_simp; try with_reducible rfl
                        try simp only [Act.put, List.getElem_toArray, List.getElem_cons_zero, List.getElem_cons_succ, List.setIfInBounds_toArray, List.set_cons_zero, List.set_cons_succ]
                        refine tk (i := 12) (v := ?_) rfl (by kernel_rfl) (by kernel_rfl) (by kernel_rfl) (Or.inl ⟨by rfl, ?_⟩) (by assumption) ?_; rotate_left 1
                        · intro w hSw; (try dsimp only at hSw); go_simp; try with_reducible rfl
                        try simp only [Act.put, List.getElem_toArray, List.getElem_cons_zero, List.getElem_cons_succ, List.setIfInBounds_toArray, List.set_cons_zero, List.set_cons_succ]
                        refine tk (i := 13) (v := ?_) rfl (by kernel_rfl) (by kernel_rfl) (by kernel_rfl) (Or.inl ⟨by rfl, ?_⟩) (by assumption) ?_; rotate_left 1
                        · intro w hSw; (try dsimp only at hSw); go_simp; try with_reducible rfl
                        try simp only [Act.put, List.getElem_toArray, List.getElem_cons_zero, List.getElem_cons_succ, List.setIfInBounds_toArray, List.set_cons_zero, List.set_cons_succ]
                        refine tk (i := 14) (v := ?_) rfl (by kernel_rfl) (by kernel_rfl) (by kernel_rfl) (Or.inl ⟨by rfl, ?_⟩) (by assumption) ?_; rotate_left 1
                        · intro w hSw; (try dsimp only at hSw); go_simp; try with_reducible rfl
                        try simp only [Act.put, List.getElem_toArray, List.getElem_cons_zero, List.getElem_cons_succ, List.setIfInBounds_toArray, List.set_cons_zero, List.set_cons_succ]
                        refine wpAnyH_done (by kernel_rfl) ?_ _
                        refine NoPanic.normal ?_
                        cases hit
                        · have HN : Hid (okM (tkP ts) (lnV ls) dk p n = false) := Lib.hid (okM_no hlt6 HHit2.out)
                          have HC2 : Hid ((P0.take (s + 1)).countP (fun p => okM (tkP ts) (lnV ls) dk p n) = cnt) := Lib.hid (by rw [HC.out, HN.out]; simp)
                          clear hHeld HS
                          go_wp2
                          go_roundw
                          case rel => exact ⟨s + 1, by omega, by go_num, by rw [HC2.out], hBd3⟩
                          case measure => simp [intOf]; omega
                        · have HN : Hid (okM (tkP ts) (lnV ls) dk p (k + 1) = true) := Lib.hid (by rw [HOs.out, HOk.out, HHit2.out]; rfl)
                          clear hHeld HS
                          go_wp2
                          go_roundw
                          case rel => exact ⟨k + 1, by omega, by go_num, HN, hBd4⟩
                          case measure => simp [intOf]; omega
                      · have hlt6' : ¬ (k : Int) < (n : Int) := by omega
                        obtain rfl : n = k := by omega
                        have HC2 : Hid ((P0.take (s + 1)).countP (fun p => okM (tkP ts) (lnV ls) d p n) = cnt + 1) := Lib.hid (by rw [HC.out, HOk.out]; simp)
                        go_wp2
                        go_roundw
                        case rel => exact ⟨s + 1, by omega, by go_num, by rw [HC2.out]; go_num, hB35⟩
                        case measure => simp [intOf]; omega
                  · have hlt5' : ¬ (s : Int) < (P0.length : Int) := by omega
                    have HT2 : Hid (timesF (tkP ts) (lnV ls) d = (P0.take s).countP (fun p => okM (tkP ts) (lnV ls) d p n)) := Lib.hid (by rw [HTF.out, List.take_of_length_le (by omega)])
                    generalize (P0.take s).countP (fun p => okM (tkP ts) (lnV ls) d p n) = cnt at *
                    have hBf4 : Below wf.heap.size wf wr := by
                      rw [Hsf.out]
                      exact hB3.trans (hB4.mono hsw)
                    have ho4 := ownsRow_below hof hBf4
                    have q04 := (hB4.cell (show (⟨f, 0, none⟩ : Addr).block < w3.heap.size from hsw)).trans q0
                    by_cases h0 : 0 < cnt
                    · have h0' : (0 : Int) < (cnt : Int) := by omega
                      have HF : Hid (phP (tkP ts) (lnV ls) (t + 1) = Ft ++ [(d, (cnt : Int))]) := Lib.hid (by rw [Hps.out, HT2.out, if_pos h0]; rfl)
                      go_wp2_with (at_builtin; refine wpList_append_oneB rfl (.tmp 116) (.tmp 121) 27 rfl w.heap.size 44 i0 _ 2 16 Try.underlying27 hi0 hz0 hz1 hz2 rfl (by omega) _ Ft.length _ [.int .i64 d, .int .i64 (cnt : Int)] rfl ho4 rfl rfl (by simp [Value.oneCell']) (by omega) (by omega) hBw4.size ?_; intro v9 w9 hown9 hg9 hv9)
                      have hB9 := below_grown hBw4 ho4 (Nat.le_refl _) hBw4.size hg9
                      try rw [Exit.noGoto_normal]
                      go_wp2
                      go_roundw
                      case rel => exact ⟨t + 1, by omega, by go_num, by rw [HF.out, List.length_append]; simpa [fdC] using hown9, hB9⟩
                      case measure => simp [intOf]; omega
                    · have h0' : ¬ (0 : Int) < (cnt : Int) := by omega
                      have HF : Hid (phP (tkP ts) (lnV ls) (t + 1) = Ft) := Lib.hid (by rw [Hps.out, HT2.out, if_neg h0]; simp)
                      go_wp2
                      try rw [Exit.noGoto_normal]
                      go_wp2
                      go_roundw
                      case rel => exact ⟨t + 1, by omega, by go_num, by rw [HF.out]; exact ho4, hBw4⟩
                      case measure => simp [intOf]; omega
          · have hlt3' : ¬ (t : Int) < (n' : Int) := by omega
            obtain rfl : n' = t := by omega
            have HF : Hid (phF (tkP ts) (lnV ls) = phP (tkP ts) (lnV ls) n') := Lib.hid (by rw [HP.out, Hvl.out])
            go_wp2
            try rw [Exit.noGoto_ret]
            go_ret
            rw [HF.out]
            exact ⟨_, rfl, ho, hB⟩
end Go.Proofs.Ytgjdjggakkmbgaa
