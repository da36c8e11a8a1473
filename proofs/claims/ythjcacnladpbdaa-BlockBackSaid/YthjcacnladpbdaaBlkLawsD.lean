/- BlockBack, walked: printed by wip/bin/gen_blkback.py. -/
import Derived.Test.YthjcacnladpbdaaBlkLawsB
import Derived.Test.YthjcacnladpbdaaBlkDec
import Derived.Test.YthjcacnladpbdaaBlkSame
namespace Go.Proofs.Ythjcacnladpbdaa
open Go.RowKit

theorem skips_mem (l : List En) (n : Nat) : ∀ x ∈ skipsB l n, ∃ j, j < n ∧ x = skipOf l j := by
  induction n with
  | zero => intro x hx; simp [skipsB] at hx
  | succ n ih =>
    intro x hx
    rw [skipsB] at hx
    split at hx
    · rcases List.mem_append.1 hx with hx | hx
      · obtain ⟨j, h1, h2⟩ := ih x hx
        exact ⟨j, by omega, h2⟩
      · exact ⟨n, by omega, List.mem_singleton.1 hx⟩
    · obtain ⟨j, h1, h2⟩ := ih x hx
      exact ⟨j, by omega, h2⟩
theorem cellsOf_u32 (l : List UInt8) (n : Nat) : ∀ x ∈ cellsOf l n, 0 ≤ x ∧ x < 4294967296 := by
  intro x hx
  simp only [cellsOf, List.mem_map] at hx
  obtain ⟨j, _, rfl⟩ := hx
  have h := byteD_lt l
  have h0 := h (4 * j); have h1 := h (4 * j + 1); have h2 := h (4 * j + 2); have h3 := h (4 * j + 3)
  unfold word4
  omega
theorem encL_range {V : List En} (h : MayP V) : ∀ x ∈ encL V, 0 ≤ x ∧ x < 4294967296 := by
  intro x hx
  rw [encL, List.mem_append, List.mem_cons] at hx
  rcases hx with (rfl | hx) | hx
  · have := h.len
    omega
  · obtain ⟨j, h1, rfl⟩ := skips_mem V _ x hx
    have := skip_range h j h1
    exact ⟨this.1, this.2.1⟩
  · exact cellsOf_u32 _ _ x hx
theorem wf_u32 {x : Int} (h : (Lit.int .u32 x).wf = true) : 0 ≤ x ∧ x < 4294967296 := by simp [Lit.wf, IntKind.min, IntKind.max, IntKind.signed, IntKind.bits] at h; omega
theorem enc_no {V : List En} (h : mayL V = false) : encA V = ([], 1) := by rw [encA, h]; rfl
theorem may_places {V : List En} (h : MayP V) : ∀ e ∈ V, e.2.length ≤ 1048576 := by
  intro e he
  obtain ⟨i, hi, rfl⟩ := List.getElem_of_mem he
  have := h.pos i hi
  rw [enAt_get V i hi] at this
  omega

set_option maxRecDepth 100000 in
set_option maxHeartbeats 20000000 in
theorem walkBlockBack {w : World} (l : List Ent) (A : Option Addr) (n c : Nat) (hx : ReadsE w w.heap.size A n c l) (hc : c ≤ maxLen) (cells : List Int) (A1 : Option Addr) (n1 c1 : Nat) (hy : Reads w w.heap.size A1 n1 c1 (ints .u32 cells)) (hz0 : ∀ x ∈ cells, (Lit.int .u32 x).wf = true) :
    Calls Try.prog 7 #[.slice A n c, .slice A1 n1 c1] w fun e w' => e = .returned (.bool true) ∧ Below w.heap.size w w' := by
  have hz : ∀ x ∈ cells, 0 ≤ x ∧ x < 4294967296 := fun x hx => wf_u32 (hz0 x hx)
  have Hvl := Lib.hid hx.vlen
  have HG := great_any l A n c w hx hc
  have HF := fixed_any
  clear hz0
  go_enter Try.func7, Try.ntmps7
  go_wp2_with fail
  refine HG.mono ?_
  clear HG
  rintro e w1 ⟨rfl | rfl, hb1⟩
  · go_wp2_with fail
    refine (HF _).mono ?_
    rintro e w2 ⟨rfl, hb2⟩
    go_wp2
    go_ret
    exact ⟨rfl, then_ hb1 hb2⟩
  · by_cases h3 : 3000 < n1
    · have h3' : (3000 : Int) < (n1 : Int) := by omega
      go_wp2_with fail
      refine (HF _).mono ?_
      rintro e w2 ⟨rfl, hb2⟩
      go_wp2
      go_ret
      exact ⟨rfl, then_ hb1 hb2⟩
    · have h3' : ¬ (3000 : Int) < (n1 : Int) := by omega
      have HE := enc_any l A n c w1 ((hx.below hb1).more hb1.size) hc
      cases hmay : mayL (vals l)
      · rw [enc_no hmay] at HE
        clear hmay
        go_wp2_with fail
        refine HE.mono ?_
        clear HE
        rintro e w2 ⟨v2, rfl, _, hb2⟩
        have hB := then_ hb1 hb2
        clear hb1 hb2
        have HD := dec_any cells hz A1 n1 c1 w2 ((hy.below hB).more hB.size) (by omega)
        go_wp2_with fail
        refine HD.mono ?_
        clear HD
        rintro e w7 ⟨A7, n7, c7, l7, rfl, hr7, hc7, hv7, hb7⟩
        have hB7 := then_ hB hb7
        clear hB hb7
        by_cases hyes : ∃ V, MayP V ∧ encL V = cells
        · obtain ⟨V7, hm7, rfl⟩ := hyes
          have Hm7 := Lib.hid hm7
          rw [decB_yes hm7] at hv7
          have hd2 : (decB (encL V7)).2 = 0 := by rw [decB_yes hm7]
          rw [hd2]
          have HE := enc_any l7 A7 n7 c7 w7 hr7 hc7
          rw [hv7, enc_yes hm7] at HE
          clear hd2 hv7 hm7 hr7 hz
          go_wp2_with fail
          refine HE.mono ?_
          clear HE
          rintro e w8 ⟨v8, rfl, hown8, hb8⟩
          have hB8 := then_ hB7 hb8
          clear hB7 hb8
          obtain ⟨A8, c8, rfl, hr8, _, _⟩ := ownsRow_slice hown8
          have hlen7 : (encL V7).length = n1 := by simpa using hy.len
          have HS := same32_any (encL V7) (encL V7) A8 A1 _ c8 n1 c1 w8 hr8 ((hy.below hB8).more hB8.size) (by rw [hlen7]; omega) (by omega)
          rw [decide_eq_true rfl] at HS
          generalize encL V7 = C7 at *
          clear hown8 hr8 hlen7
          go_wp2_with fail
          refine HS.mono ?_
          clear HS
          rintro e w9 ⟨rfl, q, rfl⟩
          go_wp2_with fail
          refine (HF _).mono ?_
          rintro e w10 ⟨rfl, hb10⟩
          go_wp2
          go_ret
          exact ⟨rfl, then_ (below_drewN hB8 q) hb10⟩
        · have hd2 : (decB cells).2 = 11 := by rw [decB_no hyes]
          rw [hd2]
          clear hd2 hyes hv7 hr7
          go_wp2_with fail
          refine (HF _).mono ?_
          rintro e w10 ⟨rfl, hb10⟩
          go_wp2
          go_ret
          exact ⟨rfl, then_ hB7 hb10⟩
      · have HMp := Lib.hid (may_parts hmay)
        clear hmay
        rw [enc_yes HMp.out] at HE
        have hll := encA_len (vals l)
        rw [enc_yes HMp.out] at hll
        simp only at hll
        have hn64 := HMp.out.len
        rw [Hvl.out] at hn64
        go_wp2_with fail
        refine HE.mono ?_
        clear HE
        rintro e w2 ⟨v2, rfl, hown2, hb2⟩
        have hB2 := then_ hb1 hb2
        clear hb1 hb2
        obtain ⟨A2, c2, rfl, hr2, _, _⟩ := ownsRow_slice hown2
        have HD := dec_any (encL (vals l)) (encL_range HMp.out) A2 _ c2 w2 hr2 hll
        have hd1 : (decB (encL (vals l))).1 = vals l := by rw [decB_yes HMp.out]
        have hd2 : (decB (encL (vals l))).2 = 0 := by rw [decB_yes HMp.out]
        rw [hd2, hd1] at HD
        generalize (encL (vals l)).length = L2 at *
        clear hd1 hd2 hown2 hr2
        go_wp2_with fail
        refine HD.mono ?_
        clear HD
        rintro e w3 ⟨A3, n3, c3, l3, rfl, hr3, hc3, hv3, hb3⟩
        have hB := then_ hB2 hb3
        clear hB2 hb3
        have hn3 : n3 ≤ 1048576 := by
          have h1 := hr3.vlen
          rw [hv3, Hvl.out] at h1
          omega
        have HS := sameE_yes l3 l hv3 A3 A n3 c3 n c w3 hr3 ((hx.below hB).more hB.size) hn3 (by rw [hv3]; exact may_places HMp.out)
        clear hv3 hr3 hn3
        go_wp2_with fail
        refine HS.mono ?_
        clear HS
        rintro e w4 ⟨rfl, hb4⟩
        replace hB := then_ hB hb4
        clear hb4
        have HD := dec_any cells hz A1 n1 c1 w4 ((hy.below hB).more hB.size) (by omega)
        go_wp2_with fail
        refine HD.mono ?_
        clear HD
        rintro e w7 ⟨A7, n7, c7, l7, rfl, hr7, hc7, hv7, hb7⟩
        have hB7 := then_ hB hb7
        clear hB hb7
        by_cases hyes : ∃ V, MayP V ∧ encL V = cells
        · obtain ⟨V7, hm7, rfl⟩ := hyes
          have Hm7 := Lib.hid hm7
          rw [decB_yes hm7] at hv7
          have hd2 : (decB (encL V7)).2 = 0 := by rw [decB_yes hm7]
          rw [hd2]
          have HE := enc_any l7 A7 n7 c7 w7 hr7 hc7
          rw [hv7, enc_yes hm7] at HE
          clear hd2 hv7 hm7 hr7 hz
          go_wp2_with fail
          refine HE.mono ?_
          clear HE
          rintro e w8 ⟨v8, rfl, hown8, hb8⟩
          have hB8 := then_ hB7 hb8
          clear hB7 hb8
          obtain ⟨A8, c8, rfl, hr8, _, _⟩ := ownsRow_slice hown8
          have hlen7 : (encL V7).length = n1 := by simpa using hy.len
          have HS := same32_any (encL V7) (encL V7) A8 A1 _ c8 n1 c1 w8 hr8 ((hy.below hB8).more hB8.size) (by rw [hlen7]; omega) (by omega)
          rw [decide_eq_true rfl] at HS
          generalize encL V7 = C7 at *
          clear hown8 hr8 hlen7
          go_wp2_with fail
          refine HS.mono ?_
          clear HS
          rintro e w9 ⟨rfl, q, rfl⟩
          go_wp2_with fail
          refine (HF _).mono ?_
          rintro e w10 ⟨rfl, hb10⟩
          go_wp2
          go_ret
          exact ⟨rfl, then_ (below_drewN hB8 q) hb10⟩
        · have hd2 : (decB cells).2 = 11 := by rw [decB_no hyes]
          rw [hd2]
          clear hd2 hyes hv7 hr7
          go_wp2_with fail
          refine (HF _).mono ?_
          rintro e w10 ⟨rfl, hb10⟩
          go_wp2
          go_ret
          exact ⟨rfl, then_ hB7 hb10⟩
end Go.Proofs.Ythjcacnladpbdaa
