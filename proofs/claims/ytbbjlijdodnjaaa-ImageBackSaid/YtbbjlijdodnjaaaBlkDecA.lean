/- The walk of block.Decode: the cells' bytes lie at the slice's end. -/
import Derived.Test.YtbbjlijdodnjaaaBlkDecR
namespace Go.Proofs.Ytbbjlijdodnjaaa
open Go.RowKit
set_option maxRecDepth 100000 in
set_option maxHeartbeats 20000000 in
theorem dec_a (cells : List Int) (hw : ∀ x ∈ cells, 0 ≤ x ∧ x < 4294967296) (ad : Addr) (n c : Nat) (w : World) (hx : Reads w w.heap.size (some ad) n c (ints .u32 cells)) (hn : n ≤ 20000) (_ : ¬ n = 0)
    (N : Nat) (hl0 : 0 < cells.length) (hN : cells[0] = (N : Int)) (hN64 : N ≤ 64) (hsh : ¬ n < 1 + (N + 3) / 4) (hcf : c = 1 + (N + 3) / 4) :
    Calls Try.prog 24 #[.slice (some ad) n c] w fun e w' => ∃ (A' : Option Addr) (n' c' : Nat) (l : List Ent), e = .returned (.tuple #[.slice A' n' c', .int .i64 (decB cells).2]) ∧ ReadsE w' w'.heap.size A' n' c' l ∧ c' ≤ maxLen ∧ vals l = (decB cells).1 ∧ Below w.heap.size w w' ∧ OwnE w' w.heap.size (.slice A' n' c') l := by
  obtain ⟨i0, hi0, hz0, hz1, hz2⟩ := info_parts info_int
  obtain ⟨j0, hj0, hy0, hy1, hy2⟩ := info_parts info_ent
  have lx : cells.length = n := by simpa using hx.len
  have hcap := hx.cap
  have hg0 : cells.getD 0 0 = cells[0] := by simp [List.getD, hl0]
  have hwx := hw _ (List.getElem_mem hl0)
  obtain rfl : n = c := by omega
  have hci : 1 + ((N : Int) + 4 - 1) / 4 = (n : Int) := by omega
  have hfr : fromOf cells = n := by rw [fromOf, hg0, hN]; omega
  obtain ⟨ad', _, e, hb, hc0⟩ := hx.int (i := 0) (by omega)
  injection e with e
  subst e
  have hc0' : w.cell? ad = some (.int .u32 cells[0]) := by simpa [Addr.add] using hc0
  rw [hN] at hc0'
  have hx0 : ((n : Int) == 0) = false := beq_false_of_ne (by omega)
  have h64 : ¬ 64 < cells[0] := by omega
  have HH : Hid (headOk cells) := Lib.hid ⟨by intro e; rw [e] at lx; simp at lx; omega, by rw [hg0, hN]; omega, by rw [hfr, lx]; omega⟩
  have HR : Hid (rawB cells = entSt (textB cells) N) := Lib.hid (by rw [rawB, hg0, hN]; rfl)
  have HT : Hid (textB cells = bytesUp [] (4 * 0)) := Lib.hid (by rw [textB, hfr, lx, Nat.sub_self]; rfl)
  clear lx hg0 h64 hfr hN hsh hc0
  have HB := bytes_ok [] (by simp) (some ad) 0 0 (4 * 0) w ⟨rfl, Nat.le_refl _, fun h => absurd h (by omega)⟩ (by omega) (Nat.le_refl _)
  have HF := Lib.hid hcf
  clear hcf
  go_enter Try.func24, Try.ntmps24
  go_wp2_with fail
  have Hci := Lib.hid hci
  clear hci
  try rw [show 4 * ((n : Int) - (n : Int)) = ((4 * 0 : Nat) : Int) from by omega]
  refine HB.mono ?_
  clear HB
  rintro e w1 ⟨rfl, hb1⟩
  rw [← HT.out]
  have htl : (textB cells).length = 4 * 0 := by rw [HT.out, bytesUp_length]
  have htl9 : (textB cells).length ≤ 100000 := by omega
  generalize textB cells = tb at *
  have hcv := run_bytes_of_string (P := Try.prog) w1 9 49 5 ⟨tb.toArray⟩ Try.underlying9 Try.underlying49 Try.underlying5
  have hszb : (⟨tb.toArray⟩ : ByteArray).size = tb.length := by show tb.toArray.size = _; simp
  rw [hszb] at hcv
  have hgc := grownCap_ge w1 tb.length 0 5
  generalize grownCap w1 tb.length 0 5 = cap at *
  have hRb := conv_reads w1 tb cap hgc 5 ((bytesRow ⟨tb.toArray⟩ cap).size, (bytesRow ⟨tb.toArray⟩ cap).size + 1)
  have hBb : Below w.heap.size w (w1.alloc (.cells (bytesRow ⟨tb.toArray⟩ cap) 5 ((bytesRow ⟨tb.toArray⟩ cap).size, (bytesRow ⟨tb.toArray⟩ cap).size + 1))) := hb1.alloc hb1.size _
  have hb9 := hb1.size
  clear htl hszb
  go_wp2_with fail
  generalize hA : w1.alloc (.cells (bytesRow ⟨tb.toArray⟩ cap) 5 ((bytesRow ⟨tb.toArray⟩ cap).size, (bytesRow ⟨tb.toArray⟩ cap).size + 1)) = wA at *
  have hAs : wA.heap.size = w1.heap.size + 1 := by rw [← hA]; simp
  clear hA
  have hrow0 := Row.new wA 74 [.slice (some ⟨w1.heap.size, 0, none⟩) tb.length cap, .int .i64 0, .bool false]
  rw [hAs] at hrow0
  have hRb2 := (hRb.alloc (by omega) (.cells #[.slice (some ⟨w1.heap.size, 0, none⟩) tb.length cap, .int .i64 0, .bool false] 74)).drew
  have hBc : Below w.heap.size w (wA.alloc (.cells #[.slice (some ⟨w1.heap.size, 0, none⟩) tb.length cap, .int .i64 0, .bool false] 74)).drew := (hBb.alloc hBb.size _).drew
  have hrow1 := hrow0.drew
  have hW0s : (wA.alloc (.cells #[.slice (some ⟨w1.heap.size, 0, none⟩) tb.length cap, .int .i64 0, .bool false] 74)).drew.heap.size = w1.heap.size + 1 + 1 := by
    show (wA.alloc _).heap.size = _
    simp [hAs]
  clear hrow0 hRb hBb hAs hcv
  generalize (wA.alloc (.cells #[.slice (some ⟨w1.heap.size, 0, none⟩) tb.length cap, .int .i64 0, .bool false] 74)).drew = W0 at *
  generalize hb0 : w1.heap.size = b0 at *
  generalize hg : b0 + 1 = g at *
  have Hg := Lib.hid hg
  have Hb0 := Lib.hid hb0
  clear hg hb0
  go_loopw [9, 10, 55] (fun out was i wr => ∃ (k : Nat) (l : List Ent), k ≤ N ∧ i = .int .i64 (k : Int) ∧ was = .int .i64 (entSt tb k).2.1 ∧ vals l = (entSt tb k).1 ∧ OwnE wr (g + 1) out l ∧ Row wr g 74 (rdC (some ⟨b0, 0, none⟩) tb.length cap (entSt tb k).2.2) ∧ Below g W0 wr ∧ g + 1 ≤ wr.heap.size) (fun _ _ i _ => N - (intOf i).toNat)
  case atStart => exact ⟨0, [], by omega, rfl, rfl, rfl, OwnE.nil_ _ _, hrow1, Below.refl _ _, by omega⟩
  case round =>
    clear hrow1
    obtain ⟨k, l, hk, rfl, rfl, hvl, hE, hrow, hBg, hgs⟩ := hrel
    by_cases hlt : k < N
    · have hlt' : (k : Int) < (N : Int) := by omega
      have hpl := ent_place tb k
      have hwb := ent_bd tb k
      have Hvl := Lib.hid hvl
      clear hvl
      have HN := next_any tb (some ⟨b0, 0, none⟩) tb.length cap g (entSt tb k).2.2 wr hrow (hRb2.below hBg) (by omega) hpl
      have HSt := Lib.hid (fun W x s1 y s2 => ent_step tb k W x s1 y s2)
      have hx1 := next_bd tb (entSt tb k).2.2
      have hp1 := next_le tb (entSt tb k).2.2 hpl
      generalize (entSt tb k).2.1 = Wk at *
      generalize hn1 : nextR tb (entSt tb k).2.2 = n1 at *
      obtain ⟨x, s1⟩ := n1
      simp only at HN hx1 hp1
      by_cases h4 : k % 4 = 0
      · have h4' : ((k : Int) % 4 == 0) = true := by simp; omega
        go_wp2_with fail
        obtain ⟨wq, rfl⟩ : ∃ wq : World, wq = wr := ⟨_, rfl⟩
        refine HN.mono ?_
        clear HN
        rintro e w2 ⟨rfl, hrow2, hb2, hs2, hk2⟩
        have hE2 := hE.at_ (by omega) hk2
        have hBg2 : Below g W0 w2 := hBg.trans hb2
        have hgs2 : g + 1 ≤ w2.heap.size := by omega
        obtain ⟨h, hh⟩ : ∃ h, h = w2.heap.size := ⟨_, rfl⟩
        have hgh : g + 1 ≤ h := by omega
        have hE3 := hE2.below ((Below.refl _ _).alloc (Nat.le_refl _) (.cells #[.int .i64 x, .slice none 0 0] 52))
        have hlt3 := hE2.lt
        have hrow3 := hrow2.alloc (.cells #[.int .i64 x, .slice none 0 0] 52)
        have hBg3 : Below g W0 (w2.alloc (.cells #[.int .i64 x, .slice none 0 0] 52)) := hBg2.alloc (by omega) _
        have r3 := Row.new w2 52 [.int .i64 x, .slice none 0 0]
        have e3 : (w2.alloc (.cells #[.int .i64 x, .slice none 0 0] 52)).cell? ⟨w2.heap.size, 0, none⟩ = some (.int .i64 x) := r3.cell 0
        have hs3 : (w2.alloc (.cells #[.int .i64 x, .slice none 0 0] 52)).heap.size = w2.heap.size + 1 := by simp
        have HN := next_any tb (some ⟨b0, 0, none⟩) tb.length cap g s1 _ hrow3 (hRb2.below hBg3) (by omega) hp1
        have hx2 := next_bd tb s1
        have hp2 := next_le tb s1 hp1
        generalize hn2 : nextR tb s1 = n2 at *
        obtain ⟨y, s2⟩ := n2
        simp only at HN hx2 hp2
        have Hhh := Lib.hid hh
        have Hs2 := Lib.hid hs2
        have Hs3 := Lib.hid hs3
        clear hs2 hs3 hh
        go_wp2_with fail
        refine HN.mono ?_
        clear HN
        rintro e w4 ⟨rfl, hrow4, hb4, hs4, hk4⟩
        rw [Hs3.out] at hs4
        have hE4 := hE3.at_ (by omega) hk4
        have r4 : Row w4 w2.heap.size 52 [.int .i64 x, .slice none 0 0] := (hk4 _ (by omega)).trans r3
        have hBg4 := hBg3.trans hb4
        rw [← Hhh.out] at r4 hs4 hlt3 ⊢
        clear hE hE2 hE3 hrow2 hrow3 r3 e3 hb2 hb4 hk2 hk4 hBg hBg2 hBg3 hrow
        have Hs4 := Lib.hid hs4
        clear hs4
        by_cases hy : y ≤ 257
        · obtain ⟨M, hM⟩ : ∃ M : Nat, y = (M : Int) := ⟨y.toNat, by omega⟩
          subst hM
          have hM9 : M ≤ 257 := by omega
          have HS := Lib.hid (HSt.out 0 x s1 _ s2 (if_pos h4).symm rfl hn2 M (by omega))
          go_wp2_with fail
          go_loopw [13, 71] (fun at_ j wr2 => ∃ (t : Nat) (vp : Value), t ≤ M ∧ j = .int .i64 (t : Int) ∧ at_ = .int .i64 (posSt tb s2 t).2.1 ∧ Row wr2 g 74 (rdC (some ⟨b0, 0, none⟩) tb.length cap (posSt tb s2 t).2.2) ∧ Row wr2 h 52 [.int .i64 x, vp] ∧ wr2.ownsRow (h + 1) 3 1 vp t (ints .i64 (posSt tb s2 t).1) ∧ (∀ k, k < h → k ≠ g → wr2.heap[k]? = w4.heap[k]?) ∧ Below g W0 wr2 ∧ h + 1 ≤ wr2.heap.size) (fun _ j _ => M - (intOf j).toNat)
          case atStart => exact ⟨0, _, by omega, rfl, rfl, hrow4, r4, World.ownsRow_nil _ _ _ _, fun _ _ _ => rfl, hBg4, by have := Hs4.out; omega⟩
          case round =>
            obtain ⟨t, vp, ht, rfl, rfl, hrr, hr, hvp, hF, hBr, hsr⟩ := hrel
            by_cases hlt2 : t < M
            · have hlt2' : (t : Int) < (M : Int) := by omega
              have hpp := pos_place tb s2 hp2 t
              have hpb := pos_bd tb s2 t
              have HN := next_any tb (some ⟨b0, 0, none⟩) tb.length cap g (posSt tb s2 t).2.2 wr hrr (hRb2.below hBr) (by omega) hpp
              have hxv := next_bd tb (posSt tb s2 t).2.2
              have HPs : Hid (posSt tb s2 (t + 1) = ((posSt tb s2 t).1 ++ [(posSt tb s2 t).2.1 + (nextR tb (posSt tb s2 t).2.2).1], (posSt tb s2 t).2.1 + (nextR tb (posSt tb s2 t).2.2).1, (nextR tb (posSt tb s2 t).2.2).2)) := Lib.hid rfl
              generalize nextR tb (posSt tb s2 t).2.2 = n5 at *
              obtain ⟨v5, s6⟩ := n5
              generalize posSt tb s2 t = PS at *
              obtain ⟨Ps, a5, s5⟩ := PS
              simp only at HN hxv hpb hvp hrr HPs
              go_wp2_with fail
              refine HN.mono ?_
              clear HN
              rintro e w5 ⟨rfl, hrr5, hb5, hs5, hk5⟩
              have hr5 : Row w5 h 52 [.int .i64 x, vp] := (hk5 h (by omega)).trans hr
              have q1 : w5.cell? ⟨h, 1, none⟩ = some vp := hr5.cell 1
              have hg5 := grown_at hb5 hs5 hk5
              have hvp5 := hvp.kept hg5 (.inr fun e => by have := (hvp.lt _ e).1; omega)
              have hB5 := hBr.trans hb5
              have hl5 := hvp5.lt
              have hsr5 : h + 1 ≤ w5.heap.size := by omega
              clear hs5
              go_wp2_with (first
                | (at_builtin; refine wpList_append_oneB rfl (.tmp 78) (.tmp 80) 50 rfl (h + 1) 3 i0 _ 1 8 Try.underlying50 hi0 hz0 hz1 hz2 rfl (by omega) _ t _ [.int .i64 (a5 + v5)] rfl hvp5 rfl rfl (by simp [Value.oneCell']) (by omega) (by omega) hsr5 ?_; intro v6 w6 hown6 hg6 hv6; obtain ⟨A6, c6, rfl, _, _, _⟩ := ReadsK.of_own hown6; have hB6 := below_grown hB5 hvp5 (show g ≤ h + 1 by omega) (show g ≤ w5.heap.size by omega) hg6; have hr6 : Row w6 h 52 [.int .i64 x, vp] := (hg6.block h (by omega) (fun e => by have := (hl5 _ e.symm).1; omega)).trans hr5; have hrr6 : Row w6 g 74 (rdC (some ⟨b0, 0, none⟩) tb.length cap s6) := (hg6.block g (by omega) (fun e => by have := (hl5 _ e.symm).1; omega)).trans hrr5; have hF6 : ∀ k, k < h → k ≠ g → w6.heap[k]? = w4.heap[k]? := fun k h1 h2 => (hg6.block k (by omega) (fun e => by have := (hl5 _ e.symm).1; omega)).trans ((hk5 k h2).trans (hF k h1 h2)); have hl6 := hown6.lt; have hs6 := hg6.size; clear q1)
                | (refine wpList_store_cellO rfl 50 (.tmp 82) (.tmp 81) rfl h 1 (.slice A6 (t + 1) c6) rfl rfl 52 _ hr6 (by simp) rfl (by kernel_rfl) g W0 hB6 (by omega) ?_; intro w7 hr7 hB7 hs7 hk7))
              have hown7 := hown6.kept (grown_of hB6 hB7 hs7 hk7) (.inr fun e => by have := (hl6 _ e).1; omega)
              have hrr7 : Row w7 g 74 (rdC (some ⟨b0, 0, none⟩) tb.length cap s6) := (hk7 g (by omega)).trans hrr6
              have hF7 : ∀ k, k < h → k ≠ g → w7.heap[k]? = w4.heap[k]? := fun k h1 h2 => (hk7 k (by omega)).trans (hF6 k h1 h2)
              have hs8 : h + 1 ≤ w7.heap.size := by omega
              go_roundw
              case rel => exact ⟨t + 1, .slice A6 (t + 1) c6, by omega, by go_num, by rw [HPs.out], by rw [HPs.out]; exact hrr7, hr7, by rw [HPs.out]; simpa [ints] using hown7, hF7, hB7, hs8⟩
              case measure => simp [intOf]; omega
            · have hlt2' : ¬ (t : Int) < (M : Int) := by omega
              obtain rfl : M = t := by omega
              have HS2 : Hid (entSt tb (k + 1) = ((entSt tb k).1 ++ [(x, (posSt tb s2 M).1)], x, (posSt tb s2 M).2.2)) := Lib.hid (by rw [HS.out, show 0 + x = x from by omega])
              have hEr := hE4.frame (by omega) hlt3.1 hlt3.2 hF
              obtain ⟨Ap, cp, rfl, _, _, _⟩ := ReadsK.of_own hvp
              have hll : l.length = k := by
                have h1 := congrArg List.length Hvl.out
                rwa [vals, List.length_map, ent_count] at h1
              have q0 : wr.cell? ⟨h, 0, none⟩ = some (.int .i64 x) := hr.cell 0
              have q1 : wr.cell? ⟨h, 1, none⟩ = some (.slice Ap M cp) := hr.cell 1
              have hpc := pos_count tb s2 M
              generalize posSt tb s2 M = PS at *
              obtain ⟨Ps, a5, s5⟩ := PS
              simp only at HS2 hvp hrr hpc
              have hAPv : AP (.slice Ap M cp) u9 := fun b h1 h2 => by
                have h3 := (hvp.lt b h1).1
                have h4 := hlt3.1 b h2
                omega
              have hel := hEr.row.lt
              have hll9 : l.length ≤ 64 := by omega
              clear hll hpc
              go_wp2_with (at_builtin; refine wpList_append_oneB rfl (.tmp 84) (.tmp 86) 31 rfl (g + 1) 52 j0 _ 2 32 Try.underlying31 hj0 hy0 hy1 hy2 rfl (by omega) _ l.length _ [.int .i64 x, .slice Ap M cp] rfl hEr.row rfl rfl (by simp [Value.oneCell']) (by omega) (by omega) (by omega) ?_; intro v8 w8 hown8 hg8 hv8)
              have hB8 := below_grown hBr hEr.row (show g ≤ g + 1 by omega) (show g ≤ wr.heap.size by omega) hg8
              have hrr8 : Row w8 g 74 (rdC (some ⟨b0, 0, none⟩) tb.length cap s5) := (hg8.block g (by omega) (fun e => by have := (hel _ e.symm).1; omega)).trans hrr
              have hE8 : OwnE w8 (g + 1) v8 (l ++ [(⟨Ap, M, cp⟩, (x, Ps))]) := by
                refine ⟨by simpa [enC] using hown8, fun z hz => ?_, fun z hz => ?_⟩
                · rcases List.mem_append.1 hz with hz | hz
                  · exact (hEr.pos z hz).kept hg8 (hEr.ap z hz).symm.ne
                  · obtain rfl := List.mem_singleton.1 hz
                    exact (ownsRow_base hvp (by omega)).kept hg8 hAPv.ne
                · rcases List.mem_append.1 hz with hz | hz
                  · exact ((hEr.ap z hz).symm.step (hEr.pos z hz) (Nat.le_succ _) hv8).symm
                  · obtain rfl := List.mem_singleton.1 hz
                    exact (hAPv.step hvp (Nat.le_succ _) hv8).symm
              have hs8 := hg8.size
              have HE8 := Lib.hid hE8
              have HV8 : Hid (vals (l ++ [(⟨Ap, M, cp⟩, (x, Ps))]) = (entSt tb (k + 1)).1) := Lib.hid (by rw [HS2.out, vals, List.map_append, ← Hvl.out]; rfl)
              clear hE8
              go_roundw
              case rel => exact ⟨k + 1, _, by omega, by go_num, by rw [HS2.out], HV8.out, HE8.out, by rw [HS2.out]; exact hrr8, hB8, by omega⟩
              case measure => simp [intOf]; omega
        · have hM9 : 257 ≤ 257 := Nat.le_refl _
          have hy7 : min y 257 = 257 := by omega
          have HS := Lib.hid (HSt.out 0 x s1 _ s2 (if_pos h4).symm rfl hn2 257 (by rw [hy7]; rfl))
          clear hy7
          go_wp2_with fail
          go_loopw [13, 71] (fun at_ j wr2 => ∃ (t : Nat) (vp : Value), t ≤ 257 ∧ j = .int .i64 (t : Int) ∧ at_ = .int .i64 (posSt tb s2 t).2.1 ∧ Row wr2 g 74 (rdC (some ⟨b0, 0, none⟩) tb.length cap (posSt tb s2 t).2.2) ∧ Row wr2 h 52 [.int .i64 x, vp] ∧ wr2.ownsRow (h + 1) 3 1 vp t (ints .i64 (posSt tb s2 t).1) ∧ (∀ k, k < h → k ≠ g → wr2.heap[k]? = w4.heap[k]?) ∧ Below g W0 wr2 ∧ h + 1 ≤ wr2.heap.size) (fun _ j _ => 257 - (intOf j).toNat)
          case atStart => exact ⟨0, _, by omega, rfl, rfl, hrow4, r4, World.ownsRow_nil _ _ _ _, fun _ _ _ => rfl, hBg4, by have := Hs4.out; omega⟩
          case round =>
            obtain ⟨t, vp, ht, rfl, rfl, hrr, hr, hvp, hF, hBr, hsr⟩ := hrel
            by_cases hlt2 : t < 257
            · have hlt2' : (t : Int) < (257 : Int) := by omega
              have hpp := pos_place tb s2 hp2 t
              have hpb := pos_bd tb s2 t
              have HN := next_any tb (some ⟨b0, 0, none⟩) tb.length cap g (posSt tb s2 t).2.2 wr hrr (hRb2.below hBr) (by omega) hpp
              have hxv := next_bd tb (posSt tb s2 t).2.2
              have HPs : Hid (posSt tb s2 (t + 1) = ((posSt tb s2 t).1 ++ [(posSt tb s2 t).2.1 + (nextR tb (posSt tb s2 t).2.2).1], (posSt tb s2 t).2.1 + (nextR tb (posSt tb s2 t).2.2).1, (nextR tb (posSt tb s2 t).2.2).2)) := Lib.hid rfl
              generalize nextR tb (posSt tb s2 t).2.2 = n5 at *
              obtain ⟨v5, s6⟩ := n5
              generalize posSt tb s2 t = PS at *
              obtain ⟨Ps, a5, s5⟩ := PS
              simp only at HN hxv hpb hvp hrr HPs
              go_wp2_with fail
              refine HN.mono ?_
              clear HN
              rintro e w5 ⟨rfl, hrr5, hb5, hs5, hk5⟩
              have hr5 : Row w5 h 52 [.int .i64 x, vp] := (hk5 h (by omega)).trans hr
              have q1 : w5.cell? ⟨h, 1, none⟩ = some vp := hr5.cell 1
              have hg5 := grown_at hb5 hs5 hk5
              have hvp5 := hvp.kept hg5 (.inr fun e => by have := (hvp.lt _ e).1; omega)
              have hB5 := hBr.trans hb5
              have hl5 := hvp5.lt
              have hsr5 : h + 1 ≤ w5.heap.size := by omega
              clear hs5
              go_wp2_with (first
                | (at_builtin; refine wpList_append_oneB rfl (.tmp 78) (.tmp 80) 50 rfl (h + 1) 3 i0 _ 1 8 Try.underlying50 hi0 hz0 hz1 hz2 rfl (by omega) _ t _ [.int .i64 (a5 + v5)] rfl hvp5 rfl rfl (by simp [Value.oneCell']) (by omega) (by omega) hsr5 ?_; intro v6 w6 hown6 hg6 hv6; obtain ⟨A6, c6, rfl, _, _, _⟩ := ReadsK.of_own hown6; have hB6 := below_grown hB5 hvp5 (show g ≤ h + 1 by omega) (show g ≤ w5.heap.size by omega) hg6; have hr6 : Row w6 h 52 [.int .i64 x, vp] := (hg6.block h (by omega) (fun e => by have := (hl5 _ e.symm).1; omega)).trans hr5; have hrr6 : Row w6 g 74 (rdC (some ⟨b0, 0, none⟩) tb.length cap s6) := (hg6.block g (by omega) (fun e => by have := (hl5 _ e.symm).1; omega)).trans hrr5; have hF6 : ∀ k, k < h → k ≠ g → w6.heap[k]? = w4.heap[k]? := fun k h1 h2 => (hg6.block k (by omega) (fun e => by have := (hl5 _ e.symm).1; omega)).trans ((hk5 k h2).trans (hF k h1 h2)); have hl6 := hown6.lt; have hs6 := hg6.size; clear q1)
                | (refine wpList_store_cellO rfl 50 (.tmp 82) (.tmp 81) rfl h 1 (.slice A6 (t + 1) c6) rfl rfl 52 _ hr6 (by simp) rfl (by kernel_rfl) g W0 hB6 (by omega) ?_; intro w7 hr7 hB7 hs7 hk7))
              have hown7 := hown6.kept (grown_of hB6 hB7 hs7 hk7) (.inr fun e => by have := (hl6 _ e).1; omega)
              have hrr7 : Row w7 g 74 (rdC (some ⟨b0, 0, none⟩) tb.length cap s6) := (hk7 g (by omega)).trans hrr6
              have hF7 : ∀ k, k < h → k ≠ g → w7.heap[k]? = w4.heap[k]? := fun k h1 h2 => (hk7 k (by omega)).trans (hF6 k h1 h2)
              have hs8 : h + 1 ≤ w7.heap.size := by omega
              go_roundw
              case rel => exact ⟨t + 1, .slice A6 (t + 1) c6, by omega, by go_num, by rw [HPs.out], by rw [HPs.out]; exact hrr7, hr7, by rw [HPs.out]; simpa [ints] using hown7, hF7, hB7, hs8⟩
              case measure => simp [intOf]; omega
            · have hlt2' : ¬ (t : Int) < (257 : Int) := by omega
              obtain rfl : 257 = t := by omega
              have HS2 : Hid (entSt tb (k + 1) = ((entSt tb k).1 ++ [(x, (posSt tb s2 257).1)], x, (posSt tb s2 257).2.2)) := Lib.hid (by rw [HS.out, show 0 + x = x from by omega])
              have hEr := hE4.frame (by omega) hlt3.1 hlt3.2 hF
              obtain ⟨Ap, cp, rfl, _, _, _⟩ := ReadsK.of_own hvp
              have hll : l.length = k := by
                have h1 := congrArg List.length Hvl.out
                rwa [vals, List.length_map, ent_count] at h1
              have q0 : wr.cell? ⟨h, 0, none⟩ = some (.int .i64 x) := hr.cell 0
              have q1 : wr.cell? ⟨h, 1, none⟩ = some (.slice Ap 257 cp) := hr.cell 1
              have hpc := pos_count tb s2 257
              generalize posSt tb s2 257 = PS at *
              obtain ⟨Ps, a5, s5⟩ := PS
              simp only at HS2 hvp hrr hpc
              have hAPv : AP (.slice Ap 257 cp) u9 := fun b h1 h2 => by
                have h3 := (hvp.lt b h1).1
                have h4 := hlt3.1 b h2
                omega
              have hel := hEr.row.lt
              have hll9 : l.length ≤ 64 := by omega
              clear hll hpc
              go_wp2_with (at_builtin; refine wpList_append_oneB rfl (.tmp 84) (.tmp 86) 31 rfl (g + 1) 52 j0 _ 2 32 Try.underlying31 hj0 hy0 hy1 hy2 rfl (by omega) _ l.length _ [.int .i64 x, .slice Ap 257 cp] rfl hEr.row rfl rfl (by simp [Value.oneCell']) (by omega) (by omega) (by omega) ?_; intro v8 w8 hown8 hg8 hv8)
              have hB8 := below_grown hBr hEr.row (show g ≤ g + 1 by omega) (show g ≤ wr.heap.size by omega) hg8
              have hrr8 : Row w8 g 74 (rdC (some ⟨b0, 0, none⟩) tb.length cap s5) := (hg8.block g (by omega) (fun e => by have := (hel _ e.symm).1; omega)).trans hrr
              have hE8 : OwnE w8 (g + 1) v8 (l ++ [(⟨Ap, 257, cp⟩, (x, Ps))]) := by
                refine ⟨by simpa [enC] using hown8, fun z hz => ?_, fun z hz => ?_⟩
                · rcases List.mem_append.1 hz with hz | hz
                  · exact (hEr.pos z hz).kept hg8 (hEr.ap z hz).symm.ne
                  · obtain rfl := List.mem_singleton.1 hz
                    exact (ownsRow_base hvp (by omega)).kept hg8 hAPv.ne
                · rcases List.mem_append.1 hz with hz | hz
                  · exact ((hEr.ap z hz).symm.step (hEr.pos z hz) (Nat.le_succ _) hv8).symm
                  · obtain rfl := List.mem_singleton.1 hz
                    exact (hAPv.step hvp (Nat.le_succ _) hv8).symm
              have hs8 := hg8.size
              have HE8 := Lib.hid hE8
              have HV8 : Hid (vals (l ++ [(⟨Ap, 257, cp⟩, (x, Ps))]) = (entSt tb (k + 1)).1) := Lib.hid (by rw [HS2.out, vals, List.map_append, ← Hvl.out]; rfl)
              clear hE8
              go_roundw
              case rel => exact ⟨k + 1, _, by omega, by go_num, by rw [HS2.out], HV8.out, HE8.out, by rw [HS2.out]; exact hrr8, hB8, by omega⟩
              case measure => simp [intOf]; omega
      · have h4' : ((k : Int) % 4 == 0) = false := by simp; omega
        go_wp2_with fail
        obtain ⟨wq, rfl⟩ : ∃ wq : World, wq = wr := ⟨_, rfl⟩
        refine HN.mono ?_
        clear HN
        rintro e w2 ⟨rfl, hrow2, hb2, hs2, hk2⟩
        have hE2 := hE.at_ (by omega) hk2
        have hBg2 : Below g W0 w2 := hBg.trans hb2
        have hgs2 : g + 1 ≤ w2.heap.size := by omega
        obtain ⟨h, hh⟩ : ∃ h, h = w2.heap.size := ⟨_, rfl⟩
        have hgh : g + 1 ≤ h := by omega
        have hE3 := hE2.below ((Below.refl _ _).alloc (Nat.le_refl _) (.cells #[.int .i64 (Wk + x), .slice none 0 0] 52))
        have hlt3 := hE2.lt
        have hrow3 := hrow2.alloc (.cells #[.int .i64 (Wk + x), .slice none 0 0] 52)
        have hBg3 : Below g W0 (w2.alloc (.cells #[.int .i64 (Wk + x), .slice none 0 0] 52)) := hBg2.alloc (by omega) _
        have r3 := Row.new w2 52 [.int .i64 (Wk + x), .slice none 0 0]
        have e3 : (w2.alloc (.cells #[.int .i64 (Wk + x), .slice none 0 0] 52)).cell? ⟨w2.heap.size, 0, none⟩ = some (.int .i64 (Wk + x)) := r3.cell 0
        have hs3 : (w2.alloc (.cells #[.int .i64 (Wk + x), .slice none 0 0] 52)).heap.size = w2.heap.size + 1 := by simp
        have HN := next_any tb (some ⟨b0, 0, none⟩) tb.length cap g s1 _ hrow3 (hRb2.below hBg3) (by omega) hp1
        have hx2 := next_bd tb s1
        have hp2 := next_le tb s1 hp1
        generalize hn2 : nextR tb s1 = n2 at *
        obtain ⟨y, s2⟩ := n2
        simp only at HN hx2 hp2
        have Hhh := Lib.hid hh
        have Hs2 := Lib.hid hs2
        have Hs3 := Lib.hid hs3
        clear hs2 hs3 hh
        go_wp2_with fail
        refine HN.mono ?_
        clear HN
        rintro e w4 ⟨rfl, hrow4, hb4, hs4, hk4⟩
        rw [Hs3.out] at hs4
        have hE4 := hE3.at_ (by omega) hk4
        have r4 : Row w4 w2.heap.size 52 [.int .i64 (Wk + x), .slice none 0 0] := (hk4 _ (by omega)).trans r3
        have hBg4 := hBg3.trans hb4
        rw [← Hhh.out] at r4 hs4 hlt3 ⊢
        clear hE hE2 hE3 hrow2 hrow3 r3 e3 hb2 hb4 hk2 hk4 hBg hBg2 hBg3 hrow
        have Hs4 := Lib.hid hs4
        clear hs4
        by_cases hy : y ≤ 257
        · obtain ⟨M, hM⟩ : ∃ M : Nat, y = (M : Int) := ⟨y.toNat, by omega⟩
          subst hM
          have hM9 : M ≤ 257 := by omega
          have HS := Lib.hid (HSt.out Wk x s1 _ s2 (if_neg h4).symm rfl hn2 M (by omega))
          go_wp2_with fail
          go_loopw [13, 71] (fun at_ j wr2 => ∃ (t : Nat) (vp : Value), t ≤ M ∧ j = .int .i64 (t : Int) ∧ at_ = .int .i64 (posSt tb s2 t).2.1 ∧ Row wr2 g 74 (rdC (some ⟨b0, 0, none⟩) tb.length cap (posSt tb s2 t).2.2) ∧ Row wr2 h 52 [.int .i64 (Wk + x), vp] ∧ wr2.ownsRow (h + 1) 3 1 vp t (ints .i64 (posSt tb s2 t).1) ∧ (∀ k, k < h → k ≠ g → wr2.heap[k]? = w4.heap[k]?) ∧ Below g W0 wr2 ∧ h + 1 ≤ wr2.heap.size) (fun _ j _ => M - (intOf j).toNat)
          case atStart => exact ⟨0, _, by omega, rfl, rfl, hrow4, r4, World.ownsRow_nil _ _ _ _, fun _ _ _ => rfl, hBg4, by have := Hs4.out; omega⟩
          case round =>
            obtain ⟨t, vp, ht, rfl, rfl, hrr, hr, hvp, hF, hBr, hsr⟩ := hrel
            by_cases hlt2 : t < M
            · have hlt2' : (t : Int) < (M : Int) := by omega
              have hpp := pos_place tb s2 hp2 t
              have hpb := pos_bd tb s2 t
              have HN := next_any tb (some ⟨b0, 0, none⟩) tb.length cap g (posSt tb s2 t).2.2 wr hrr (hRb2.below hBr) (by omega) hpp
              have hxv := next_bd tb (posSt tb s2 t).2.2
              have HPs : Hid (posSt tb s2 (t + 1) = ((posSt tb s2 t).1 ++ [(posSt tb s2 t).2.1 + (nextR tb (posSt tb s2 t).2.2).1], (posSt tb s2 t).2.1 + (nextR tb (posSt tb s2 t).2.2).1, (nextR tb (posSt tb s2 t).2.2).2)) := Lib.hid rfl
              generalize nextR tb (posSt tb s2 t).2.2 = n5 at *
              obtain ⟨v5, s6⟩ := n5
              generalize posSt tb s2 t = PS at *
              obtain ⟨Ps, a5, s5⟩ := PS
              simp only at HN hxv hpb hvp hrr HPs
              go_wp2_with fail
              refine HN.mono ?_
              clear HN
              rintro e w5 ⟨rfl, hrr5, hb5, hs5, hk5⟩
              have hr5 : Row w5 h 52 [.int .i64 (Wk + x), vp] := (hk5 h (by omega)).trans hr
              have q1 : w5.cell? ⟨h, 1, none⟩ = some vp := hr5.cell 1
              have hg5 := grown_at hb5 hs5 hk5
              have hvp5 := hvp.kept hg5 (.inr fun e => by have := (hvp.lt _ e).1; omega)
              have hB5 := hBr.trans hb5
              have hl5 := hvp5.lt
              have hsr5 : h + 1 ≤ w5.heap.size := by omega
              clear hs5
              go_wp2_with (first
                | (at_builtin; refine wpList_append_oneB rfl (.tmp 78) (.tmp 80) 50 rfl (h + 1) 3 i0 _ 1 8 Try.underlying50 hi0 hz0 hz1 hz2 rfl (by omega) _ t _ [.int .i64 (a5 + v5)] rfl hvp5 rfl rfl (by simp [Value.oneCell']) (by omega) (by omega) hsr5 ?_; intro v6 w6 hown6 hg6 hv6; obtain ⟨A6, c6, rfl, _, _, _⟩ := ReadsK.of_own hown6; have hB6 := below_grown hB5 hvp5 (show g ≤ h + 1 by omega) (show g ≤ w5.heap.size by omega) hg6; have hr6 : Row w6 h 52 [.int .i64 (Wk + x), vp] := (hg6.block h (by omega) (fun e => by have := (hl5 _ e.symm).1; omega)).trans hr5; have hrr6 : Row w6 g 74 (rdC (some ⟨b0, 0, none⟩) tb.length cap s6) := (hg6.block g (by omega) (fun e => by have := (hl5 _ e.symm).1; omega)).trans hrr5; have hF6 : ∀ k, k < h → k ≠ g → w6.heap[k]? = w4.heap[k]? := fun k h1 h2 => (hg6.block k (by omega) (fun e => by have := (hl5 _ e.symm).1; omega)).trans ((hk5 k h2).trans (hF k h1 h2)); have hl6 := hown6.lt; have hs6 := hg6.size; clear q1)
                | (refine wpList_store_cellO rfl 50 (.tmp 82) (.tmp 81) rfl h 1 (.slice A6 (t + 1) c6) rfl rfl 52 _ hr6 (by simp) rfl (by kernel_rfl) g W0 hB6 (by omega) ?_; intro w7 hr7 hB7 hs7 hk7))
              have hown7 := hown6.kept (grown_of hB6 hB7 hs7 hk7) (.inr fun e => by have := (hl6 _ e).1; omega)
              have hrr7 : Row w7 g 74 (rdC (some ⟨b0, 0, none⟩) tb.length cap s6) := (hk7 g (by omega)).trans hrr6
              have hF7 : ∀ k, k < h → k ≠ g → w7.heap[k]? = w4.heap[k]? := fun k h1 h2 => (hk7 k (by omega)).trans (hF6 k h1 h2)
              have hs8 : h + 1 ≤ w7.heap.size := by omega
              go_roundw
              case rel => exact ⟨t + 1, .slice A6 (t + 1) c6, by omega, by go_num, by rw [HPs.out], by rw [HPs.out]; exact hrr7, hr7, by rw [HPs.out]; simpa [ints] using hown7, hF7, hB7, hs8⟩
              case measure => simp [intOf]; omega
            · have hlt2' : ¬ (t : Int) < (M : Int) := by omega
              obtain rfl : M = t := by omega
              have HS2 : Hid (entSt tb (k + 1) = ((entSt tb k).1 ++ [((Wk + x), (posSt tb s2 M).1)], (Wk + x), (posSt tb s2 M).2.2)) := Lib.hid (by rw [HS.out, show Wk + x = (Wk + x) from by omega])
              have hEr := hE4.frame (by omega) hlt3.1 hlt3.2 hF
              obtain ⟨Ap, cp, rfl, _, _, _⟩ := ReadsK.of_own hvp
              have hll : l.length = k := by
                have h1 := congrArg List.length Hvl.out
                rwa [vals, List.length_map, ent_count] at h1
              have q0 : wr.cell? ⟨h, 0, none⟩ = some (.int .i64 (Wk + x)) := hr.cell 0
              have q1 : wr.cell? ⟨h, 1, none⟩ = some (.slice Ap M cp) := hr.cell 1
              have hpc := pos_count tb s2 M
              generalize posSt tb s2 M = PS at *
              obtain ⟨Ps, a5, s5⟩ := PS
              simp only at HS2 hvp hrr hpc
              have hAPv : AP (.slice Ap M cp) u9 := fun b h1 h2 => by
                have h3 := (hvp.lt b h1).1
                have h4 := hlt3.1 b h2
                omega
              have hel := hEr.row.lt
              have hll9 : l.length ≤ 64 := by omega
              clear hll hpc
              go_wp2_with (at_builtin; refine wpList_append_oneB rfl (.tmp 84) (.tmp 86) 31 rfl (g + 1) 52 j0 _ 2 32 Try.underlying31 hj0 hy0 hy1 hy2 rfl (by omega) _ l.length _ [.int .i64 (Wk + x), .slice Ap M cp] rfl hEr.row rfl rfl (by simp [Value.oneCell']) (by omega) (by omega) (by omega) ?_; intro v8 w8 hown8 hg8 hv8)
              have hB8 := below_grown hBr hEr.row (show g ≤ g + 1 by omega) (show g ≤ wr.heap.size by omega) hg8
              have hrr8 : Row w8 g 74 (rdC (some ⟨b0, 0, none⟩) tb.length cap s5) := (hg8.block g (by omega) (fun e => by have := (hel _ e.symm).1; omega)).trans hrr
              have hE8 : OwnE w8 (g + 1) v8 (l ++ [(⟨Ap, M, cp⟩, ((Wk + x), Ps))]) := by
                refine ⟨by simpa [enC] using hown8, fun z hz => ?_, fun z hz => ?_⟩
                · rcases List.mem_append.1 hz with hz | hz
                  · exact (hEr.pos z hz).kept hg8 (hEr.ap z hz).symm.ne
                  · obtain rfl := List.mem_singleton.1 hz
                    exact (ownsRow_base hvp (by omega)).kept hg8 hAPv.ne
                · rcases List.mem_append.1 hz with hz | hz
                  · exact ((hEr.ap z hz).symm.step (hEr.pos z hz) (Nat.le_succ _) hv8).symm
                  · obtain rfl := List.mem_singleton.1 hz
                    exact (hAPv.step hvp (Nat.le_succ _) hv8).symm
              have hs8 := hg8.size
              have HE8 := Lib.hid hE8
              have HV8 : Hid (vals (l ++ [(⟨Ap, M, cp⟩, ((Wk + x), Ps))]) = (entSt tb (k + 1)).1) := Lib.hid (by rw [HS2.out, vals, List.map_append, ← Hvl.out]; rfl)
              clear hE8
              go_roundw
              case rel => exact ⟨k + 1, _, by omega, by go_num, by rw [HS2.out], HV8.out, HE8.out, by rw [HS2.out]; exact hrr8, hB8, by omega⟩
              case measure => simp [intOf]; omega
        · have hM9 : 257 ≤ 257 := Nat.le_refl _
          have hy7 : min y 257 = 257 := by omega
          have HS := Lib.hid (HSt.out Wk x s1 _ s2 (if_neg h4).symm rfl hn2 257 (by rw [hy7]; rfl))
          clear hy7
          go_wp2_with fail
          go_loopw [13, 71] (fun at_ j wr2 => ∃ (t : Nat) (vp : Value), t ≤ 257 ∧ j = .int .i64 (t : Int) ∧ at_ = .int .i64 (posSt tb s2 t).2.1 ∧ Row wr2 g 74 (rdC (some ⟨b0, 0, none⟩) tb.length cap (posSt tb s2 t).2.2) ∧ Row wr2 h 52 [.int .i64 (Wk + x), vp] ∧ wr2.ownsRow (h + 1) 3 1 vp t (ints .i64 (posSt tb s2 t).1) ∧ (∀ k, k < h → k ≠ g → wr2.heap[k]? = w4.heap[k]?) ∧ Below g W0 wr2 ∧ h + 1 ≤ wr2.heap.size) (fun _ j _ => 257 - (intOf j).toNat)
          case atStart => exact ⟨0, _, by omega, rfl, rfl, hrow4, r4, World.ownsRow_nil _ _ _ _, fun _ _ _ => rfl, hBg4, by have := Hs4.out; omega⟩
          case round =>
            obtain ⟨t, vp, ht, rfl, rfl, hrr, hr, hvp, hF, hBr, hsr⟩ := hrel
            by_cases hlt2 : t < 257
            · have hlt2' : (t : Int) < (257 : Int) := by omega
              have hpp := pos_place tb s2 hp2 t
              have hpb := pos_bd tb s2 t
              have HN := next_any tb (some ⟨b0, 0, none⟩) tb.length cap g (posSt tb s2 t).2.2 wr hrr (hRb2.below hBr) (by omega) hpp
              have hxv := next_bd tb (posSt tb s2 t).2.2
              have HPs : Hid (posSt tb s2 (t + 1) = ((posSt tb s2 t).1 ++ [(posSt tb s2 t).2.1 + (nextR tb (posSt tb s2 t).2.2).1], (posSt tb s2 t).2.1 + (nextR tb (posSt tb s2 t).2.2).1, (nextR tb (posSt tb s2 t).2.2).2)) := Lib.hid rfl
              generalize nextR tb (posSt tb s2 t).2.2 = n5 at *
              obtain ⟨v5, s6⟩ := n5
              generalize posSt tb s2 t = PS at *
              obtain ⟨Ps, a5, s5⟩ := PS
              simp only at HN hxv hpb hvp hrr HPs
              go_wp2_with fail
              refine HN.mono ?_
              clear HN
              rintro e w5 ⟨rfl, hrr5, hb5, hs5, hk5⟩
              have hr5 : Row w5 h 52 [.int .i64 (Wk + x), vp] := (hk5 h (by omega)).trans hr
              have q1 : w5.cell? ⟨h, 1, none⟩ = some vp := hr5.cell 1
              have hg5 := grown_at hb5 hs5 hk5
              have hvp5 := hvp.kept hg5 (.inr fun e => by have := (hvp.lt _ e).1; omega)
              have hB5 := hBr.trans hb5
              have hl5 := hvp5.lt
              have hsr5 : h + 1 ≤ w5.heap.size := by omega
              clear hs5
              go_wp2_with (first
                | (at_builtin; refine wpList_append_oneB rfl (.tmp 78) (.tmp 80) 50 rfl (h + 1) 3 i0 _ 1 8 Try.underlying50 hi0 hz0 hz1 hz2 rfl (by omega) _ t _ [.int .i64 (a5 + v5)] rfl hvp5 rfl rfl (by simp [Value.oneCell']) (by omega) (by omega) hsr5 ?_; intro v6 w6 hown6 hg6 hv6; obtain ⟨A6, c6, rfl, _, _, _⟩ := ReadsK.of_own hown6; have hB6 := below_grown hB5 hvp5 (show g ≤ h + 1 by omega) (show g ≤ w5.heap.size by omega) hg6; have hr6 : Row w6 h 52 [.int .i64 (Wk + x), vp] := (hg6.block h (by omega) (fun e => by have := (hl5 _ e.symm).1; omega)).trans hr5; have hrr6 : Row w6 g 74 (rdC (some ⟨b0, 0, none⟩) tb.length cap s6) := (hg6.block g (by omega) (fun e => by have := (hl5 _ e.symm).1; omega)).trans hrr5; have hF6 : ∀ k, k < h → k ≠ g → w6.heap[k]? = w4.heap[k]? := fun k h1 h2 => (hg6.block k (by omega) (fun e => by have := (hl5 _ e.symm).1; omega)).trans ((hk5 k h2).trans (hF k h1 h2)); have hl6 := hown6.lt; have hs6 := hg6.size; clear q1)
                | (refine wpList_store_cellO rfl 50 (.tmp 82) (.tmp 81) rfl h 1 (.slice A6 (t + 1) c6) rfl rfl 52 _ hr6 (by simp) rfl (by kernel_rfl) g W0 hB6 (by omega) ?_; intro w7 hr7 hB7 hs7 hk7))
              have hown7 := hown6.kept (grown_of hB6 hB7 hs7 hk7) (.inr fun e => by have := (hl6 _ e).1; omega)
              have hrr7 : Row w7 g 74 (rdC (some ⟨b0, 0, none⟩) tb.length cap s6) := (hk7 g (by omega)).trans hrr6
              have hF7 : ∀ k, k < h → k ≠ g → w7.heap[k]? = w4.heap[k]? := fun k h1 h2 => (hk7 k (by omega)).trans (hF6 k h1 h2)
              have hs8 : h + 1 ≤ w7.heap.size := by omega
              go_roundw
              case rel => exact ⟨t + 1, .slice A6 (t + 1) c6, by omega, by go_num, by rw [HPs.out], by rw [HPs.out]; exact hrr7, hr7, by rw [HPs.out]; simpa [ints] using hown7, hF7, hB7, hs8⟩
              case measure => simp [intOf]; omega
            · have hlt2' : ¬ (t : Int) < (257 : Int) := by omega
              obtain rfl : 257 = t := by omega
              have HS2 : Hid (entSt tb (k + 1) = ((entSt tb k).1 ++ [((Wk + x), (posSt tb s2 257).1)], (Wk + x), (posSt tb s2 257).2.2)) := Lib.hid (by rw [HS.out, show Wk + x = (Wk + x) from by omega])
              have hEr := hE4.frame (by omega) hlt3.1 hlt3.2 hF
              obtain ⟨Ap, cp, rfl, _, _, _⟩ := ReadsK.of_own hvp
              have hll : l.length = k := by
                have h1 := congrArg List.length Hvl.out
                rwa [vals, List.length_map, ent_count] at h1
              have q0 : wr.cell? ⟨h, 0, none⟩ = some (.int .i64 (Wk + x)) := hr.cell 0
              have q1 : wr.cell? ⟨h, 1, none⟩ = some (.slice Ap 257 cp) := hr.cell 1
              have hpc := pos_count tb s2 257
              generalize posSt tb s2 257 = PS at *
              obtain ⟨Ps, a5, s5⟩ := PS
              simp only at HS2 hvp hrr hpc
              have hAPv : AP (.slice Ap 257 cp) u9 := fun b h1 h2 => by
                have h3 := (hvp.lt b h1).1
                have h4 := hlt3.1 b h2
                omega
              have hel := hEr.row.lt
              have hll9 : l.length ≤ 64 := by omega
              clear hll hpc
              go_wp2_with (at_builtin; refine wpList_append_oneB rfl (.tmp 84) (.tmp 86) 31 rfl (g + 1) 52 j0 _ 2 32 Try.underlying31 hj0 hy0 hy1 hy2 rfl (by omega) _ l.length _ [.int .i64 (Wk + x), .slice Ap 257 cp] rfl hEr.row rfl rfl (by simp [Value.oneCell']) (by omega) (by omega) (by omega) ?_; intro v8 w8 hown8 hg8 hv8)
              have hB8 := below_grown hBr hEr.row (show g ≤ g + 1 by omega) (show g ≤ wr.heap.size by omega) hg8
              have hrr8 : Row w8 g 74 (rdC (some ⟨b0, 0, none⟩) tb.length cap s5) := (hg8.block g (by omega) (fun e => by have := (hel _ e.symm).1; omega)).trans hrr
              have hE8 : OwnE w8 (g + 1) v8 (l ++ [(⟨Ap, 257, cp⟩, ((Wk + x), Ps))]) := by
                refine ⟨by simpa [enC] using hown8, fun z hz => ?_, fun z hz => ?_⟩
                · rcases List.mem_append.1 hz with hz | hz
                  · exact (hEr.pos z hz).kept hg8 (hEr.ap z hz).symm.ne
                  · obtain rfl := List.mem_singleton.1 hz
                    exact (ownsRow_base hvp (by omega)).kept hg8 hAPv.ne
                · rcases List.mem_append.1 hz with hz | hz
                  · exact ((hEr.ap z hz).symm.step (hEr.pos z hz) (Nat.le_succ _) hv8).symm
                  · obtain rfl := List.mem_singleton.1 hz
                    exact (hAPv.step hvp (Nat.le_succ _) hv8).symm
              have hs8 := hg8.size
              have HE8 := Lib.hid hE8
              have HV8 : Hid (vals (l ++ [(⟨Ap, 257, cp⟩, ((Wk + x), Ps))]) = (entSt tb (k + 1)).1) := Lib.hid (by rw [HS2.out, vals, List.map_append, ← Hvl.out]; rfl)
              clear hE8
              go_roundw
              case rel => exact ⟨k + 1, _, by omega, by go_num, by rw [HS2.out], HV8.out, HE8.out, by rw [HS2.out]; exact hrr8, hB8, by omega⟩
              case measure => simp [intOf]; omega
    · have hlt' : ¬ (k : Int) < (N : Int) := by omega
      obtain rfl : N = k := by omega
      obtain ⟨A9, c9, rfl, _, hc9, _⟩ := ReadsK.of_own hE.row
      have hRe := hE.reads rfl
      have HE := enc_any l A9 l.length c9 wr hRe hc9
      have hel := encA_len (vals l)
      have Hvl := Lib.hid hvl
      have r2 : wr.cell? ⟨g, 2, none⟩ = some (.bool (entSt tb N).2.2.2) := hrow.cell 2
      have HD : Hid (decB cells = if (entSt tb N).2.2.2 = false ∧ encA (vals l) = (cells, 0) then (vals l, 0) else ([], 11)) := Lib.hid (by
        rw [decB, HR.out, hvl]
        by_cases h9 : (entSt tb N).2.2.2 = false ∧ encA (entSt tb N).1 = (cells, 0)
        · rw [if_pos ⟨HH.out, h9⟩, if_pos h9]
        · rw [if_neg (fun h => h9 h.2), if_neg h9])
      clear hvl
      generalize hV : vals l = V at *
      generalize (entSt tb N).2.2.2 = bad at *
      generalize encA V = EN at *
      obtain ⟨C2, e2⟩ := EN
      simp only at HE hel HD
      generalize hLl : l.length = L9 at *
      have HLl := Lib.hid hLl
      clear hLl
      have hBw : Below w.heap.size w wr := hBc.trans (hBg.mono (by have := Hg.out; omega))
      go_wp2_with fail
      refine HE.mono ?_
      clear HE
      rintro e w10 ⟨v10, rfl, hown10, hb10⟩
      have r10 := (hb10.cell (cell_lt r2)).trans r2
      have hRe10 := (hRe.below hb10).more hb10.size
      have hBw10 := then_ hBw hb10
      have HO10 := Lib.hid ((OwnE.below hE hb10).base (show w.heap.size ≤ g + 1 by have := Hg.out; have := Hb0.out; omega))
      obtain ⟨A10, c10, rfl, hr10, _, _⟩ := ownsRow_slice hown10
      clear hrow hE hBg hown10 r2
      cases bad
      · by_cases he2 : e2 = 0
        · subst he2
          have hxw : Reads w10 w10.heap.size (some ad) n n (ints .u32 cells) := (hx.below hBw10).more hBw10.size
          have HQ := equal_any C2 cells A10 (some ad) C2.length c10 n n w10 hr10 hxw (by omega) (by omega)
          by_cases hcc : C2 = cells
          · rw [decide_eq_true hcc] at HQ
            have HD2 := Lib.hid (HD.out.trans (if_pos ⟨rfl, by rw [hcc]⟩))
            have Hcc := Lib.hid hcc
            clear hcc HD
            go_wp2_with fail
            refine HQ.mono ?_
            clear HQ
            rintro e w11 ⟨rfl, q, rfl⟩
            go_wp2
            go_ret2
            exact ⟨A9, L9, c9, l, by rw [HD2.out]; rfl, (hRe10.drewN q).more (Nat.le_refl _), hc9, by rw [HD2.out]; exact hV, below_drewN hBw10 q, HO10.out.drewN q⟩
          · rw [decide_eq_false hcc] at HQ
            have HD2 := Lib.hid (HD.out.trans (if_neg (fun h => hcc (congrArg (·.1) h.2))))
            clear hcc HD
            go_wp2_with fail
            refine HQ.mono ?_
            clear HQ
            rintro e w11 ⟨rfl, q, rfl⟩
            go_wp2
            go_ret2
            exact ⟨none, 0, 0, [], by rw [HD2.out]; rfl, ReadsE.nil_ _ _ _ _, Nat.zero_le _, by rw [HD2.out]; rfl, below_drewN hBw10 q, OwnE.nil_ _ _⟩
        · have HD2 := Lib.hid (HD.out.trans (if_neg (fun h => he2 (congrArg (·.2) h.2))))
          have he3 : (e2 != 0) = true := by simp [he2]
          clear HD
          go_wp2
          go_ret2
          exact ⟨none, 0, 0, [], by rw [HD2.out]; rfl, ReadsE.nil_ _ _ _ _, Nat.zero_le _, by rw [HD2.out]; rfl, hBw10, OwnE.nil_ _ _⟩
      · have HD2 := Lib.hid (HD.out.trans (if_neg (fun h => by cases h.1)))
        clear HD
        go_wp2
        go_ret2
        exact ⟨none, 0, 0, [], by rw [HD2.out]; rfl, ReadsE.nil_ _ _ _ _, Nat.zero_le _, by rw [HD2.out]; rfl, hBw10, OwnE.nil_ _ _⟩
end Go.Proofs.Ytbbjlijdodnjaaa
