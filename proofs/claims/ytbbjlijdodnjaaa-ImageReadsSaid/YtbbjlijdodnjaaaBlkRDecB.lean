/- The walk of ref.Decode: printed by wip/bin/gen_blkrdec.py. -/
import Derived.Test.YtbbjlijdodnjaaaBlkDecR
import Derived.Test.YtbbjlijdodnjaaaBlkRDecMath
import Derived.Test.YtbbjlijdodnjaaaBlkRefEnc
import Derived.Test.YtbbjlijdodnjaaaPackRefBytes
import Derived.Test.YtbbjlijdodnjaaaVlqRefGet
import Derived.Test.YtbbjlijdodnjaaaStep
import Derived.Test.YtbbjlijdodnjaaaHand
import Derived.Test.YtbbjlijdodnjaaaBlkRDecR
namespace Go.Proofs.Ytbbjlijdodnjaaa
open Go.RowKit
set_option maxRecDepth 100000 in
set_option maxHeartbeats 20000000 in
theorem rdec_b (cells : List Int) (hw : ∀ x ∈ cells, 0 ≤ x ∧ x < 4294967296) (ad : Addr) (n c : Nat) (w : World) (hx : Reads w w.heap.size (some ad) n c (ints .u32 cells)) (hn : n ≤ 20000) (_ : ¬ n = 0)
    (N : Nat) (hl0 : 0 < cells.length) (hN : cells[0] = (N : Int)) (hN64 : N ≤ 64) (hsh : ¬ n < 1 + (N + 3) / 4) (hcf : ¬ c = 1 + (N + 3) / 4) :
    Calls Try.prog 27 #[.slice (some ad) n c] w fun e w' => ∃ (A' : Option Addr) (n' c' : Nat) (l : List Ent), e = .returned (.tuple #[.slice A' n' c', .int .i64 (decB cells).2]) ∧ ReadsE w' w'.heap.size A' n' c' l ∧ c' ≤ maxLen ∧ vals l = (decB cells).1 ∧ Below w.heap.size w w' ∧ OwnE w' w.heap.size (.slice A' n' c') l := by
  obtain ⟨i0, hi0, hz0, hz1, hz2⟩ := info_parts info_int
  obtain ⟨j0, hj0, hy0, hy1, hy2⟩ := info_parts info_ent
  have lx : cells.length = n := by simpa using hx.len
  have hcap := hx.cap
  have hg0 : cells.getD 0 0 = cells[0] := by simp [List.getD, hl0]
  have hfr : fromOf cells = 1 + (N + 3) / 4 := by rw [fromOf, hg0, hN]; rfl
  obtain ⟨ad', _, e, hb, hc0⟩ := hx.int (i := 0) (by omega)
  injection e with e
  subst e
  have hc0' : w.cell? ad = some (.int .u32 cells[0]) := by simpa [Addr.add] using hc0
  rw [hN] at hc0' hg0
  have HN := Lib.hid hg0
  have hx0 : ((n : Int) == 0) = false := beq_false_of_ne (by omega)
  have h64 : ¬ (64 : Int) < (N : Int) := by omega
  have hsh' : ¬ (n : Int) < 1 + ((N : Int) + 3) / 4 := by omega
  have HT : Hid (textB cells = bytesUp (cells.drop (1 + (N + 3) / 4)) (4 * (n - (1 + (N + 3) / 4)))) := Lib.hid (by rw [textB, hfr, lx])
  have i1 : (0 : Int) ≤ 1 + ((N : Int) + 3) / 4 := by omega
  have i2 : 1 + ((N : Int) + 3) / 4 ≤ (n : Int) := by omega
  have i3 : (n : Int) ≤ (c : Int) := by omega
  have Lx := Lib.hid lx
  clear lx hg0 hfr hN hsh hc0
  have hcut0 := hx.cut (k := 1 + (N + 3) / 4) (by omega)
  have hw2 : ∀ x ∈ cells.drop (1 + (N + 3) / 4), 0 ≤ x ∧ x < 4294967296 := fun x hx => hw x (List.mem_of_mem_drop hx)
  rw [show (ints .u32 cells).drop (1 + (N + 3) / 4) = ints .u32 (cells.drop (1 + (N + 3) / 4)) from by simp [ints]] at hcut0
  have hci : 1 + ((N : Int) + 3) / 4 = ((1 + (N + 3) / 4 : Nat) : Int) := by omega
  have hcf0 := hcf
  have hcut := hcut0
  rw [if_neg hcf] at hcut
  have HB := refBytes_all _ hw2 _ _ _ (4 * (n - (1 + (N + 3) / 4))) w hcut (by omega)
  rw [bytesAns, if_pos (Nat.le_refl _)] at HB
  clear hcut0
  have Hci := Lib.hid hci
  clear hci
  go_enter Try.func27, Try.ntmps27
  go_wp2_with fail
  rw [show 4 * ((n : Int) - (1 + ((N : Int) + 3) / 4)) = ((4 * (n - (1 + (N + 3) / 4)) : Nat) : Int) from by omega]
  refine HB.mono ?_
  clear HB hcut
  rintro e w1 ⟨rfl, hb1⟩
  rw [← HT.out]
  have htl : (textB cells).length = 4 * (n - (1 + (N + 3) / 4)) := by rw [HT.out, bytesUp_length]
  have htl9 : (textB cells).length ≤ 100000 := by omega
  clear HT
  obtain ⟨tb, htb⟩ : ∃ tb, textB cells = tb := ⟨_, rfl⟩
  rw [htb] at htl9 htl ⊢
  have HT := Lib.hid htb
  clear htb
  have hcv := run_bytes_of_string (P := Try.prog) w1 9 49 5 ⟨tb.toArray⟩ Try.underlying9 Try.underlying49 Try.underlying5
  have hszb : (⟨tb.toArray⟩ : ByteArray).size = tb.length := by show tb.toArray.size = _; simp
  rw [hszb] at hcv
  have hgc := grownCap_ge w1 tb.length 0 5
  generalize grownCap w1 tb.length 0 5 = cap at *
  have hRb := conv_reads w1 tb cap hgc 5 ((bytesRow ⟨tb.toArray⟩ cap).size, (bytesRow ⟨tb.toArray⟩ cap).size + 1)
  have hBb : Below w.heap.size w (w1.alloc (.cells (bytesRow ⟨tb.toArray⟩ cap) 5 ((bytesRow ⟨tb.toArray⟩ cap).size, (bytesRow ⟨tb.toArray⟩ cap).size + 1))) := hb1.alloc hb1.size _
  have hb9 := hb1.size
  clear htl hszb
  go_wp2_with fail
  generalize hA : w1.alloc (.cells (bytesRow ⟨tb.toArray⟩ cap) 5 ((bytesRow ⟨tb.toArray⟩ cap).size, (bytesRow ⟨tb.toArray⟩ cap).size + 1)) = wA at *
  have hAs : wA.heap.size = w1.heap.size + 1 := by rw [← hA]; simp
  clear hA
  have hoE : (wA.alloc (.cells #[] 52)).drew.ownsRow wA.heap.size 52 2 (.slice (some ⟨wA.heap.size, 0, none⟩) 0 0) 0 [] := own_empty wA 52 2
  rw [hAs] at hoE
  have hRb2 := (hRb.alloc (by omega) (.cells #[] 52)).drew
  have hBc : Below w.heap.size w (wA.alloc (.cells #[] 52)).drew := (hBb.alloc hBb.size _).drew
  have hW0s : (wA.alloc (.cells #[] 52)).drew.heap.size = w1.heap.size + 1 + 1 := by
    show (wA.alloc _).heap.size = _
    simp [hAs]
  clear hRb hBb hAs hcv
  generalize (wA.alloc (.cells #[] 52)).drew = W0 at *
  generalize hb0 : w1.heap.size = b0 at *
  generalize hg : b0 + 1 = g at *
  have hwg : w.heap.size ≤ g := by omega
  have Hg := Lib.hid hg
  have Hb0 := Lib.hid hb0
  clear hg hb0
  have hE0 : OwnE W0 g (.slice (some ⟨g, 0, none⟩) 0 0) [] := ⟨by simpa using hoE, by simp, by simp⟩
  clear hoE
  go_loopw [9, 10, 11] (fun at_ out i wr => ∃ (k p : Nat) (l : List Ent), k ≤ N ∧ i = .int .i64 (k : Int) ∧ at_ = .int .i64 (p : Int) ∧ p ≤ tb.length ∧ l.length = k ∧ Hid (∀ e ∈ vals l, 0 ≤ e.1 ∧ e.1 ≤ 65535 * (k : Int)) ∧ OwnE wr g out l ∧ Hid (Inv cells k (vals l) p) ∧ Below g W0 wr ∧ g ≤ wr.heap.size) (fun _ _ i _ => N - (intOf i).toNat)
  case atStart => exact ⟨0, 0, [], by omega, rfl, rfl, Nat.zero_le _, rfl, Lib.hid (by simp [vals]), hE0, Lib.hid inv_0, Below.refl _ _, by omega⟩
  case round =>
    clear hE0
    obtain ⟨k, p, l, hk, rfl, rfl, hp, hlk, hbd, hE, hI, hBg, hgs⟩ := hrel
    have hBw : Below w.heap.size w wr := hBc.trans (hBg.mono hwg)
    by_cases hlt : k < N
    · have hlt' : (k : Int) < (N : Int) := by omega
      have HG := refGet_any tb (some ⟨b0, 0, none⟩) tb.length cap p wr ((hRb2.below hBg).more hgs) (by omega) hp
      have hnx := get_next_le tb p
      obtain ⟨G, hG⟩ : ∃ G, getL tb p = G := ⟨_, rfl⟩
      have hbad := inv_bad HT.out HN.out hI.out hlt
      rw [hG] at HG hnx hbad
      obtain ⟨x, nx, er⟩ := G
      simp only [gotV] at HG
      simp only at hnx hbad
      have HG0 := Lib.hid hG
      have Hbad := Lib.hid hbad
      clear hG hbad
      go_wp2_with fail
      refine HG.mono ?_
      clear HG
      rintro e w2 ⟨rfl, rfl⟩
      by_cases her : er = 0
      · subst her
        by_cases hx6 : x ≤ 65535
        · have hx6' : ¬ (65535 : Int) < (x : Int) := by omega
          have hp2 := hnx rfl
          clear hnx Hbad
          have HG := refGet_any tb (some ⟨b0, 0, none⟩) tb.length cap nx wr ((hRb2.below hBg).more hgs) (by omega) hp2
          have hnx := get_next_le tb nx
          obtain ⟨G, hG⟩ : ∃ G, getL tb nx = G := ⟨_, rfl⟩
          have hbad := inv_bad2 HT.out HN.out hI.out hlt HG0.out
          rw [hG] at HG hnx hbad
          obtain ⟨m, n2, er⟩ := G
          simp only [gotV] at HG
          simp only at hnx hbad
          have HG1 := Lib.hid hG
          have Hbad := Lib.hid hbad
          clear hG hbad
          go_wp2_with fail
          refine HG.mono ?_
          clear HG
          rintro e w2 ⟨rfl, rfl⟩
          by_cases her : er = 0
          · subst her
            by_cases hm6 : m ≤ 256
            · have hm6' : ¬ (256 : Int) < (m : Int) := by omega
              have hp3 := hnx rfl
              clear hnx Hbad
              obtain ⟨wo, rfl⟩ : ∃ wo : World, wo = wr := ⟨_, rfl⟩
              have HBnd := Lib.hid (fun (e : En) (he : e ∈ vals l) => hbd.out e he)
              obtain ⟨h, hh⟩ : ∃ h, h = wo.heap.size := ⟨_, rfl⟩
              have hgh : g ≤ h := by omega
              have hlt3 := hE.lt
              rw [← hh] at hlt3
              have hE3 := hE.below ((Below.refl _ _).alloc (Nat.le_refl _) (.cells #[.int .i64 (x : Int), .slice none 0 0] 52))
              have hBg3 : Below g W0 (wo.alloc (.cells #[.int .i64 (x : Int), .slice none 0 0] 52)) := hBg.alloc (by omega) _
              have r3 := Row.new wo 52 [.int .i64 (x : Int), .slice none 0 0]
              have hs3 : (wo.alloc (.cells #[.int .i64 (x : Int), .slice none 0 0] 52)).heap.size = h + 1 := by simp [hh]
              by_cases h4 : k % 4 = 0
              · have h4' : ((k : Int) % 4 != 0) = false := by simp; omega
                have HJ : Hid (Inv2 cells k (vals l) (x : Int) m 0 [] n2) := Lib.hid (inv2_0 HT.out HN.out hI.out hlt HG0.out HG1.out (by rw [if_pos h4]; omega))
                have HDb : 0 ≤ (x : Int) ∧ (x : Int) ≤ 65535 * ((k + 1 : Nat) : Int) := by omega
                rw [← hh] at r3
                have hF0 : ∀ j, j < h → (wo.alloc (.cells #[.int .i64 (x : Int), .slice none 0 0] 52)).heap[j]? = wo.heap[j]? := fun j hj => heap_alloc_old wo _ (by omega)
                generalize hW : wo.alloc (.cells #[.int .i64 (x : Int), .slice none 0 0] 52) = w4 at *
                have Hh := Lib.hid hh
                have HW := Lib.hid hW
                have Hs3 := Lib.hid hs3
                have Hlk := Lib.hid hlk
                clear hs3 hh hW hBg hgs hbd hp hI hlk
                go_wp2_with fail
                rw [HW.out, ← Hh.out]
                go_loopw [13, 17] (fun nx_ j wr2 => ∃ (t p2 : Nat) (vp : Value) (Ps : List Int), t ≤ m ∧ j = .int .i64 (t : Int) ∧ nx_ = .int .i64 (p2 : Int) ∧ p2 ≤ tb.length ∧ Ps.length = t ∧ Hid (∀ y ∈ Ps, 0 ≤ y ∧ y ≤ 65535 * (t : Int)) ∧ Row wr2 h 52 [.int .i64 (x : Int), vp] ∧ wr2.ownsRow (h + 1) 3 1 vp t (ints .i64 Ps) ∧ Hid (∀ j, j < h → wr2.heap[j]? = wo.heap[j]?) ∧ Below g W0 wr2 ∧ h + 1 ≤ wr2.heap.size ∧ Hid (Inv2 cells k (vals l) (x : Int) m t Ps p2)) (fun _ j _ => m - (intOf j).toNat)
                case atStart => exact ⟨0, n2, _, [], by omega, rfl, rfl, hp3, rfl, Lib.hid (by simp), r3, World.ownsRow_nil _ _ _ _, Lib.hid hF0, hBg3, by have := Hs3.out; omega, HJ⟩
                case round =>
                  clear r3 hE3 hBg3 hF0
                  obtain ⟨t, p2, vp, Ps, ht, rfl, rfl, hp4, hPl, hPb, hr, hvp, hF, hBr, hsr, hJ⟩ := hrel
                  by_cases hlt2 : t < m
                  · have hlt2' : (t : Int) < (m : Int) := by omega
                    have hBw2 : Below w.heap.size w wr := hBc.trans (hBr.mono hwg)
                    have HG := refGet_any tb (some ⟨b0, 0, none⟩) tb.length cap p2 wr ((hRb2.below hBr).more (by omega)) (by omega) hp4
                    have hnx := get_next_le tb p2
                    obtain ⟨G, hG⟩ : ∃ G, getL tb p2 = G := ⟨_, rfl⟩
                    have hbad := inv2_bad HT.out HN.out hJ.out hlt hlt2
                    rw [hG] at HG hnx hbad
                    obtain ⟨v5, nx5, er⟩ := G
                    simp only [gotV] at HG
                    simp only at hnx hbad
                    have HG5 := Lib.hid hG
                    have Hbad := Lib.hid hbad
                    clear hG hbad
                    go_wp2_with fail
                    refine HG.mono ?_
                    clear HG
                    rintro e w5 ⟨rfl, rfl⟩
                    by_cases her : er = 0
                    · subst her
                      by_cases hv6 : v5 ≤ 65535
                      · have hv6' : ¬ (65535 : Int) < (v5 : Int) := by omega
                        have hp5 := hnx rfl
                        clear hnx Hbad
                        have hl5 := hvp.lt
                        have q1 : wr.cell? ⟨h, 1, none⟩ = some vp := hr.cell 1
                        by_cases ht0 : t = 0
                        · subst ht0
                          have HJ6 : Hid (Inv2 cells k (vals l) (x : Int) m 1 (Ps ++ [(v5 : Int)]) nx5) := Lib.hid (inv2_step HT.out HN.out hJ.out hlt hlt2 HG5.out _ (by rw [List.eq_nil_of_length_eq_zero hPl]; simp))
                          obtain rfl : Ps = [] := List.eq_nil_of_length_eq_zero hPl
                          have HPb6 : Hid (∀ y ∈ [(v5 : Int)], 0 ≤ y ∧ y ≤ 65535 * ((1 : Nat) : Int)) := Lib.hid (fun y hy => by rw [List.mem_singleton.1 hy]; omega)
                          go_wp2_with (first
                            | (at_builtin; refine wpList_append_oneB rfl (.tmp 144) (.tmp 147) 50 rfl (h + 1) 3 i0 _ 1 8 Try.underlying50 hi0 hz0 hz1 hz2 rfl (by omega) _ 0 _ [.int .i64 (v5 : Int)] rfl hvp rfl rfl (by simp [Value.oneCell']) (by omega) (by omega) hsr ?_; intro v6 w6 hown6 hg6 hv6; obtain ⟨A6, c6, rfl, _, _, _⟩ := ReadsK.of_own hown6; have hB6 := below_grown hBr hvp (show g ≤ h + 1 by omega) (show g ≤ wr.heap.size by omega) hg6; have hr6 : Row w6 h 52 [.int .i64 (x : Int), vp] := (hg6.block h (by omega) (fun e => by have := (hl5 _ e.symm).1; omega)).trans hr; have hF6 : Hid (∀ j, j < h → w6.heap[j]? = wo.heap[j]?) := Lib.hid (fun j h1 => (hg6.block j (by omega) (fun e => by have := (hl5 _ e.symm).1; omega)).trans (hF.out j h1)); have hl6 := hown6.lt; have hs6 := hg6.size; clear q1)
                            | (refine wpList_store_cellO rfl 50 (.tmp 149) (.tmp 148) rfl h 1 (.slice A6 1 c6) rfl rfl 52 _ hr6 (by simp) rfl (by kernel_rfl) g W0 hB6 (by omega) ?_; intro w7 hr7 hB7 hs7 hk7))
                          have hown7 := hown6.kept (grown_of hB6 hB7 hs7 hk7) (.inr fun e => by have := (hl6 _ e).1; omega)
                          have hF7 : Hid (∀ j, j < h → w7.heap[j]? = wo.heap[j]?) := Lib.hid (fun j h1 => (hk7 j (by omega)).trans (hF6.out j h1))
                          have hs8 : h + 1 ≤ w7.heap.size := by omega
                          go_roundw
                          case rel => exact ⟨1, nx5, .slice A6 1 c6, [(v5 : Int)], by omega, by go_num, by go_num, hp5, rfl, HPb6, hr7, by simpa [ints] using hown7, hF7, hB7, hs8, HJ6⟩
                          case measure => simp [intOf]; omega
                        · obtain ⟨t', rfl⟩ : ∃ t', t = t' + 1 := ⟨t - 1, by omega⟩
                          obtain ⟨Ap, cp, rfl, hrp, _, _⟩ := ownsRow_slice hvp
                          obtain ⟨ap, hlp, rfl, _, c0⟩ := hrp.int (i := t') (by omega)
                          have hlast : Ps.getLast?.getD 0 = Ps[t'] := by rw [List.getLast?_eq_getElem?, hPl]; simp [hlp]
                          have hpb := hPb.out Ps[t'] (List.getElem_mem hlp)
                          have HJ6 : Hid (Inv2 cells k (vals l) (x : Int) m (t' + 1 + 1) (Ps ++ [Ps[t'] + (v5 : Int)]) nx5) := Lib.hid (inv2_step HT.out HN.out hJ.out hlt hlt2 HG5.out _ (by rw [hlast]; omega))
                          have HPb6 : Hid (∀ y ∈ Ps ++ [Ps[t'] + (v5 : Int)], 0 ≤ y ∧ y ≤ 65535 * ((t' + 1 + 1 : Nat) : Int)) := Lib.hid (fun y hy => by
                            rcases List.mem_append.1 hy with hy | hy
                            · have := hPb.out y hy
                              omega
                            · rw [List.mem_singleton.1 hy]
                              omega)
                          have HPl6 : Hid ((Ps ++ [Ps[t'] + (v5 : Int)]).length = t' + 1 + 1) := Lib.hid (by rw [List.length_append, hPl]; rfl)
                          clear hlast hrp
                          generalize Ps[t'] = pv at *
                          have hrd : Row wr.drew h 52 [.int .i64 (x : Int), .slice (some ap) (t' + 1) cp] := hr.drew
                          have hvpd : wr.drew.ownsRow (h + 1) 3 1 (.slice (some ap) (t' + 1) cp) (t' + 1) (ints .i64 Ps) := hvp
                          have hBrd : Below g W0 wr.drew := hBr.drew
                          have q1d : wr.drew.cell? ⟨h, 1, none⟩ = some (.slice (some ap) (t' + 1) cp) := q1
                          have c0d : wr.drew.cell? (ap.add t') = some (.int .i64 pv) := c0
                          have hsd : h + 1 ≤ wr.drew.heap.size := hsr
                          have hFd : Hid (∀ j, j < h → wr.drew.heap[j]? = wo.heap[j]?) := Lib.hid (fun j h1 => hF.out j h1)
                          have hl5d : ∀ k, (Value.slice (some ap) (t' + 1) cp).ownBlock = some k → h + 1 ≤ k ∧ k < wr.drew.heap.size := hl5
                          have ht1 : (0 : Int) < (t' : Int) + 1 := by omega
                          have q1a : (wr.alloc (.cells #[.int .i64 (pv + (v5 : Int))] 3)).drew.cell? ⟨h, 1, none⟩ = some (.slice (some ap) (t' + 1) cp) := (World.cell?_alloc_lt wr _ _ (by show h < _; omega)).trans q1
                          have hwv : IntKind.i64.wrap (v5 : Int) = (v5 : Int) := IntWalk.i64_in _ (by omega)
                          clear hr hvp hBr q1 c0 hsr hF hl5 ht0
                          have hp0 : 0 ≤ pv + (v5 : Int) := by omega
                          have hp9 : pv + (v5 : Int) < 100000000 := by omega
                          have ht9 : t' < m := by omega
                          clear hlt2
                          have hti : (t' : Int) < (t' : Int) + 1 := by omega
                          have hwt : IntKind.i64.wrap (t' : Int) = (t' : Int) := IntWalk.i64_in _ (by omega)
                          have hwp : IntKind.i64.wrap (pv + (v5 : Int)) = pv + (v5 : Int) := IntWalk.i64_in _ (by omega)
                          go_wp2_with fail
                          refine wp_region_open (S := fun _ => True) #[false, false, false, false, false, false, false, false, false, false, false, false, false, false, false] 15 (by kernel_rfl) (by kernel_rfl) rfl trivial (fun hHeld => ?_)
                          refine tk (i := 0) (v := ?_) rfl (by kernel_rfl) (by kernel_rfl) (by kernel_rfl) (Or.inl ⟨by rfl, ?_⟩) (by assumption) ?_; rotate_left 1
                          · intro w hSw; (try dsimp only at hSw); go_simp; try with_reducible rfl
                          try simp only [Act.put, List.getElem_toArray, List.getElem_cons_zero, List.setIfInBounds_toArray, List.set_cons_zero, List.set_cons_succ]
                          refine tk (i := 2) (v := ?_) rfl (by kernel_rfl) (by kernel_rfl) (by kernel_rfl) (Or.inl ⟨by rfl, ?_⟩) (by assumption) ?_; rotate_left 1
                          · intro w hSw; (try dsimp only at hSw); go_simp; try with_reducible rfl
                          try simp only [Act.put, List.getElem_toArray, List.getElem_cons_zero, List.getElem_cons_succ, List.setIfInBounds_toArray, List.set_cons_zero, List.set_cons_succ]
                          refine tk (i := 4) (v := ?_) rfl (by kernel_rfl) (by kernel_rfl) (by kernel_rfl) (Or.inl ⟨by rfl, ?_⟩) (by assumption) ?_; rotate_left 1
                          · intro w hSw; (try dsimp only at hSw); go_simp; try with_reducible rfl
                          try simp only [Act.put, List.getElem_toArray, List.getElem_cons_zero, List.getElem_cons_succ, List.setIfInBounds_toArray, List.set_cons_zero, List.set_cons_succ]
                          refine tk (i := 5) (v := ?_) rfl (by kernel_rfl) (by kernel_rfl) (by kernel_rfl) (Or.inl ⟨by rfl, ?_⟩) (by assumption) ?_; rotate_left 1
                          · intro w hSw; (try dsimp only at hSw); go_simp; try with_reducible rfl
                          try simp only [Act.put, List.getElem_toArray, List.getElem_cons_zero, List.getElem_cons_succ, List.setIfInBounds_toArray, List.set_cons_zero, List.set_cons_succ]
                          refine tk (i := 8) (v := ?_) rfl (by kernel_rfl) (by kernel_rfl) (by kernel_rfl) (Or.inl ⟨by rfl, ?_⟩) (by assumption) ?_; rotate_left 1
                          · intro w hSw; (try dsimp only at hSw); go_simp; try with_reducible rfl
                          try simp only [Act.put, List.getElem_toArray, List.getElem_cons_zero, List.getElem_cons_succ, List.setIfInBounds_toArray, List.set_cons_zero, List.set_cons_succ]
                          refine tk (i := 9) (v := ?_) rfl (by kernel_rfl) (by kernel_rfl) (by kernel_rfl) (Or.inl ⟨by rfl, ?_⟩) (by assumption) ?_; rotate_left 1
                          · intro w hSw; (try dsimp only at hSw); go_simp; try with_reducible rfl
                          try simp only [Act.put, List.getElem_toArray, List.getElem_cons_zero, List.getElem_cons_succ, List.setIfInBounds_toArray, List.set_cons_zero, List.set_cons_succ]
                          apply viaKey
                          · intro key
                            refine wpAnyH_ready (rs := [1, 3]) (by kernel_rfl) (by simp) ?_
                            refine AllReadyH.cons (o := _) rfl (fun K hK => ?_) ?_
                            · go_simp
                              refine hK.out _ _ trivial (fun hHeld => ?_)
                              clear hK K
                              try simp only [List.setIfInBounds_toArray, List.set_cons_zero, List.set_cons_succ]
                              refine wpAnyH_ready (rs := [3]) (by kernel_rfl) (by simp) ?_
                              refine AllReadyH.cons (o := _) rfl (fun K hK => ?_) ?_
                              · go_simp
                                refine hK.out _ _ trivial (fun hHeld => ?_)
                                clear hK K
                                try simp only [List.setIfInBounds_toArray, List.set_cons_zero, List.set_cons_succ]
                                refine tk (i := 6) (v := ?_) rfl (by kernel_rfl) (by kernel_rfl) (by kernel_rfl) (Or.inl ⟨by rfl, ?_⟩) (by assumption) ?_; rotate_left 1
                                · intro w hSw; (try dsimp only at hSw); go_simp; try with_reducible rfl
                                try simp only [Act.put, List.getElem_toArray, List.getElem_cons_zero, List.getElem_cons_succ, List.setIfInBounds_toArray, List.set_cons_zero, List.set_cons_succ]
                                refine wpAnyH_ready (rs := [7]) (by kernel_rfl) (by simp) ?_
                                refine AllReadyH.cons (o := _) rfl (fun K hK => ?_) ?_
                                · go_simp
                                  refine hK.out _ _ trivial (fun hHeld => ?_)
                                  clear hK K
                                  try simp only [List.setIfInBounds_toArray, List.set_cons_zero, List.set_cons_succ]
                                  refine tk (i := 10) (v := ?_) rfl (by kernel_rfl) (by kernel_rfl) (by kernel_rfl) (Or.inl ⟨by rfl, ?_⟩) (by assumption) ?_; rotate_left 1
                                  · intro w hSw; (try dsimp only at hSw); go_simp; try with_reducible rfl
                                  try simp only [Act.put, List.getElem_toArray, List.getElem_cons_zero, List.getElem_cons_succ, List.setIfInBounds_toArray, List.set_cons_zero, List.set_cons_succ]
                                  refine wpAnyH_ready (rs := [11]) (by kernel_rfl) (by simp) ?_
                                  refine AllReadyH.cons (o := _) rfl (fun K hK => ?_) ?_
                                  · go_simp
                                    refine hK.out _ _ trivial (fun hHeld => ?_)
                                    clear hK K
                                    try simp only [List.setIfInBounds_toArray, List.set_cons_zero, List.set_cons_succ]
                                    exact key
                                  exact AllReadyH.nil
                                exact AllReadyH.nil
                              exact AllReadyH.nil
                            refine AllReadyH.cons (o := _) rfl (fun K hK => ?_) ?_
                            · go_simp
                              refine hK.out _ _ trivial (fun hHeld => ?_)
                              clear hK K
                              try simp only [List.setIfInBounds_toArray, List.set_cons_zero, List.set_cons_succ]
                              refine tk (i := 6) (v := ?_) rfl (by kernel_rfl) (by kernel_rfl) (by kernel_rfl) (Or.inl ⟨by rfl, ?_⟩) (by assumption) ?_; rotate_left 1
                              · intro w hSw; (try dsimp only at hSw); go_simp; try with_reducible rfl
                              try simp only [Act.put, List.getElem_toArray, List.getElem_cons_zero, List.getElem_cons_succ, List.setIfInBounds_toArray, List.set_cons_zero, List.set_cons_succ]
                              refine wpAnyH_ready (rs := [1, 7]) (by kernel_rfl) (by simp) ?_
                              refine AllReadyH.cons (o := _) rfl (fun K hK => ?_) ?_
                              · go_simp
                                refine hK.out _ _ trivial (fun hHeld => ?_)
                                clear hK K
                                try simp only [List.setIfInBounds_toArray, List.set_cons_zero, List.set_cons_succ]
                                refine wpAnyH_ready (rs := [7]) (by kernel_rfl) (by simp) ?_
                                refine AllReadyH.cons (o := _) rfl (fun K hK => ?_) ?_
                                · go_simp
                                  refine hK.out _ _ trivial (fun hHeld => ?_)
                                  clear hK K
                                  try simp only [List.setIfInBounds_toArray, List.set_cons_zero, List.set_cons_succ]
                                  refine tk (i := 10) (v := ?_) rfl (by kernel_rfl) (by kernel_rfl) (by kernel_rfl) (Or.inl ⟨by rfl, ?_⟩) (by assumption) ?_; rotate_left 1
                                  · intro w hSw; (try dsimp only at hSw); go_simp; try with_reducible rfl
                                  try simp only [Act.put, List.getElem_toArray, List.getElem_cons_zero, List.getElem_cons_succ, List.setIfInBounds_toArray, List.set_cons_zero, List.set_cons_succ]
                                  refine wpAnyH_ready (rs := [11]) (by kernel_rfl) (by simp) ?_
                                  refine AllReadyH.cons (o := _) rfl (fun K hK => ?_) ?_
                                  · go_simp
                                    refine hK.out _ _ trivial (fun hHeld => ?_)
                                    clear hK K
                                    try simp only [List.setIfInBounds_toArray, List.set_cons_zero, List.set_cons_succ]
                                    exact key
                                  exact AllReadyH.nil
                                exact AllReadyH.nil
                              refine AllReadyH.cons (o := _) rfl (fun K hK => ?_) ?_
                              · go_simp
                                refine hK.out _ _ trivial (fun hHeld => ?_)
                                clear hK K
                                try simp only [List.setIfInBounds_toArray, List.set_cons_zero, List.set_cons_succ]
                                refine tk (i := 10) (v := ?_) rfl (by kernel_rfl) (by kernel_rfl) (by kernel_rfl) (Or.inl ⟨by rfl, ?_⟩) (by assumption) ?_; rotate_left 1
                                · intro w hSw; (try dsimp only at hSw); go_simp; try with_reducible rfl
                                try simp only [Act.put, List.getElem_toArray, List.getElem_cons_zero, List.getElem_cons_succ, List.setIfInBounds_toArray, List.set_cons_zero, List.set_cons_succ]
                                refine wpAnyH_ready (rs := [1, 11]) (by kernel_rfl) (by simp) ?_
                                refine AllReadyH.cons (o := _) rfl (fun K hK => ?_) ?_
                                · go_simp
                                  refine hK.out _ _ trivial (fun hHeld => ?_)
                                  clear hK K
                                  try simp only [List.setIfInBounds_toArray, List.set_cons_zero, List.set_cons_succ]
                                  refine wpAnyH_ready (rs := [11]) (by kernel_rfl) (by simp) ?_
                                  refine AllReadyH.cons (o := _) rfl (fun K hK => ?_) ?_
                                  · go_simp
                                    refine hK.out _ _ trivial (fun hHeld => ?_)
                                    clear hK K
                                    try simp only [List.setIfInBounds_toArray, List.set_cons_zero, List.set_cons_succ]
                                    exact key
                                  exact AllReadyH.nil
                                refine AllReadyH.cons (o := _) rfl (fun K hK => ?_) ?_
                                · go_simp
                                  refine hK.out _ _ trivial (fun hHeld => ?_)
                                  clear hK K
                                  try simp only [List.setIfInBounds_toArray, List.set_cons_zero, List.set_cons_succ]
                                  refine wpAnyH_ready (rs := [1]) (by kernel_rfl) (by simp) ?_
                                  refine AllReadyH.cons (o := _) rfl (fun K hK => ?_) ?_
                                  · go_simp
                                    refine hK.out _ _ trivial (fun hHeld => ?_)
                                    clear hK K
                                    try simp only [List.setIfInBounds_toArray, List.set_cons_zero, List.set_cons_succ]
                                    exact key
                                  exact AllReadyH.nil
                                exact AllReadyH.nil
                              exact AllReadyH.nil
                            exact AllReadyH.nil
                          refine wpAnyH_ready (rs := [12]) (by kernel_rfl) (by simp) ?_
                          refine AllReadyH.cons (o := _) rfl (fun K hK => ?_) AllReadyH.nil
                          refine step_append_oneB (W := wr.drew) rfl (.tmp 130) (.tmp 140) 50 rfl (h + 1) 3 i0 _ 1 8 Try.underlying50 hi0 hz0 hz1 hz2 rfl (by omega) _ (t' + 1) _ [.int .i64 (pv + (v5 : Int))] rfl hvpd rfl rfl (by simp [Value.oneCell']) (by omega) (by omega) hsd ?_
                          intro v6 w6 hown6 hg6 hv6
                          obtain ⟨A6, c6, rfl, _, _, _⟩ := ReadsK.of_own hown6
                          have hB6 := below_grown hBrd hvpd (show g ≤ h + 1 by omega) (show g ≤ wr.drew.heap.size by omega) hg6
                          have hr6 : Row w6 h 52 [.int .i64 (x : Int), .slice (some ap) (t' + 1) cp] := (hg6.block h (by omega) (fun e => by have := (hl5d _ e.symm).1; omega)).trans hrd
                          have hF6 : Hid (∀ j, j < h → w6.heap[j]? = wo.heap[j]?) := Lib.hid (fun j h1 => (hg6.block j (by omega) (fun e => by have := (hl5d _ e.symm).1; omega)).trans (hFd.out j h1))
                          have hl6 := hown6.lt
                          have hs6 := hg6.size
                          clear q1d c0d q1a
                          refine hK.out _ _ trivial (fun hHeld => ?_)
                          clear hK K
                          try simp only [Act.put, List.getElem_toArray, List.getElem_cons_zero, List.getElem_cons_succ, List.setIfInBounds_toArray, List.set_cons_zero, List.set_cons_succ]
                          refine tk (i := 13) (v := .pointer (some ⟨h, 1, none⟩)) rfl (by kernel_rfl) (by kernel_rfl) (by kernel_rfl) (Or.inl ⟨by rfl, by intro w hSw; rfl⟩) (by assumption) ?_
                          try simp only [Act.put, List.getElem_toArray, List.getElem_cons_zero, List.getElem_cons_succ, List.setIfInBounds_toArray, List.set_cons_zero, List.set_cons_succ]
                          refine wpAnyH_ready (rs := [14]) (by kernel_rfl) (by simp) ?_
                          refine AllReadyH.cons (o := _) rfl (fun K hK => ?_) AllReadyH.nil
                          refine step_store_cellO rfl 50 (.tmp 142) (.tmp 141) rfl h 1 (.slice A6 (t' + 1 + 1) c6) rfl rfl 52 _ hr6 (by simp) rfl (by kernel_rfl) g W0 hB6 (by omega) ?_
                          intro w7 hr7 hB7 hs7 hk7
                          refine hK.out _ _ trivial (fun hHeld => ?_)
                          clear hK K
                          try simp only [Act.put, List.getElem_toArray, List.getElem_cons_zero, List.getElem_cons_succ, List.setIfInBounds_toArray, List.set_cons_zero, List.set_cons_succ]
                          refine wpAnyH_done (by kernel_rfl) ?_ _
                          refine NoPanic.normal ?_
                          have hown7 := hown6.kept (grown_of hB6 hB7 hs7 hk7) (.inr fun e => by have := (hl6 _ e).1; omega)
                          have hF7 : Hid (∀ j, j < h → w7.heap[j]? = wo.heap[j]?) := Lib.hid (fun j h1 => (hk7 j (by omega)).trans (hF6.out j h1))
                          have hs8 : h + 1 ≤ w7.heap.size := by have : wr.drew.heap.size = wr.heap.size := rfl; omega
                          go_wp2_with fail
                          go_roundw
                          case rel => exact ⟨t' + 1 + 1, nx5, .slice A6 (t' + 1 + 1) c6, _, by omega, by go_num, by go_num, hp5, HPl6.out, HPb6, hr7, by simpa [ints] using hown7, hF7, hB7, hs8, HJ6⟩
                          case measure => simp [intOf]; omega
                      · have hx6' : (65535 : Int) < (v5 : Int) := by omega
                        have HD := Lib.hid (Hbad.out (.inr (by omega)))
                        clear Hbad
                        go_wp2
                        go_ret2
                        exact ⟨none, 0, 0, [], by rw [HD.out]; rfl, ReadsE.nil_ _ _ _ _, Nat.zero_le _, by rw [HD.out]; rfl, hBw2, OwnE.nil_ _ _⟩
                    · have he2 : (((er : Nat) : Int) != 0) = true := by simp; omega
                      have HD := Lib.hid (Hbad.out (.inl her))
                      clear Hbad her hnx
                      go_wp2
                      go_ret2
                      exact ⟨none, 0, 0, [], by rw [HD.out]; rfl, ReadsE.nil_ _ _ _ _, Nat.zero_le _, by rw [HD.out]; rfl, hBw2, OwnE.nil_ _ _⟩
                  · have hlt2' : ¬ (t : Int) < (m : Int) := by omega
                    obtain rfl : m = t := by omega
                    have HI := Lib.hid (inv2_end HN.out hJ.out hlt)
                    have hEr : OwnE wr g u10 l := hE.frame' (fun j hj => hF.out j hj) hlt3.1 hlt3.2
                    obtain ⟨Ap, cp, rfl, _, _, _⟩ := ReadsK.of_own hvp
                    have q0 : wr.cell? ⟨h, 0, none⟩ = some (.int .i64 (x : Int)) := hr.cell 0
                    have q1 : wr.cell? ⟨h, 1, none⟩ = some (.slice Ap m cp) := hr.cell 1
                    have hAPv : AP (.slice Ap m cp) u10 := fun b h1 h2 => by
                      have h3 := (hvp.lt b h1).1
                      have h4 := hlt3.1 b h2
                      omega
                    have hel := hEr.row.lt
                    have hll9 : l.length ≤ 64 := by have := Hlk.out; omega
                    have hsr9 : g ≤ wr.heap.size := by omega
                    go_wp2_with (at_builtin; refine wpList_append_oneB rfl (.tmp 150) (.tmp 152) 31 rfl g 52 j0 _ 2 32 Try.underlying31 hj0 hy0 hy1 hy2 rfl (by omega) _ l.length _ [.int .i64 (x : Int), .slice Ap m cp] rfl hEr.row rfl rfl (by simp [Value.oneCell']) (by omega) (by omega) hsr9 ?_; intro v8 w8 hown8 hg8 hv8)
                    have hB8 := below_grown hBr hEr.row (Nat.le_refl _) hsr9 hg8
                    have hE8 : OwnE w8 g v8 (l ++ [(⟨Ap, m, cp⟩, ((x : Int), Ps))]) := by
                      refine ⟨by simpa [enC] using hown8, fun z hz => ?_, fun z hz => ?_⟩
                      · rcases List.mem_append.1 hz with hz | hz
                        · exact (hEr.pos z hz).kept hg8 (hEr.ap z hz).symm.ne
                        · obtain rfl := List.mem_singleton.1 hz
                          exact (ownsRow_base hvp (by omega)).kept hg8 hAPv.ne
                      · rcases List.mem_append.1 hz with hz | hz
                        · exact ((hEr.ap z hz).symm.step (hEr.pos z hz) (Nat.le_succ _) hv8).symm
                        · obtain rfl := List.mem_singleton.1 hz
                          exact (hAPv.step hvp (Nat.le_succ _) hv8).symm
                    have hs8 := hg8.size
                    have HE8 := Lib.hid hE8
                    have HV8 : Hid (vals (l ++ [(⟨Ap, m, cp⟩, ((x : Int), Ps))]) = vals l ++ [((x : Int), Ps)]) := Lib.hid (by rw [vals, List.map_append]; rfl)
                    have HB8 : Hid (∀ e ∈ vals l ++ [((x : Int), Ps)], 0 ≤ e.1 ∧ e.1 ≤ 65535 * ((k + 1 : Nat) : Int)) := Lib.hid (fun e he => by
                      rcases List.mem_append.1 he with he | he
                      · have := HBnd.out e he
                        omega
                      · rw [List.mem_singleton.1 he]
                        exact HDb)
                    clear hE8
                    go_roundw
                    case rel => exact ⟨k + 1, p2, _, by omega, by go_num, by go_num, hp4, by rw [List.length_append, Hlk.out]; rfl, by rw [HV8.out]; exact HB8, HE8.out, by rw [HV8.out]; exact HI, hB8, by omega⟩
                    case measure => simp [intOf]; omega
              · have h4' : ((k : Int) % 4 != 0) = true := by simp; omega
                obtain ⟨A9, c9, rfl, _, _, _⟩ := ReadsK.of_own hE.row
                obtain ⟨a9, d9, P9, A8, c8, rfl, hb9, hen9, e0, e1, _⟩ := (hE3.reads rfl).at' (i := k - 1) (by omega)
                have hm9 : enAt (vals l) (k - 1) ∈ vals l := by rw [enAt_get _ _ (by rw [vals, List.length_map]; omega)]; exact List.getElem_mem _
                have hd9 := HBnd.out _ hm9
                rw [hen9] at hd9
                simp only at hd9
                have HJ : Hid (Inv2 cells k (vals l) ((x : Int) + d9) m 0 [] n2) := Lib.hid (inv2_0 HT.out HN.out hI.out hlt HG0.out HG1.out (by rw [if_neg h4, hen9]))
                have HDb : 0 ≤ (x : Int) + d9 ∧ (x : Int) + d9 ≤ 65535 * ((k + 1 : Nat) : Int) := by omega
                obtain ⟨k', hk'⟩ : ∃ k', k - 1 = k' := ⟨_, rfl⟩
                have hki : (k : Int) - 1 = (k' : Int) := by omega
                have hk'l : (k' : Int) < (l.length : Int) := by omega
                have hwk : IntKind.i64.wrap (k' : Int) = (k' : Int) := IntWalk.i64_in _ (by omega)
                have hwd : IntKind.i64.wrap ((x : Int) + d9) = (x : Int) + d9 := IntWalk.i64_in _ (by omega)
                rw [hk'] at e0
                rw [← hh] at r3
                have hF0 : ∀ j, j < h → (wo.alloc (.cells #[.int .i64 (x : Int), .slice none 0 0] 52)).heap[j]? = wo.heap[j]? := fun j hj => heap_alloc_old wo _ (by omega)
                generalize hW : wo.alloc (.cells #[.int .i64 (x : Int), .slice none 0 0] 52) = w4 at *
                have Hh := Lib.hid hh
                have HW := Lib.hid hW
                have Hlk := Lib.hid hlk
                have hsd : h + 1 ≤ w4.drew.heap.size := by show h + 1 ≤ w4.heap.size; omega
                have r3d : Row w4.drew h 52 [.int .i64 (x : Int), .slice none 0 0] := r3.drew
                have hBg3d : Below g W0 w4.drew := hBg3.drew
                have hF0d : ∀ j, j < h → w4.drew.heap[j]? = wo.heap[j]? := fun j hj => hF0 j hj
                have e0d : w4.drew.cell? (a9.add (k' * 2)) = some (.int .i64 d9) := e0
                have r0d : w4.drew.cell? ⟨h, 0, none⟩ = some (.int .i64 (x : Int)) := r3.cell 0
                have Hs30 := Lib.hid hs3
                clear hs3 hh hW hBg hgs hbd hp hI e0 e1 r3 hBg3 hF0 hk' hen9 hm9 hlk hE3 hb9
                go_wp2_with fail
                rw [HW.out, ← Hh.out]
                refine wp_region_open (S := fun _ => True) #[false, false, false, false, false, false, false, false, false, false, false] 11 (by kernel_rfl) (by kernel_rfl) rfl trivial (fun hHeld => ?_)
                refine tk (i := 0) (v := ?_) rfl (by kernel_rfl) (by kernel_rfl) (by kernel_rfl) (Or.inl ⟨by rfl, ?_⟩) (by assumption) ?_; rotate_left 1
                · intro w hSw; (try dsimp only at hSw); go_simp; try with_reducible rfl
                try simp only [Act.put, List.getElem_toArray, List.getElem_cons_zero, List.setIfInBounds_toArray, List.set_cons_zero, List.set_cons_succ]
                refine tk (i := 2) (v := ?_) rfl (by kernel_rfl) (by kernel_rfl) (by kernel_rfl) (Or.inl ⟨by rfl, ?_⟩) (by assumption) ?_; rotate_left 1
                · intro w hSw; (try dsimp only at hSw); go_simp; try with_reducible rfl
                try simp only [Act.put, List.getElem_toArray, List.getElem_cons_zero, List.getElem_cons_succ, List.setIfInBounds_toArray, List.set_cons_zero, List.set_cons_succ]
                refine tk (i := 3) (v := ?_) rfl (by kernel_rfl) (by kernel_rfl) (by kernel_rfl) (Or.inl ⟨by rfl, ?_⟩) (by assumption) ?_; rotate_left 1
                · intro w hSw; (try dsimp only at hSw); go_simp; try with_reducible rfl
                try simp only [Act.put, List.getElem_toArray, List.getElem_cons_zero, List.getElem_cons_succ, List.setIfInBounds_toArray, List.set_cons_zero, List.set_cons_succ]
                refine tk (i := 4) (v := ?_) rfl (by kernel_rfl) (by kernel_rfl) (by kernel_rfl) (Or.inl ⟨by rfl, ?_⟩) (by assumption) ?_; rotate_left 1
                · intro w hSw; (try dsimp only at hSw); go_simp; try with_reducible rfl
                try simp only [Act.put, List.getElem_toArray, List.getElem_cons_zero, List.getElem_cons_succ, List.setIfInBounds_toArray, List.set_cons_zero, List.set_cons_succ]
                refine tk (i := 5) (v := ?_) rfl (by kernel_rfl) (by kernel_rfl) (by kernel_rfl) (Or.inl ⟨by rfl, ?_⟩) (by assumption) ?_; rotate_left 1
                · intro w hSw; (try dsimp only at hSw); go_simp; try with_reducible rfl
                try simp only [Act.put, List.getElem_toArray, List.getElem_cons_zero, List.getElem_cons_succ, List.setIfInBounds_toArray, List.set_cons_zero, List.set_cons_succ]
                refine tk (i := 6) (v := ?_) rfl (by kernel_rfl) (by kernel_rfl) (by kernel_rfl) (Or.inl ⟨by rfl, ?_⟩) (by assumption) ?_; rotate_left 1
                · intro w hSw; (try dsimp only at hSw); go_simp; try with_reducible rfl
                try simp only [Act.put, List.getElem_toArray, List.getElem_cons_zero, List.getElem_cons_succ, List.setIfInBounds_toArray, List.set_cons_zero, List.set_cons_succ]
                apply viaKey
                · intro key
                  refine wpAnyH_ready (rs := [1, 7]) (by kernel_rfl) (by simp) ?_
                  refine AllReadyH.cons (o := _) rfl (fun K hK => ?_) ?_
                  · go_simp
                    refine hK.out _ _ trivial (fun hHeld => ?_)
                    clear hK K
                    try simp only [List.setIfInBounds_toArray, List.set_cons_zero, List.set_cons_succ]
                    refine wpAnyH_ready (rs := [7]) (by kernel_rfl) (by simp) ?_
                    refine AllReadyH.cons (o := _) rfl (fun K hK => ?_) ?_
                    · go_simp
                      refine hK.out _ _ trivial (fun hHeld => ?_)
                      clear hK K
                      try simp only [List.setIfInBounds_toArray, List.set_cons_zero, List.set_cons_succ]
                      refine tk (i := 8) (v := ?_) rfl (by kernel_rfl) (by kernel_rfl) (by kernel_rfl) (Or.inl ⟨by rfl, ?_⟩) (by assumption) ?_; rotate_left 1
                      · intro w hSw; (try dsimp only at hSw); go_simp; try with_reducible rfl
                      try simp only [Act.put, List.getElem_toArray, List.getElem_cons_zero, List.getElem_cons_succ, List.setIfInBounds_toArray, List.set_cons_zero, List.set_cons_succ]
                      exact key
                    exact AllReadyH.nil
                  refine AllReadyH.cons (o := _) rfl (fun K hK => ?_) ?_
                  · go_simp
                    refine hK.out _ _ trivial (fun hHeld => ?_)
                    clear hK K
                    try simp only [List.setIfInBounds_toArray, List.set_cons_zero, List.set_cons_succ]
                    refine wpAnyH_ready (rs := [1]) (by kernel_rfl) (by simp) ?_
                    refine AllReadyH.cons (o := _) rfl (fun K hK => ?_) ?_
                    · go_simp
                      refine hK.out _ _ trivial (fun hHeld => ?_)
                      clear hK K
                      try simp only [List.setIfInBounds_toArray, List.set_cons_zero, List.set_cons_succ]
                      refine tk (i := 8) (v := ?_) rfl (by kernel_rfl) (by kernel_rfl) (by kernel_rfl) (Or.inl ⟨by rfl, ?_⟩) (by assumption) ?_; rotate_left 1
                      · intro w hSw; (try dsimp only at hSw); go_simp; try with_reducible rfl
                      try simp only [Act.put, List.getElem_toArray, List.getElem_cons_zero, List.getElem_cons_succ, List.setIfInBounds_toArray, List.set_cons_zero, List.set_cons_succ]
                      exact key
                    exact AllReadyH.nil
                  exact AllReadyH.nil
                refine tk (i := 9) (v := .pointer (some ⟨h, 0, none⟩)) rfl (by kernel_rfl) (by kernel_rfl) (by kernel_rfl) (Or.inl ⟨by rfl, by intro w hSw; rfl⟩) (by assumption) ?_
                try simp only [Act.put, List.getElem_toArray, List.getElem_cons_zero, List.getElem_cons_succ, List.setIfInBounds_toArray, List.set_cons_zero, List.set_cons_succ]
                refine wpAnyH_ready (rs := [10]) (by kernel_rfl) (by simp) ?_
                refine AllReadyH.cons (o := _) rfl (fun K hK => ?_) AllReadyH.nil
                refine step_store_cellO rfl 3 (.tmp 106) (.tmp 105) rfl h 0 (.int .i64 ((x : Int) + d9)) rfl rfl 52 _ r3d (by simp) rfl (by kernel_rfl) g W0 hBg3d (by omega) ?_
                intro w5 hr5 hB5 hs5 hk5
                refine hK.out _ _ trivial (fun hHeld => ?_)
                clear hK K
                try simp only [Act.put, List.getElem_toArray, List.getElem_cons_zero, List.getElem_cons_succ, List.setIfInBounds_toArray, List.set_cons_zero, List.set_cons_succ]
                refine wpAnyH_done (by kernel_rfl) ?_ _
                refine NoPanic.normal ?_
                have hs3 : w5.heap.size = h + 1 := hs5.trans Hs30.out
                have hF0 : ∀ j, j < h → w5.heap[j]? = wo.heap[j]? := fun j hj => (hk5 j (by omega)).trans (hF0d j hj)
                have r3 : Row w5 h 52 [.int .i64 ((x : Int) + d9), .slice none 0 0] := hr5
                have hBg3 := hB5
                have Hs3 := Lib.hid hs3
                have hE3 := True.intro
                clear hs3 hr5 hB5 hs5 hk5 r3d hBg3d hF0d e0d r0d hsd hki hk'l hwk hwd
                go_wp2_with fail
                go_loopw [13, 17] (fun nx_ j wr2 => ∃ (t p2 : Nat) (vp : Value) (Ps : List Int), t ≤ m ∧ j = .int .i64 (t : Int) ∧ nx_ = .int .i64 (p2 : Int) ∧ p2 ≤ tb.length ∧ Ps.length = t ∧ Hid (∀ y ∈ Ps, 0 ≤ y ∧ y ≤ 65535 * (t : Int)) ∧ Row wr2 h 52 [.int .i64 ((x : Int) + d9), vp] ∧ wr2.ownsRow (h + 1) 3 1 vp t (ints .i64 Ps) ∧ Hid (∀ j, j < h → wr2.heap[j]? = wo.heap[j]?) ∧ Below g W0 wr2 ∧ h + 1 ≤ wr2.heap.size ∧ Hid (Inv2 cells k (vals l) ((x : Int) + d9) m t Ps p2)) (fun _ j _ => m - (intOf j).toNat)
                case atStart => exact ⟨0, n2, _, [], by omega, rfl, rfl, hp3, rfl, Lib.hid (by simp), r3, World.ownsRow_nil _ _ _ _, Lib.hid hF0, hBg3, by have := Hs3.out; omega, HJ⟩
                case round =>
                  clear r3 hE3 hBg3 hF0
                  obtain ⟨t, p2, vp, Ps, ht, rfl, rfl, hp4, hPl, hPb, hr, hvp, hF, hBr, hsr, hJ⟩ := hrel
                  by_cases hlt2 : t < m
                  · have hlt2' : (t : Int) < (m : Int) := by omega
                    have hBw2 : Below w.heap.size w wr := hBc.trans (hBr.mono hwg)
                    have HG := refGet_any tb (some ⟨b0, 0, none⟩) tb.length cap p2 wr ((hRb2.below hBr).more (by omega)) (by omega) hp4
                    have hnx := get_next_le tb p2
                    obtain ⟨G, hG⟩ : ∃ G, getL tb p2 = G := ⟨_, rfl⟩
                    have hbad := inv2_bad HT.out HN.out hJ.out hlt hlt2
                    rw [hG] at HG hnx hbad
                    obtain ⟨v5, nx5, er⟩ := G
                    simp only [gotV] at HG
                    simp only at hnx hbad
                    have HG5 := Lib.hid hG
                    have Hbad := Lib.hid hbad
                    clear hG hbad
                    go_wp2_with fail
                    refine HG.mono ?_
                    clear HG
                    rintro e w5 ⟨rfl, rfl⟩
                    by_cases her : er = 0
                    · subst her
                      by_cases hv6 : v5 ≤ 65535
                      · have hv6' : ¬ (65535 : Int) < (v5 : Int) := by omega
                        have hp5 := hnx rfl
                        clear hnx Hbad
                        have hl5 := hvp.lt
                        have q1 : wr.cell? ⟨h, 1, none⟩ = some vp := hr.cell 1
                        by_cases ht0 : t = 0
                        · subst ht0
                          have HJ6 : Hid (Inv2 cells k (vals l) ((x : Int) + d9) m 1 (Ps ++ [(v5 : Int)]) nx5) := Lib.hid (inv2_step HT.out HN.out hJ.out hlt hlt2 HG5.out _ (by rw [List.eq_nil_of_length_eq_zero hPl]; simp))
                          obtain rfl : Ps = [] := List.eq_nil_of_length_eq_zero hPl
                          have HPb6 : Hid (∀ y ∈ [(v5 : Int)], 0 ≤ y ∧ y ≤ 65535 * ((1 : Nat) : Int)) := Lib.hid (fun y hy => by rw [List.mem_singleton.1 hy]; omega)
                          go_wp2_with (first
                            | (at_builtin; refine wpList_append_oneB rfl (.tmp 144) (.tmp 147) 50 rfl (h + 1) 3 i0 _ 1 8 Try.underlying50 hi0 hz0 hz1 hz2 rfl (by omega) _ 0 _ [.int .i64 (v5 : Int)] rfl hvp rfl rfl (by simp [Value.oneCell']) (by omega) (by omega) hsr ?_; intro v6 w6 hown6 hg6 hv6; obtain ⟨A6, c6, rfl, _, _, _⟩ := ReadsK.of_own hown6; have hB6 := below_grown hBr hvp (show g ≤ h + 1 by omega) (show g ≤ wr.heap.size by omega) hg6; have hr6 : Row w6 h 52 [.int .i64 ((x : Int) + d9), vp] := (hg6.block h (by omega) (fun e => by have := (hl5 _ e.symm).1; omega)).trans hr; have hF6 : Hid (∀ j, j < h → w6.heap[j]? = wo.heap[j]?) := Lib.hid (fun j h1 => (hg6.block j (by omega) (fun e => by have := (hl5 _ e.symm).1; omega)).trans (hF.out j h1)); have hl6 := hown6.lt; have hs6 := hg6.size; clear q1)
                            | (refine wpList_store_cellO rfl 50 (.tmp 149) (.tmp 148) rfl h 1 (.slice A6 1 c6) rfl rfl 52 _ hr6 (by simp) rfl (by kernel_rfl) g W0 hB6 (by omega) ?_; intro w7 hr7 hB7 hs7 hk7))
                          have hown7 := hown6.kept (grown_of hB6 hB7 hs7 hk7) (.inr fun e => by have := (hl6 _ e).1; omega)
                          have hF7 : Hid (∀ j, j < h → w7.heap[j]? = wo.heap[j]?) := Lib.hid (fun j h1 => (hk7 j (by omega)).trans (hF6.out j h1))
                          have hs8 : h + 1 ≤ w7.heap.size := by omega
                          go_roundw
                          case rel => exact ⟨1, nx5, .slice A6 1 c6, [(v5 : Int)], by omega, by go_num, by go_num, hp5, rfl, HPb6, hr7, by simpa [ints] using hown7, hF7, hB7, hs8, HJ6⟩
                          case measure => simp [intOf]; omega
                        · obtain ⟨t', rfl⟩ : ∃ t', t = t' + 1 := ⟨t - 1, by omega⟩
                          obtain ⟨Ap, cp, rfl, hrp, _, _⟩ := ownsRow_slice hvp
                          obtain ⟨ap, hlp, rfl, _, c0⟩ := hrp.int (i := t') (by omega)
                          have hlast : Ps.getLast?.getD 0 = Ps[t'] := by rw [List.getLast?_eq_getElem?, hPl]; simp [hlp]
                          have hpb := hPb.out Ps[t'] (List.getElem_mem hlp)
                          have HJ6 : Hid (Inv2 cells k (vals l) ((x : Int) + d9) m (t' + 1 + 1) (Ps ++ [Ps[t'] + (v5 : Int)]) nx5) := Lib.hid (inv2_step HT.out HN.out hJ.out hlt hlt2 HG5.out _ (by rw [hlast]; omega))
                          have HPb6 : Hid (∀ y ∈ Ps ++ [Ps[t'] + (v5 : Int)], 0 ≤ y ∧ y ≤ 65535 * ((t' + 1 + 1 : Nat) : Int)) := Lib.hid (fun y hy => by
                            rcases List.mem_append.1 hy with hy | hy
                            · have := hPb.out y hy
                              omega
                            · rw [List.mem_singleton.1 hy]
                              omega)
                          have HPl6 : Hid ((Ps ++ [Ps[t'] + (v5 : Int)]).length = t' + 1 + 1) := Lib.hid (by rw [List.length_append, hPl]; rfl)
                          clear hlast hrp
                          generalize Ps[t'] = pv at *
                          have hrd : Row wr.drew h 52 [.int .i64 ((x : Int) + d9), .slice (some ap) (t' + 1) cp] := hr.drew
                          have hvpd : wr.drew.ownsRow (h + 1) 3 1 (.slice (some ap) (t' + 1) cp) (t' + 1) (ints .i64 Ps) := hvp
                          have hBrd : Below g W0 wr.drew := hBr.drew
                          have q1d : wr.drew.cell? ⟨h, 1, none⟩ = some (.slice (some ap) (t' + 1) cp) := q1
                          have c0d : wr.drew.cell? (ap.add t') = some (.int .i64 pv) := c0
                          have hsd : h + 1 ≤ wr.drew.heap.size := hsr
                          have hFd : Hid (∀ j, j < h → wr.drew.heap[j]? = wo.heap[j]?) := Lib.hid (fun j h1 => hF.out j h1)
                          have hl5d : ∀ k, (Value.slice (some ap) (t' + 1) cp).ownBlock = some k → h + 1 ≤ k ∧ k < wr.drew.heap.size := hl5
                          have ht1 : (0 : Int) < (t' : Int) + 1 := by omega
                          have q1a : (wr.alloc (.cells #[.int .i64 (pv + (v5 : Int))] 3)).drew.cell? ⟨h, 1, none⟩ = some (.slice (some ap) (t' + 1) cp) := (World.cell?_alloc_lt wr _ _ (by show h < _; omega)).trans q1
                          have hwv : IntKind.i64.wrap (v5 : Int) = (v5 : Int) := IntWalk.i64_in _ (by omega)
                          clear hr hvp hBr q1 c0 hsr hF hl5 ht0
                          have hp0 : 0 ≤ pv + (v5 : Int) := by omega
                          have hp9 : pv + (v5 : Int) < 100000000 := by omega
                          have ht9 : t' < m := by omega
                          clear hlt2
                          have hti : (t' : Int) < (t' : Int) + 1 := by omega
                          have hwt : IntKind.i64.wrap (t' : Int) = (t' : Int) := IntWalk.i64_in _ (by omega)
                          have hwp : IntKind.i64.wrap (pv + (v5 : Int)) = pv + (v5 : Int) := IntWalk.i64_in _ (by omega)
                          go_wp2_with fail
                          refine wp_region_open (S := fun _ => True) #[false, false, false, false, false, false, false, false, false, false, false, false, false, false, false] 15 (by kernel_rfl) (by kernel_rfl) rfl trivial (fun hHeld => ?_)
                          refine tk (i := 0) (v := ?_) rfl (by kernel_rfl) (by kernel_rfl) (by kernel_rfl) (Or.inl ⟨by rfl, ?_⟩) (by assumption) ?_; rotate_left 1
                          · intro w hSw; (try dsimp only at hSw); go_simp; try with_reducible rfl
                          try simp only [Act.put, List.getElem_toArray, List.getElem_cons_zero, List.setIfInBounds_toArray, List.set_cons_zero, List.set_cons_succ]
                          refine tk (i := 2) (v := ?_) rfl (by kernel_rfl) (by kernel_rfl) (by kernel_rfl) (Or.inl ⟨by rfl, ?_⟩) (by assumption) ?_; rotate_left 1
                          · intro w hSw; (try dsimp only at hSw); go_simp; try with_reducible rfl
                          try simp only [Act.put, List.getElem_toArray, List.getElem_cons_zero, List.getElem_cons_succ, List.setIfInBounds_toArray, List.set_cons_zero, List.set_cons_succ]
                          refine tk (i := 4) (v := ?_) rfl (by kernel_rfl) (by kernel_rfl) (by kernel_rfl) (Or.inl ⟨by rfl, ?_⟩) (by assumption) ?_; rotate_left 1
                          · intro w hSw; (try dsimp only at hSw); go_simp; try with_reducible rfl
                          try simp only [Act.put, List.getElem_toArray, List.getElem_cons_zero, List.getElem_cons_succ, List.setIfInBounds_toArray, List.set_cons_zero, List.set_cons_succ]
                          refine tk (i := 5) (v := ?_) rfl (by kernel_rfl) (by kernel_rfl) (by kernel_rfl) (Or.inl ⟨by rfl, ?_⟩) (by assumption) ?_; rotate_left 1
                          · intro w hSw; (try dsimp only at hSw); go_simp; try with_reducible rfl
                          try simp only [Act.put, List.getElem_toArray, List.getElem_cons_zero, List.getElem_cons_succ, List.setIfInBounds_toArray, List.set_cons_zero, List.set_cons_succ]
                          refine tk (i := 8) (v := ?_) rfl (by kernel_rfl) (by kernel_rfl) (by kernel_rfl) (Or.inl ⟨by rfl, ?_⟩) (by assumption) ?_; rotate_left 1
                          · intro w hSw; (try dsimp only at hSw); go_simp; try with_reducible rfl
                          try simp only [Act.put, List.getElem_toArray, List.getElem_cons_zero, List.getElem_cons_succ, List.setIfInBounds_toArray, List.set_cons_zero, List.set_cons_succ]
                          refine tk (i := 9) (v := ?_) rfl (by kernel_rfl) (by kernel_rfl) (by kernel_rfl) (Or.inl ⟨by rfl, ?_⟩) (by assumption) ?_; rotate_left 1
                          · intro w hSw; (try dsimp only at hSw); go_simp; try with_reducible rfl
                          try simp only [Act.put, List.getElem_toArray, List.getElem_cons_zero, List.getElem_cons_succ, List.setIfInBounds_toArray, List.set_cons_zero, List.set_cons_succ]
                          apply viaKey
                          · intro key
                            refine wpAnyH_ready (rs := [1, 3]) (by kernel_rfl) (by simp) ?_
                            refine AllReadyH.cons (o := _) rfl (fun K hK => ?_) ?_
                            · go_simp
                              refine hK.out _ _ trivial (fun hHeld => ?_)
                              clear hK K
                              try simp only [List.setIfInBounds_toArray, List.set_cons_zero, List.set_cons_succ]
                              refine wpAnyH_ready (rs := [3]) (by kernel_rfl) (by simp) ?_
                              refine AllReadyH.cons (o := _) rfl (fun K hK => ?_) ?_
                              · go_simp
                                refine hK.out _ _ trivial (fun hHeld => ?_)
                                clear hK K
                                try simp only [List.setIfInBounds_toArray, List.set_cons_zero, List.set_cons_succ]
                                refine tk (i := 6) (v := ?_) rfl (by kernel_rfl) (by kernel_rfl) (by kernel_rfl) (Or.inl ⟨by rfl, ?_⟩) (by assumption) ?_; rotate_left 1
                                · intro w hSw; (try dsimp only at hSw); go_simp; try with_reducible rfl
                                try simp only [Act.put, List.getElem_toArray, List.getElem_cons_zero, List.getElem_cons_succ, List.setIfInBounds_toArray, List.set_cons_zero, List.set_cons_succ]
                                refine wpAnyH_ready (rs := [7]) (by kernel_rfl) (by simp) ?_
                                refine AllReadyH.cons (o := _) rfl (fun K hK => ?_) ?_
                                · go_simp
                                  refine hK.out _ _ trivial (fun hHeld => ?_)
                                  clear hK K
                                  try simp only [List.setIfInBounds_toArray, List.set_cons_zero, List.set_cons_succ]
                                  refine tk (i := 10) (v := ?_) rfl (by kernel_rfl) (by kernel_rfl) (by kernel_rfl) (Or.inl ⟨by rfl, ?_⟩) (by assumption) ?_; rotate_left 1
                                  · intro w hSw; (try dsimp only at hSw); go_simp; try with_reducible rfl
                                  try simp only [Act.put, List.getElem_toArray, List.getElem_cons_zero, List.getElem_cons_succ, List.setIfInBounds_toArray, List.set_cons_zero, List.set_cons_succ]
                                  refine wpAnyH_ready (rs := [11]) (by kernel_rfl) (by simp) ?_
                                  refine AllReadyH.cons (o := _) rfl (fun K hK => ?_) ?_
                                  · go_simp
                                    refine hK.out _ _ trivial (fun hHeld => ?_)
                                    clear hK K
                                    try simp only [List.setIfInBounds_toArray, List.set_cons_zero, List.set_cons_succ]
                                    exact key
                                  exact AllReadyH.nil
                                exact AllReadyH.nil
                              exact AllReadyH.nil
                            refine AllReadyH.cons (o := _) rfl (fun K hK => ?_) ?_
                            · go_simp
                              refine hK.out _ _ trivial (fun hHeld => ?_)
                              clear hK K
                              try simp only [List.setIfInBounds_toArray, List.set_cons_zero, List.set_cons_succ]
                              refine tk (i := 6) (v := ?_) rfl (by kernel_rfl) (by kernel_rfl) (by kernel_rfl) (Or.inl ⟨by rfl, ?_⟩) (by assumption) ?_; rotate_left 1
                              · intro w hSw; (try dsimp only at hSw); go_simp; try with_reducible rfl
                              try simp only [Act.put, List.getElem_toArray, List.getElem_cons_zero, List.getElem_cons_succ, List.setIfInBounds_toArray, List.set_cons_zero, List.set_cons_succ]
                              refine wpAnyH_ready (rs := [1, 7]) (by kernel_rfl) (by simp) ?_
                              refine AllReadyH.cons (o := _) rfl (fun K hK => ?_) ?_
                              · go_simp
                                refine hK.out _ _ trivial (fun hHeld => ?_)
                                clear hK K
                                try simp only [List.setIfInBounds_toArray, List.set_cons_zero, List.set_cons_succ]
                                refine wpAnyH_ready (rs := [7]) (by kernel_rfl) (by simp) ?_
                                refine AllReadyH.cons (o := _) rfl (fun K hK => ?_) ?_
                                · go_simp
                                  refine hK.out _ _ trivial (fun hHeld => ?_)
                                  clear hK K
                                  try simp only [List.setIfInBounds_toArray, List.set_cons_zero, List.set_cons_succ]
                                  refine tk (i := 10) (v := ?_) rfl (by kernel_rfl) (by kernel_rfl) (by kernel_rfl) (Or.inl ⟨by rfl, ?_⟩) (by assumption) ?_; rotate_left 1
                                  · intro w hSw; (try dsimp only at hSw); go_simp; try with_reducible rfl
                                  try simp only [Act.put, List.getElem_toArray, List.getElem_cons_zero, List.getElem_cons_succ, List.setIfInBounds_toArray, List.set_cons_zero, List.set_cons_succ]
                                  refine wpAnyH_ready (rs := [11]) (by kernel_rfl) (by simp) ?_
                                  refine AllReadyH.cons (o := _) rfl (fun K hK => ?_) ?_
                                  · go_simp
                                    refine hK.out _ _ trivial (fun hHeld => ?_)
                                    clear hK K
                                    try simp only [List.setIfInBounds_toArray, List.set_cons_zero, List.set_cons_succ]
                                    exact key
                                  exact AllReadyH.nil
                                exact AllReadyH.nil
                              refine AllReadyH.cons (o := _) rfl (fun K hK => ?_) ?_
                              · go_simp
                                refine hK.out _ _ trivial (fun hHeld => ?_)
                                clear hK K
                                try simp only [List.setIfInBounds_toArray, List.set_cons_zero, List.set_cons_succ]
                                refine tk (i := 10) (v := ?_) rfl (by kernel_rfl) (by kernel_rfl) (by kernel_rfl) (Or.inl ⟨by rfl, ?_⟩) (by assumption) ?_; rotate_left 1
                                · intro w hSw; (try dsimp only at hSw); go_simp; try with_reducible rfl
                                try simp only [Act.put, List.getElem_toArray, List.getElem_cons_zero, List.getElem_cons_succ, List.setIfInBounds_toArray, List.set_cons_zero, List.set_cons_succ]
                                refine wpAnyH_ready (rs := [1, 11]) (by kernel_rfl) (by simp) ?_
                                refine AllReadyH.cons (o := _) rfl (fun K hK => ?_) ?_
                                · go_simp
                                  refine hK.out _ _ trivial (fun hHeld => ?_)
                                  clear hK K
                                  try simp only [List.setIfInBounds_toArray, List.set_cons_zero, List.set_cons_succ]
                                  refine wpAnyH_ready (rs := [11]) (by kernel_rfl) (by simp) ?_
                                  refine AllReadyH.cons (o := _) rfl (fun K hK => ?_) ?_
                                  · go_simp
                                    refine hK.out _ _ trivial (fun hHeld => ?_)
                                    clear hK K
                                    try simp only [List.setIfInBounds_toArray, List.set_cons_zero, List.set_cons_succ]
                                    exact key
                                  exact AllReadyH.nil
                                refine AllReadyH.cons (o := _) rfl (fun K hK => ?_) ?_
                                · go_simp
                                  refine hK.out _ _ trivial (fun hHeld => ?_)
                                  clear hK K
                                  try simp only [List.setIfInBounds_toArray, List.set_cons_zero, List.set_cons_succ]
                                  refine wpAnyH_ready (rs := [1]) (by kernel_rfl) (by simp) ?_
                                  refine AllReadyH.cons (o := _) rfl (fun K hK => ?_) ?_
                                  · go_simp
                                    refine hK.out _ _ trivial (fun hHeld => ?_)
                                    clear hK K
                                    try simp only [List.setIfInBounds_toArray, List.set_cons_zero, List.set_cons_succ]
                                    exact key
                                  exact AllReadyH.nil
                                exact AllReadyH.nil
                              exact AllReadyH.nil
                            exact AllReadyH.nil
                          refine wpAnyH_ready (rs := [12]) (by kernel_rfl) (by simp) ?_
                          refine AllReadyH.cons (o := _) rfl (fun K hK => ?_) AllReadyH.nil
                          refine step_append_oneB (W := wr.drew) rfl (.tmp 130) (.tmp 140) 50 rfl (h + 1) 3 i0 _ 1 8 Try.underlying50 hi0 hz0 hz1 hz2 rfl (by omega) _ (t' + 1) _ [.int .i64 (pv + (v5 : Int))] rfl hvpd rfl rfl (by simp [Value.oneCell']) (by omega) (by omega) hsd ?_
                          intro v6 w6 hown6 hg6 hv6
                          obtain ⟨A6, c6, rfl, _, _, _⟩ := ReadsK.of_own hown6
                          have hB6 := below_grown hBrd hvpd (show g ≤ h + 1 by omega) (show g ≤ wr.drew.heap.size by omega) hg6
                          have hr6 : Row w6 h 52 [.int .i64 ((x : Int) + d9), .slice (some ap) (t' + 1) cp] := (hg6.block h (by omega) (fun e => by have := (hl5d _ e.symm).1; omega)).trans hrd
                          have hF6 : Hid (∀ j, j < h → w6.heap[j]? = wo.heap[j]?) := Lib.hid (fun j h1 => (hg6.block j (by omega) (fun e => by have := (hl5d _ e.symm).1; omega)).trans (hFd.out j h1))
                          have hl6 := hown6.lt
                          have hs6 := hg6.size
                          clear q1d c0d q1a
                          refine hK.out _ _ trivial (fun hHeld => ?_)
                          clear hK K
                          try simp only [Act.put, List.getElem_toArray, List.getElem_cons_zero, List.getElem_cons_succ, List.setIfInBounds_toArray, List.set_cons_zero, List.set_cons_succ]
                          refine tk (i := 13) (v := .pointer (some ⟨h, 1, none⟩)) rfl (by kernel_rfl) (by kernel_rfl) (by kernel_rfl) (Or.inl ⟨by rfl, by intro w hSw; rfl⟩) (by assumption) ?_
                          try simp only [Act.put, List.getElem_toArray, List.getElem_cons_zero, List.getElem_cons_succ, List.setIfInBounds_toArray, List.set_cons_zero, List.set_cons_succ]
                          refine wpAnyH_ready (rs := [14]) (by kernel_rfl) (by simp) ?_
                          refine AllReadyH.cons (o := _) rfl (fun K hK => ?_) AllReadyH.nil
                          refine step_store_cellO rfl 50 (.tmp 142) (.tmp 141) rfl h 1 (.slice A6 (t' + 1 + 1) c6) rfl rfl 52 _ hr6 (by simp) rfl (by kernel_rfl) g W0 hB6 (by omega) ?_
                          intro w7 hr7 hB7 hs7 hk7
                          refine hK.out _ _ trivial (fun hHeld => ?_)
                          clear hK K
                          try simp only [Act.put, List.getElem_toArray, List.getElem_cons_zero, List.getElem_cons_succ, List.setIfInBounds_toArray, List.set_cons_zero, List.set_cons_succ]
                          refine wpAnyH_done (by kernel_rfl) ?_ _
                          refine NoPanic.normal ?_
                          have hown7 := hown6.kept (grown_of hB6 hB7 hs7 hk7) (.inr fun e => by have := (hl6 _ e).1; omega)
                          have hF7 : Hid (∀ j, j < h → w7.heap[j]? = wo.heap[j]?) := Lib.hid (fun j h1 => (hk7 j (by omega)).trans (hF6.out j h1))
                          have hs8 : h + 1 ≤ w7.heap.size := by have : wr.drew.heap.size = wr.heap.size := rfl; omega
                          go_wp2_with fail
                          go_roundw
                          case rel => exact ⟨t' + 1 + 1, nx5, .slice A6 (t' + 1 + 1) c6, _, by omega, by go_num, by go_num, hp5, HPl6.out, HPb6, hr7, by simpa [ints] using hown7, hF7, hB7, hs8, HJ6⟩
                          case measure => simp [intOf]; omega
                      · have hx6' : (65535 : Int) < (v5 : Int) := by omega
                        have HD := Lib.hid (Hbad.out (.inr (by omega)))
                        clear Hbad
                        go_wp2
                        go_ret2
                        exact ⟨none, 0, 0, [], by rw [HD.out]; rfl, ReadsE.nil_ _ _ _ _, Nat.zero_le _, by rw [HD.out]; rfl, hBw2, OwnE.nil_ _ _⟩
                    · have he2 : (((er : Nat) : Int) != 0) = true := by simp; omega
                      have HD := Lib.hid (Hbad.out (.inl her))
                      clear Hbad her hnx
                      go_wp2
                      go_ret2
                      exact ⟨none, 0, 0, [], by rw [HD.out]; rfl, ReadsE.nil_ _ _ _ _, Nat.zero_le _, by rw [HD.out]; rfl, hBw2, OwnE.nil_ _ _⟩
                  · have hlt2' : ¬ (t : Int) < (m : Int) := by omega
                    obtain rfl : m = t := by omega
                    have HI := Lib.hid (inv2_end HN.out hJ.out hlt)
                    have hEr : OwnE wr g (.slice (some a9) l.length c9) l := hE.frame' (fun j hj => hF.out j hj) hlt3.1 hlt3.2
                    obtain ⟨Ap, cp, rfl, _, _, _⟩ := ReadsK.of_own hvp
                    have q0 : wr.cell? ⟨h, 0, none⟩ = some (.int .i64 ((x : Int) + d9)) := hr.cell 0
                    have q1 : wr.cell? ⟨h, 1, none⟩ = some (.slice Ap m cp) := hr.cell 1
                    have hAPv : AP (.slice Ap m cp) (.slice (some a9) l.length c9) := fun b h1 h2 => by
                      have h3 := (hvp.lt b h1).1
                      have h4 := hlt3.1 b h2
                      omega
                    have hel := hEr.row.lt
                    have hll9 : l.length ≤ 64 := by have := Hlk.out; omega
                    have hsr9 : g ≤ wr.heap.size := by omega
                    go_wp2_with (at_builtin; refine wpList_append_oneB rfl (.tmp 150) (.tmp 152) 31 rfl g 52 j0 _ 2 32 Try.underlying31 hj0 hy0 hy1 hy2 rfl (by omega) _ l.length _ [.int .i64 ((x : Int) + d9), .slice Ap m cp] rfl hEr.row rfl rfl (by simp [Value.oneCell']) (by omega) (by omega) hsr9 ?_; intro v8 w8 hown8 hg8 hv8)
                    have hB8 := below_grown hBr hEr.row (Nat.le_refl _) hsr9 hg8
                    have hE8 : OwnE w8 g v8 (l ++ [(⟨Ap, m, cp⟩, (((x : Int) + d9), Ps))]) := by
                      refine ⟨by simpa [enC] using hown8, fun z hz => ?_, fun z hz => ?_⟩
                      · rcases List.mem_append.1 hz with hz | hz
                        · exact (hEr.pos z hz).kept hg8 (hEr.ap z hz).symm.ne
                        · obtain rfl := List.mem_singleton.1 hz
                          exact (ownsRow_base hvp (by omega)).kept hg8 hAPv.ne
                      · rcases List.mem_append.1 hz with hz | hz
                        · exact ((hEr.ap z hz).symm.step (hEr.pos z hz) (Nat.le_succ _) hv8).symm
                        · obtain rfl := List.mem_singleton.1 hz
                          exact (hAPv.step hvp (Nat.le_succ _) hv8).symm
                    have hs8 := hg8.size
                    have HE8 := Lib.hid hE8
                    have HV8 : Hid (vals (l ++ [(⟨Ap, m, cp⟩, (((x : Int) + d9), Ps))]) = vals l ++ [(((x : Int) + d9), Ps)]) := Lib.hid (by rw [vals, List.map_append]; rfl)
                    have HB8 : Hid (∀ e ∈ vals l ++ [(((x : Int) + d9), Ps)], 0 ≤ e.1 ∧ e.1 ≤ 65535 * ((k + 1 : Nat) : Int)) := Lib.hid (fun e he => by
                      rcases List.mem_append.1 he with he | he
                      · have := HBnd.out e he
                        omega
                      · rw [List.mem_singleton.1 he]
                        exact HDb)
                    clear hE8
                    go_roundw
                    case rel => exact ⟨k + 1, p2, _, by omega, by go_num, by go_num, hp4, by rw [List.length_append, Hlk.out]; rfl, by rw [HV8.out]; exact HB8, HE8.out, by rw [HV8.out]; exact HI, hB8, by omega⟩
                    case measure => simp [intOf]; omega
            · have hx6' : (256 : Int) < (m : Int) := by omega
              have HD := Lib.hid (Hbad.out (.inr (by omega)))
              clear Hbad
              go_wp2
              go_ret2
              exact ⟨none, 0, 0, [], by rw [HD.out]; rfl, ReadsE.nil_ _ _ _ _, Nat.zero_le _, by rw [HD.out]; rfl, hBw, OwnE.nil_ _ _⟩
          · have he2 : (((er : Nat) : Int) != 0) = true := by simp; omega
            have HD := Lib.hid (Hbad.out (.inl her))
            clear Hbad her hnx
            go_wp2
            go_ret2
            exact ⟨none, 0, 0, [], by rw [HD.out]; rfl, ReadsE.nil_ _ _ _ _, Nat.zero_le _, by rw [HD.out]; rfl, hBw, OwnE.nil_ _ _⟩
        · have hx6' : (65535 : Int) < (x : Int) := by omega
          have HD := Lib.hid (Hbad.out (.inr (by omega)))
          clear Hbad
          go_wp2
          go_ret2
          exact ⟨none, 0, 0, [], by rw [HD.out]; rfl, ReadsE.nil_ _ _ _ _, Nat.zero_le _, by rw [HD.out]; rfl, hBw, OwnE.nil_ _ _⟩
      · have he2 : (((er : Nat) : Int) != 0) = true := by simp; omega
        have HD := Lib.hid (Hbad.out (.inl her))
        clear Hbad her hnx
        go_wp2
        go_ret2
        exact ⟨none, 0, 0, [], by rw [HD.out]; rfl, ReadsE.nil_ _ _ _ _, Nat.zero_le _, by rw [HD.out]; rfl, hBw, OwnE.nil_ _ _⟩
    · have hlt' : ¬ (k : Int) < (N : Int) := by omega
      obtain rfl : N = k := by omega
      obtain ⟨A9, c9, rfl, _, hc9, _⟩ := ReadsK.of_own hE.row
      have hRe := hE.reads rfl
      have HE := refEnc_any l A9 l.length c9 wr hRe hc9
      have hel := encA_len (vals l)
      have HD : Hid (decB cells = if encA (vals l) = (cells, 0) then (vals l, 0) else ([], 11)) := Lib.hid (inv_fin HN.out hI.out)
      generalize hV : vals l = V at *
      generalize encA V = EN at *
      obtain ⟨C2, e2⟩ := EN
      simp only at HE hel HD
      generalize hLl : l.length = L9 at *
      have HLl := Lib.hid hLl
      have HV := Lib.hid hV
      clear hLl hV hbd hI hlk
      go_wp2_with fail
      refine HE.mono ?_
      clear HE
      rintro e w10 ⟨v10, rfl, hown10, hb10⟩
      have hRe10 := (hRe.below hb10).more hb10.size
      have hBw10 := then_ hBw hb10
      obtain ⟨A10, c10, rfl, hr10, _, _⟩ := ownsRow_slice hown10
      have hxw : Reads w10 w10.heap.size (some ad) n c (ints .u32 cells) := (hx.below hBw10).more hBw10.size
      have HO10 := Lib.hid ((OwnE.below hE hb10).base hwg)
      clear hE hBg hown10 hRe hb10 hx
      by_cases he2 : e2 = 0
      · subst he2
        by_cases hln : C2.length = n
        · have hln' : ((C2.length : Int) != (n : Int)) = false := by simp; omega
          go_wp2_with fail
          go_loopw [171] (fun i wr => ∃ j : Nat, j ≤ n ∧ i = .int .i64 j ∧ Hid (C2.take j = cells.take j) ∧ ∃ q, wr = w10.drewN q) (fun i _ => n - (intOf i).toNat)
          case atStart => exact ⟨0, Nat.zero_le _, rfl, Lib.hid rfl, 0, rfl⟩
          case round =>
            obtain ⟨j, hj, rfl, Ht, q, rfl⟩ := hrel
            by_cases hltj : j < n
            · obtain ⟨ad1, h1, rfl, hb1', hc1⟩ := hr10.int (i := j) (by omega)
              obtain ⟨ad2, h2, hq, hb2', hc2⟩ := hxw.int hltj
              injection hq with hq
              subst hq
              have hltj' : (j : Int) < (n : Int) := by omega
              have hltj2 : (j : Int) < (C2.length : Int) := by omega
              have hj0 : (0 : Int) ≤ (j : Int) := by omega
              go_wp2
              go_quiet (fail)
              by_cases hee : C2[j] = cells[j]
              · have hbb : (C2[j] != cells[j]) = false := by simp [hee]
                have Hs := Lib.hid (take_succ_eq h1 h2 Ht.out hee)
                clear hee
                go_wp2
                go_roundw
                case rel => exact ⟨j + 1, by omega, by go_num, Hs, _, rfl⟩
                case measure => simp [intOf]; omega
              · have hbb : (C2[j] != cells[j]) = true := by simp [hee]
                have Hs := Lib.hid (take_ne h1 h2 hee)
                have HD2 := Lib.hid (HD.out.trans (if_neg (fun h => Hs.out (congrArg (·.1) h))))
                clear hee
                go_wp2
                go_ret2
                exact ⟨none, 0, 0, [], by rw [HD2.out]; rfl, ReadsE.nil_ _ _ _ _, Nat.zero_le _, by rw [HD2.out]; rfl, below_drewN (below_drewN hBw10 _) _, OwnE.nil_ _ _⟩
            · have hltj2 : ¬ (j : Int) < (C2.length : Int) := by omega
              have Hs : Hid (C2 = cells) := Lib.hid (by
                have := Ht.out
                rwa [List.take_of_length_le (by omega), List.take_of_length_le (by rw [Lx.out]; omega)] at this)
              have HD2 := Lib.hid (HD.out.trans (if_pos (by rw [Hs.out])))
              clear hltj
              go_wp2
              go_ret2
              exact ⟨A9, L9, c9, by rw [HD2.out]; rfl, l, (hRe10.drewN q).more (show w10.heap.size ≤ (w10.drewN q).heap.size from Nat.le_refl _), hc9, by rw [HD2.out]; exact HV.out, below_drewN hBw10 q, HO10.out.drewN q⟩
        · have hln' : ((C2.length : Int) != (n : Int)) = true := by simp; omega
          have HD2 := Lib.hid (HD.out.trans (if_neg (fun h => hln (by have h9 : C2 = cells := congrArg (·.1) h; rw [h9, Lx.out]))))
          clear hln
          go_wp2
          go_ret2
          exact ⟨none, 0, 0, [], by rw [HD2.out]; rfl, ReadsE.nil_ _ _ _ _, Nat.zero_le _, by rw [HD2.out]; rfl, hBw10, OwnE.nil_ _ _⟩
      · have HD2 := Lib.hid (HD.out.trans (if_neg (fun h => he2 (congrArg (·.2) h))))
        have he3 : (e2 != 0) = true := by simp [he2]
        clear HD he2
        go_wp2
        go_ret2
        exact ⟨none, 0, 0, [], by rw [HD2.out]; rfl, ReadsE.nil_ _ _ _ _, Nat.zero_le _, by rw [HD2.out]; rfl, hBw10, OwnE.nil_ _ _⟩
end Go.Proofs.Ytbbjlijdodnjaaa
