/- The walk of match.eval at an inner node: printed by wip/bin/gen_matnode.py. -/
import Derived.Test.YtgjdjggakkmbgaaMatEval
namespace Go.Proofs.Ytgjdjggakkmbgaa
open Go.RowKit

def cntAt (all : List Int) (ks : List NodeM) (lv : List (List Fd)) (t : Nat) : Nat := (evalQs all ks lv).1 (all.getD t 0)
set_option maxRecDepth 100000 in
set_option maxHeartbeats 20000000 in
theorem eval_inner (all : List Int) (hr : Rise all) (hal : all.length ≤ 100) (kind field : Int) (th kh : Hn) (kids : List NodeM) (hk1 : kind ≠ 1) (ih : ∀ k ∈ kids, EvalOk all k) : EvalOk all (.mk kind field th kh kids) := by
  intro w B Aa na ca A n c lvs ha hn hl hlc hB hc
  obtain ⟨tA, tn, tc⟩ := th
  obtain ⟨kA, kn, kcp⟩ := kh
  obtain ⟨i0, hi0, hz0, hz1, hz2⟩ := info_parts info_int
  have lx : all.length = na := by simpa using ha.len
  have Lx := Lib.hid lx
  have hna : na ≤ 100 := by omega
  have hHN : ReadsK 4 w B kA kn kcp (kids.flatMap ndC) ∧ kcp ≤ maxLen ∧ ∀ k ∈ kids, ReadsNd w B k := by
    cases hn with
    | mk l ht hk hc hr => exact ⟨hk, hc, hr⟩
  obtain ⟨hkid, hkm, hkr⟩ := hHN
  have hkl := hkid.count ndC_len (by omega)
  have hkcap := hkid.cap
  have hk1' : (kind == 1) = false := by simp [hk1]
  have HE := Lib.hid (eval_in all kind field ⟨tA, tn, tc⟩ ⟨kA, kn, kcp⟩ kids (lfV lvs) hk1)
  have hmk := run_make_row1 (P := Try.prog) 32 3 i0 _ Try.underlying32 hi0 hz0 hz1 (by omega) rfl (na : Int) na rfl (by omega)
  have hbx : Below w.heap.size w (w.alloc (.cells #[.int .i64 kind, .int .u8 field, .slice tA tn tc, .slice kA kn kcp] 31)) := (Below.refl _ _).alloc (Nat.le_refl _) _
  have hrowN := Row.new w 31 [.int .i64 kind, .int .u8 field, .slice tA tn tc, .slice kA kn kcp]
  have hrowC := Row.zeros (w.alloc (.cells #[.int .i64 kind, .int .u8 field, .slice tA tn tc, .slice kA kn kcp] 31)) 3 (.int .i64 0) na
  have hzr : List.replicate na (Value.int .i64 0) = ints .i64 (List.replicate na 0) := by simp [ints]
  rw [hzr] at hrowC
  have hrowN2 := hrowN.alloc (.cells (zeros (.int .i64 0) na) 3)
  unfold ndC
  generalize hW : w.alloc (.cells #[.int .i64 kind, .int .u8 field, .slice tA tn tc, .slice kA kn kcp] 31) = wx at *
  have hsx : wx.heap.size = w.heap.size + 1 := by rw [← hW]; simp
  have q3 : wx.cell? ⟨w.heap.size, 3, none⟩ = some (.slice kA kn kcp) := hrowN.cell 3
  have HW := Lib.hid hW
  have Hal := Lib.hid hal
  have Hkl := Lib.hid hkl
  clear hW hn hkl
  go_enter Try.func22, Try.ntmps22
  go_wp2_with fail
  rw [HW.out]
  rw [hsx] at hrowC
  have hB0 : Below w.heap.size w (wx.alloc (.cells (zeros (.int .i64 0) na) 3)) := hbx.alloc (by omega) _
  have hs0 : (wx.alloc (.cells (zeros (.int .i64 0) na) 3)).heap.size = w.heap.size + 2 := by simp [hsx]
  generalize wx.alloc (.cells (zeros (.int .i64 0) na) 3) = w0 at *
  have hc00 : Hid (∀ t, t < na → (List.replicate na (0 : Int)).getD t 0 = (cntAt all (kids.take 0) (lfV lvs) t : Nat)) := Lib.hid (fun t ht => by simp [List.getD, ht, cntAt, evalQs])
  have hlv0 : Hid (lfV lvs = (evalQs all (kids.take 0) (lfV lvs)).2) := Lib.hid (by simp [evalQs])
  have hlc0 := Lib.hid hlc
  have hrl : (List.replicate na (0 : Int)).length = na := List.length_replicate
  clear hlc hmk hbx hrowN q3 hzr hk1
  go_loopw [2, 37] (fun lv i wr => ∃ (j : Nat) (A' : Option Addr) (n' c' : Nat) (lvs' : List Lf) (cs : List Int), j ≤ kn ∧ i = .int .i64 (j : Int) ∧ lv = .slice A' n' c' ∧ ReadsF w B A' n' c' lvs' ∧ c' ≤ maxLen ∧ Hid (∀ x ∈ lvs', x.1.c ≤ maxLen) ∧ Hid (lfV lvs' = (evalQs all (kids.take j) (lfV lvs)).2) ∧ cs.length = na ∧ Hid (∀ t, t < na → cs.getD t 0 = (cntAt all (kids.take j) (lfV lvs) t : Nat)) ∧ Row wr (w.heap.size + 1) 3 (ints .i64 cs) ∧ Row wr w.heap.size 31 [.int .i64 kind, .int .u8 field, .slice tA tn tc, .slice kA kn kcp] ∧ Below w.heap.size w wr ∧ w.heap.size + 2 ≤ wr.heap.size) (fun _ i _ => kn - (intOf i).toNat)
  case atStart => exact ⟨0, A, n, c, lvs, _, by omega, rfl, rfl, hl, hc, hlc0, hlv0, hrl, hc00, hrowC, hrowN2, hB0, by omega⟩
  case round =>
    clear hrowC hrowN2 hB0 hs0 hc00 hlv0 hrl
    obtain ⟨j, A', n', c', lvs', cs, hj, rfl, rfl, hF, hc', Hcap, Hlv, hcs, Hcs, hrC, hrN, hBw, hsz⟩ := hrel
    by_cases hlt : j < kn
    · have hlt' : (j : Int) < (kn : Int) := by omega
      obtain ⟨ak, hlk, rfl, hbk, k0, kc⟩ := (hkid.keep (w' := wr) (fun p hp => hBw.cell (by omega))).at' ndC_len (by omega) hlt
      have hkm2 := List.getElem_mem hlk
      have IHk := ih _ hkm2
      have hRk := hkr _ hkm2
      have hsn : kids.take (j + 1) = kids.take j ++ [kids[j]] := List.take_succ_eq_append_getElem hlk
      generalize kids[j] = kd at *
      obtain ⟨kk, kf, ⟨t1, t2, t3⟩, ⟨h1, h2, h3⟩, kks⟩ := kd
      have k0 := k0 _ rfl
      have k1 := kc 1 _ (by omega) rfl
      have k2 := kc 2 _ (by omega) rfl
      have k3 := kc 3 _ (by omega) rfl
      have hBk : Below w.heap.size w (wr.alloc (.cells #[.int .i64 kk, .int .u8 kf, .slice t1 t2 t3, .slice h1 h2 h3] 31)) := hBw.alloc hBw.size _
      have hrC2 := hrC.alloc (.cells #[.int .i64 kk, .int .u8 kf, .slice t1 t2 t3, .slice h1 h2 h3] 31)
      have hrN2 := hrN.alloc (.cells #[.int .i64 kk, .int .u8 kf, .slice t1 t2 t3, .slice h1 h2 h3] 31)
      have hsk : (wr.alloc (.cells #[.int .i64 kk, .int .u8 kf, .slice t1 t2 t3, .slice h1 h2 h3] 31)).heap.size = wr.heap.size + 1 := by simp
      have HEv := IHk (wr.alloc (.cells #[.int .i64 kk, .int .u8 kf, .slice t1 t2 t3, .slice h1 h2 h3] 31)) B Aa na ca A' n' c' lvs' (ha.keep (fun p hp => hBk.cell (by omega))) (hRk.keep (fun p hp => hBk.cell (by omega))) (hF.keep (fun p hp => hBk.cell (by omega))) Hcap.out (by have := hBk.size; omega) hc'
      have Hsn := Lib.hid hsn
      have hrow4 := Row.new wr 31 [.int .i64 kk, .int .u8 kf, .slice t1 t2 t3, .slice h1 h2 h3]
      clear hsn IHk kc hF
      go_wp2_with fail
      generalize hWk : wr.alloc (.cells #[.int .i64 kk, .int .u8 kf, .slice t1 t2 t3, .slice h1 h2 h3] 31) = wk at *
      refine HEv.mono ?_
      clear HEv
      rintro e w5 ⟨v5, A5, n5, c5, lvs5, rfl, hown5, hF5, hlv5, hc5, hcap5, hb5⟩
      have hB5 : Below w.heap.size w w5 := hBk.trans (hb5.mono hBk.size)
      have hrC5 := hrC2.call hb5
      have hrN5 := hrN2.call hb5
      have hs5 : w.heap.size + 3 ≤ w5.heap.size := by have := hb5.size; omega
      have hF5w : ReadsF w B A5 n5 c5 lvs5 := hF5.keep (fun p hp => (hBk.cell (by omega)).symm)
      have Hlv5 : Hid (lfV lvs5 = (evalQs all (kids.take (j + 1)) (lfV lvs)).2) := Lib.hid (by rw [Hsn.out, evalQs_snoc, hlv5, Hlv.out])
      have Hq : Hid (∀ t, cntAt all (kids.take (j + 1)) (lfV lvs) t = cntAt all (kids.take j) (lfV lvs) t + one ((evalQ all (.mk kk kf ⟨t1, t2, t3⟩ ⟨h1, h2, h3⟩ kks) (lfV lvs')).1 (all.getD t 0))) := Lib.hid (fun t => by rw [cntAt, cntAt, Hsn.out, evalQs_snoc, Hlv.out])
      have Hcl : Hid (∀ t, cntAt all (kids.take j) (lfV lvs) t ≤ j) := Lib.hid (fun t => by
        have := evalQs_le all (kids.take j) (lfV lvs) (all.getD t 0)
        rw [List.length_take] at this
        show (evalQs all (kids.take j) (lfV lvs)).1 (all.getD t 0) ≤ j
        omega)
      generalize (evalQ all (.mk kk kf ⟨t1, t2, t3⟩ ⟨h1, h2, h3⟩ kks) (lfV lvs')).1 = q at *
      have hLl : (all.filter q).length ≤ 100 := by
        have := List.length_filter_le q all
        omega
      generalize hL : all.filter q = L at *
      have HL := Lib.hid hL
      have Hcap5 := Lib.hid hcap5
      have Hwk : Hid (w.heap.size + 3 ≤ wk.heap.size) := Lib.hid (by omega)
      obtain ⟨A6, c6, rfl, _, _, _⟩ := ownsRow_slice hown5
      have hkm9 : kcp ≤ 9223372036854775807 := by simpa [maxLen] using hkm
      clear hL hcap5 hrC hrN hrC2 hrN2 hWk hsk k0 k1 k2 k3 hrow4 hF5 hlv5 hRk hsz
      go_wp2_with fail
      go_loopw [12, 50] (fun at_ i wr2 => ∃ (s : Nat) (cs2 : List Int), s ≤ na ∧ i = .int .i64 (s : Int) ∧ at_ = .int .i64 (((all.take s).countP q : Nat) : Int) ∧ cs2.length = na ∧ Hid (∀ t, t < na → cs2.getD t 0 = cs.getD t 0 + (if t < s then (one (q (all.getD t 0)) : Int) else 0)) ∧ Row wr2 (w.heap.size + 1) 3 (ints .i64 cs2) ∧ Row wr2 w.heap.size 31 [.int .i64 kind, .int .u8 field, .slice tA tn tc, .slice (some ak) kn kcp] ∧ Below w.heap.size w wr2 ∧ wr2.heap.size = w5.heap.size ∧ Hid (∀ k, k ≠ w.heap.size + 1 → wr2.heap[k]? = w5.heap[k]?)) (fun _ i _ => na - (intOf i).toNat)
      case atStart => exact ⟨0, cs, by omega, rfl, rfl, hcs, Lib.hid (fun t ht => by simp), hrC5, hrN5, hB5, rfl, Lib.hid (fun _ _ => rfl)⟩
      case round =>
        clear hrC5 hrN5
        obtain ⟨s, cs2, hs, rfl, rfl, hcs2, Hcs2, hrC6, hrN6, hB6, hs6, hk6⟩ := hrel
        have hml := mark_len all q s
        by_cases hlt2 : s < na
        · have hlt2' : (s : Int) < (na : Int) := by omega
          have hs0' : (0 : Int) ≤ (s : Int) := by omega
          obtain ⟨aa, hla, rfl, hba, ca0⟩ := (ha.keep (w' := wr) (fun p hp => hB6.cell (by omega))).int hlt2
          have hg6 : w5.grownBy wr (some (w.heap.size + 1)) := grown_of hB5 hB6 hs6 hk6.out
          have hown6 := hown5.kept hg6 (.inr (fun e => by have := (hown5.lt _ e).1; have := Hwk.out; omega))
          obtain ⟨A7, c7, e7, hr7, _, _⟩ := ownsRow_slice hown6
          injection e7 with e71 e72 e73
          subst e71 e73
          have hga : all.getD s 0 = all[s] := by simp [List.getD, hla]
          have hcnt := count_s' all q s hla
          have hyes := mark_yes all q s hla
          have hno := mark_no hr q s hla
          rw [HL.out] at hyes hno
          have hcsl : s < cs2.length := by omega
          have hcv := Hcs2.out s hlt2
          have hcv0 := Hcs.out s hlt2
          have hcl := Hcl.out s
          have hg2 : cs2.getD s 0 = cs2[s] := by simp [List.getD, hcsl]
          have rc : wr.cell? ⟨w.heap.size + 1, s, none⟩ = some (.int .i64 cs2[s]) := by rw [hrC6.cell s]; exact ints_get? _ _ _ hcsl
          have hcx : 0 ≤ cs2[s] ∧ cs2[s] < 9223372036854775807 := by
            rw [if_neg (by omega)] at hcv
            rw [← hg2, hcv, hcv0]
            omega
          have hcw := Lib.hid (fun b (hb : q all[s] = b) => bump_step cs cs2 (fun t => q (all.getD t 0)) s na hcsl Hcs2.out b (by show q (all.getD s 0) = b; rw [hga]; exact hb))
          generalize hM : (all.take s).countP q = M at *
          have HM := Lib.hid hM
          have Hcnt := Lib.hid hcnt
          clear hM hcnt hga hcv hcv0
          generalize all[s] = d at *
          by_cases hq : q d = true
          · have hM2 := hyes hq
            have hML : M < L.length := (List.getElem?_eq_some_iff.1 hM2).1
            obtain ⟨al7, hl7, rfl, _, c8⟩ := hr7.int hML
            have hLd : L[M] = d := (List.getElem?_eq_some_iff.1 hM2).2
            rw [hLd] at c8
            have hML' : (M : Int) < (L.length : Int) := by omega
            have hM0 : (0 : Int) ≤ (M : Int) := by omega
            have Hq1 : Hid ((all.take (s + 1)).countP q = M + 1) := Lib.hid (by rw [Hcnt.out, hq]; rfl)
            have Hcw := Lib.hid (hcw.out true hq)
            have hbs : bump cs2 s true = cs2.set s (cs2[s] + 1) := by rw [bump, if_pos rfl, hg2]
            have Hbs := Lib.hid hbs
            have Hbl := Lib.hid (bump_len cs2 s true)
            clear hbs
            generalize hcvv : cs2[s] = cv at *
            have HLd := Lib.hid hLd
            clear hyes hno hM2 hLd hq hcw
            go_wp2_with (refine wpList_store_cellO rfl 3 (.tmp 72) (.tmp 71) rfl (w.heap.size + 1) s (.int .i64 (cv + 1)) rfl rfl 3 _ hrC6 (by simp [ints]; omega) rfl (by kernel_rfl) w.heap.size w hB6 (by omega) ?_; intro w8 hr8 hB8 hs8 hk8)
            have hrC8 : Row w8 (w.heap.size + 1) 3 (ints .i64 (bump cs2 s true)) := by rw [Hbs.out, ints, List.map_set]; exact hr8
            have hrN8 := (hk8 w.heap.size (by omega)).trans hrN6
            have Hk8 : Hid (∀ k, k ≠ w.heap.size + 1 → w8.heap[k]? = w5.heap[k]?) := Lib.hid (fun k hk => (hk8 k hk).trans (hk6.out k hk))
            have hs9 : w8.heap.size = w5.heap.size := hs8.trans hs6
            clear hr8 hk8 hs8
            go_roundw
            case rel => exact ⟨s + 1, bump cs2 s true, by omega, by go_num, by rw [Hq1.out]; go_num, Hbl.out.trans hcs2, Hcw, hrC8, hrN8, hB8, hs9, Hk8⟩
            case measure => simp [intOf]; omega
          · have hqf : q d = false := by cases h : q d; rfl; exact absurd h hq
            have hno2 := hno hqf
            have Hq1 : Hid ((all.take (s + 1)).countP q = M) := Lib.hid (by rw [Hcnt.out, hqf]; rfl)
            have Hcw := Lib.hid (hcw.out false hqf)
            have hM0 : (0 : Int) ≤ (M : Int) := by omega
            clear hyes hno hq hqf hcw
            by_cases hML : M < L.length
            · have hML' : (M : Int) < (L.length : Int) := by omega
              obtain ⟨al7, hl7, rfl, _, c8⟩ := hr7.int hML
              have hne := hno2 L[M] (List.getElem?_eq_getElem hl7)
              generalize L[M] = y at *
              have hne' : (y == d) = false := by simp [hne]
              clear hno2 hne
              go_wp2
              go_roundw
              case rel => exact ⟨s + 1, cs2, by omega, by go_num, by rw [Hq1.out], hcs2, Hcw, hrC6, hrN6, hB6, hs6, hk6⟩
              case measure => simp [intOf]; omega
            · have hML' : ¬ (M : Int) < (L.length : Int) := by omega
              clear hno2
              go_wp2
              go_roundw
              case rel => exact ⟨s + 1, cs2, by omega, by go_num, by rw [Hq1.out], hcs2, Hcw, hrC6, hrN6, hB6, hs6, hk6⟩
              case measure => simp [intOf]; omega
        · have hlt2' : ¬ (s : Int) < (na : Int) := by omega
          obtain rfl : na = s := by omega
          have Hcs3 : Hid (∀ t, t < na → cs2.getD t 0 = (cntAt all (kids.take (j + 1)) (lfV lvs) t : Nat)) := Lib.hid (fun t ht => by
            rw [Hcs2.out t ht, if_pos ht, Hcs.out t ht, Hq.out t]
            omega)
          have hsz6 : w.heap.size + 2 ≤ wr.heap.size := by omega
          go_wp2
          go_roundw
          case rel => exact ⟨j + 1, A5, n5, c5, lvs5, cs2, by omega, by go_num, rfl, hF5w, hc5, Hcap5, Hlv5, hcs2, Hcs3, hrC6, hrN6, hB6, hsz6⟩
          case measure => simp [intOf]; omega
    · have hlt' : ¬ (j : Int) < (kn : Int) := by omega
      obtain rfl : kn = j := by omega
      have Hlv9 : Hid (lfV lvs' = (evalQs all kids (lfV lvs)).2) := Lib.hid (by rw [Hlv.out, List.take_of_length_le (by rw [Hkl.out]; exact Nat.le_refl _)])
      have Hcs9 : Hid (∀ t, t < na → cs.getD t 0 = ((evalQs all kids (lfV lvs)).1 (all.getD t 0) : Nat)) := Lib.hid (fun t ht => by
        rw [Hcs.out t ht, cntAt, List.take_of_length_le (by rw [Hkl.out]; exact Nat.le_refl _)])
      clear Hlv Hcs
      have HQ : Hid (∀ d, (evalQ all (.mk kind field ⟨tA, tn, tc⟩ ⟨kA, kn, kcp⟩ kids) (lfV lvs)).1 d = sel kind kn ((evalQs all kids (lfV lvs)).1 d)) := Lib.hid (fun d => by rw [HE.out, Hkl.out])
      have HQ2 : Hid ((evalQ all (.mk kind field ⟨tA, tn, tc⟩ ⟨kA, kn, kcp⟩ kids) (lfV lvs)).2 = lfV lvs') := Lib.hid (by rw [HE.out, Hlv9.out])
      have Hcb : Hid (∀ d, (evalQs all kids (lfV lvs)).1 d ≤ kn) := Lib.hid (fun d => by have := evalQs_le all kids (lfV lvs) d; rw [Hkl.out] at this; exact this)
      obtain ⟨Q, hQe⟩ : ∃ Q, (evalQ all (.mk kind field ⟨tA, tn, tc⟩ ⟨kA, kn, kcp⟩ kids) (lfV lvs)).1 = Q := ⟨_, rfl⟩
      rw [hQe] at HQ
      have HQe := Lib.hid hQe
      clear hQe
      generalize (evalQs all kids (lfV lvs)).1 = C at *
      have hkm9 : kcp ≤ 9223372036854775807 := by simpa [maxLen] using hkm
      clear HE ih
      go_wp2_with fail
      obtain ⟨wl, rfl⟩ : ∃ wl : World, wl = wr := ⟨_, rfl⟩
      go_loopw [15, 79] (fun out i wr3 => ∃ s : Nat, s ≤ na ∧ i = .int .i64 (s : Int) ∧ wr3.ownsRow wl.heap.size 3 1 out ((all.take s).filter Q).length (ints .i64 ((all.take s).filter Q)) ∧ Below wl.heap.size wl wr3) (fun _ i _ => na - (intOf i).toNat)
      case atStart => exact ⟨0, by omega, rfl, World.ownsRow_nil _ _ _ _, Below.refl _ _⟩
      case round =>
        obtain ⟨s, hs, rfl, ho, hB3⟩ := hrel
        have hBw3 : Below w.heap.size w wr := hBw.trans (hB3.mono hBw.size)
        by_cases hlt3 : s < na
        · have hlt3' : (s : Int) < (na : Int) := by omega
          have hs0' : (0 : Int) ≤ (s : Int) := by omega
          obtain ⟨aa, hla, rfl, hba, ca0⟩ := (ha.keep (w' := wr) (fun p hp => hBw3.cell (by omega))).int hlt3
          have hga : all.getD s 0 = all[s] := by simp [List.getD, hla]
          have hfs := filter_s all Q s hla
          have hfl : ((all.take s).filter Q).length ≤ s := by
            have h1 := List.length_filter_le Q (all.take s)
            rw [List.length_take] at h1
            omega
          have hcsl : s < cs.length := by omega
          have hg2 : cs.getD s 0 = cs[s] := by simp [List.getD, hcsl]
          have hcv := Hcs9.out s hlt3
          rw [hg2, hga] at hcv
          have hQd := HQ.out all[s]
          have hcb := Hcb.out all[s]
          have rc0 : wl.cell? ⟨w.heap.size + 1, s, none⟩ = some (.int .i64 cs[s]) := by rw [hrC.cell s]; exact ints_get? _ _ _ hcsl
          rw [hcv] at rc0
          clear hcv hga hg2
          generalize all[s] = d at *
          generalize C d = cd at *
          generalize (all.take s).filter Q = F at *
          have Hfs := Lib.hid hfs
          have HQd := Lib.hid hQd
          have rc : wr.drew.cell? ⟨w.heap.size + 1, s, none⟩ = some (.int .i64 (cd : Int)) := (hB3.cell (show w.heap.size + 1 < wl.heap.size by omega)).trans rc0
          have rn0 : wr.drew.cell? ⟨w.heap.size, 0, none⟩ = some (.int .i64 kind) := (hB3.cell (show w.heap.size < wl.heap.size by omega)).trans (hrN.cell 0)
          have rn3 : wr.drew.cell? ⟨w.heap.size, 3, none⟩ = some (.slice kA kn kcp) := (hB3.cell (show w.heap.size < wl.heap.size by omega)).trans (hrN.cell 3)
          have hod : wr.drew.ownsRow wl.heap.size 3 1 u15 F.length (ints .i64 F) := ho
          have hB3d : Below wl.heap.size wl wr.drew := hB3.drew
          have hszd : wl.heap.size ≤ wr.drew.heap.size := hB3.size
          clear hfs hQd rc0 ho
          by_cases hk2 : kind = 2
          · subst hk2
            go_wp2_with fail
            refine wp_region_open (S := (fun w' : World => w'.cell? ⟨w.heap.size, 0, none⟩ = some (.int .i64 2) ∧ w'.cell? ⟨w.heap.size + 1, s, none⟩ = some (.int .i64 (cd : Int)) ∧ w'.cell? ⟨w.heap.size, 3, none⟩ = some (.slice kA kn kcp))) #[false, false, false, false, false, false, false, false, false, false, false, false, false, false] 14 (by kernel_rfl) (by kernel_rfl) rfl (⟨rn0, rc, rn3⟩) (fun hHeld => ?_)
            refine tk (i := 0) (v := ?_) rfl (by kernel_rfl) (by kernel_rfl) (by kernel_rfl) (Or.inl ⟨by rfl, ?_⟩) (by assumption) ?_; rotate_left 1
            · intro w hSw; (try dsimp only at hSw); go_simp; try with_reducible rfl
            try simp only [Act.put, List.getElem_toArray, List.getElem_cons_zero, List.setIfInBounds_toArray, List.set_cons_zero, List.set_cons_succ]
            refine tk (i := 1) (v := ?_) rfl (by kernel_rfl) (by kernel_rfl) (by kernel_rfl) (Or.inl ⟨by rfl, ?_⟩) (by assumption) ?_; rotate_left 1
            · intro w hSw; (try dsimp only at hSw); go_simp; try with_reducible rfl
            try simp only [Act.put, List.getElem_toArray, List.getElem_cons_zero, List.getElem_cons_succ, List.setIfInBounds_toArray, List.set_cons_zero, List.set_cons_succ]
            refine tk (i := 2) (v := ?_) rfl (by kernel_rfl) (by kernel_rfl) (by kernel_rfl) (Or.inl ⟨by rfl, ?_⟩) (by assumption) ?_; rotate_left 1
            · intro w hSw; (try dsimp only at hSw); go_simp; try with_reducible rfl
            try simp only [Act.put, List.getElem_toArray, List.getElem_cons_zero, List.getElem_cons_succ, List.setIfInBounds_toArray, List.set_cons_zero, List.set_cons_succ]
            refine tk (i := 3) (v := ?_) rfl (by kernel_rfl) (by kernel_rfl) (by kernel_rfl) (Or.inl ⟨by rfl, ?_⟩) (by assumption) ?_; rotate_left 1
            · intro w hSw; (try dsimp only at hSw); go_simp; try with_reducible rfl
            try simp only [Act.put, List.getElem_toArray, List.getElem_cons_zero, List.getElem_cons_succ, List.setIfInBounds_toArray, List.set_cons_zero, List.set_cons_succ]
            refine tk (i := 4) (v := ?_) rfl (by kernel_rfl) (by kernel_rfl) (by kernel_rfl) (Or.inl ⟨by rfl, ?_⟩) (by assumption) ?_; rotate_left 1
            · intro w hSw; (try dsimp only at hSw); go_simp; try with_reducible rfl
            try simp only [Act.put, List.getElem_toArray, List.getElem_cons_zero, List.getElem_cons_succ, List.setIfInBounds_toArray, List.set_cons_zero, List.set_cons_succ]
            refine tk (i := 5) (v := ?_) rfl (by kernel_rfl) (by kernel_rfl) (by kernel_rfl) (Or.inl ⟨by rfl, ?_⟩) (by assumption) ?_; rotate_left 1
            · intro w hSw; (try dsimp only at hSw); go_simp; try with_reducible rfl
            try simp only [Act.put, List.getElem_toArray, List.getElem_cons_zero, List.getElem_cons_succ, List.setIfInBounds_toArray, List.set_cons_zero, List.set_cons_succ]
            refine tk (i := 6) (v := ?_) rfl (by kernel_rfl) (by kernel_rfl) (by kernel_rfl) (Or.inl ⟨by rfl, ?_⟩) (by assumption) ?_; rotate_left 1
            · intro w hSw; (try dsimp only at hSw); go_simp; try with_reducible rfl
            try simp only [Act.put, List.getElem_toArray, List.getElem_cons_zero, List.getElem_cons_succ, List.setIfInBounds_toArray, List.set_cons_zero, List.set_cons_succ]
            refine tk (i := 7) (v := ?_) rfl (by kernel_rfl) (by kernel_rfl) (by kernel_rfl) (Or.inl ⟨by rfl, ?_⟩) (by assumption) ?_; rotate_left 1
            · intro w hSw; (try dsimp only at hSw); go_simp; try with_reducible rfl
            try simp only [Act.put, List.getElem_toArray, List.getElem_cons_zero, List.getElem_cons_succ, List.setIfInBounds_toArray, List.set_cons_zero, List.set_cons_succ]
            refine tk (i := 8) (v := ?_) rfl (by kernel_rfl) (by kernel_rfl) (by kernel_rfl) (Or.inl ⟨by rfl, ?_⟩) (by assumption) ?_; rotate_left 1
            · intro w hSw; (try dsimp only at hSw); go_simp; try with_reducible rfl
            try simp only [Act.put, List.getElem_toArray, List.getElem_cons_zero, List.getElem_cons_succ, List.setIfInBounds_toArray, List.set_cons_zero, List.set_cons_succ]
            refine tk (i := 9) (v := ?_) rfl (by kernel_rfl) (by kernel_rfl) (by kernel_rfl) (Or.inl ⟨by rfl, ?_⟩) (by assumption) ?_; rotate_left 1
            · intro w hSw; (try dsimp only at hSw); go_simp; try with_reducible rfl
            try simp only [Act.put, List.getElem_toArray, List.getElem_cons_zero, List.getElem_cons_succ, List.setIfInBounds_toArray, List.set_cons_zero, List.set_cons_succ]
            refine tk (i := 10) (v := ?_) rfl (by kernel_rfl) (by kernel_rfl) (by kernel_rfl) (Or.inl ⟨by rfl, ?_⟩) (by assumption) ?_; rotate_left 1
            · intro w hSw; (try dsimp only at hSw); go_simp; try with_reducible rfl
            try simp only [Act.put, List.getElem_toArray, List.getElem_cons_zero, List.getElem_cons_succ, List.setIfInBounds_toArray, List.set_cons_zero, List.set_cons_succ]
            refine tk (i := 11) (v := ?_) rfl (by kernel_rfl) (by kernel_rfl) (by kernel_rfl) (Or.inl ⟨by rfl, ?_⟩) (by assumption) ?_; rotate_left 1
            · intro w hSw; (try dsimp only at hSw); go_simp; try with_reducible rfl
            try simp only [Act.put, List.getElem_toArray, List.getElem_cons_zero, List.getElem_cons_succ, List.setIfInBounds_toArray, List.set_cons_zero, List.set_cons_succ]
            refine tk (i := 12) (v := ?_) rfl (by kernel_rfl) (by kernel_rfl) (by kernel_rfl) (Or.inl ⟨by rfl, ?_⟩) (by assumption) ?_; rotate_left 1
            · intro w hSw; (try dsimp only at hSw); go_simp; try with_reducible rfl
            try simp only [Act.put, List.getElem_toArray, List.getElem_cons_zero, List.getElem_cons_succ, List.setIfInBounds_toArray, List.set_cons_zero, List.set_cons_succ]
            refine tk (i := 13) (v := ?_) rfl (by kernel_rfl) (by kernel_rfl) (by kernel_rfl) (Or.inl ⟨by rfl, ?_⟩) (by assumption) ?_; rotate_left 1
            · intro w hSw; (try dsimp only at hSw); go_simp; try with_reducible rfl
            try simp only [Act.put, List.getElem_toArray, List.getElem_cons_zero, List.getElem_cons_succ, List.setIfInBounds_toArray, List.set_cons_zero, List.set_cons_succ]
            refine wpAnyH_done (by kernel_rfl) ?_ _
            refine NoPanic.normal ?_
            by_cases hce : cd = kn
            · have hQt : Q d = true := by rw [HQd.out]; simp [sel, hce]
              have hcee : ((cd : Int) == (kn : Int)) = true := by simp; omega
              clear hHeld hce
              have hF9 : Hid ((all.take (s + 1)).filter Q = F ++ [d]) := Lib.hid (by rw [Hfs.out, if_pos hQt])
              clear hQt
              go_wp2_with (at_builtin; refine wpList_append_oneB rfl (.tmp 118) (.tmp 120) 32 rfl wl.heap.size 3 i0 _ 1 8 Try.underlying32 hi0 hz0 hz1 hz2 rfl (by omega) _ F.length _ [.int .i64 d] rfl hod rfl rfl (by simp [Value.oneCell']) (by omega) (by omega) hszd ?_; intro v9 w9 hown9 hg9 hv9)
              have hB9 := below_grown hB3d hod (Nat.le_refl _) hszd hg9
              go_roundw
              case rel => exact ⟨s + 1, by omega, by go_num, by rw [hF9.out, List.length_append]; simpa [ints] using hown9, hB9⟩
              case measure => simp [intOf]; omega
            · have hQt : Q d = false := by rw [HQd.out]; simp [sel, hce]
              have hcee : ((cd : Int) == (kn : Int)) = false := by simp; omega
              clear hHeld hce
              have hF9 : Hid ((all.take (s + 1)).filter Q = F) := Lib.hid (by rw [Hfs.out, if_neg (by rw [hQt]; simp), List.append_nil])
              clear hQt
              go_wp2
              go_roundw
              case rel => exact ⟨s + 1, by omega, by go_num, by rw [hF9.out]; exact hod, hB3d⟩
              case measure => simp [intOf]; omega
          · have hk2' : (kind == 2) = false := by simp [hk2]
            go_wp2_with fail
            refine wp_region_open (S := (fun w' : World => w'.cell? ⟨w.heap.size, 0, none⟩ = some (.int .i64 kind) ∧ w'.cell? ⟨w.heap.size + 1, s, none⟩ = some (.int .i64 (cd : Int)) ∧ w'.cell? ⟨w.heap.size, 3, none⟩ = some (.slice kA kn kcp))) #[false, false, false, false, false, false, false, false, false, false, false, false, false, false] 14 (by kernel_rfl) (by kernel_rfl) rfl (⟨rn0, rc, rn3⟩) (fun hHeld => ?_)
            refine tk (i := 0) (v := ?_) rfl (by kernel_rfl) (by kernel_rfl) (by kernel_rfl) (Or.inl ⟨by rfl, ?_⟩) (by assumption) ?_; rotate_left 1
            · intro w hSw; (try dsimp only at hSw); go_simp; try with_reducible rfl
            try simp only [Act.put, List.getElem_toArray, List.getElem_cons_zero, List.setIfInBounds_toArray, List.set_cons_zero, List.set_cons_succ]
            refine tk (i := 1) (v := ?_) rfl (by kernel_rfl) (by kernel_rfl) (by kernel_rfl) (Or.inl ⟨by rfl, ?_⟩) (by assumption) ?_; rotate_left 1
            · intro w hSw; (try dsimp only at hSw); go_simp; try with_reducible rfl
            try simp only [Act.put, List.getElem_toArray, List.getElem_cons_zero, List.getElem_cons_succ, List.setIfInBounds_toArray, List.set_cons_zero, List.set_cons_succ]
            refine tk (i := 2) (v := ?_) rfl (by kernel_rfl) (by kernel_rfl) (by kernel_rfl) (Or.inl ⟨by rfl, ?_⟩) (by assumption) ?_; rotate_left 1
            · intro w hSw; (try dsimp only at hSw); go_simp; try with_reducible rfl
            try simp only [Act.put, List.getElem_toArray, List.getElem_cons_zero, List.getElem_cons_succ, List.setIfInBounds_toArray, List.set_cons_zero, List.set_cons_succ]
            refine tk (i := 3) (v := ?_) rfl (by kernel_rfl) (by kernel_rfl) (by kernel_rfl) (Or.inl ⟨by rfl, ?_⟩) (by assumption) ?_; rotate_left 1
            · intro w hSw; (try dsimp only at hSw); go_simp; try with_reducible rfl
            try simp only [Act.put, List.getElem_toArray, List.getElem_cons_zero, List.getElem_cons_succ, List.setIfInBounds_toArray, List.set_cons_zero, List.set_cons_succ]
            refine tk (i := 4) (v := undef) rfl (by kernel_rfl) (by kernel_rfl) (by kernel_rfl) (Or.inr ⟨by rfl, rfl⟩) (by assumption) ?_
            try simp only [Act.put, List.getElem_toArray, List.getElem_cons_zero, List.getElem_cons_succ, List.setIfInBounds_toArray, List.set_cons_zero, List.set_cons_succ]
            refine tk (i := 5) (v := undef) rfl (by kernel_rfl) (by kernel_rfl) (by kernel_rfl) (Or.inr ⟨by rfl, rfl⟩) (by assumption) ?_
            try simp only [Act.put, List.getElem_toArray, List.getElem_cons_zero, List.getElem_cons_succ, List.setIfInBounds_toArray, List.set_cons_zero, List.set_cons_succ]
            refine tk (i := 6) (v := undef) rfl (by kernel_rfl) (by kernel_rfl) (by kernel_rfl) (Or.inr ⟨by rfl, rfl⟩) (by assumption) ?_
            try simp only [Act.put, List.getElem_toArray, List.getElem_cons_zero, List.getElem_cons_succ, List.setIfInBounds_toArray, List.set_cons_zero, List.set_cons_succ]
            refine tk (i := 7) (v := undef) rfl (by kernel_rfl) (by kernel_rfl) (by kernel_rfl) (Or.inr ⟨by rfl, rfl⟩) (by assumption) ?_
            try simp only [Act.put, List.getElem_toArray, List.getElem_cons_zero, List.getElem_cons_succ, List.setIfInBounds_toArray, List.set_cons_zero, List.set_cons_succ]
            refine tk (i := 8) (v := undef) rfl (by kernel_rfl) (by kernel_rfl) (by kernel_rfl) (Or.inr ⟨by rfl, rfl⟩) (by assumption) ?_
            try simp only [Act.put, List.getElem_toArray, List.getElem_cons_zero, List.getElem_cons_succ, List.setIfInBounds_toArray, List.set_cons_zero, List.set_cons_succ]
            refine tk (i := 9) (v := undef) rfl (by kernel_rfl) (by kernel_rfl) (by kernel_rfl) (Or.inr ⟨by rfl, rfl⟩) (by assumption) ?_
            try simp only [Act.put, List.getElem_toArray, List.getElem_cons_zero, List.getElem_cons_succ, List.setIfInBounds_toArray, List.set_cons_zero, List.set_cons_succ]
            refine tk (i := 10) (v := undef) rfl (by kernel_rfl) (by kernel_rfl) (by kernel_rfl) (Or.inr ⟨by rfl, rfl⟩) (by assumption) ?_
            try simp only [Act.put, List.getElem_toArray, List.getElem_cons_zero, List.getElem_cons_succ, List.setIfInBounds_toArray, List.set_cons_zero, List.set_cons_succ]
            refine tk (i := 11) (v := undef) rfl (by kernel_rfl) (by kernel_rfl) (by kernel_rfl) (Or.inr ⟨by rfl, rfl⟩) (by assumption) ?_
            try simp only [Act.put, List.getElem_toArray, List.getElem_cons_zero, List.getElem_cons_succ, List.setIfInBounds_toArray, List.set_cons_zero, List.set_cons_succ]
            refine tk (i := 12) (v := ?_) rfl (by kernel_rfl) (by kernel_rfl) (by kernel_rfl) (Or.inl ⟨by rfl, ?_⟩) (by assumption) ?_; rotate_left 1
            · intro w hSw; (try dsimp only at hSw); go_simp; try with_reducible rfl
            try simp only [Act.put, List.getElem_toArray, List.getElem_cons_zero, List.getElem_cons_succ, List.setIfInBounds_toArray, List.set_cons_zero, List.set_cons_succ]
            refine tk (i := 13) (v := ?_) rfl (by kernel_rfl) (by kernel_rfl) (by kernel_rfl) (Or.inl ⟨by rfl, ?_⟩) (by assumption) ?_; rotate_left 1
            · intro w hSw; (try dsimp only at hSw); go_simp; try with_reducible rfl
            try simp only [Act.put, List.getElem_toArray, List.getElem_cons_zero, List.getElem_cons_succ, List.setIfInBounds_toArray, List.set_cons_zero, List.set_cons_succ]
            refine wpAnyH_done (by kernel_rfl) ?_ _
            refine NoPanic.normal ?_
            clear hHeld
            by_cases hk3 : kind = 3
            · subst hk3
              by_cases hce : 0 < cd
              · have hQt : Q d = true := by rw [HQd.out]; simp [sel, hce]
                have hcee : (0 : Int) < (cd : Int) := by omega
                clear hce
                have hF9 : Hid ((all.take (s + 1)).filter Q = F ++ [d]) := Lib.hid (by rw [Hfs.out, if_pos hQt])
                clear hQt
                go_wp2_with (at_builtin; refine wpList_append_oneB rfl (.tmp 118) (.tmp 120) 32 rfl wl.heap.size 3 i0 _ 1 8 Try.underlying32 hi0 hz0 hz1 hz2 rfl (by omega) _ F.length _ [.int .i64 d] rfl hod rfl rfl (by simp [Value.oneCell']) (by omega) (by omega) hszd ?_; intro v9 w9 hown9 hg9 hv9)
                have hB9 := below_grown hB3d hod (Nat.le_refl _) hszd hg9
                go_roundw
                case rel => exact ⟨s + 1, by omega, by go_num, by rw [hF9.out, List.length_append]; simpa [ints] using hown9, hB9⟩
                case measure => simp [intOf]; omega
              · have hQt : Q d = false := by rw [HQd.out]; simp [sel, hce]
                have hcee : ¬ (0 : Int) < (cd : Int) := by omega
                clear hce
                have hF9 : Hid ((all.take (s + 1)).filter Q = F) := Lib.hid (by rw [Hfs.out, if_neg (by rw [hQt]; simp), List.append_nil])
                clear hQt
                go_wp2
                go_roundw
                case rel => exact ⟨s + 1, by omega, by go_num, by rw [hF9.out]; exact hod, hB3d⟩
                case measure => simp [intOf]; omega
            · have hk3' : (kind == 3) = false := by simp [hk3]
              by_cases hk4 : kind = 4
              · subst hk4
                by_cases hce : cd = 0
                · have hQt : Q d = true := by rw [HQd.out]; simp [sel, hce]
                  have hcee : ((cd : Int) == 0) = true := by simp; omega
                  clear hce
                  have hF9 : Hid ((all.take (s + 1)).filter Q = F ++ [d]) := Lib.hid (by rw [Hfs.out, if_pos hQt])
                  clear hQt
                  go_wp2_with (at_builtin; refine wpList_append_oneB rfl (.tmp 118) (.tmp 120) 32 rfl wl.heap.size 3 i0 _ 1 8 Try.underlying32 hi0 hz0 hz1 hz2 rfl (by omega) _ F.length _ [.int .i64 d] rfl hod rfl rfl (by simp [Value.oneCell']) (by omega) (by omega) hszd ?_; intro v9 w9 hown9 hg9 hv9)
                  have hB9 := below_grown hB3d hod (Nat.le_refl _) hszd hg9
                  go_roundw
                  case rel => exact ⟨s + 1, by omega, by go_num, by rw [hF9.out, List.length_append]; simpa [ints] using hown9, hB9⟩
                  case measure => simp [intOf]; omega
                · have hQt : Q d = false := by rw [HQd.out]; simp [sel, hce]
                  have hcee : ((cd : Int) == 0) = false := by simp; omega
                  clear hce
                  have hF9 : Hid ((all.take (s + 1)).filter Q = F) := Lib.hid (by rw [Hfs.out, if_neg (by rw [hQt]; simp), List.append_nil])
                  clear hQt
                  go_wp2
                  go_roundw
                  case rel => exact ⟨s + 1, by omega, by go_num, by rw [hF9.out]; exact hod, hB3d⟩
                  case measure => simp [intOf]; omega
              · have hk4' : (kind == 4) = false := by simp [hk4]
                have hQt : Q d = false := by rw [HQd.out]; simp [sel, hk2, hk3, hk4]
                clear hk2 hk3 hk4
                have hF9 : Hid ((all.take (s + 1)).filter Q = F) := Lib.hid (by rw [Hfs.out, if_neg (by rw [hQt]; simp), List.append_nil])
                clear hQt
                go_wp2
                go_roundw
                case rel => exact ⟨s + 1, by omega, by go_num, by rw [hF9.out]; exact hod, hB3d⟩
                case measure => simp [intOf]; omega
        · have hlt3' : ¬ (s : Int) < (na : Int) := by omega
          obtain rfl : na = s := by omega
          have HF : Hid ((all.take na).filter Q = all.filter Q) := Lib.hid (by rw [List.take_of_length_le (by rw [Lx.out]; exact Nat.le_refl _)])
          rw [HF.out] at ho
          go_wp2
          go_ret2
          rw [HQe.out]
          exact ⟨_, A', n', c', rfl, ownsRow_base ho hBw.size, lvs', hF, HQ2.out.symm, hc', fun a b h => Hcap.out (a, b) h, hBw3⟩
end Go.Proofs.Ytgjdjggakkmbgaa
