/- The walk of the law MemPlays. -/
import Derived.Test.YtdmeidibhapnbaaMemRef
import Derived.Test.YtdmeidibhapnbaaMemFixed
import Derived.Deep.QuietTactic
import Derived.BigQuiet
namespace Go.Proofs.Ytdmeidibhapnbaa
open Go.RowKit

theorem ReadsK.only2 {k n c b g : Nat} {w w' : World} {A : Option Addr} {xs : List Value} {B : Nat} (h : ReadsK k w B A n c xs) (hBw : B ≤ w.heap.size) (ho : Only2 b g w w') (hA : ∀ ad, A = some ad → ad.block ≠ b ∧ ad.block ≠ g) : ReadsK k w' w'.heap.size A n c xs :=
  ⟨h.len, h.cap, fun hn => by
    obtain ⟨ad, e, hb, hc⟩ := h.at_ hn
    obtain ⟨h1, h2⟩ := hA ad e
    exact ⟨ad, e, Nat.lt_of_lt_of_le hb (Nat.le_trans hBw ho.size), fun j u hu => (World.cell?_of_block (w := w) (ho.block _ (by rw [add_block]; omega) (by rw [add_block]; exact h1) (by rw [add_block]; exact h2))).trans (hc j u hu)⟩⟩
/-- The document's memory, where the program's lies. -/
structure Both (w : World) (b g p N B1 : Nat) (xs : List Int) (log : List (Int × Int)) (A : Option Addr) (c : Nat) (lo : Int) : Prop where
  mem : MemAt w b g N xs lo log.length
  row : Row w p 30 [.int .i64 N, .slice A log.length c, .int .i64 lo]
  reads : ReadsK 2 w w.heap.size A log.length c (log.flatMap stCells)
  from_ : ∀ ad, A = some ad → B1 ≤ ad.block
  same : ∀ a : Nat, a < N → xs[a]? = some (lastOf log a)

set_option maxRecDepth 100000 in
set_option maxHeartbeats 4000000 in
theorem walkMemPlays (m : Int) (hm : (Lit.int .u16 m).wf = true) (l : List (Bool × Int × Int)) (A : Option Addr) (n c : Nat) (w : World) (hx : ReadsK 3 w w.heap.size A n c (l.flatMap opCells)) (_ : c ≤ maxLen) :
    Calls Try.prog 3 #[.int .u16 m, .slice A n c] w fun e w' => e = .returned (.bool true) ∧ Below w.heap.size w w' := by
  obtain ⟨m0, m1⟩ := wf_u16 hm
  obtain ⟨m, rfl⟩ := Int.eq_ofNat_of_zero_le m0
  have e0 : 1 + (m : Int) = ((1 + m : Nat) : Int) := by omega
  have hN1 : 1 ≤ 1 + m := by omega
  have hN2 : 1 + m ≤ 65536 := by omega
  generalize 1 + m = N at e0 hN1 hN2
  clear hm m0 m1
  go_enter Try.func3, Try.ntmps3
  go_wp2_with fail
  refine (new_ok N _ hN1 hN2).mono ?_
  clear e0
  rintro e w1 ⟨b, g, rfl, hm1, hb, hg, hb1⟩
  go_wp2_with fail
  refine (refNew_ok N _ hN1 hN2).mono ?_
  rintro e w2 ⟨rfl, hb2⟩
  go_wp2_with fail
  refine (fixed_any _).mono ?_
  rintro e w3 ⟨rfl, hb3⟩
  have l1 := hm1.own.lt
  have l2 := hm1.row.lt
  have z2 := hb2.size
  have z3 := hb3.size
  simp only [World.size_alloc] at z3
  have hm3 := ((hm1.below hb2).alloc (.cells #[.int .i64 N, .slice none 0 0, .int .i64 0] 30)).below hb3
  have hp3 := (Row.new w2 30 [.int .i64 N, .slice none 0 0, .int .i64 0]).call hb3
  have hB3 := then_ (al_ (then_ hb1 hb2) _) hb3
  have bp : b ≠ w2.heap.size := by omega
  have gp : g ≠ w2.heap.size := by omega
  have q1 : w.heap.size ≤ w2.heap.size := by have := hb1.size; omega
  have bB : b < w2.heap.size + 1 := by omega
  have gB : g < w2.heap.size + 1 := by omega
  clear l1 l2 z2 hb1 hb2 hb3 hm1
  generalize w2.heap.size = p at *
  have hI : Both w3 b g p N (p + 1) (List.replicate N 0) [] none 0 0 :=
    ⟨hm3, hp3, ⟨rfl, Nat.le_refl _, fun h => absurd h (by simp)⟩, (fun ad h => by cases h), fun a ha => by simp [lastOf, ha]⟩
  clear hm3 hp3
  go_upto_block 0 with fail
  go_cut [6, 8] (fun s6 s8 wx => s6 = .pointer (some ⟨b, 0, none⟩) ∧ s8 = .pointer (some ⟨p, 0, none⟩) ∧ ∃ xs log A c lo, Both wx b g p N (p + 1) xs log A c lo ∧ log.length ≤ 301 ∧ Below w.heap.size w wx)
  case first =>
    go_wp2_with fail
    go_loopw [43] (fun i wr => ∃ (k : Nat) (xs : List Int) (log : List (Int × Int)) (A' : Option Addr) (c' : Nat) (lo : Int), k ≤ n ∧ i = .int .i64 k ∧ Both wr b g p N (p + 1) xs log A' c' lo ∧ 0 ≤ lo ∧ lo ≤ k ∧ log.length ≤ k ∧ k ≤ 301 ∧ p + 1 ≤ wr.heap.size ∧ Below w.heap.size w wr) (fun i _ => n - (intOf i).toNat)
    case atStart => exact ⟨0, _, _, _, _, 0, by omega, rfl, hI, by omega, by omega, Nat.le_refl _, by omega, z3, hB3⟩
    case round =>
      obtain ⟨k, xs, log, A', c', lo, hk, rfl, hI, lo0, lo1, hlk, hk1, zr, hB⟩ := hrel
      by_cases hlt : k < n
      · obtain ⟨ad, h1, rfl, hbl, c0, hcell⟩ := (hx.below hB).at' opCells_len (by omega) hlt
        have c0 := c0 _ rfl
        have c1 := hcell 1 _ (by omega) rfl
        have c2 := hcell 2 _ (by omega) rfl
        clear hcell
        have hlt' : (k : Int) < (n : Int) := by omega
        generalize l[k] = O at c0 c1 c2
        obtain ⟨L, a, v⟩ := O
        simp only at c0 c1 c2
        obtain ⟨hmem, hrow, hreads, hfrom, hsame⟩ := hI
        by_cases h3 : k ≤ 300
        · have h3' : (k : Int) ≤ 300 := by omega
          have HS := Lib.hid hsame
          have HF := Lib.hid hfrom
          clear hsame hfrom
          have hm4 := hmem.alloc (.cells #[.bool L, .int .i64 a, .int .u32 v] 36)
          have hrow4 := hrow.alloc (.cells #[.bool L, .int .i64 a, .int .u32 v] 36)
          have hreads4 := (hreads.alloc (Nat.le_refl _) (.cells #[.bool L, .int .i64 a, .int .u32 v] 36)).more (B' := (wr.alloc (.cells #[.bool L, .int .i64 a, .int .u32 v] 36)).heap.size) (by simp)
          have hop := Row.new wr 36 [.bool L, .int .i64 a, .int .u32 v]
          have hB4 := hB.alloc hB.size (.cells #[.bool L, .int .i64 a, .int .u32 v] 36)
          have kp0 : (wr.alloc (.cells #[.bool L, .int .i64 a, .int .u32 v] 36)).cell? ⟨p, 0, none⟩ = some (.int .i64 N) := hrow4.cell 0
          have kp1 : (wr.alloc (.cells #[.bool L, .int .i64 a, .int .u32 v] 36)).cell? ⟨p, 1, none⟩ = some (.slice A' log.length c') := hrow4.cell 1
          have kp2 : (wr.alloc (.cells #[.bool L, .int .i64 a, .int .u32 v] 36)).cell? ⟨p, 2, none⟩ = some (.int .i64 lo) := hrow4.cell 2
          have hpo : p ≠ wr.heap.size := by omega
          have hpo' : wr.heap.size ≠ p := by omega
          cases L
          · by_cases ha : 0 ≤ a ∧ a < N
            · obtain ⟨j, hj⟩ := Int.eq_ofNat_of_zero_le ha.1
              subst hj
              go_wp2_with fail
              refine (refStore_ok j v N log A' log.length c' lo _ hreads4 (by omega) ha).mono ?_
              rintro e w5 ⟨A5, c5, rfl, hr5, hA5, hb5⟩
              clear c0 c1 c2 kp0 kp1 kp2
              have hrow5 := hrow4.call hb5
              have hop5 := hop.call hb5
              have hm5 := hm4.below hb5
              have kp0 : w5.cell? ⟨p, 0, none⟩ = some (.int .i64 N) := hrow5.cell 0
              have kp1 : w5.cell? ⟨p, 1, none⟩ = some (.slice A' log.length c') := hrow5.cell 1
              have kp2 : w5.cell? ⟨p, 2, none⟩ = some (.int .i64 lo) := hrow5.cell 2
              have fp0 := hrow5.frozen 0
              have fp1 := hrow5.frozen 1
              have fp2 := hrow5.frozen 2
              have ko1 : w5.cell? ⟨wr.heap.size, 1, none⟩ = some (.int .i64 j) := hop5.cell 1
              have ko2 : w5.cell? ⟨wr.heap.size, 2, none⟩ = some (.int .u32 v) := hop5.cell 2
              go_wp2_with fail
              have hz5 := hb5.size
              have hz4 : p + 1 < (wr.alloc (.cells #[.bool false, .int .i64 j, .int .u32 v] 36)).heap.size := by simp; omega
              refine (store_ok j v b g N xs lo log.length _ (((hm5.far (p := ⟨p, 0, none⟩) bp gp _).far (p := ⟨p, 1, none⟩) bp gp _).far (p := ⟨p, 2, none⟩) bp gp _) (by omega) (by omega) (by omega)).mono ?_
              rintro e w6 ⟨rfl, hm6, ho6⟩
              have hrow6 := ho6.row (((hrow5.set 0 (.int .i64 N)).set 1 (.slice A5 (log.length + 1) c5)).set 2 (.int .i64 lo)) (Ne.symm bp) (Ne.symm gp)
              have hrd6 := ReadsK.only2 (((hr5.far (p := ⟨p, 0, none⟩) (fun ad h => by have := hA5 ad h; show ad.block ≠ p; omega) (.int .i64 N)).far (p := ⟨p, 1, none⟩) (fun ad h => by have := hA5 ad h; show ad.block ≠ p; omega) (.slice A5 (log.length + 1) c5)).far (p := ⟨p, 2, none⟩) (fun ad h => by have := hA5 ad h; show ad.block ≠ p; omega) (.int .i64 lo)) (by simp [World.setCell]) ho6 (fun ad h => by have := hA5 ad h; omega)
              have hB6 := ho6.below ((((then_ hB4 hb5).setCell (p := ⟨p, 0, none⟩) q1 (.int .i64 N)).setCell (p := ⟨p, 1, none⟩) q1 (.slice A5 (log.length + 1) c5)).setCell (p := ⟨p, 2, none⟩) q1 (.int .i64 lo)) hb hg (by have := hB.size; simp [World.setCell]; omega)
              have hz6 : p + 1 ≤ w6.heap.size := by have := ho6.size; simp [World.setCell] at this; omega
              go_wp2
              go_roundw
              case rel =>
                refine ⟨k + 1, xs.set j v, log ++ [((j : Int), v)], A5, c5, lo, by omega, by go_num, ⟨?_, ?_, ?_, fun ad h => by have := hA5 ad h; omega, fun q hq => ?_⟩, by omega, by omega, by simp; omega, by omega, hz6, hB6⟩
                · rw [List.length_append]; exact hm6
                · rw [List.length_append]; exact hrow6
                · rw [List.length_append]; exact hrd6
                · rw [lastOf_snoc]
                  by_cases e : q = j
                  · subst e
                    rw [if_pos rfl]
                    exact List.getElem?_set_self (by rw [hmem.len]; exact hq)
                  · rw [if_neg (by simp; omega), List.getElem?_set_ne (by omega)]
                    exact HS.out q hq
              case measure => simp [intOf]; omega
            · go_wp2_with fail
              refine (refStore_no a v N A' log.length c' lo _ (by omega)).mono ?_
              rintro e w5 ⟨rfl, hb5⟩
              clear c0 c1 c2 kp0 kp1 kp2
              have hrow5 := hrow4.call hb5
              have hop5 := hop.call hb5
              have hm5 := hm4.below hb5
              have hr5 := (hreads4.below hb5).more hb5.size
              have kp0 : w5.cell? ⟨p, 0, none⟩ = some (.int .i64 N) := hrow5.cell 0
              have kp1 : w5.cell? ⟨p, 1, none⟩ = some (.slice A' log.length c') := hrow5.cell 1
              have kp2 : w5.cell? ⟨p, 2, none⟩ = some (.int .i64 lo) := hrow5.cell 2
              have fp0 := hrow5.frozen 0
              have fp1 := hrow5.frozen 1
              have fp2 := hrow5.frozen 2
              have ko1 : w5.cell? ⟨wr.heap.size, 1, none⟩ = some (.int .i64 a) := hop5.cell 1
              have ko2 : w5.cell? ⟨wr.heap.size, 2, none⟩ = some (.int .u32 v) := hop5.cell 2
              go_wp2_with fail
              have hz5 := hb5.size
              simp only [World.size_alloc] at hz5
              refine (store_no a v b g N xs lo log.length _ (((hm5.far (p := ⟨p, 0, none⟩) bp gp _).far (p := ⟨p, 1, none⟩) bp gp _).far (p := ⟨p, 2, none⟩) bp gp _) (by omega)).mono ?_
              rintro e w' ⟨rfl, rfl⟩
              have hrow6 := (((hrow5.set 0 (.int .i64 N)).set 1 (.slice A' log.length c')).set 2 (.int .i64 lo))
              have hm6 := (((hm5.far (p := ⟨p, 0, none⟩) bp gp (.int .i64 N)).far (p := ⟨p, 1, none⟩) bp gp (.slice A' log.length c')).far (p := ⟨p, 2, none⟩) bp gp (.int .i64 lo))
              have hrd6 := (((hr5.far (p := ⟨p, 0, none⟩) (fun ad h => by have := HF.out ad h; show ad.block ≠ p; omega) (.int .i64 N)).far (p := ⟨p, 1, none⟩) (fun ad h => by have := HF.out ad h; show ad.block ≠ p; omega) (.slice A' log.length c')).far (p := ⟨p, 2, none⟩) (fun ad h => by have := HF.out ad h; show ad.block ≠ p; omega) (.int .i64 lo))
              have hB6 := ((((then_ hB4 hb5).setCell (p := ⟨p, 0, none⟩) q1 (.int .i64 N)).setCell (p := ⟨p, 1, none⟩) q1 (.slice A' log.length c')).setCell (p := ⟨p, 2, none⟩) q1 (.int .i64 lo))
              go_wp2
              go_roundw
              case rel => exact ⟨k + 1, xs, log, A', c', lo, by omega, by go_num, ⟨hm6, hrow6, hrd6.more (by simp [World.setCell]), HF.out, HS.out⟩, by omega, by omega, by omega, by omega, by simp [World.setCell]; omega, hB6⟩
              case measure => simp [intOf]; omega
          · by_cases ha : 0 ≤ a ∧ a < N
            · obtain ⟨j, hj⟩ := Int.eq_ofNat_of_zero_le ha.1
              subst hj
              have HX := Lib.hid (HS.out j (by omega))
              go_wp2_with fail
              refine (load_ok j (lastOf log j) b g N xs lo log.length _ hm4 (by omega) HX.out (by omega) (by omega)).mono ?_
              rintro e w5 ⟨rfl, hm5, ho5⟩
              clear c0 c1 c2 kp0 kp1 kp2
              have hrow5 := ho5.row hrow4 (Ne.symm bp) (Ne.symm gp)
              have hop5 := ho5.row hop (by omega) (by omega)
              have hr5 := ReadsK.only2 hreads4 (Nat.le_refl _) ho5 (fun ad h => by have := HF.out ad h; omega)
              have hB5 := ho5.below hB4 hb hg (by have := hB.size; simp; omega)
              have kp0 : w5.cell? ⟨p, 0, none⟩ = some (.int .i64 N) := hrow5.cell 0
              have kp1 : w5.cell? ⟨p, 1, none⟩ = some (.slice A' log.length c') := hrow5.cell 1
              have kp2 : w5.cell? ⟨p, 2, none⟩ = some (.int .i64 lo) := hrow5.cell 2
              have ko1 : w5.cell? ⟨wr.heap.size, 1, none⟩ = some (.int .i64 j) := hop5.cell 1
              have hz5 := ho5.size
              simp only [World.size_alloc] at hz5
              go_wp2_with fail
              refine (at_any j N log A' log.length c' lo _ hr5 (by omega) ha).mono ?_
              rintro e w6 ⟨rfl, hb6⟩
              clear kp0 kp1 kp2 ko1
              have hrow6 := hrow5.call hb6
              have hm6 := hm5.below hb6
              have hr6 := (hr5.below hb6).more hb6.size
              have hB6 := then_ hB5 hb6
              have kp2 : w6.cell? ⟨p, 2, none⟩ = some (.int .i64 lo) := hrow6.cell 2
              have fp2 := hrow6.frozen 2
              have hz6 := hb6.size
              go_wp2
              go_roundw
              case rel => exact ⟨k + 1, xs, log, A', c', lo + 1, by omega, by go_num, ⟨hm6.far (p := ⟨p, 2, none⟩) bp gp _, hrow6.set 2 _, (hr6.far (p := ⟨p, 2, none⟩) (fun ad h => by have := HF.out ad h; show ad.block ≠ p; omega) _).more (by simp [World.setCell]), HF.out, HS.out⟩, by omega, by omega, by omega, by omega, by simp [World.setCell]; omega, hB6.setCell (p := ⟨p, 2, none⟩) q1 _⟩
              case measure => simp [intOf]; omega
            · go_wp2_with fail
              refine (load_no a b g N xs lo log.length _ hm4 (by omega)).mono ?_
              rintro e w' ⟨rfl, rfl⟩
              go_wp2_with fail
              refine (at_no a N A' log.length c' lo _ (by omega)).mono ?_
              rintro e w6 ⟨rfl, hb6⟩
              have hrow6 := hrow4.call hb6
              have hm6 := hm4.below hb6
              have hr6 := (hreads4.below hb6).more hb6.size
              have hB6 := then_ hB4 hb6
              have hz6 := hb6.size
              simp only [World.size_alloc] at hz6
              go_wp2
              go_roundw
              case rel => exact ⟨k + 1, xs, log, A', c', lo, by omega, by go_num, ⟨hm6, hrow6, hr6, HF.out, HS.out⟩, by omega, by omega, by omega, by omega, by omega, hB6⟩
              case measure => simp [intOf]; omega
        · have h3' : ¬ (k : Int) ≤ 300 := by omega
          go_wp2_with fail
          go_meet
          exact ⟨rfl, rfl, xs, log, A', c', lo, ⟨hmem.alloc _, hrow.alloc _, (hreads.alloc (Nat.le_refl _) _).more (by simp), hfrom, hsame⟩, by omega, hB.alloc hB.size _⟩
      · have hlt' : ¬ (k : Int) < (n : Int) := by omega
        go_wp2_with fail
        go_meet
        exact ⟨rfl, rfl, xs, log, A', c', lo, hI, by omega, hB⟩
  case rest =>
    obtain ⟨rfl, rfl, xs, log, A', c', lo, hI, hl, hB⟩ := hcut
    obtain ⟨hmem, hrow, hreads, hfrom, hsame⟩ := hI
    clear hsame hfrom
    have kp1 : wc.cell? ⟨p, 1, none⟩ = some (.slice A' log.length c') := hrow.cell 1
    have kp2 : wc.cell? ⟨p, 2, none⟩ = some (.int .i64 lo) := hrow.cell 2
    go_wp2_with fail
    go_quiet ((first
      | (go_at_call 15; exact Calls.quiet_of_same ((len_ok b g N xs lo log.length _ (hmem.drewN _)).mono fun _ _ h => ⟨h.1, h.2.symm⟩))
      | (go_at_call 16; exact Calls.quiet_of_same ((loads_ok b g N xs lo log.length _ (hmem.drewN _)).mono fun _ _ h => ⟨h.1, h.2.symm⟩))
      | (go_at_call 17; exact Calls.quiet_of_same ((stores_ok b g N xs lo log.length _ (hmem.drewN _)).mono fun _ _ h => ⟨h.1, h.2.symm⟩))))
    go_wp2
    go_ret
    exact ⟨rfl, below_drewN hB _⟩
end Go.Proofs.Ytdmeidibhapnbaa
