/- The walk of ref14's Make: printed by wip/bin/gen_imgrefmake.py. -/
import Derived.Test.YtbbjlijdodnjaaaImgRefMay
import Derived.Test.YtbbjlijdodnjaaaImgKit
import Derived.Test.YtbbjlijdodnjaaaBlkRefEnc
namespace Go.Proofs.Ytbbjlijdodnjaaa
open Go.RowKit

theorem rows_take (l : List Rv) (k : Nat) (h : k < l.length) : (l.take (k + 1)).flatMap rwI = (l.take k).flatMap rwI ++ rwI l[k] := by
  rw [List.take_succ_eq_append_getElem h, List.flatMap_append]
  simp
theorem dir_take (ls : List LV) (k : Nat) (to : Int) (h : k < ls.length) : dirI to (ls.take (k + 1)) = dirI to (ls.take k) ++ [(lvAt ls k).2.1, to + (bodyI (ls.take k)).length] := by
  rw [List.take_succ_eq_append_getElem h, dirI_snoc, lvAt_get ls k h]
theorem bodyI_take (ls : List LV) (k : Nat) (h : k < ls.length) : bodyI (ls.take (k + 1)) = bodyI (ls.take k) ++ encL (lvAt ls k).2.2 := by
  rw [List.take_succ_eq_append_getElem h, bodyI_snoc, lvAt_get ls k h]
theorem head_swap (nr n : Nat) (l : List Int) : ints .u32 (headI nr n ++ l) = [.int .u32 ((nr : Int) + 1), .int .u32 (n : Int)] ++ ints .u32 l := by
  rw [ints_append, headI, Int.add_comm 1]
  rfl
set_option maxRecDepth 100000 in
set_option maxHeartbeats 20000000 in
theorem refMakeI_any (at_ : Int) (rows : List Rv) (A0 : Option Addr) (nr cr : Nat) (ls : List Lt) (A : Option Addr) (n c : Nat) (w : World) (hr : ReadsK 4 w w.heap.size A0 nr cr (rows.flatMap rwC)) (hl : ReadsL w w.heap.size A n c ls) :
    Calls Try.prog 12 #[.int .i64 at_, .slice A0 nr cr, .slice A n c] w fun e w' => ∃ v, e = .returned (.tuple #[v, .int .i64 (imgA at_ rows (ltV ls)).2]) ∧ w'.ownsRow w.heap.size 30 1 v (imgA at_ rows (ltV ls)).1.length (ints .u32 (imgA at_ rows (ltV ls)).1) ∧ Below w.heap.size w w' := by
  have HL := refMayI_any A0 nr cr ls A n c w hl
  obtain ⟨i0, hi0, hz0, hz1, hz2⟩ := info_parts info_w32
  have hvl := Lib.hid hl.vlen
  have hrl := hr.count rwC_len (by omega)
  cases hm : mayI nr (ltV ls) with
  | false =>
    rw [hm] at HL
    have HS : Hid (imgA at_ rows (ltV ls) = ([], 1)) := Lib.hid (imgA_may (by rw [hrl]; exact hm))
    clear hm
    go_enter Try.func12, Try.ntmps12
    go_wp2_with fail
    refine HL.mono ?_
    clear HL
    rintro e w1 ⟨rfl, hb1⟩
    go_wp2
    go_ret2
    exact ⟨.slice none 0 0, by rw [HS.out]; rfl, by rw [HS.out]; exact World.ownsRow_nil _ _ _ _, hb1⟩
  | true =>
    rw [hm] at HL
    by_cases ha0 : at_ < 0
    · have HS : Hid (imgA at_ rows (ltV ls) = ([], 1)) := Lib.hid (imgA_at (by omega))
      clear hm
      go_enter Try.func12, Try.ntmps12
      go_wp2_with fail
      refine HL.mono ?_
      clear HL
      rintro e w1 ⟨rfl, hb1⟩
      go_wp2
      go_ret2
      exact ⟨.slice none 0 0, by rw [HS.out]; rfl, by rw [HS.out]; exact World.ownsRow_nil _ _ _ _, hb1⟩
    by_cases ha1 : 65536 < at_
    · have HS : Hid (imgA at_ rows (ltV ls) = ([], 1)) := Lib.hid (imgA_at (by omega))
      clear hm
      go_enter Try.func12, Try.ntmps12
      go_wp2_with fail
      refine HL.mono ?_
      clear HL
      rintro e w1 ⟨rfl, hb1⟩
      go_wp2
      go_ret2
      exact ⟨.slice none 0 0, by rw [HS.out]; rfl, by rw [HS.out]; exact World.ownsRow_nil _ _ _ _, hb1⟩
    have hn1 := (mayI_parts hm).1
    have hn2 := (mayI_parts hm).2.1
    have hle := may_lens hm
    rw [hvl.out] at hn2
    have HS : Hid (imgA at_ rows (ltV ls) = (headI nr n ++ (rows.take nr).flatMap rwI ++ dirI (at_ + 2 + 4 * nr + 2 * n) ((ltV ls).take n) ++ bodyI ((ltV ls).take n), 0)) := Lib.hid (by
      rw [imgA_yes (by rw [hrl]; exact hm) (by omega) (by omega), imgL, hvl.out, hrl, List.take_of_length_le (show (ltV ls).length ≤ n by rw [hvl.out]; omega), List.take_of_length_le (show rows.length ≤ nr by omega)])
    have HB0 := Lib.hid (fun k => body_take_le (ltV ls) k hle)
    have HOK := Lib.hid (fun k (hk : k < (ltV ls).length) => (okB_parts ((mayI_parts hm).2.2 k hk)).2)
    have hcapr := hr.cap
    have hcapl := hl.row.cap
    clear hm
    go_enter Try.func12, Try.ntmps12
    go_wp2_with fail
    refine HL.mono ?_
    clear HL
    rintro e w1 ⟨rfl, hb1⟩
    have Hrl := Lib.hid hrl
    clear hle hrl
    have hown0 : (w1.alloc (.cells #[.int .u32 ((nr : Int) + 1), .int .u32 (n : Int)] 30)).ownsRow w1.heap.size 30 1 (.slice (some ⟨w1.heap.size, 0, none⟩) 2 2) 2 [.int .u32 ((nr : Int) + 1), .int .u32 (n : Int)] := built_new w1 30 [.int .u32 ((nr : Int) + 1), .int .u32 (n : Int)] (by simp)
    have hb1s := hb1.size
    go_wp2_with fail
    go_loopw [8, 37] (fun out i wr => ∃ k : Nat, k ≤ nr ∧ i = .int .i64 (k : Int) ∧ wr.ownsRow w1.heap.size 30 1 out (2 + 4 * k) (ints .u32 (headI nr n ++ (rows.take k).flatMap rwI)) ∧ Below w1.heap.size w1 wr) (fun _ i _ => nr - (intOf i).toNat)
    case atStart => exact ⟨0, by omega, rfl, by rw [head_swap]; exact hown0, (Below.refl _ _).alloc (Nat.le_refl _) _⟩
    case round =>
      clear hown0
      obtain ⟨k, hk, rfl, hown, hb2⟩ := hrel
      have hB2 : Below w.heap.size w wr := hb1.trans (hb2.mono hb1s)
      by_cases hlt : k < nr
      · have hlt' : (k : Int) < (nr : Int) := by omega
        have hk0 : (0 : Int) ≤ (k : Int) := by omega
        obtain ⟨ar, hlk, rfl, hbr, r0, r1, r2, r3⟩ := (hr.below hB2).rw_ hlt
        have HT := Lib.hid (rows_take rows k hlk)
        generalize rows[k] = rw at *
        obtain ⟨q0, q1, q2, q3⟩ := rw
        simp only at r0 r1 r2 r3
        have hb2s := hb2.size
        have hbra : (ar.add (k * 4)).block < wr.heap.size := by rw [add_block]; omega
        have hbrw : (ar.add (k * 4)).block < w1.heap.size := by rw [add_block]; omega
        go_wp2_with fail
        refine wp_region_open (S := (fun w' : World => w'.cell? (ar.add (k * 4)) = some (.int .u32 q0) ∧ w'.cell? ⟨(ar.add (k * 4)).block, (ar.add (k * 4)).off + 1, none⟩ = some (.int .u32 q1) ∧ w'.cell? ⟨(ar.add (k * 4)).block, (ar.add (k * 4)).off + 2, none⟩ = some (.int .u32 q2) ∧ w'.cell? ⟨(ar.add (k * 4)).block, (ar.add (k * 4)).off + 3, none⟩ = some (.int .u32 q3))) #[false, false, false, false, false, false, false, false, false, false, false, false, false, false, false, false, false, false, false, false, false, false, false, false] 24 (by kernel_rfl) (by kernel_rfl) rfl (⟨r0, r1, r2, r3⟩) (fun hHeld => ?_)
        refine tk (i := 0) (v := ?_) rfl (by kernel_rfl) (by kernel_rfl) (by kernel_rfl) (Or.inl ⟨by rfl, ?_⟩) (by assumption) ?_; rotate_left 1
        · intro w hSw; (try dsimp only at hSw); go_simp; try with_reducible rfl
        try simp only [Act.put, List.getElem_toArray, List.getElem_cons_zero, List.setIfInBounds_toArray, List.set_cons_zero, List.set_cons_succ]
        refine tk (i := 1) (v := ?_) rfl (by kernel_rfl) (by kernel_rfl) (by kernel_rfl) (Or.inl ⟨by rfl, ?_⟩) (by assumption) ?_; rotate_left 1
        · intro w hSw; (try dsimp only at hSw); go_simp; try with_reducible rfl
        try simp only [Act.put, List.getElem_toArray, List.getElem_cons_zero, List.getElem_cons_succ, List.setIfInBounds_toArray, List.set_cons_zero, List.set_cons_succ]
        refine tk (i := 2) (v := ?_) rfl (by kernel_rfl) (by kernel_rfl) (by kernel_rfl) (Or.inl ⟨by rfl, ?_⟩) (by assumption) ?_; rotate_left 1
        · intro w hSw; (try dsimp only at hSw); go_simp; try with_reducible rfl
        try simp only [Act.put, List.getElem_toArray, List.getElem_cons_zero, List.getElem_cons_succ, List.setIfInBounds_toArray, List.set_cons_zero, List.set_cons_succ]
        refine tk (i := 3) (v := ?_) rfl (by kernel_rfl) (by kernel_rfl) (by kernel_rfl) (Or.inl ⟨by rfl, ?_⟩) (by assumption) ?_; rotate_left 1
        · intro w hSw; (try dsimp only at hSw); go_simp; try with_reducible rfl
        try simp only [Act.put, List.getElem_toArray, List.getElem_cons_zero, List.getElem_cons_succ, List.setIfInBounds_toArray, List.set_cons_zero, List.set_cons_succ]
        refine tk (i := 4) (v := ?_) rfl (by kernel_rfl) (by kernel_rfl) (by kernel_rfl) (Or.inl ⟨by rfl, ?_⟩) (by assumption) ?_; rotate_left 1
        · intro w hSw; (try dsimp only at hSw); go_simp; try with_reducible rfl
        try simp only [Act.put, List.getElem_toArray, List.getElem_cons_zero, List.getElem_cons_succ, List.setIfInBounds_toArray, List.set_cons_zero, List.set_cons_succ]
        refine tk (i := 5) (v := ?_) rfl (by kernel_rfl) (by kernel_rfl) (by kernel_rfl) (Or.inl ⟨by rfl, ?_⟩) (by assumption) ?_; rotate_left 1
        · intro w hSw; (try dsimp only at hSw); go_simp; try with_reducible rfl
        try simp only [Act.put, List.getElem_toArray, List.getElem_cons_zero, List.getElem_cons_succ, List.setIfInBounds_toArray, List.set_cons_zero, List.set_cons_succ]
        refine tk (i := 6) (v := ?_) rfl (by kernel_rfl) (by kernel_rfl) (by kernel_rfl) (Or.inl ⟨by rfl, ?_⟩) (by assumption) ?_; rotate_left 1
        · intro w hSw; (try dsimp only at hSw); go_simp; try with_reducible rfl
        try simp only [Act.put, List.getElem_toArray, List.getElem_cons_zero, List.getElem_cons_succ, List.setIfInBounds_toArray, List.set_cons_zero, List.set_cons_succ]
        refine tk (i := 7) (v := ?_) rfl (by kernel_rfl) (by kernel_rfl) (by kernel_rfl) (Or.inl ⟨by rfl, ?_⟩) (by assumption) ?_; rotate_left 1
        · intro w hSw; (try dsimp only at hSw); go_simp; try with_reducible rfl
        try simp only [Act.put, List.getElem_toArray, List.getElem_cons_zero, List.getElem_cons_succ, List.setIfInBounds_toArray, List.set_cons_zero, List.set_cons_succ]
        refine tk (i := 8) (v := ?_) rfl (by kernel_rfl) (by kernel_rfl) (by kernel_rfl) (Or.inl ⟨by rfl, ?_⟩) (by assumption) ?_; rotate_left 1
        · intro w hSw; (try dsimp only at hSw); go_simp; try with_reducible rfl
        try simp only [Act.put, List.getElem_toArray, List.getElem_cons_zero, List.getElem_cons_succ, List.setIfInBounds_toArray, List.set_cons_zero, List.set_cons_succ]
        refine tk (i := 9) (v := ?_) rfl (by kernel_rfl) (by kernel_rfl) (by kernel_rfl) (Or.inl ⟨by rfl, ?_⟩) (by assumption) ?_; rotate_left 1
        · intro w hSw; (try dsimp only at hSw); go_simp; try with_reducible rfl
        try simp only [Act.put, List.getElem_toArray, List.getElem_cons_zero, List.getElem_cons_succ, List.setIfInBounds_toArray, List.set_cons_zero, List.set_cons_succ]
        refine tk (i := 10) (v := ?_) rfl (by kernel_rfl) (by kernel_rfl) (by kernel_rfl) (Or.inl ⟨by rfl, ?_⟩) (by assumption) ?_; rotate_left 1
        · intro w hSw; (try dsimp only at hSw); go_simp; try with_reducible rfl
        try simp only [Act.put, List.getElem_toArray, List.getElem_cons_zero, List.getElem_cons_succ, List.setIfInBounds_toArray, List.set_cons_zero, List.set_cons_succ]
        refine tk (i := 11) (v := ?_) rfl (by kernel_rfl) (by kernel_rfl) (by kernel_rfl) (Or.inl ⟨by rfl, ?_⟩) (by assumption) ?_; rotate_left 1
        · intro w hSw; (try dsimp only at hSw); go_simp; try with_reducible rfl
        try simp only [Act.put, List.getElem_toArray, List.getElem_cons_zero, List.getElem_cons_succ, List.setIfInBounds_toArray, List.set_cons_zero, List.set_cons_succ]
        refine tk (i := 12) (v := ?_) rfl (by kernel_rfl) (by kernel_rfl) (by kernel_rfl) (Or.inl ⟨by rfl, ?_⟩) (by assumption) ?_; rotate_left 1
        · intro w hSw; (try dsimp only at hSw); go_simp; try with_reducible rfl
        try simp only [Act.put, List.getElem_toArray, List.getElem_cons_zero, List.getElem_cons_succ, List.setIfInBounds_toArray, List.set_cons_zero, List.set_cons_succ]
        refine tk (i := 13) (v := ?_) rfl (by kernel_rfl) (by kernel_rfl) (by kernel_rfl) (Or.inl ⟨by rfl, ?_⟩) (by assumption) ?_; rotate_left 1
        · intro w hSw; (try dsimp only at hSw); go_simp; try with_reducible rfl
        try simp only [Act.put, List.getElem_toArray, List.getElem_cons_zero, List.getElem_cons_succ, List.setIfInBounds_toArray, List.set_cons_zero, List.set_cons_succ]
        refine tk (i := 14) (v := ?_) rfl (by kernel_rfl) (by kernel_rfl) (by kernel_rfl) (Or.inl ⟨by rfl, ?_⟩) (by assumption) ?_; rotate_left 1
        · intro w hSw; (try dsimp only at hSw); go_simp; try with_reducible rfl
        try simp only [Act.put, List.getElem_toArray, List.getElem_cons_zero, List.getElem_cons_succ, List.setIfInBounds_toArray, List.set_cons_zero, List.set_cons_succ]
        refine tk (i := 15) (v := ?_) rfl (by kernel_rfl) (by kernel_rfl) (by kernel_rfl) (Or.inl ⟨by rfl, ?_⟩) (by assumption) ?_; rotate_left 1
        · intro w hSw; (try dsimp only at hSw); go_simp; try with_reducible rfl
        try simp only [Act.put, List.getElem_toArray, List.getElem_cons_zero, List.getElem_cons_succ, List.setIfInBounds_toArray, List.set_cons_zero, List.set_cons_succ]
        refine tk (i := 16) (v := ?_) rfl (by kernel_rfl) (by kernel_rfl) (by kernel_rfl) (Or.inl ⟨by rfl, ?_⟩) (by assumption) ?_; rotate_left 1
        · intro w hSw; (try dsimp only at hSw); go_simp; try with_reducible rfl
        try simp only [Act.put, List.getElem_toArray, List.getElem_cons_zero, List.getElem_cons_succ, List.setIfInBounds_toArray, List.set_cons_zero, List.set_cons_succ]
        refine tk (i := 17) (v := ?_) rfl (by kernel_rfl) (by kernel_rfl) (by kernel_rfl) (Or.inl ⟨by rfl, ?_⟩) (by assumption) ?_; rotate_left 1
        · intro w hSw; (try dsimp only at hSw); go_simp; try with_reducible rfl
        try simp only [Act.put, List.getElem_toArray, List.getElem_cons_zero, List.getElem_cons_succ, List.setIfInBounds_toArray, List.set_cons_zero, List.set_cons_succ]
        refine tk (i := 18) (v := ?_) rfl (by kernel_rfl) (by kernel_rfl) (by kernel_rfl) (Or.inl ⟨by rfl, ?_⟩) (by assumption) ?_; rotate_left 1
        · intro w hSw; (try dsimp only at hSw); go_simp; try with_reducible rfl
        try simp only [Act.put, List.getElem_toArray, List.getElem_cons_zero, List.getElem_cons_succ, List.setIfInBounds_toArray, List.set_cons_zero, List.set_cons_succ]
        refine tk (i := 19) (v := ?_) rfl (by kernel_rfl) (by kernel_rfl) (by kernel_rfl) (Or.inl ⟨by rfl, ?_⟩) (by assumption) ?_; rotate_left 1
        · intro w hSw; (try dsimp only at hSw); go_simp; try with_reducible rfl
        try simp only [Act.put, List.getElem_toArray, List.getElem_cons_zero, List.getElem_cons_succ, List.setIfInBounds_toArray, List.set_cons_zero, List.set_cons_succ]
        refine tk (i := 20) (v := ?_) rfl (by kernel_rfl) (by kernel_rfl) (by kernel_rfl) (Or.inl ⟨by rfl, ?_⟩) (by assumption) ?_; rotate_left 1
        · intro w hSw; (try dsimp only at hSw); go_simp; try with_reducible rfl
        try simp only [Act.put, List.getElem_toArray, List.getElem_cons_zero, List.getElem_cons_succ, List.setIfInBounds_toArray, List.set_cons_zero, List.set_cons_succ]
        refine wpAnyH_ready (rs := [21]) (by kernel_rfl) (by simp) ?_
        refine AllReadyH.cons (o := _) rfl (fun K hK => ?_) AllReadyH.nil
        go_simp
        refine hK.out _ _ ⟨(World.cell?_alloc_lt _ _ _ (by exact hbra)).trans r0, (World.cell?_alloc_lt _ _ _ (by exact hbra)).trans r1, (World.cell?_alloc_lt _ _ _ (by exact hbra)).trans r2, (World.cell?_alloc_lt _ _ _ (by exact hbra)).trans r3⟩ (fun hHeld => ?_)
        clear hK K
        try simp only [List.setIfInBounds_toArray, List.set_cons_zero, List.set_cons_succ]
        refine wpAnyH_ready (rs := [22]) (by kernel_rfl) (by simp) ?_
        refine AllReadyH.cons (o := _) rfl (fun K hK => ?_) AllReadyH.nil
        refine step_append_lit (W := wr.drew) rfl (.tmp 40) (.tmp 61) 26 rfl w1.heap.size 30 i0 _ 4 Try.underlying26 hi0 hz0 hz1 hz2 rfl _ (2 + 4 * k) _ [.int .u32 q0, .int .u32 q1, .int .u32 q2, .int .u32 q3] 4 rfl hown rfl rfl (by intro u hu; simp only [List.mem_cons, List.mem_nil_iff, or_false] at hu; rcases hu with rfl | rfl | rfl | rfl <;> rfl) (by omega) (by omega) hb2s ?_
        intro v3 w3 hown3 hg3 _
        have hb3 : Below w1.heap.size w1 w3 := below_grown hb2.drew hown (Nat.le_refl _) hb2s hg3
        refine hK.out _ _ ⟨(hb3.cell (by exact hbrw)).trans ((hb2.cell (by exact hbrw)).symm.trans r0), (hb3.cell (by exact hbrw)).trans ((hb2.cell (by exact hbrw)).symm.trans r1), (hb3.cell (by exact hbrw)).trans ((hb2.cell (by exact hbrw)).symm.trans r2), (hb3.cell (by exact hbrw)).trans ((hb2.cell (by exact hbrw)).symm.trans r3)⟩ (fun hHeld => ?_)
        clear hK K
        try simp only [List.setIfInBounds_toArray, List.set_cons_zero, List.set_cons_succ]
        refine tk (i := 23) (v := ?_) rfl (by kernel_rfl) (by kernel_rfl) (by kernel_rfl) (Or.inl ⟨by rfl, ?_⟩) (by assumption) ?_; rotate_left 1
        · intro w hSw; (try dsimp only at hSw); go_simp; try with_reducible rfl
        try simp only [Act.put, List.getElem_toArray, List.getElem_cons_zero, List.getElem_cons_succ, List.setIfInBounds_toArray, List.set_cons_zero, List.set_cons_succ]
        refine wpAnyH_done (by kernel_rfl) ?_ _
        refine NoPanic.normal ?_
        have Hown3 : Hid (w3.ownsRow w1.heap.size 30 1 v3 (2 + 4 * (k + 1)) (ints .u32 (headI nr n ++ (rows.take (k + 1)).flatMap rwI))) := Lib.hid (by
          rw [HT.out, ← List.append_assoc, ints_append]
          exact hown3)
        clear hown3 hHeld r0 r1 r2 r3
        go_wp2
        go_roundw
        case rel => exact ⟨k + 1, by omega, by go_num, Hown3.out, hb3⟩
        case measure => simp [intOf]; omega
      · have hlt' : ¬ (k : Int) < (nr : Int) := by omega
        obtain rfl : k = nr := by omega
        obtain ⟨A3, c3, rfl, _, _, _⟩ := ownsRow_slice hown
        obtain ⟨HR, hHR⟩ : ∃ HR, headI k n ++ (rows.take k).flatMap rwI = HR := ⟨_, rfl⟩
        rw [hHR] at hown HS
        obtain ⟨base, hbase⟩ : ∃ base : Int, at_ + 2 + 4 * (k : Int) + 2 * (n : Int) = base := ⟨_, rfl⟩
        have hbb : 0 ≤ base ∧ base ≤ 100000 := by omega
        rw [hbase] at HS
        have hown' := hown.alloc (.cells #[] 30)
        have hbody : (wr.alloc (.cells #[] 30)).ownsRow w1.heap.size 30 1 (.slice (some ⟨wr.heap.size, 0, none⟩) 0 0) 0 [] := ownsRow_base (own_empty wr 30 1) hb2.size
        have hAP : AP (.slice A3 (2 + 4 * k) c3) (.slice (some ⟨wr.heap.size, 0, none⟩) 0 0) := fun b h1 h2 => by
          have := (hown.lt b h1).2
          injection h2 with h2
          simp only at h2
          omega
        have hb2' := hb2.alloc hb2.size (.cells #[] 30)
        clear hHR hown hB2
        go_wp2_with fail
        go_loopw [8, 10, 77] (fun out body i wr => ∃ k2 : Nat, k2 ≤ n ∧ i = .int .i64 (k2 : Int) ∧ wr.ownsRow w1.heap.size 30 1 out (2 + 4 * k + 2 * k2) (ints .u32 (HR ++ dirI base ((ltV ls).take k2))) ∧ wr.ownsRow w1.heap.size 30 1 body (bodyI ((ltV ls).take k2)).length (ints .u32 (bodyI ((ltV ls).take k2))) ∧ AP out body ∧ Below w1.heap.size w1 wr) (fun _ _ i _ => n - (intOf i).toNat)
        case atStart => exact ⟨0, by omega, rfl, by simpa [dirI] using hown', by simpa [bodyI, ints] using hbody, hAP, hb2'⟩
        case round =>
          clear hown' hbody hAP hb2'
          obtain ⟨k2, hk2, rfl, hown, hbod, hAP, hb2⟩ := hrel
          have hB2 : Below w.heap.size w wr := hb1.trans (hb2.mono hb1s)
          by_cases hlt2 : k2 < n
          · have hlt2' : (k2 : Int) < (n : Int) := by omega
            have hk20 : (0 : Int) ≤ (k2 : Int) := by omega
            obtain ⟨ad, ky, r, A', n', c', es, rfl, hbd, hlv, d0, d1, d2, he, hc'⟩ := (hl.below hB2).at' hlt2
            have hlk : k2 < (ltV ls).length := by rw [hvl.out]; exact hlt2
            have hok := HOK.out k2 hlk
            have hr1 := hok.r1
            have hr2 := hok.r2
            have hmy := may_of hok.may
            have hen := encL_le hok.may
            have hD := dir_take (ltV ls) k2 base hlk
            have hBT := bodyI_take (ltV ls) k2 hlk
            rw [hlv] at hr1 hr2 hD hmy hen hBT
            simp only at hr1 hr2 hD hmy hen hBT
            have hb1' := HB0.out k2
            rw [hvl.out] at hb1'
            have HD := Lib.hid hD
            have HBT := Lib.hid hBT
            have HEN := Lib.hid (show encA (vals es) = (encL (vals es), 0) from by rw [encA, if_pos hmy])
            clear hD hBT hlv hok hmy
            obtain ⟨A9, c9, rfl, _, _, _⟩ := ownsRow_slice hbod
            generalize hXB : bodyI ((ltV ls).take k2) = XB at *
            obtain ⟨X, hX⟩ : ∃ X, XB.length = X := ⟨_, rfl⟩
            have HX := Lib.hid hX
            have hb2s := hb2.size
            have hdb : (ad.add (k2 * 3)).block < w.heap.size := by rw [add_block]; exact hbd
            rw [hX] at hbod hAP
            have hXb : X ≤ 20000 * n := by rw [← hX]; exact hb1'
            try rw [hX]
            clear hX hb1'
            go_wp2_with (at_builtin; refine wpList_append_litB rfl (.tmp 80) (.tmp 92) 26 rfl w1.heap.size 30 i0 _ 4 Try.underlying26 hi0 hz0 hz1 hz2 rfl _ (2 + 4 * k + 2 * k2) _ [.int .u32 r, .int .u32 (base + (X : Int))] 2 rfl hown rfl rfl (by intro u hu; simp only [List.mem_cons, List.mem_nil_iff, or_false] at hu; rcases hu with rfl | rfl <;> rfl) (by omega) (by omega) hb2s ?_; intro v3 w3 hown3 hg3 hv3; have hb3 : Below w1.heap.size w1 w3 := below_grown hb2 hown (Nat.le_refl _) hb2s hg3; have hB3 : Below w.heap.size w w3 := hb1.trans (hb3.mono hb1s); have d23 : w3.cell? ⟨(ad.add (k2 * 3)).block, (ad.add (k2 * 3)).off + 2, none⟩ = some (.slice A' n' c') := (hB3.cell (by exact hdb)).trans ((hB2.cell (by exact hdb)).symm.trans d2))
            have hbod3 := hbod.kept hg3 hAP.symm.ne
            have hAP3 : AP v3 (.slice A9 X c9) := (hAP.symm.step hbod (Nat.le_succ _) hv3).symm
            have Hown3 : Hid (w3.ownsRow w1.heap.size 30 1 v3 (2 + 4 * k + 2 * (k2 + 1)) (ints .u32 (HR ++ dirI base ((ltV ls).take (k2 + 1))))) := Lib.hid (by
              rw [HD.out, ← List.append_assoc, ints_append]
              rw [HX.out]
              exact hown3)
            have HE := refEnc_any es A' n' c' w3 ((he.keep (fun p hp => (hB3.cell hp).trans (hB2.cell hp).symm)).more hB3.size) hc'
            rw [HEN.out] at HE
            clear hown3 hg3 hv3 hown hbod hAP hb2 d0 d1 d2 d23
            refine HE.mono ?_
            clear HE
            rintro e w4 ⟨v4, rfl, hown4, hb4⟩
            have hb34 := hb3.trans (hb4.mono hb3.size)
            have hbod4 := ownsRow_below hbod3 hb4
            have HownA : Hid (w4.ownsRow w1.heap.size 30 1 v3 (2 + 4 * k + 2 * (k2 + 1)) (ints .u32 (HR ++ dirI base ((ltV ls).take (k2 + 1))))) := Lib.hid (ownsRow_below Hown3.out hb4)
            obtain ⟨A4, c4, rfl, hr4, _, _⟩ := ownsRow_slice hown4
            obtain ⟨CE, hCE⟩ : ∃ CE, encL (vals es) = CE := ⟨_, rfl⟩
            have HCE := Lib.hid hCE
            rw [hCE] at hr4 hen
            try rw [hCE]
            have hb34s := hb34.size
            clear hCE hbod3 hb4 hown4
            go_wp2_with (at_builtin; refine wpList_append_allK rfl (.tmp 103) (.tmp 104) 26 rfl w1.heap.size 30 i0 _ 1 4 Try.underlying26 hi0 hz0 hz1 hz2 rfl (by omega) _ X _ hbod4 _ _ _ _ _ (ReadsK.of_reads hr4) rfl rfl (ints_one _ _) (by omega) (by omega) hb34s ?_; intro v5 w5 hown5 hg5 hv5)
            have hAP5 : AP v3 v5 := hAP3.step HownA.out (Nat.le_refl _) hv5
            have hownB := HownA.out.kept hg5 hAP3.ne
            have hb5 : Below w1.heap.size w1 w5 := below_grown hb34 hbod4 (Nat.le_refl _) hb34s hg5
            have Hbody : Hid (w5.ownsRow w1.heap.size 30 1 v5 (bodyI ((ltV ls).take (k2 + 1))).length (ints .u32 (bodyI ((ltV ls).take (k2 + 1))))) := Lib.hid (by
              rw [HBT.out, HCE.out, List.length_append, HX.out, ints_append]
              exact hown5)
            have HownB := Lib.hid hownB
            clear hown5 hg5 hv5 hownB hbod4
            go_wp2
            go_roundw
            case rel => exact ⟨k2 + 1, by omega, by go_num, HownB.out, Hbody.out, hAP5, hb5⟩
            case measure => simp [intOf]; omega
          · have hlt2' : ¬ (k2 : Int) < (n : Int) := by omega
            obtain rfl : k2 = n := by omega
            obtain ⟨A9, c9, rfl, hr9, _, _⟩ := ownsRow_slice hbod
            obtain ⟨DR, hDR⟩ : ∃ DR, HR ++ dirI base ((ltV ls).take k2) = DR := ⟨_, rfl⟩
            rw [hDR] at hown HS
            have hXb := HB0.out k2
            rw [hvl.out] at hXb
            have HS2 := Lib.hid HS.out
            generalize bodyI ((ltV ls).take k2) = XB at *
            obtain ⟨X, hX⟩ : ∃ X, XB.length = X := ⟨_, rfl⟩
            rw [hX] at hr9 hXb
            try rw [hX]
            have HX := Lib.hid hX
            have hb2s := hb2.size
            clear hX hDR hbod
            go_wp2_with (at_builtin; refine wpList_append_allK rfl (.tmp 107) (.tmp 108) 26 rfl w1.heap.size 30 i0 _ 1 4 Try.underlying26 hi0 hz0 hz1 hz2 rfl (by omega) _ (2 + 4 * k + 2 * k2) _ hown _ _ _ _ _ (ReadsK.of_reads hr9) rfl rfl (ints_one _ _) (by omega) (by omega) hb2s ?_; intro v5 w5 hown5 hg5 hv5)
            have hb5 : Below w1.heap.size w1 w5 := below_grown hb2 hown (Nat.le_refl _) hb2s hg5
            have Hown := Lib.hid hown5
            clear hown5 hown hr9
            go_wp2
            go_ret2
            refine ⟨_, by rw [HS.out]; rfl, ?_, hb1.trans (hb5.mono hb1s)⟩
            rw [HS.out]
            have h9 := Hown.out
            rw [← ints_append] at h9
            have h10 : (DR ++ XB).length = 2 + 4 * k + 2 * k2 + X := by have := h9.1; simpa using this
            show World.ownsRow _ _ _ 1 _ (DR ++ XB).length _
            rw [h10]
            exact ownsRow_base h9 hb1s
end Go.Proofs.Ytbbjlijdodnjaaa
