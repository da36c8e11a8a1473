/- The walk of image.Make. -/
import Derived.Test.YtbbjlijdodnjaaaImgLay
import Derived.Test.YtbbjlijdodnjaaaImgKit
namespace Go.Proofs.Ytbbjlijdodnjaaa
open Go.RowKit

theorem rows_take (l : List Rv) (k : Nat) (h : k < l.length) : (l.take (k + 1)).flatMap rwI = (l.take k).flatMap rwI ++ rwI l[k] := by
  rw [List.take_succ_eq_append_getElem h, List.flatMap_append]
  simp
theorem dir_take (ls : List LV) (k : Nat) (to : Int) (h : k < ls.length) : dirI to (ls.take (k + 1)) = dirI to (ls.take k) ++ [(lvAt ls k).2.1, to + (bodyI (ls.take k)).length] := by
  rw [List.take_succ_eq_append_getElem h, dirI_snoc, lvAt_get ls k h]
theorem bodyI_take (ls : List LV) (k : Nat) (h : k < ls.length) : bodyI (ls.take (k + 1)) = bodyI (ls.take k) ++ encL (lvAt ls k).2.2 := by
  rw [List.take_succ_eq_append_getElem h, bodyI_snoc, lvAt_get ls k h]
set_option maxRecDepth 100000 in
set_option maxHeartbeats 20000000 in
theorem make_any (at_ : Int) (rows : List Rv) (A0 : Option Addr) (nr cr : Nat) (ls : List Lt) (A : Option Addr) (n c : Nat) (w : World) (hr : ReadsK 4 w w.heap.size A0 nr cr (rows.flatMap rwC)) (hl : ReadsL w w.heap.size A n c ls) :
    Calls Try.prog 10 #[.int .i64 at_, .slice A0 nr cr, .slice A n c] w fun e w' => ∃ v, e = .returned (.tuple #[v, .int .i64 (imgA at_ rows (ltV ls)).2]) ∧ w'.ownsRow w.heap.size 30 1 v (imgA at_ rows (ltV ls)).1.length (ints .u32 (imgA at_ rows (ltV ls)).1) ∧ Below w.heap.size w w' := by
  have HL := lay_any A0 nr cr ls A n c w hl
  obtain ⟨i0, hi0, hz0, hz1, hz2⟩ := info_parts info_w32
  have hvl := Lib.hid hl.vlen
  have hrl := hr.count rwC_len (by omega)
  cases hm : mayI nr (ltV ls) with
  | false =>
    rw [hm] at HL
    have HS : Hid (imgA at_ rows (ltV ls) = ([], 1)) := Lib.hid (imgA_may (by rw [hrl]; exact hm))
    clear hm
    go_enter Try.func10, Try.ntmps10
    go_wp2_with fail
    refine HL.mono ?_
    clear HL
    rintro e w1 ⟨v, rfl, _, hb1⟩
    go_wp2
    go_ret2
    exact ⟨.slice none 0 0, by rw [HS.out]; rfl, by rw [HS.out]; exact World.ownsRow_nil _ _ _ _, hb1⟩
  | true =>
    rw [hm] at HL
    by_cases ha0 : at_ < 0
    · have HS : Hid (imgA at_ rows (ltV ls) = ([], 1)) := Lib.hid (imgA_at (by omega))
      clear hm
      go_enter Try.func10, Try.ntmps10
      go_wp2_with fail
      refine HL.mono ?_
      clear HL
      rintro e w1 ⟨v, rfl, _, hb1⟩
      go_wp2
      go_ret2
      exact ⟨.slice none 0 0, by rw [HS.out]; rfl, by rw [HS.out]; exact World.ownsRow_nil _ _ _ _, hb1⟩
    by_cases ha1 : 65536 < at_
    · have HS : Hid (imgA at_ rows (ltV ls) = ([], 1)) := Lib.hid (imgA_at (by omega))
      clear hm
      go_enter Try.func10, Try.ntmps10
      go_wp2_with fail
      refine HL.mono ?_
      clear HL
      rintro e w1 ⟨v, rfl, _, hb1⟩
      go_wp2
      go_ret2
      exact ⟨.slice none 0 0, by rw [HS.out]; rfl, by rw [HS.out]; exact World.ownsRow_nil _ _ _ _, hb1⟩
    have hn1 := (mayI_parts hm).1
    have hn2 := (mayI_parts hm).2.1
    have hle := may_lens hm
    rw [hvl.out] at hn2
    have HS : Hid (imgA at_ rows (ltV ls) = (headI nr n ++ (rows.take nr).flatMap rwI ++ dirI (at_ + (2 + 4 * nr) + 2 * n) ((ltV ls).take n) ++ bodyI ((ltV ls).take n), 0)) := Lib.hid (by
      rw [imgA_yes (by rw [hrl]; exact hm) (by omega) (by omega), imgL, hvl.out, hrl, List.take_of_length_le (show (ltV ls).length ≤ n by rw [hvl.out]; omega), List.take_of_length_le (show rows.length ≤ nr by omega), show at_ + 2 + 4 * (nr : Int) + 2 * (n : Int) = at_ + (2 + 4 * nr) + 2 * n from by omega])
    have HB0 := Lib.hid (fun k => body_take_le (ltV ls) k hle)
    have HOK := Lib.hid (fun k (hk : k < (ltV ls).length) => (okB_parts ((mayI_parts hm).2.2 k hk)).2)
    have hcapr := hr.cap
    have hcapl := hl.row.cap
    clear hm
    go_enter Try.func10, Try.ntmps10
    go_wp2_with fail
    refine HL.mono ?_
    clear HL
    rintro e w1 ⟨v, rfl, hex, hb1⟩
    obtain ⟨cl, hO, hcl⟩ := hex (by first | rfl | trivial)
    clear hex
    have hll : cl.length = n := by have := congrArg List.length hcl; simpa [hvl.out] using this
    obtain ⟨A1, c1, rfl, _, _, _⟩ := ownsRow_slice hO.row
    have hR := hO.reads rfl
    rw [hll] at hR
    have Hcl := Lib.hid (fun k hk => cl_at hcl k hk)
    have hrc := hR.row.cap
    try rw [hll]
    have Hll := Lib.hid hll
    have Hrl := Lib.hid hrl
    clear hO hcl hle hll hrl
    have hlit := lit_reads w1 30 [.int .u32 (1 + (nr : Int)), .int .u32 (n : Int)]
    have hown0 : (w1.alloc (.cells #[.int .u32 (1 + (nr : Int)), .int .u32 (n : Int)] 30)).ownsRow w1.heap.size 30 1 (.slice (some ⟨w1.heap.size, 0, none⟩) 2 2) 2 [.int .u32 (1 + (nr : Int)), .int .u32 (n : Int)] := built_new w1 30 [.int .u32 (1 + (nr : Int)), .int .u32 (n : Int)] (by simp)
    have hB2 := hb1.alloc hb1.size (.cells #[.int .u32 (1 + (nr : Int)), .int .u32 (n : Int)] 30)
    have hb1s := hb1.size
    go_wp2_with fail
    go_loopw [10, 44] (fun out i wr => ∃ k : Nat, k ≤ nr ∧ i = .int .i64 (k : Int) ∧ wr.ownsRow w1.heap.size 30 1 out (2 + 4 * k) (ints .u32 (headI nr n ++ (rows.take k).flatMap rwI)) ∧ Below w1.heap.size w1 wr) (fun _ i _ => nr - (intOf i).toNat)
    case atStart => exact ⟨0, by omega, rfl, hown0, (Below.refl _ _).alloc (Nat.le_refl _) _⟩
    case round =>
      clear hown0 hlit hB2
      obtain ⟨k, hk, rfl, hown, hb2⟩ := hrel
      have hB2 : Below w.heap.size w wr := hb1.trans (hb2.mono hb1s)
      by_cases hlt : k < nr
      · have hlt' : (k : Int) < (nr : Int) := by omega
        have hk0 : (0 : Int) ≤ (k : Int) := by omega
        obtain ⟨ar, hlk, rfl, hbr, r0, r1, r2, r3⟩ := (hr.below hB2).rw_ hlt
        have HT := Lib.hid (rows_take rows k hlk)
        generalize rows[k] = rw at *
        obtain ⟨q0, q1, q2, q3⟩ := rw
        simp only at r0 r1 r2 r3
        have hownW := hown.alloc (.cells #[.int .u32 q0, .int .u32 q1, .int .u32 q2, .int .u32 q3] 54)
        have hbW := hb2.alloc hb2.size (.cells #[.int .u32 q0, .int .u32 q1, .int .u32 q2, .int .u32 q3] 54)
        have hBW := hB2.alloc hB2.size (.cells #[.int .u32 q0, .int .u32 q1, .int .u32 q2, .int .u32 q3] 54)
        have hBWs := hBW.size
        have hbWs := hbW.size
        go_wp2_with (at_builtin; refine wpList_append_lit rfl (.tmp 48) (.tmp 57) 26 rfl w1.heap.size 30 i0 _ 4 Try.underlying26 hi0 hz0 hz1 hz2 rfl _ (2 + 4 * k) _ [.int .u32 q0, .int .u32 q1, .int .u32 q2, .int .u32 q3] 4 rfl hownW rfl (by rw [World.size_alloc]; rfl) (by intro u hu; simp only [List.mem_cons, List.mem_nil_iff, or_false] at hu; rcases hu with rfl | rfl | rfl | rfl <;> rfl) (by omega) (by omega) hbWs ?_; intro v3 w3 hown3 hg3)
        have Hown3 : Hid (w3.ownsRow w1.heap.size 30 1 v3 (2 + 4 * (k + 1)) (ints .u32 (headI nr n ++ (rows.take (k + 1)).flatMap rwI))) := Lib.hid (by
          rw [HT.out, ← List.append_assoc, ints_append]
          exact hown3)
        have hb3 : Below w1.heap.size w1 w3 := below_grown hbW hownW (Nat.le_refl _) hbWs hg3
        clear hown3 hownW hbW hBW
        go_wp2
        go_roundw
        case rel => exact ⟨k + 1, by omega, by go_num, Hown3.out, hb3⟩
        case measure => simp [intOf]; omega
      · have hlt' : ¬ (k : Int) < (nr : Int) := by omega
        obtain rfl : k = nr := by omega
        obtain ⟨A3, c3, rfl, _, _, _⟩ := ownsRow_slice hown
        have hS0 : Hid (List.take k rows = rows.take k) := Lib.hid rfl
        have hdl := dirI_len
        obtain ⟨HR, hHR⟩ : ∃ HR, headI k n ++ (rows.take k).flatMap rwI = HR := ⟨_, rfl⟩
        rw [hHR] at hown HS
        obtain ⟨base, hbase⟩ : ∃ base : Int, at_ + (2 + 4 * (k : Int)) + 2 * (n : Int) = base := ⟨_, rfl⟩
        have hbb : 0 ≤ base ∧ base ≤ 100000 := by omega
        rw [hbase] at HS
        have hHRl : Hid (HR.length = 2 + 4 * k) := Lib.hid (by have := hown.1; simpa using this)
        clear hdl hHR
        go_wp2_with fail
        go_loopw [10, 13, 70] (fun out to i wr => ∃ k2 : Nat, k2 ≤ n ∧ i = .int .i64 (k2 : Int) ∧ wr.ownsRow w1.heap.size 30 1 out (2 + 4 * k + 2 * k2) (ints .u32 (HR ++ dirI base ((ltV ls).take k2))) ∧ to = .int .i64 (base + ((bodyI ((ltV ls).take k2)).length : Nat)) ∧ Below w1.heap.size w1 wr) (fun _ _ i _ => n - (intOf i).toNat)
        case atStart => exact ⟨0, by omega, rfl, by simpa [dirI] using hown, by rw [← hbase]; simp [bodyI], hb2⟩
        case round =>
          clear hown hb2 hB2
          obtain ⟨k2, hk2, rfl, hown, rfl, hb2⟩ := hrel
          have hB2 : Below w.heap.size w wr := hb1.trans (hb2.mono hb1s)
          by_cases hlt2 : k2 < n
          · have hlt2' : (k2 : Int) < (n : Int) := by omega
            have hk20 : (0 : Int) ≤ (k2 : Int) := by omega
            obtain ⟨ad, ky, r, A', n', c', es, rfl, hbd, hlv, d0, d1, d2, he, hc'⟩ := (hl.below hB2).at' hlt2
            obtain ⟨ac, A5, n5, c5, hl5, rfl, hbc, cc, hn5, hr5⟩ := (hR.below hb2).at' hlt2
            obtain ⟨he5, hlk⟩ := Hcl.out k2 hl5
            have hok := HOK.out k2 hlk
            have hr1 := hok.r1
            have hr2 := hok.r2
            rw [hlv] at hr1 hr2
            simp only at hr1 hr2
            have hD := dir_take (ltV ls) k2 base hlk
            have hbt := body_take (ltV ls) k2 hlk
            rw [← he5, ← hn5] at hbt
            rw [hlv] at hD
            simp only at hD
            have hb1' := HB0.out k2
            have hb2' := HB0.out (k2 + 1)
            rw [hvl.out] at hb1' hb2'
            rw [hbt] at hb2'
            have HD := Lib.hid hD
            have HBT := Lib.hid hbt
            clear hD hbt hlv hok he5 hn5 hr5 he
            generalize (bodyI ((ltV ls).take k2)).length = X at *
            have hownW := hown.alloc (.cells #[.string ky, .int .i64 r, .slice A' n' c'] 47)
            have hbW := hb2.alloc hb2.size (.cells #[.string ky, .int .i64 r, .slice A' n' c'] 47)
            have hbWs := hbW.size
            go_wp2_with (at_builtin; refine wpList_append_lit rfl (.tmp 75) (.tmp 81) 26 rfl w1.heap.size 30 i0 _ 4 Try.underlying26 hi0 hz0 hz1 hz2 rfl _ (2 + 4 * k + 2 * k2) _ [.int .u32 r, .int .u32 (base + (X : Int))] 2 rfl hownW rfl (by rw [World.size_alloc]; rfl) (by intro u hu; simp only [List.mem_cons, List.mem_nil_iff, or_false] at hu; rcases hu with rfl | rfl <;> rfl) (by omega) (by omega) hbWs ?_; intro v3 w3 hown3 hg3; have hb3 : Below w1.heap.size w1 w3 := below_grown hbW hownW (Nat.le_refl _) hbWs hg3; have cc3 : w3.cell? (ac.add k2) = some (.slice A5 n5 c5) := (hb3.cell (by rw [add_block]; exact hbc)).trans ((hb2.cell (by rw [add_block]; exact hbc)).symm.trans cc))
            have Hown3 : Hid (w3.ownsRow w1.heap.size 30 1 v3 (2 + 4 * k + 2 * (k2 + 1)) (ints .u32 (HR ++ dirI base ((ltV ls).take (k2 + 1))))) := Lib.hid (by
              rw [HD.out, ← List.append_assoc, ints_append]
              exact hown3)
            clear hown3 hownW hbW cc d0 d1 d2
            go_wp2
            go_roundw
            case rel => exact ⟨k2 + 1, by omega, by go_num, Hown3.out, by rw [HBT.out]; go_num, hb3⟩
            case measure => simp [intOf]; omega
          · have hlt2' : ¬ (k2 : Int) < (n : Int) := by omega
            obtain rfl : k2 = n := by omega
            obtain ⟨DR, hDR⟩ : ∃ DR, HR ++ dirI base ((ltV ls).take k2) = DR := ⟨_, rfl⟩
            rw [hDR] at hown HS
            have hXb := HB0.out k2
            rw [hvl.out] at hXb
            obtain ⟨X, hX⟩ : ∃ X, (bodyI ((ltV ls).take k2)).length = X := ⟨_, rfl⟩
            try rw [hX]
            have HX := Lib.hid hX
            clear hX hXb hDR
            go_wp2_with fail
            go_loopw [10, 93] (fun out i wr => ∃ k3 : Nat, k3 ≤ k2 ∧ i = .int .i64 (k3 : Int) ∧ wr.ownsRow w1.heap.size 30 1 out (2 + 4 * k + 2 * k2 + (bodyI ((ltV ls).take k3)).length) (ints .u32 (DR ++ bodyI ((ltV ls).take k3))) ∧ Below w1.heap.size w1 wr) (fun _ i _ => k2 - (intOf i).toNat)
            case atStart => exact ⟨0, by omega, rfl, by simpa [bodyI] using hown, hb2⟩
            case round =>
              clear hown hb2 hB2
              obtain ⟨k3, hk3, rfl, hown, hb2⟩ := hrel
              by_cases hlt3 : k3 < k2
              · have hlt3' : (k3 : Int) < (k2 : Int) := by omega
                have hk30 : (0 : Int) ≤ (k3 : Int) := by omega
                obtain ⟨ac, A5, n5, c5, hl5, rfl, hbc, cc, hn5, hr5⟩ := (hR.below hb2).at' hlt3
                obtain ⟨he5, hlk⟩ := Hcl.out k3 hl5
                have hbt := body_take (ltV ls) k3 hlk
                have hBT := bodyI_take (ltV ls) k3 hlk
                rw [← he5] at hBT
                rw [← he5, ← hn5] at hbt
                have hb1' := HB0.out k3
                have hb2' := HB0.out (k3 + 1)
                rw [hvl.out] at hb1' hb2'
                rw [hbt] at hb2'
                have HBT := Lib.hid hBT
                have Hbt := Lib.hid hbt
                generalize cl[k3].2 = CE at *
                clear hbt hBT he5 hn5
                have hbs := hb2.size
                generalize hXX : (bodyI ((ltV ls).take k3)).length = X3 at *
                go_wp2_with (at_builtin; refine wpList_append_all rfl (.tmp 97) (.tmp 98) 26 rfl w1.heap.size 30 i0 _ 4 Try.underlying26 hi0 hz0 hz1 hz2 rfl _ _ _ hown _ _ _ _ _ hr5 rfl rfl (ints_one _ _) (by omega) (by omega) hbs ?_; intro v3 w3 hown3 hg3)
                have Hown3 : Hid (w3.ownsRow w1.heap.size 30 1 v3 (2 + 4 * k + 2 * k2 + (bodyI ((ltV ls).take (k3 + 1))).length) (ints .u32 (DR ++ bodyI ((ltV ls).take (k3 + 1))))) := Lib.hid (by
                  rw [Hbt.out, HBT.out, ← List.append_assoc, ints_append, ← Nat.add_assoc]
                  exact hown3)
                have hb3 : Below w1.heap.size w1 w3 := below_grown hb2 hown (Nat.le_refl _) hbs hg3
                clear hown3 hXX
                go_wp2
                go_roundw
                case rel => exact ⟨k3 + 1, by omega, by go_num, Hown3.out, hb3⟩
                case measure => simp [intOf]; omega
              · have hlt3' : ¬ (k3 : Int) < (k2 : Int) := by omega
                obtain rfl : k3 = k2 := by omega
                have Hown := Lib.hid hown
                clear hown
                go_wp2
                go_ret2
                refine ⟨_, by rw [HS.out]; rfl, ?_, hb1.trans (hb2.mono hb1s)⟩
                rw [HS.out]
                have h9 := Hown.out
                have h10 : (DR ++ bodyI ((ltV ls).take k3)).length = 2 + 4 * k + 2 * k3 + (bodyI ((ltV ls).take k3)).length := by have := h9.1; simpa using this
                show World.ownsRow _ _ _ 1 _ (DR ++ bodyI ((ltV ls).take k3)).length _
                rw [h10]
                exact ownsRow_base h9 hb1s
end Go.Proofs.Ytbbjlijdodnjaaa
