/- The walk of token.Words: printed by wip/bin/gen_tokwords.py. -/
import Derived.Test.YtmofhpebcbpccaaDoorTokSame
import Derived.Test.YtmofhpebcbpccaaDoorTokWorld
namespace Go.Proofs.YtmofhpebcbpccaaDoor
open Go.RowKit

set_option maxRecDepth 100000 in
set_option maxHeartbeats 2000000 in
theorem words_any (s : ByteArray) (hs : s.size ≤ 100000) {w : World} (hL : LaidF w) : Calls Tryd.prog 11 #[.string s] w fun e w' => ∃ v, e = .returned v ∧ w'.ownsRow w.heap.size 40 3 v (wordsOf s).length ((wordsOf s).flatMap tokC) ∧ Below w.heap.size w w' := by
  obtain ⟨i0, hi0, hz0, hz1, hz2⟩ := info_parts info_tok
  obtain ⟨j0, hj0, hy0, hy1, hy2⟩ := info_parts info_rune
  have hlen := runesOf_len s
  go_enter Tryd.func11, Tryd.ntmps11
  go_wp2_with fail
  go_step3
  go_wp2_with fail
  refine (runes_any s _ (by omega)).mono ?_
  rintro e w1 ⟨v1, rfl, hown1, hb1⟩
  obtain ⟨A, c, rfl, hr, hcm, _⟩ := ownsRow_slice hown1
  have HV := Lib.hid (runesOf_valid s)
  have HW : Hid (wordsOf s = (toks 0 (grp [] (runesOf s))).filter goes) := Lib.hid rfl
  have hL1 := hL.below hb1
  clear hown1
  generalize runesOf s = L at *
  obtain ⟨n, hn⟩ : ∃ n, n = L.length := ⟨_, rfl⟩
  rw [← hn] at hr hlen
  rw [← hn]
  have HN := Lib.hid hn
  clear hn
  go_wp2_with fail
  go_step3
  go_wp2_with fail
  go_loopw [4, 5, 6] (fun out place i wr => ∃ (k : Nat) (done : List (List Int)), k ≤ n + 1 ∧ i = .int .i64 (k : Int) ∧ place = .int .i64 (done.length : Int) ∧ Hid (done ++ grp [] (L.drop k) = grp [] L) ∧ done.length ≤ k ∧ wr.ownsRow w1.heap.size 40 3 out ((toks 0 done).filter goes).length (((toks 0 done).filter goes).flatMap tokC) ∧ Below w1.heap.size w1 wr) (fun _ _ i _ => n + 1 - (intOf i).toNat)
  case atStart => exact ⟨0, [], by omega, rfl, rfl, Lib.hid rfl, by simp, World.ownsRow_nil _ _ _ _, Below.refl _ _⟩
  case round =>
    obtain ⟨k, done, hk, rfl, rfl, HG, hdk, hown, hB⟩ := hrel
    by_cases hlt : k < n
    · obtain ⟨ad, hl, rfl, hbl, hc⟩ := (hr.below hB).int hlt
      have hlt' : (k : Int) < (n : Int) := by omega
      have hk0 : (0 : Int) ≤ (k : Int) := by omega
      have HD := Lib.hid (List.drop_eq_getElem_cons hl)
      by_cases hcl : classOf L[k] = 0
      · go_wp2_with fail
        refine (class_any _ wr (hL1.below hB).tabs).mono ?_
        rintro e w2 ⟨rfl, hb2⟩
        rw [hcl]
        have hown2 := ownsRow_below hown hb2
        have hB2 := then_ hB hb2
        have HG2 : Hid (done ++ grp [] (L.drop (k + 1)) = grp [] L) := Lib.hid (by rw [← HG.out, HD.out, grp_no _ _ _ hcl rfl])
        clear hcl hown hB
        go_wp2
        go_roundw
        case rel => exact ⟨k + 1, done, by omega, by go_num, rfl, HG2, by omega, hown2, hB2⟩
        case measure => simp [intOf]; omega
      · have hcb : (classOf L[k] == 0) = false := by simp [hcl]
        go_wp2_with fail
        refine (class_any _ wr (hL1.below hB).tabs).mono ?_
        rintro e w2 ⟨rfl, hb2⟩
        have hown2 := ownsRow_below hown hb2
        have hB2 := then_ hB hb2
        clear hown hB hb2
        go_wp2_with fail
        go_loopw [6, 7] (fun i word wr => ∃ (k' : Nat) (cur : List Int), k ≤ k' ∧ k' ≤ n ∧ i = .int .i64 (k' : Int) ∧ Hid (grp cur (L.drop k') = grp [] (L.drop k)) ∧ (cur = [] → k' = k) ∧ cur.length ≤ k' ∧ wr.ownsRow w2.heap.size 21 1 word cur.length (ints .i32 cur) ∧ Below w2.heap.size w2 wr) (fun i _ _ => n - (intOf i).toNat)
        case atStart => exact ⟨k, [], by omega, by omega, rfl, Lib.hid rfl, fun _ => rfl, by simp, World.ownsRow_nil _ _ _ _, Below.refl _ _⟩
        case round =>
          obtain ⟨k', cur, hkk, hkn, rfl, HG', hck, hcl', hword, hBi⟩ := hrel
          by_cases hlt2 : k' < n
          · obtain ⟨ad', hl2, e, hbl2, hc2⟩ := (hr.below (then_ hB2 hBi)).int hlt2
            injection e with e
            subst e
            have hlt2' : (k' : Int) < (n : Int) := by omega
            have hk0' : (0 : Int) ≤ (k' : Int) := by omega
            have HD2 := Lib.hid (List.drop_eq_getElem_cons hl2)
            have hLw := hL1.below (then_ hB2 hBi)
            by_cases hcl2 : classOf L[k'] = 0
            · go_wp2_with fail
              refine (class_any _ _ hLw.tabs).mono ?_
              rintro e w3 ⟨rfl, hb3⟩
              rw [hcl2]
              have hBX := then_ hBi hb3
              replace hword := ownsRow_below hword hb3
              have hcne : cur ≠ [] := fun e => by
                have := hck e
                subst this
                exact hcl hcl2
              have HGX : Hid (done ++ [cur] ++ grp [] (L.drop (k' + 1)) = grp [] L) := Lib.hid (by
                rw [← HG.out, ← HG'.out, List.append_assoc]
                congr 1
                rw [HD2.out, grp_end _ _ _ hcl2 hcne]; rfl)
              clear HG HG' hck
              have htl := textOf_le cur
              have HSZ : Hid ((⟨(textOf cur).toArray⟩ : ByteArray).size ≤ 1048576) := Lib.hid (by
                show (textOf cur).toArray.size ≤ 1048576
                rw [List.size_toArray]; omega)
              obtain ⟨Aw, cw, rfl, hrw, hcw, _⟩ := ownsRow_slice hword
              go_wp2_with fail
              refine (text_any cur _ _ _ _ hrw (by omega)).mono ?_
              rintro e w4 ⟨rfl, hb4⟩
              go_wp2_with fail
              refine (fit_any _ 16 _ HSZ.out (by omega) (by omega)).mono ?_
              rw [runesOf_text, fitL_fix]
              rintro e w5 ⟨rfl, hb5⟩
              rw [show (⟨(fitL 16 cur []).toArray⟩ : ByteArray) = tb cur from rfl]
              have hB5i : Below w2.heap.size w2 w5 := then_ (then_ hBX hb4) hb5
              have hB5 := then_ hB2 hB5i
              have hown5 := ownsRow_below hown2 hB5i
              clear hword hrw hb4 hb5 hB5i hown2 hcne HSZ
              have hml : ((toks 0 done).filter goes).length ≤ 100001 := Nat.le_trans (List.length_filter_le _ _) (by rw [toks_len]; omega)
              have HS := stop_any (tb cur) w5
              have HF := Lib.hid (filter_snoc (toks 0 done) (0, tb cur, (done.length : Int)))
              rw [← toks_snoc] at HF
              have hw0 : IntKind.i64.wrap (done.length : Int) = (done.length : Int) := IntWalk.i64_in _ (by omega)
              have hw1 : IntKind.i64.wrap ((done.length : Int) + 1) = (done.length : Int) + 1 := IntWalk.i64_in _ (by omega)
              have hone : ∀ v ∈ [Value.int .u8 0, .string (tb cur), .int .i64 (done.length : Int)], v.oneCell' = true := by simp [Value.oneCell']
              have hwk : IntKind.i64.wrap ((k' : Int) + 1) = (k' : Int) + 1 := IntWalk.i64_in _ (by omega)
              cases hst : isStop (tb cur)
              · rw [hst] at HS
                have hgo : goes (0, tb cur, (done.length : Int)) = true := by simp [goes, hst]
                rw [if_pos hgo] at HF
                clear hst hgo
                go_wp2_with (first | (go_at_call 13; refine HS.mono ?_; rintro e w6 ⟨rfl, rfl⟩) | (at_builtin; refine wpList_append_oneK rfl (.tmp 52) (.tmp 57) 24 rfl w1.heap.size 40 i0 _ 3 32 Tryd.underlying24 hi0 hz0 hz1 hz2 rfl (by omega) _ _ _ [.int .u8 0, .string (tb cur), .int .i64 (done.length : Int)] rfl hown5 rfl rfl hone (by omega) (by omega) hB5.size ?_; intro v6 w6 hown6 hg6))
                go_roundw
                case rel => exact ⟨k' + 1, done ++ [cur], by omega, by go_num, by simp, HGX, by simp; omega, by rw [HF.out]; simpa [tokC] using hown6, below_grown hB5 hown5 (Nat.le_refl _) hB5.size hg6⟩
                case measure => simp [intOf]; omega
              · rw [hst] at HS
                have hgo : ¬ goes (0, tb cur, (done.length : Int)) = true := by simp [goes, hst]
                rw [if_neg hgo] at HF
                clear hst hgo
                go_wp2_with (first | (go_at_call 13; refine HS.mono ?_; rintro e w6 ⟨rfl, rfl⟩))
                go_roundw
                case rel => exact ⟨k' + 1, done ++ [cur], by omega, by go_num, by simp, HGX, by simp; omega, by rw [HF.out]; exact hown5, hB5⟩
                case measure => simp [intOf]; omega
            · have hne2 : (classOf L[k'] != 0) = true := by simp [hcl2]
              have hv := HV.out _ (List.getElem_mem hl2)
              have hrange : -2147483648 ≤ L[k'] ∧ L[k'] ≤ 2147483647 := by simp [Utf8.valid] at hv; omega
              have HGN : Hid (grp (cur ++ [foldOf L[k']]) (L.drop (k' + 1)) = grp [] (L.drop k)) := Lib.hid (by rw [← HG'.out, HD2.out, grp_on _ _ _ hcl2])
              have hwk : IntKind.i64.wrap ((k' : Int) + 1) = (k' : Int) + 1 := IntWalk.i64_in _ (by omega)
              clear hv HG' hcl hcl2
              go_wp2_with fail
              refine (class_any _ _ hLw.tabs).mono ?_
              rintro e w3 ⟨rfl, hb3⟩
              have hc3 := (hb3.cell (show (ad.add k').block < wr.heap.size by rw [add_block]; have := (then_ hB2 hBi).size; omega)).trans hc2
              have hBX := then_ hBi hb3
              replace hword := ownsRow_below hword hb3
              have hL3 := hLw.below hb3
              clear hc2 hb3 hBi hLw
              go_wp2_with fail
              refine (fold_any _ _ hrange hL3.moves).mono ?_
              rintro e w4 ⟨rfl, hb4⟩
              have hB4 := then_ hBX hb4
              replace hword := ownsRow_below hword hb4
              clear hc3 hb4 hBX hL3
              go_wp2_with (at_builtin; refine wpList_append_one rfl _ _ 35 rfl w2.heap.size 21 j0 (.int .i32 0) 4 Tryd.underlying35 hj0 hy0 hy1 hy2 rfl _ _ _ (.int .i32 (foldOf L[k'])) hword rfl rfl rfl (by omega) (by omega) hB4.size ?_; intro v6 w6 hown6 hg6)
              go_roundw
              case rel => exact ⟨k' + 1, cur ++ [foldOf L[k']], by omega, by omega, by go_num, HGN, fun e => by simp at e, by simp; omega, by simpa [ints] using hown6, below_grown hB4 hword (Nat.le_refl _) hB4.size hg6⟩
              case measure => simp [intOf]; omega
          · have hlt2' : ¬ (k' : Int) < (n : Int) := by omega
            have hBX := hBi
            have hcne : cur ≠ [] := fun e => by
              have := hck e
              subst this
              omega
            have HGX : Hid (done ++ [cur] ++ grp [] (L.drop (k' + 1)) = grp [] L) := Lib.hid (by
              rw [← HG.out, ← HG'.out, List.append_assoc]
              congr 1
              rw [List.drop_eq_nil_of_le (by rw [← HN.out]; omega), List.drop_eq_nil_of_le (by rw [← HN.out]; omega), grp_nil _ hcne]; rfl)
            clear HG HG' hck
            have htl := textOf_le cur
            have HSZ : Hid ((⟨(textOf cur).toArray⟩ : ByteArray).size ≤ 1048576) := Lib.hid (by
              show (textOf cur).toArray.size ≤ 1048576
              rw [List.size_toArray]; omega)
            obtain ⟨Aw, cw, rfl, hrw, hcw, _⟩ := ownsRow_slice hword
            go_wp2_with fail
            refine (text_any cur _ _ _ _ hrw (by omega)).mono ?_
            rintro e w4 ⟨rfl, hb4⟩
            go_wp2_with fail
            refine (fit_any _ 16 _ HSZ.out (by omega) (by omega)).mono ?_
            rw [runesOf_text, fitL_fix]
            rintro e w5 ⟨rfl, hb5⟩
            rw [show (⟨(fitL 16 cur []).toArray⟩ : ByteArray) = tb cur from rfl]
            have hB5i : Below w2.heap.size w2 w5 := then_ (then_ hBX hb4) hb5
            have hB5 := then_ hB2 hB5i
            have hown5 := ownsRow_below hown2 hB5i
            clear hword hrw hb4 hb5 hB5i hown2 hcne HSZ
            have hml : ((toks 0 done).filter goes).length ≤ 100001 := Nat.le_trans (List.length_filter_le _ _) (by rw [toks_len]; omega)
            have HS := stop_any (tb cur) w5
            have HF := Lib.hid (filter_snoc (toks 0 done) (0, tb cur, (done.length : Int)))
            rw [← toks_snoc] at HF
            have hw0 : IntKind.i64.wrap (done.length : Int) = (done.length : Int) := IntWalk.i64_in _ (by omega)
            have hw1 : IntKind.i64.wrap ((done.length : Int) + 1) = (done.length : Int) + 1 := IntWalk.i64_in _ (by omega)
            have hone : ∀ v ∈ [Value.int .u8 0, .string (tb cur), .int .i64 (done.length : Int)], v.oneCell' = true := by simp [Value.oneCell']
            have hwk : IntKind.i64.wrap ((k' : Int) + 1) = (k' : Int) + 1 := IntWalk.i64_in _ (by omega)
            cases hst : isStop (tb cur)
            · rw [hst] at HS
              have hgo : goes (0, tb cur, (done.length : Int)) = true := by simp [goes, hst]
              rw [if_pos hgo] at HF
              clear hst hgo
              go_wp2_with (first | (go_at_call 13; refine HS.mono ?_; rintro e w6 ⟨rfl, rfl⟩) | (at_builtin; refine wpList_append_oneK rfl (.tmp 52) (.tmp 57) 24 rfl w1.heap.size 40 i0 _ 3 32 Tryd.underlying24 hi0 hz0 hz1 hz2 rfl (by omega) _ _ _ [.int .u8 0, .string (tb cur), .int .i64 (done.length : Int)] rfl hown5 rfl rfl hone (by omega) (by omega) hB5.size ?_; intro v6 w6 hown6 hg6))
              go_roundw
              case rel => exact ⟨k' + 1, done ++ [cur], by omega, by go_num, by simp, HGX, by simp; omega, by rw [HF.out]; simpa [tokC] using hown6, below_grown hB5 hown5 (Nat.le_refl _) hB5.size hg6⟩
              case measure => simp [intOf]; omega
            · rw [hst] at HS
              have hgo : ¬ goes (0, tb cur, (done.length : Int)) = true := by simp [goes, hst]
              rw [if_neg hgo] at HF
              clear hst hgo
              go_wp2_with (first | (go_at_call 13; refine HS.mono ?_; rintro e w6 ⟨rfl, rfl⟩))
              go_roundw
              case rel => exact ⟨k' + 1, done ++ [cur], by omega, by go_num, by simp, HGX, by simp; omega, by rw [HF.out]; exact hown5, hB5⟩
              case measure => simp [intOf]; omega
    · have hlt' : ¬ (k : Int) < (n : Int) := by omega
      have HE : Hid (done = grp [] L) := Lib.hid (by
        have := HG.out
        rwa [List.drop_eq_nil_of_le (by rw [← HN.out]; omega), grp, if_pos rfl, List.append_nil] at this)
      go_wp2
      try rw [Exit.noGoto_ret]
      go_ret
      exact ⟨_, rfl, by rw [HW.out, ← HE.out]; exact ownsRow_base hown hb1.size, then_ hb1 hB⟩
end Go.Proofs.YtmofhpebcbpccaaDoor
