/- The walk of ref.Tokens. -/
import Derived.Test.YtmofhpebcbpccaaDoorTokDocs
import Derived.Test.YtmofhpebcbpccaaDoorTokRefWords
import Derived.Deep.AppendLies
import Derived.Shelf.RegionOpenPlain
namespace Go.Proofs.YtmofhpebcbpccaaDoor
open Go.RowKit

set_option maxRecDepth 100000 in
set_option maxHeartbeats 2000000 in
theorem refTokens_any (fs : List ByteArray) (A : Option Addr) (n c : Nat) {w : World} (hx : Reads w w.heap.size A n c (strs fs)) (hn : n ≤ 100000) :
    Calls Tryd.prog 16 #[.slice A n c] w fun e w' => ∃ v, e = .returned (.tuple #[v, .int .i64 (docOf fs).2]) ∧ w'.ownsRow w.heap.size 40 3 v (docOf fs).1.length ((docOf fs).1.flatMap tokC) ∧ Below w.heap.size w w' := by
  obtain ⟨i0, hi0, hz0, hz1, hz2⟩ := info_parts info_tok
  have hfl : fs.length = n := by simpa [strs] using hx.len
  by_cases h4 : 4 < n
  · have h4' : (4 : Int) < (n : Int) := by omega
    have HD := Lib.hid (doc_many (l := fs) (by omega))
    go_enter Tryd.func16, Tryd.ntmps16
    go_wp2
    go_ret2
    exact ⟨.slice none 0 0, by rw [HD.out]; rfl, by rw [HD.out]; exact World.ownsRow_nil _ _ _ _, Below.refl _ _⟩
  · have h4' : ¬ (4 : Int) < (n : Int) := by omega
    have Hfl := Lib.hid hfl
    clear hfl
    have hx' := hx.alloc (Nat.le_refl _) (.cells #[] 40)
    have hBs : Below w.heap.size w (w.alloc (.cells #[] 40)) := (Below.refl _ _).alloc (Nat.le_refl _) _
    have hoT0 := own_empty w 40 3
    go_enter Tryd.func16, Tryd.ntmps16
    go_wp2_with fail
    go_loopw [15] (fun i wr => ∃ k : Nat, k ≤ n ∧ i = .int .i64 (k : Int) ∧ Hid (∀ j (h : j < fs.length), j < k → fs[j].size ≤ 512) ∧ wr = w.alloc (.cells #[] 40)) (fun i _ => n - (intOf i).toNat)
    case atStart => exact ⟨0, by omega, rfl, Lib.hid fun j h hj => by omega, rfl⟩
    case round =>
      obtain ⟨k, hk, rfl, HZ, rfl⟩ := hrel
      by_cases hlt : k < n
      · obtain ⟨ad, hl, rfl, hbl, hc⟩ := hx'.str hlt
        have hlt' : (k : Int) < (n : Int) := by omega
        have hk0 : (0 : Int) ≤ (k : Int) := by omega
        by_cases hz : 512 < fs[k].size
        · have hz' : (512 : Int) < (fs[k].size : Int) := by omega
          have HD := Lib.hid (doc_long k hl hz)
          clear hz
          go_wp2
          go_ret2
          exact ⟨.slice none 0 0, by rw [HD.out]; rfl, by rw [HD.out]; exact World.ownsRow_nil _ _ _ _, hBs⟩
        · have hz' : ¬ (512 : Int) < (fs[k].size : Int) := by omega
          have HZ2 : Hid (∀ j (h : j < fs.length), j < k + 1 → fs[j].size ≤ 512) := Lib.hid fun j h hj => by
            by_cases e : j = k
            · subst e; omega
            · exact HZ.out j h (by omega)
          clear hz
          go_wp2
          go_roundw
          case rel => exact ⟨k + 1, by omega, by go_num, HZ2, by first | rfl | trivial⟩
          case measure => simp [intOf]; omega
      · obtain rfl : k = n := by omega
        have hlt' : ¬ (k : Int) < (k : Int) := by omega
        have HZ2 : Hid (∀ s ∈ fs, s.size ≤ 512) := Lib.hid fun s hs => by
          obtain ⟨j, hj, rfl⟩ := List.getElem_of_mem hs
          exact HZ.out j hj (by have := Hfl.out; omega)
        clear HZ
        go_wp2_with fail
        go_loopw [4, 27] (fun out i wr => ∃ j : Nat, j ≤ k ∧ i = .int .i64 (j : Int) ∧ wr.ownsRow w.heap.size 40 3 out (fieldToks 0 (fs.take j)).length ((fieldToks 0 (fs.take j)).flatMap tokC) ∧ Below w.heap.size w wr) (fun _ i _ => k - (intOf i).toNat)
        case atStart => exact ⟨0, by omega, rfl, hoT0, hBs⟩
        case round =>
          clear hx' hBs hoT0
          obtain ⟨j, hj, rfl, hoT, hB⟩ := hrel
          by_cases hlt2 : j < k
          · obtain ⟨ad, hl, rfl, hbl, hc⟩ := (hx.below hB).str hlt2
            have hlt2' : (j : Int) < (k : Int) := by omega
            have hj0 : (0 : Int) ≤ (j : Int) := by omega
            have HF := Lib.hid (fieldToks_take fs j hl)
            have hz5 := HZ2.out _ (List.getElem_mem hl)
            have HWO := refWords_any fs[j] (by omega) wr
            have hwl := wordsOf_len fs[j]
            have hfm : (fieldToks 0 (fs.take j)).length ≤ 3000 := by
              have := fieldToks_len 0 (fs.take j) (fun s hs => HZ2.out s (List.mem_of_mem_take hs))
              rw [List.length_take] at this
              omega
            go_wp2_with fail
            refine HWO.mono ?_
            clear HWO
            rintro e w1 ⟨v1, rfl, hW, hb1⟩
            obtain ⟨A1, c1, rfl, _, _, _⟩ := ReadsK.of_own hW
            have hAP : AP u4 (.slice A1 (wordsOf fs[j]).length c1) := fun g h1 h2 => by
              have h1 := (hoT.lt g h1).2
              have h2 := (hW.lt g h2).1
              omega
            replace hoT := ownsRow_below hoT hb1
            have hB1 := then_ hB hb1
            replace hW := ownsRow_base hW hB.size
            clear hB hb1
            generalize wordsOf fs[j] = Ws at *
            generalize fieldToks 0 (fs.take j) = Fs at *
            obtain ⟨m, hm⟩ : ∃ m, m = Ws.length := ⟨_, rfl⟩
            rw [← hm] at hW hAP hwl
            rw [← hm]
            have Hm := Lib.hid hm
            clear hm
            have hm3 : m ≤ 513 := by omega
            clear hwl hz5
            have hj8 : IntKind.wrap .u8 (j : Int) = j := u8_small j (by omega)
            go_wp2_with fail
            go_loopw [4, 8, 37] (fun out _ i wr2 => ∃ k2 : Nat, k2 ≤ m ∧ i = .int .i64 (k2 : Int) ∧ wr2.ownsRow w.heap.size 40 3 out (Fs ++ (Ws.take k2).map fun x => ((j : Int), x.2.1, x.2.2)).length ((Fs ++ (Ws.take k2).map fun x => ((j : Int), x.2.1, x.2.2)).flatMap tokC) ∧ wr2.ownsRow w.heap.size 40 3 (.slice A1 m c1) m (Ws.flatMap tokC) ∧ AP out (.slice A1 m c1) ∧ Below w.heap.size w wr2) (fun _ _ i _ => m - (intOf i).toNat)
            case atStart => exact ⟨0, by omega, rfl, by simpa using hoT, hW, hAP, hB1⟩
            case round =>
              obtain ⟨k2, hk2, rfl, hoI, hWI, hAI, hBI⟩ := hrel
              by_cases hlt3 : k2 < m
              · obtain ⟨ad3, hl3, rfl, hbl3, c0, hcell⟩ := (own_reads hWI).at' tokC_len (by omega) hlt3
                have c0 := c0 _ rfl
                have c1 := hcell 1 _ (by omega) rfl
                have c2 := hcell 2 _ (by omega) rfl
                clear hcell
                have hlt3' : (k2 : Int) < (m : Int) := by omega
                have hk20 : (0 : Int) ≤ (k2 : Int) := by omega
                have HM := Lib.hid (map_snoc2 Fs (fun x : Tok => ((j : Int), x.2.1, x.2.2)) hl3)
                have hml : (Fs ++ (Ws.take k2).map fun x => ((j : Int), x.2.1, x.2.2)).length ≤ 4000 := by
                  rw [List.length_append, List.length_map, List.length_take]
                  omega
                generalize Ws[k2] = X at *
                obtain ⟨x0, x1, x2⟩ := X
                simp only at c0 c1 c2 HM
                generalize (Fs ++ (Ws.take k2).map fun x => ((j : Int), x.2.1, x.2.2)) = Os at *
                have hone : ∀ v ∈ [Value.int .u8 (j : Int), .string x1, .int .i64 x2], v.oneCell' = true := by simp [Value.oneCell']
                have h6 := hoI.drew.alloc (.cells #[.int .u8 (j : Int), .string x1, .int .i64 x2] 40)
                have hW4 := hWI.drew.alloc (.cells #[.int .u8 (j : Int), .string x1, .int .i64 x2] 40)
                have hBd : Below w.heap.size w wr.drew := hBI.drew
                have hB4 : Below w.heap.size w (wr.drew.alloc (.cells #[.int .u8 (j : Int), .string x1, .int .i64 x2] 40)) := hBd.alloc hBd.size _
                have hnew : ∀ j' u, [Value.int .u8 (j : Int), .string x1, .int .i64 x2][j']? = some u → (wr.drew.alloc (.cells #[.int .u8 (j : Int), .string x1, .int .i64 x2] 40)).cell? ((⟨wr.heap.size, 0, none⟩ : Addr).add j') = some u := World.news_of_block (cs := #[.int .u8 (j : Int), .string x1, .int .i64 x2]) (heap_alloc_new wr.drew _)
                have hBsz : w.heap.size ≤ (wr.drew.alloc (.cells #[.int .u8 (j : Int), .string x1, .int .i64 x2] 40)).heap.size := hB4.size
                have mixed : Tryd.prog.follows .mixedOrders = true := by kernel_rfl
                go_wp2
                go_region_law_o (refine step_append_lies _ rfl (.tmp 40) (.tmp 54) 24 rfl w.heap.size 40 i0 _ 3 32 Tryd.underlying24 hi0 hz0 hz1 hz2 rfl (by omega) u4 Os.length _ rfl h6 ⟨wr.heap.size, 0, none⟩ 1 1 [.int .u8 (j : Int), .string x1, .int .i64 x2] rfl rfl hnew hone (by omega) (by simp only [maxLen]; omega) (by omega) hBsz _ rfl ?_; intro g cap w6 hown6 hg6 hob6 hlt6)
                all_goals
                  go_wp2
                  go_roundw
                  case rel => exact ⟨k2 + 1, by omega, by go_num, by rw [HM.out]; simpa [tokC] using hown6, hW4.kept hg6 hAI.symm.ne, (hAI.symm.step (u := .slice (some ⟨g, 0, none⟩) (Os.length + 1) cap) (m := wr.heap.size + 1) hW4 (by simp) (hob6.imp (fun e => e.symm) (fun e => congrArg some (show g = wr.heap.size + 1 from by simpa using e)))).symm, below_grown hB4 h6 (Nat.le_refl _) hBsz hg6⟩
                  case measure => simp [intOf]; omega
              · have hlt3' : ¬ (k2 : Int) < (m : Int) := by omega
                rw [List.take_of_length_le (by rw [← Hm.out]; omega)] at hoI
                go_wp2
                go_roundw
                case rel => exact ⟨j + 1, by omega, by go_num, by rw [HF.out]; exact hoI, hBI⟩
                case measure => simp [intOf]; omega
          · have hlt2' : ¬ (j : Int) < (k : Int) := by omega
            have hfk := Hfl.out
            rw [List.take_of_length_le (by omega)] at hoT
            have hkl : fs.length ≤ 4 := by omega
            have HN : Hid (¬ 4 < fs.length) := by show ¬ _; omega
            clear hfk hkl
            obtain ⟨A6, c6, rfl, _, _, _⟩ := ReadsK.of_own hoT
            by_cases h64 : 64 < (fieldToks 0 fs).length
            · have HD := Lib.hid (doc_full HN.out HZ2.out h64)
              have h64' : (64 : Int) < ((fieldToks 0 fs).length : Int) := by omega
              clear h64
              generalize fieldToks 0 fs = Fs at *
              obtain ⟨m, hm⟩ : ∃ m, m = Fs.length := ⟨_, rfl⟩
              rw [← hm] at hoT h64' ⊢
              clear hm
              go_wp2
              go_ret2
              exact ⟨.slice none 0 0, by rw [HD.out]; rfl, by rw [HD.out]; exact World.ownsRow_nil _ _ _ _, hB⟩
            · have HD := Lib.hid (doc_ok HN.out HZ2.out h64)
              have h64' : ¬ (64 : Int) < ((fieldToks 0 fs).length : Int) := by omega
              clear h64
              generalize fieldToks 0 fs = Fs at *
              obtain ⟨m, hm⟩ : ∃ m, m = Fs.length := ⟨_, rfl⟩
              rw [← hm] at hoT h64' ⊢
              have Hm := Lib.hid hm
              clear hm
              go_wp2
              go_ret2
              exact ⟨.slice A6 m c6, by rw [HD.out]; rfl, by rw [HD.out, ← Hm.out]; exact hoT, hB⟩
end Go.Proofs.YtmofhpebcbpccaaDoor
