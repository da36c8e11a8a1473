/- The walks of block.rising and block.may. -/
import Derived.Test.YtbbjlijdodnjaaaRows
import Derived.Test.YtbbjlijdodnjaaaBlkMem
import Derived.Test.YtbbjlijdodnjaaaApart
import Derived.Deep.QuietTactic
import Derived.BigQuiet
namespace Go.Proofs.Ytbbjlijdodnjaaa
open Go.RowKit

theorem risen_snoc (l : List Int) (k : Nat) (hk : k < l.length) (was : Int) (h : risingF was (l.take k) = true) : risingF was (l.take (k + 1)) = !(decide (l[k] ≤ (l.take k).getLast?.getD was) || decide (65535 < l[k])) := by
  rw [List.take_succ_eq_append_getElem hk, risingF_snoc _ _ h]
theorem last_snoc (l : List Int) (k : Nat) (hk : k < l.length) (was : Int) : (l.take (k + 1)).getLast?.getD was = l[k] := by
  rw [List.take_succ_eq_append_getElem hk, List.getLast?_concat]
  rfl
theorem not_rising (l : List Int) (k : Nat) (was : Int) (h : risingF was (l.take k) = false) : risingF was l = false := by
  cases hr : risingF was l with
  | false => rfl
  | true =>
    have := rising_app (l.take k) (l.drop k) was (by rw [List.take_append_drop]; exact hr)
    rw [h] at this
    cases this
set_option maxHeartbeats 1000000 in
theorem rising_any (l : List Int) (A : Option Addr) (n c : Nat) (w : World) (hx : Reads w w.heap.size A n c (ints .i64 l)) (hn : n ≤ 1048576) :
    Calls Try.prog 43 #[.slice A n c] w fun e w' => e = .returned (.bool (rising l)) ∧ w = w' := by
  have lx : l.length = n := by simpa using hx.len
  have Lx := Lib.hid lx
  clear lx
  go_enter Try.func43, Try.ntmps43
  go_wp2_with fail
  go_loopw [3, 8] (fun was i wr => ∃ k : Nat, k ≤ n ∧ i = .int .i64 (k : Int) ∧ was = .int .i64 ((l.take k).getLast?.getD (-1)) ∧ Hid (risingF (-1) (l.take k) = true) ∧ w = wr) (fun _ i _ => n - (intOf i).toNat)
  case atStart => exact ⟨0, by omega, rfl, rfl, Lib.hid rfl, rfl⟩
  case round =>
    obtain ⟨k, hk, rfl, rfl, HR, rfl⟩ := hrel
    by_cases hlt : k < n
    · obtain ⟨ad, h1, rfl, hb, hc⟩ := hx.int hlt
      have hlt' : (k : Int) < (n : Int) := by omega
      have hk0 : (0 : Int) ≤ (k : Int) := by omega
      have HS := Lib.hid (risen_snoc l k h1 (-1) HR.out)
      have HL := Lib.hid (last_snoc l k h1 (-1))
      have HN := Lib.hid (not_rising l (k + 1) (-1))
      generalize (l.take k).getLast?.getD (-1) = was at *
      generalize l[k] = x at *
      by_cases h2 : x ≤ was
      · go_wp2
        go_ret
        exact ⟨by rw [rising, HN.out (by rw [HS.out]; simp [h2])]; rfl, rfl⟩
      · by_cases h3 : 65535 < x
        · go_wp2
          go_ret
          exact ⟨by rw [rising, HN.out (by rw [HS.out]; simp [h3])]; rfl, rfl⟩
        · go_wp2
          go_roundw
          case rel => exact ⟨k + 1, by omega, by go_num, by rw [HL.out], Lib.hid (by rw [HS.out]; simp; omega), by first | rfl | trivial⟩
          case measure => simp [intOf]; omega
    · have hlt' : ¬ (k : Int) < (n : Int) := by omega
      have HT := HR.out
      rw [List.take_of_length_le (by rw [Lx.out]; omega)] at HT
      have HT2 := Lib.hid HT
      clear HT
      go_wp2
      go_ret
      exact ⟨by rw [rising, HT2.out]; rfl, rfl⟩

theorem info_ent : (Try.prog.info? 52).map (fun i => (i.zero, i.size, i.bytes)) = some (some (.agg #[.int .i64 0, .slice none 0 0]), 2, 32) := by kernel_rfl
theorem info_int : (Try.prog.info? 3).map (fun i => (i.zero, i.size, i.bytes)) = some (some (.int .i64 0), 1, 8) := by kernel_rfl
theorem docs_snoc (l : List En) (k : Nat) (h : k < l.length) : (l.take (k + 1)).map (·.1) = (l.take k).map (·.1) ++ [(enAt l k).1] := by
  rw [List.take_succ_eq_append_getElem h, List.map_append, enAt_get l k h]
  rfl
theorem may_pos_no {l : List En} (k : Nat) (h : k < l.length) (hp : posOk (enAt l k).2 = false) : mayL l = false := by
  cases hm : mayL l with
  | false => rfl
  | true =>
    have := (may_parts hm).pos k h
    simp [posOk] at hp
    simp [hp this.1 this.2.1] at this
theorem may_doc {l : List En} (h64 : l.length ≤ 64) (hp : ∀ j, j < l.length → posOk (enAt l j).2 = true) : mayL l = rising (l.map (·.1)) := by
  have h1 : l.all (fun e => posOk e.2) = true := by
    rw [List.all_eq_true]
    intro e he
    obtain ⟨j, hj, rfl⟩ := List.getElem_of_mem he
    have := hp j hj
    rwa [enAt_get l j hj] at this
  rw [mayL, h1, decide_eq_true h64]
  rfl
set_option maxRecDepth 100000 in
set_option maxHeartbeats 2000000 in
theorem may_any (l : List Ent) (A : Option Addr) (n c : Nat) (w : World) (hx : ReadsE w w.heap.size A n c l) (_ : c ≤ maxLen) :
    Calls Try.prog 38 #[.slice A n c] w fun e w' => e = .returned (.bool (mayL (vals l))) ∧ Below w.heap.size w w' := by
  obtain ⟨i0, hi0, hz0, hz1, hz2⟩ := info_parts info_int
  have hvl := hx.vlen
  by_cases h64 : 64 < n
  · have h64' : (64 : Int) < (n : Int) := by omega
    have HM : Hid (mayL (vals l) = false) := Lib.hid (by rw [mayL, decide_eq_false (by omega)]; rfl)
    clear hvl
    go_enter Try.func38, Try.ntmps38
    go_wp2
    go_ret
    exact ⟨by rw [HM.out]; rfl, Below.refl _ _⟩
  · have h64' : ¬ (64 : Int) < (n : Int) := by omega
    have Hvl := Lib.hid hvl
    clear hvl
    generalize hV : vals l = V at *
    go_enter Try.func38, Try.ntmps38
    go_wp2_with fail
    go_loopw [3, 11] (fun docs i wr => ∃ k : Nat, k ≤ n ∧ i = .int .i64 (k : Int) ∧ Hid (∀ j, j < k → posOk (enAt V j).2 = true) ∧ wr.ownsRow w.heap.size 3 1 docs ((V.take k).map (·.1)).length (ints .i64 ((V.take k).map (·.1))) ∧ Below w.heap.size w wr) (fun _ i _ => n - (intOf i).toNat)
    case atStart => exact ⟨0, by omega, rfl, Lib.hid fun j hj => by omega, World.ownsRow_nil _ _ _ _, Below.refl _ _⟩
    case round =>
      obtain ⟨k, hk, rfl, HP, hoD, hB⟩ := hrel
      by_cases hlt : k < n
      · obtain ⟨ad, d, P, A', c', rfl, hb, hen, c0, c1, hP⟩ := (hx.below hB).at' hlt
        rw [hV] at hen
        have hlt' : (k : Int) < (n : Int) := by omega
        have hk0 : (0 : Int) ≤ (k : Int) := by omega
        have hkl : k < V.length := by rw [Hvl.out]; exact hlt
        have HD := Lib.hid (docs_snoc V k hkl)
        have HNo := Lib.hid (may_pos_no (l := V) k hkl)
        have HOk : Hid (posOk P = true → ∀ j, j < k + 1 → posOk (enAt V j).2 = true) := Lib.hid fun h j hj => by
          by_cases e : j = k
          · subst e; rw [hen]; exact h
          · exact HP.out j (by omega)
        rw [hen] at HD HNo
        have hdl : ((V.take k).map (·.1)).length ≤ 64 := by rw [List.length_map, List.length_take]; omega
        simp only at HD HNo
        generalize (V.take k).map (·.1) = Ds at *
        clear hen hkl
        have hrow := Row.new wr 52 [.int .i64 0, .slice none 0 0]
        have hBa : Below w.heap.size w (wr.alloc (.cells #[.int .i64 0, .slice none 0 0] 52)) := hB.alloc hB.size _
        have hg0 : w.heap.size ≤ wr.heap.size := hB.size
        by_cases p1 : P.length < 1
        · have p1' : (P.length : Int) < 1 := by omega
          have HF := Lib.hid (HNo.out (by simp [posOk]; omega))
          clear p1
          go_wp2_with (refine wpList_store_rowO rfl 52 (.tmp 5) (.tmp 14) rfl wr.heap.size [.int .i64 d, .slice A' P.length c'] rfl rfl 52 _ hrow (by kernel_rfl) rfl rfl w.heap.size w hBa hg0 ?_; intro w3 hr3 hB3 hs3 hk3; have e0 : w3.cell? ⟨wr.heap.size, 0, none⟩ = some (.int .i64 d) := hr3.cell 0; have e1 : w3.cell? ⟨wr.heap.size, 1, none⟩ = some (.slice A' P.length c') := hr3.cell 1)
          go_wp2
          go_ret
          exact ⟨by rw [HF.out]; rfl, hB3⟩
        · have p1' : ¬ (P.length : Int) < 1 := by omega
          by_cases p2 : 256 < P.length
          · have p2' : (256 : Int) < (P.length : Int) := by omega
            have HF := Lib.hid (HNo.out (by simp [posOk]; omega))
            clear p1 p2
            go_wp2_with (refine wpList_store_rowO rfl 52 (.tmp 5) (.tmp 14) rfl wr.heap.size [.int .i64 d, .slice A' P.length c'] rfl rfl 52 _ hrow (by kernel_rfl) rfl rfl w.heap.size w hBa hg0 ?_; intro w3 hr3 hB3 hs3 hk3; have e0 : w3.cell? ⟨wr.heap.size, 0, none⟩ = some (.int .i64 d) := hr3.cell 0; have e1 : w3.cell? ⟨wr.heap.size, 1, none⟩ = some (.slice A' P.length c') := hr3.cell 1)
            go_wp2
            go_ret
            exact ⟨by rw [HF.out]; rfl, hB3⟩
          · have p2' : ¬ (256 : Int) < (P.length : Int) := by omega
            have hPk : Hid (posOk P = rising P) := Lib.hid (by rw [posOk, decide_eq_true (by omega), decide_eq_true (by omega)]; rfl)
            have hP3 : ∀ w3, Below w.heap.size w w3 → (∀ k, k ≠ wr.heap.size → w3.heap[k]? = (wr.alloc (.cells #[.int .i64 0, .slice none 0 0] 52)).heap[k]?) → Reads w3 w3.heap.size A' P.length c' (ints .i64 P) := fun w3 hB3 hk3 =>
              ((hP.alloc hg0 _).keep (w' := w3) fun p hp => World.cell?_of_block (hk3 _ (by omega))).more hB3.size
            go_wp2_with (refine wpList_store_rowO rfl 52 (.tmp 5) (.tmp 14) rfl wr.heap.size [.int .i64 d, .slice A' P.length c'] rfl rfl 52 _ hrow (by kernel_rfl) rfl rfl w.heap.size w hBa hg0 ?_; intro w3 hr3 hB3 hs3 hk3; have e0 : w3.cell? ⟨wr.heap.size, 0, none⟩ = some (.int .i64 d) := hr3.cell 0; have e1 : w3.cell? ⟨wr.heap.size, 1, none⟩ = some (.slice A' P.length c') := hr3.cell 1)
            have hR := rising_any P A' P.length c' w3 (hP3 w3 hB3 hk3) (by omega)
            have hoD3 := own_apart hoD hBa hB3 hs3 hk3
            clear p1 p2 hP3
            refine hR.mono ?_
            clear hR
            rintro e w4 ⟨rfl, rfl⟩
            cases hr : rising P
            · have HF := Lib.hid (HNo.out (by rw [hPk.out]; exact hr))
              clear hr
              go_wp2
              go_ret
              exact ⟨by rw [HF.out]; rfl, hB3⟩
            · have HF := Lib.hid (HOk.out (by rw [hPk.out]; exact hr))
              clear hr hs3 hk3
              go_wp2_with (at_builtin; refine wpList_append_oneK rfl (.tmp 31) (.tmp 34) 50 rfl w.heap.size 3 i0 _ 1 8 Try.underlying50 hi0 hz0 hz1 hz2 rfl (by omega) _ _ _ [.int .i64 d] rfl hoD3 rfl rfl (by simp [Value.oneCell']) (by omega) (by omega) hB3.size ?_; intro v6 w6 hown6 hg6)
              go_roundw
              case rel => exact ⟨k + 1, by omega, by go_num, HF, by rw [HD.out]; simpa [ints] using hown6, below_grown hB3 hoD3 (Nat.le_refl _) hB3.size hg6⟩
              case measure => simp [intOf]; omega
      · have hlt' : ¬ (k : Int) < (n : Int) := by omega
        obtain rfl : k = n := by omega
        rw [List.take_of_length_le (by rw [Hvl.out]; omega)] at hoD
        have HM := Lib.hid (may_doc (l := V) (by rw [Hvl.out]; omega) (fun j hj => HP.out j (by rw [← Hvl.out]; exact hj)))
        have hml : (V.map (·.1)).length ≤ 64 := by rw [List.length_map, Hvl.out]; omega
        generalize V.map (·.1) = Ds at *
        obtain ⟨A4, c4, rfl, hr4, _, _⟩ := ownsRow_slice hoD
        have hR := rising_any Ds A4 Ds.length c4 wr hr4 (by omega)
        go_wp2_with fail
        refine hR.mono ?_
        clear hR
        rintro e w4 ⟨rfl, rfl⟩
        go_wp2
        go_ret
        exact ⟨by rw [HM.out]; rfl, hB⟩
end Go.Proofs.Ytbbjlijdodnjaaa
