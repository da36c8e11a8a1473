/- The walk of token.Tokens. -/
import Derived.Test.YtmofhpebcbpccaaDoorTokWords
import Derived.Test.YtmofhpebcbpccaaDoorTokAll
import Derived.Test.YtmofhpebcbpccaaDoorRowOps
namespace Go.Proofs.YtmofhpebcbpccaaDoor
open Go.RowKit

theorem own_reads {w : World} {base k : Nat} {e : TypeId} {A : Option Addr} {n n' c : Nat} {xs : List Value} (h : w.ownsRow base e k (.slice A n' c) n xs) : ReadsK k w w.heap.size A n c xs := by
  obtain ⟨A', c', e', hr, _⟩ := ReadsK.of_own h
  injection e' with e1 e2 e3
  subst e1 e2 e3
  exact hr
theorem grown_of {W w' w0 : World} {B g : Nat} (hb : Below B w0 W) (hb' : Below B w0 w') (hs : w'.heap.size = W.heap.size) (hk : ∀ k, k ≠ g → w'.heap[k]? = W.heap[k]?) : W.grownBy w' (some g) :=
  ⟨hb'.os.trans hb.os.symm, hb'.tape.trans hb.tape.symm, hb'.output.trans hb.output.symm, by omega, fun i _ hne => hk i (fun e => hne (by rw [e]))⟩
theorem fieldToks_len (k : Nat) (l : List ByteArray) (h : ∀ s ∈ l, s.size ≤ 512) : (fieldToks k l).length ≤ l.length * 513 := by
  induction l generalizing k with
  | nil => simp [fieldToks]
  | cons s l ih =>
    have h1 := wordsOf_len s
    have h2 := h s (by simp)
    have h3 := ih (k + 1) (fun t ht => h t (by simp [ht]))
    rw [fieldToks, List.length_append, List.length_map, List.length_cons]
    omega
theorem doc_many {l : List ByteArray} (h : 4 < l.length) : docOf l = ([], 4) := by rw [docOf, if_pos (.inl h)]
theorem doc_long {l : List ByteArray} (i : Nat) (hi : i < l.length) (h : 512 < l[i].size) : docOf l = ([], 4) := by rw [docOf, if_pos (.inr ⟨_, List.getElem_mem hi, h⟩)]
theorem doc_full {l : List ByteArray} (h0 : ¬ 4 < l.length) (h1 : ∀ s ∈ l, s.size ≤ 512) (h : 64 < (fieldToks 0 l).length) : docOf l = ([], 4) := by
  rw [docOf, if_neg (by rintro (h | ⟨s, hs, h⟩); exact h0 h; have := h1 s hs; omega), if_pos h]
theorem doc_ok {l : List ByteArray} (h0 : ¬ 4 < l.length) (h1 : ∀ s ∈ l, s.size ≤ 512) (h : ¬ 64 < (fieldToks 0 l).length) : docOf l = (fieldToks 0 l, 0) := by
  rw [docOf, if_neg (by rintro (h | ⟨s, hs, h⟩); exact h0 h; have := h1 s hs; omega), if_neg h]
theorem map_snoc {α β : Type} (f : α → β) {l : List α} {k : Nat} (h : k < l.length) : (l.take (k + 1)).map f = (l.take k).map f ++ [f l[k]] := by
  rw [List.take_succ_eq_append_getElem h, List.map_append]
  rfl
theorem map_snoc2 {α β : Type} (F : List β) (f : α → β) {l : List α} {k : Nat} (h : k < l.length) : F ++ (l.take (k + 1)).map f = (F ++ (l.take k).map f) ++ [f l[k]] := by
  rw [map_snoc f h, List.append_assoc]
theorem own_apart {W w' w0 : World} {B : Nat} {o : Obj} {base k n : Nat} {e : TypeId} {v : Value} {xs : List Value} (h : W.ownsRow base e k v n xs) (hb : Below B w0 (W.alloc o)) (hb' : Below B w0 w') (hs : w'.heap.size = (W.alloc o).heap.size) (hk : ∀ k, k ≠ W.heap.size → w'.heap[k]? = (W.alloc o).heap[k]?) : w'.ownsRow base e k v n xs :=
  (h.alloc o).kept (grown_of hb hb' hs hk) (.inr fun e => by have := (h.lt _ e).2; omega)
theorem u8_small (j : Nat) (h : j ≤ 4) : IntKind.wrap .u8 (j : Int) = j := by
  rcases (show j = 0 ∨ j = 1 ∨ j = 2 ∨ j = 3 ∨ j = 4 from by omega) with rfl | rfl | rfl | rfl | rfl <;> rfl
theorem fieldToks_take (l : List ByteArray) (k : Nat) (hk : k < l.length) : fieldToks 0 (l.take (k + 1)) = fieldToks 0 (l.take k) ++ (wordsOf l[k]).map (fun x => ((k : Int), x.2.1, x.2.2)) := by
  rw [List.take_succ_eq_append_getElem hk, fieldToks_snoc, List.length_take, Nat.zero_add, Nat.min_eq_left (by omega)]

set_option maxRecDepth 100000 in
set_option maxHeartbeats 2000000 in
theorem tokens_any (fs : List ByteArray) (A : Option Addr) (n c : Nat) {w : World} (hL : LaidF w) (hx : Reads w w.heap.size A n c (strs fs)) (hn : n ≤ 100000) :
    Calls Tryd.prog 15 #[.slice A n c] w fun e w' => ∃ v, e = .returned (.tuple #[v, .int .i64 (docOf fs).2]) ∧ w'.ownsRow w.heap.size 40 3 v (docOf fs).1.length ((docOf fs).1.flatMap tokC) ∧ Below w.heap.size w w' := by
  obtain ⟨i0, hi0, hz0, hz1, hz2⟩ := info_parts info_tok
  have hfl : fs.length = n := by simpa [strs] using hx.len
  by_cases h4 : 4 < n
  · have h4' : (4 : Int) < (n : Int) := by omega
    have HD := Lib.hid (doc_many (l := fs) (by omega))
    go_enter Tryd.func15, Tryd.ntmps15
    go_wp2
    go_ret2
    exact ⟨.slice none 0 0, by rw [HD.out]; rfl, by rw [HD.out]; exact World.ownsRow_nil _ _ _ _, Below.refl _ _⟩
  · have h4' : ¬ (4 : Int) < (n : Int) := by omega
    have Hfl := Lib.hid hfl
    clear hfl
    go_enter Tryd.func15, Tryd.ntmps15
    go_wp2_with fail
    go_loopw [16] (fun i wr => ∃ k : Nat, k ≤ n ∧ i = .int .i64 (k : Int) ∧ Hid (∀ j (h : j < fs.length), j < k → fs[j].size ≤ 512) ∧ w = wr) (fun i _ => n - (intOf i).toNat)
    case atStart => exact ⟨0, by omega, rfl, Lib.hid fun j h hj => by omega, rfl⟩
    case round =>
      obtain ⟨k, hk, rfl, HZ, rfl⟩ := hrel
      by_cases hlt : k < n
      · obtain ⟨ad, hl, rfl, hbl, hc⟩ := hx.str hlt
        have hlt' : (k : Int) < (n : Int) := by omega
        have hk0 : (0 : Int) ≤ (k : Int) := by omega
        by_cases hz : 512 < fs[k].size
        · have hz' : (512 : Int) < (fs[k].size : Int) := by omega
          have HD := Lib.hid (doc_long k hl hz)
          clear hz
          go_wp2
          go_ret2
          exact ⟨.slice none 0 0, by rw [HD.out]; rfl, by rw [HD.out]; exact World.ownsRow_nil _ _ _ _, Below.refl _ _⟩
        · have hz' : ¬ (512 : Int) < (fs[k].size : Int) := by omega
          have HZ2 : Hid (∀ j (h : j < fs.length), j < k + 1 → fs[j].size ≤ 512) := Lib.hid fun j h hj => by
            by_cases e : j = k
            · subst e; omega
            · exact HZ.out j h (by omega)
          clear hz
          go_wp2
          go_roundw
          case rel => exact ⟨k + 1, by omega, by go_num, HZ2, by first | rfl | trivial⟩
          case measure => simp [intOf]; omega
      · obtain rfl : k = n := by omega
        have hlt' : ¬ (k : Int) < (k : Int) := by omega
        have HZ2 : Hid (∀ s ∈ fs, s.size ≤ 512) := Lib.hid fun s hs => by
          obtain ⟨j, hj, rfl⟩ := List.getElem_of_mem hs
          exact HZ.out j hj (by have := Hfl.out; omega)
        clear HZ
        go_wp2_with fail
        go_loopw [6, 26] (fun out i wr => ∃ j : Nat, j ≤ k ∧ i = .int .i64 (j : Int) ∧ wr.ownsRow w.heap.size 40 3 out (fieldToks 0 (fs.take j)).length ((fieldToks 0 (fs.take j)).flatMap tokC) ∧ Below w.heap.size w wr) (fun _ i _ => k - (intOf i).toNat)
        case atStart => exact ⟨0, by omega, rfl, World.ownsRow_nil _ _ _ _, Below.refl _ _⟩
        case round =>
          obtain ⟨j, hj, rfl, hoT, hB⟩ := hrel
          by_cases hlt2 : j < k
          · obtain ⟨ad, hl, rfl, hbl, hc⟩ := (hx.below hB).str hlt2
            have hlt2' : (j : Int) < (k : Int) := by omega
            have hj0 : (0 : Int) ≤ (j : Int) := by omega
            have HF := Lib.hid (fieldToks_take fs j hl)
            have hz5 := HZ2.out _ (List.getElem_mem hl)
            have HWO := words_any fs[j] (by omega) (hL.below hB)
            have hwl := wordsOf_len fs[j]
            have hfm : (fieldToks 0 (fs.take j)).length ≤ 3000 := by
              have := fieldToks_len 0 (fs.take j) (fun s hs => HZ2.out s (List.mem_of_mem_take hs))
              rw [List.length_take] at this
              omega
            go_wp2_with fail
            refine HWO.mono ?_
            clear HWO
            rintro e w1 ⟨v1, rfl, hW, hb1⟩
            obtain ⟨A1, c1, rfl, _, _, _⟩ := ReadsK.of_own hW
            have hAP : AP u6 (.slice A1 (wordsOf fs[j]).length c1) := fun g h1 h2 => by
              have h1 := (hoT.lt g h1).2
              have h2 := (hW.lt g h2).1
              omega
            replace hoT := ownsRow_below hoT hb1
            have hB1 := then_ hB hb1
            replace hW := ownsRow_base hW hB.size
            clear hB hb1
            generalize wordsOf fs[j] = Ws at *
            generalize fieldToks 0 (fs.take j) = Fs at *
            obtain ⟨m, hm⟩ : ∃ m, m = Ws.length := ⟨_, rfl⟩
            rw [← hm] at hW hAP hwl
            rw [← hm]
            have Hm := Lib.hid hm
            clear hm
            have hm3 : m ≤ 513 := by omega
            clear hwl hz5
            have hj8 : IntKind.wrap .u8 (j : Int) = j := u8_small j (by omega)
            go_wp2_with fail
            go_loopw [6, 34] (fun out i wr2 => ∃ k2 : Nat, k2 ≤ m ∧ i = .int .i64 (k2 : Int) ∧ wr2.ownsRow w.heap.size 40 3 out (Fs ++ (Ws.take k2).map fun x => ((j : Int), x.2.1, x.2.2)).length ((Fs ++ (Ws.take k2).map fun x => ((j : Int), x.2.1, x.2.2)).flatMap tokC) ∧ wr2.ownsRow w.heap.size 40 3 (.slice A1 m c1) m (Ws.flatMap tokC) ∧ AP out (.slice A1 m c1) ∧ Below w.heap.size w wr2) (fun _ i _ => m - (intOf i).toNat)
            case atStart => exact ⟨0, by omega, rfl, by simpa using hoT, hW, hAP, hB1⟩
            case round =>
              obtain ⟨k2, hk2, rfl, hoI, hWI, hAI, hBI⟩ := hrel
              by_cases hlt3 : k2 < m
              · obtain ⟨ad3, hl3, rfl, hbl3, c0, hcell⟩ := (own_reads hWI).at' tokC_len (by omega) hlt3
                have c0 := c0 _ rfl
                have c1 := hcell 1 _ (by omega) rfl
                have c2 := hcell 2 _ (by omega) rfl
                clear hcell
                have hlt3' : (k2 : Int) < (m : Int) := by omega
                have hk20 : (0 : Int) ≤ (k2 : Int) := by omega
                have HM := Lib.hid (map_snoc2 Fs (fun x : Tok => ((j : Int), x.2.1, x.2.2)) hl3)
                have hml : (Fs ++ (Ws.take k2).map fun x => ((j : Int), x.2.1, x.2.2)).length ≤ 4000 := by
                  rw [List.length_append, List.length_map, List.length_take]
                  omega
                generalize Ws[k2] = X at *
                obtain ⟨x0, x1, x2⟩ := X
                simp only at c0 c1 c2 HM
                generalize (Fs ++ (Ws.take k2).map fun x => ((j : Int), x.2.1, x.2.2)) = Os at *
                have hrow := Row.new wr 40 [.int .u8 0, .string ByteArray.empty, .int .i64 0]
                have hBa : Below w.heap.size w (wr.alloc (.cells #[.int .u8 0, .string ByteArray.empty, .int .i64 0] 40)) := hBI.alloc hBI.size _
                have hone : ∀ v ∈ [Value.int .u8 (j : Int), .string x1, .int .i64 x2], v.oneCell' = true := by simp [Value.oneCell']
                have hg0 : w.heap.size ≤ wr.heap.size := hBI.size
                go_wp2_with (first
                  | (refine wpList_store_rowO rfl 40 (.tmp 10) (.tmp 37) rfl wr.heap.size [.int .u8 x0, .string x1, .int .i64 x2] rfl rfl 40 _ hrow (by kernel_rfl) rfl rfl w.heap.size w hBa hg0 ?_; intro w3 hr3 hB3 hs3 hk3)
                  | (refine wpList_store_cellO rfl 5 (.tmp 40) (.tmp 39) rfl wr.heap.size 0 (.int .u8 (j : Int)) rfl rfl 40 _ hr3 (by simp) rfl (by kernel_rfl) w.heap.size w hB3 hg0 ?_; intro w4 hr4 hB4 hs4 hk4; have e0 : w4.cell? ⟨wr.heap.size, 0, none⟩ = some (.int .u8 (j : Int)) := hr4.cell 0; have e1 : w4.cell? ⟨wr.heap.size, 1, none⟩ = some (.string x1) := hr4.cell 1; have e2 : w4.cell? ⟨wr.heap.size, 2, none⟩ = some (.int .i64 x2) := hr4.cell 2; have h6 := own_apart hoI hBa hB4 (hs4.trans hs3) (fun k h => (hk4 k h).trans (hk3 k h)); have hW4 := own_apart hWI hBa hB4 (hs4.trans hs3) (fun k h => (hk4 k h).trans (hk3 k h)); clear c0 c1 c2 hk3 hk4 hs3 hs4)
                  | (at_builtin; refine wpList_append_oneB rfl (.tmp 41) (.tmp 43) 24 rfl w.heap.size 40 i0 _ 3 32 Tryd.underlying24 hi0 hz0 hz1 hz2 rfl (by omega) _ _ _ [.int .u8 (j : Int), .string x1, .int .i64 x2] rfl h6 rfl rfl hone (by omega) (by omega) hB4.size ?_; intro v6 w6 hown6 hg6 hv6))
                go_roundw
                case rel => exact ⟨k2 + 1, by omega, by go_num, by rw [HM.out]; simpa [tokC] using hown6, hW4.kept hg6 hAI.symm.ne, (hAI.symm.step hW4 (Nat.le_succ _) hv6).symm, below_grown hB4 h6 (Nat.le_refl _) hB4.size hg6⟩
                case measure => simp [intOf]; omega
              · have hlt3' : ¬ (k2 : Int) < (m : Int) := by omega
                rw [List.take_of_length_le (by rw [← Hm.out]; omega)] at hoI
                go_wp2
                go_roundw
                case rel => exact ⟨j + 1, by omega, by go_num, by rw [HF.out]; exact hoI, hBI⟩
                case measure => simp [intOf]; omega
          · have hlt2' : ¬ (j : Int) < (k : Int) := by omega
            have hfk := Hfl.out
            rw [List.take_of_length_le (by omega)] at hoT
            have hkl : fs.length ≤ 4 := by omega
            have HN : Hid (¬ 4 < fs.length) := by show ¬ _; omega
            clear hfk hkl
            obtain ⟨A6, c6, rfl, _, _, _⟩ := ReadsK.of_own hoT
            by_cases h64 : 64 < (fieldToks 0 fs).length
            · have HD := Lib.hid (doc_full HN.out HZ2.out h64)
              have h64' : (64 : Int) < ((fieldToks 0 fs).length : Int) := by omega
              clear h64
              generalize fieldToks 0 fs = Fs at *
              obtain ⟨m, hm⟩ : ∃ m, m = Fs.length := ⟨_, rfl⟩
              rw [← hm] at hoT h64' ⊢
              clear hm
              go_wp2
              go_ret2
              exact ⟨.slice none 0 0, by rw [HD.out]; rfl, by rw [HD.out]; exact World.ownsRow_nil _ _ _ _, hB⟩
            · have HD := Lib.hid (doc_ok HN.out HZ2.out h64)
              have h64' : ¬ (64 : Int) < ((fieldToks 0 fs).length : Int) := by omega
              clear h64
              generalize fieldToks 0 fs = Fs at *
              obtain ⟨m, hm⟩ : ∃ m, m = Fs.length := ⟨_, rfl⟩
              rw [← hm] at hoT h64' ⊢
              have Hm := Lib.hid hm
              clear hm
              go_wp2
              go_ret2
              exact ⟨.slice A6 m c6, by rw [HD.out]; rfl, by rw [HD.out, ← Hm.out]; exact hoT, hB⟩
end Go.Proofs.YtmofhpebcbpccaaDoor
