/- The walk of ref.All. -/
import Derived.Test.YtmofhpebcbpccaaDoorTokSame
import Derived.Test.YtmofhpebcbpccaaDoorFoldRefF
import Derived.Test.YtmofhpebcbpccaaDoorFoldTable
namespace Go.Proofs.YtmofhpebcbpccaaDoor
open Go.RowKit

section
variable {P : Program} {W : World}
theorem own_empty (w : World) (e : TypeId) (k : Nat) : (w.alloc (.cells #[] e)).ownsRow w.heap.size e k (.slice (some ⟨w.heap.size, 0, none⟩) 0 0) 0 [] :=
  ⟨by simp, .inr ⟨w.heap.size, 0, #[], rfl, Nat.le_refl _, heap_alloc_new _ _, Nat.le_refl _, by simp [maxLen], by simp, by simp⟩⟩
theorem ReadsK.of_reads {w : World} {B n c : Nat} {A : Option Addr} {xs : List Value} (h : Reads w B A n c xs) : ReadsK 1 w B A n c xs := ⟨by rw [h.len]; omega, h.cap, h.at_⟩
/-- append(out, x) of one element, with the block told. -/
theorem wpList_append_oneB {ops : Array Oper} {rest : List Oper} {o : Oper} {a : Act} {Q : Exit → Act → World → Prop} (hgd : o.guard = none) (s x : Operand) (t : TypeId)
    (ho : o.op = .call { callee := .builtin .append, args := #[s, x], argTypes := #[t, t] })
    (base : Nat) (e : TypeId) (i : TypeInfo) (z : Value) (k bytes : Nat) (ht : P.underlying t = some (.slice e)) (hi : P.info? e = some i) (hz : i.zero = some z)
    (hsize : i.size = k) (hby : i.bytes = bytes) (hzs : z.cells.size = k) (h0 : 0 < k)
    (v : Value) (n : Nat) (xs us : List Value) (hus : us.length = k) (hown : W.ownsRow base e k v n xs)
    (hs : a.eval s = v) (hx : a.eval x = .slice (some ⟨W.heap.size, 0, none⟩) 1 1) (h1 : ∀ u ∈ us, u.oneCell' = true)
    (hnm : n ≤ 1099511627775) (hb8 : bytes ≤ 64) (hbase : base ≤ W.heap.size)
    (h : ∀ v' w', w'.ownsRow base e k v' (n + 1) (xs ++ us) → W.grownBy w' v.ownBlock → (v'.ownBlock = v.ownBlock ∨ v'.ownBlock = some (W.heap.size + 1)) → wpList P ops Q rest (a.put o.dst v') w') : wpList P ops Q (o :: rest) a (W.alloc (.cells us.toArray e)) :=
  wpList_append_allK hgd s x t ho base e i z k bytes ht hi hz hsize hby hzs h0 v n xs (hown.alloc _) _ _ 1 1 us (ReadsK.new W e us hus) hs hx h1 (by omega) hb8 (by simp; omega)
    fun v' w' h2 h3 h4 => h v' w' h2 (grown_of_alloc h3) (by simpa using h4)
end
/-- Two slices of the call's own in blocks apart. -/
def AP (v v' : Value) : Prop := ∀ g, v.ownBlock = some g → v'.ownBlock = some g → False
theorem AP.ne {v v' : Value} (h : AP v v') : v.ownBlock = none ∨ v.ownBlock ≠ v'.ownBlock := by
  cases hv : v.ownBlock with
  | none => exact .inl rfl
  | some g => exact .inr fun e => h g hv e.symm
theorem AP.symm {v v' : Value} (h : AP v v') : AP v' v := fun g h1 h2 => h g h2 h1
theorem AP.step {v v' u : Value} (h : AP v v') {W : World} {base : Nat} {e : TypeId} {k n : Nat} {xs : List Value} (hown : W.ownsRow base e k v n xs) {m : Nat} (hm : W.heap.size ≤ m) (hu : u.ownBlock = v'.ownBlock ∨ u.ownBlock = some m) : AP v u := fun g h1 h2 => by
  rcases hu with hu | hu
  · exact h g h1 (by rw [← hu]; exact h2)
  · have := (hown.lt g h1).2
    rw [hu] at h2
    injection h2 with h2
    omega
theorem info_rune' : (Tryd.prog.info? 21).map (fun i => (i.zero, i.size, i.bytes)) = some (some (.int .i32 0), 1, 4) := by kernel_rfl

set_option maxRecDepth 100000 in
set_option maxHeartbeats 2000000 in
theorem all_any (s : ByteArray) (hs : s.size ≤ 100000) (w : World) : Calls Tryd.prog 20 #[.string s] w fun e w' => ∃ v, e = .returned v ∧ w'.ownsRow w.heap.size 40 3 v (allOf s).length ((allOf s).flatMap tokC) ∧ Below w.heap.size w w' := by
  obtain ⟨i0, hi0, hz0, hz1, hz2⟩ := info_parts info_tok
  obtain ⟨j0, hj0, hy0, hy1, hy2⟩ := info_parts info_rune
  obtain ⟨b0, hbb0, hx0, hx1, hx2⟩ := info_parts info_byte
  have hlen := runesOf_len s
  go_enter Tryd.func20, Tryd.ntmps20
  go_wp2_with fail
  refine (refRunes_any s _ (by omega)).mono ?_
  rintro e w1 ⟨v1, rfl, hown1, hb1⟩
  go_wp2_with (at_builtin; refine wpList_append_one rfl _ _ 35 rfl w.heap.size 21 j0 (.int .i32 0) 4 Tryd.underlying35 hj0 hy0 hy1 hy2 rfl _ _ _ (.int .i32 32) hown1 rfl rfl rfl (by omega) (by omega) hb1.size ?_; intro v2 w2 hown2 hg2; have hb2 := below_grown hb1 hown1 (Nat.le_refl _) hb1.size hg2; obtain ⟨A, c, rfl, hr, hcm, _⟩ := ownsRow_slice hown2)
  have HA : Hid (allOf s = toks 0 (grp [] (runesOf s))) := Lib.hid rfl
  generalize runesOf s = L at *
  obtain ⟨M, hM⟩ : ∃ M, M = L ++ [32] := ⟨_, rfl⟩
  have hMl : M.length = L.length + 1 := by rw [hM]; simp
  have hMc : ints .i32 L ++ [.int .i32 32] = ints .i32 M := by rw [hM]; simp [ints]
  rw [hMc] at hr
  have HM := Lib.hid (stA_all L [] [])
  rw [← hM] at HM
  obtain ⟨n, hn⟩ : ∃ n, n = L.length := ⟨_, rfl⟩
  rw [← hn] at hr hlen hMl
  rw [← hn]
  clear hn hMc hM hown1 hown2
  have hr' := (hr.alloc (Nat.le_refl _) (.cells #[] 40)).alloc (by simp) (.cells #[] 5)
  have hBs : Below w2.heap.size w2 ((w2.alloc (.cells #[] 40)).alloc (.cells #[] 5)) := al_ ((Below.refl _ _).alloc (Nat.le_refl _) _) _
  have hoT := (own_empty w2 40 3).alloc (.cells #[] 5)
  have hoB : ((w2.alloc (.cells #[] 40)).alloc (.cells #[] 5)).ownsRow w2.heap.size 5 1 (.slice (some ⟨w2.heap.size + 1, 0, none⟩) 0 0) 0 [] := by
    have := own_empty (w2.alloc (.cells #[] 40)) 5 1
    rw [show (w2.alloc (.cells #[] 40)).heap.size = w2.heap.size + 1 from by simp] at this
    exact ownsRow_base this (by omega)
  go_loopw [4, 5, 6, 7, 18] (fun out opn full som i wr => ∃ (k : Nat) (done : List (List Int)) (cur : List Int) (B : List UInt8) (F : Bool), k ≤ n + 1 ∧ i = .int .i64 (k : Int) ∧ Hid ((M.take k).foldl stA ([], []) = (done, cur)) ∧ Hid (cur.foldl stT ([], false) = (B, F)) ∧ done.length ≤ k ∧ B.length ≤ 16 ∧ full = .bool F ∧ som = .bool (decide (cur ≠ [])) ∧
      wr.ownsRow w2.heap.size 40 3 out (toks 0 done).length ((toks 0 done).flatMap tokC) ∧ wr.ownsRow w2.heap.size 5 1 opn B.length (bys B) ∧ AP out opn ∧ Below w2.heap.size w2 wr) (fun _ _ _ _ i _ => n + 1 - (intOf i).toNat)
  case atStart => exact ⟨0, [], [], [], false, by omega, rfl, Lib.hid rfl, Lib.hid rfl, by simp, by simp, rfl, by simp, hoT, hoB, fun g h1 h2 => by simp [Value.ownBlock] at h1 h2; omega, hBs⟩
  case round =>
    clear hr' hBs hoT hoB
    obtain ⟨k, done, cur, B, F, hk, rfl, HS, HT, hdk, hBl, rfl, rfl, hoT, hoB, hAP, hB⟩ := hrel
    by_cases hlt : k < n + 1
    · obtain ⟨ad, hl, rfl, hbl, hc⟩ := (hr.below hB).int hlt
      have hlt' : (k : Int) < (n : Int) + 1 := by omega
      have hk0 : (0 : Int) ≤ (k : Int) := by omega
      have HD := Lib.hid (List.take_succ_eq_append_getElem hl)
      have hwk : IntKind.i64.wrap ((k : Int) + 1) = (k : Int) + 1 := IntWalk.i64_in _ (by omega)
      by_cases hcl : classOf M[k] = 0
      · have HC := rclass_any M[k] wr
        rw [hcl] at HC
        by_cases hcur : cur = []
        · subst hcur
          have HS2 : Hid ((M.take (k + 1)).foldl stA ([], []) = (done, [])) := Lib.hid (by rw [HD.out, List.foldl_append, HS.out]; simp [stA, hcl])
          have hd0 : decide (([] : List Int) ≠ []) = false := by simp
          have hoE := own_empty wr 5 1
          go_wp2_with (first | (refine HC.mono ?_; rintro e w3 ⟨rfl, rfl⟩))
          go_roundw
          case rel => exact ⟨k + 1, done, [], [], false, by omega, by go_num, HS2, Lib.hid rfl, by omega, by simp, rfl, by simp, hoT.alloc _, ownsRow_base hoE hB.size, fun g h1 h2 => by have := (hoT.lt g h1).2; simp [Value.ownBlock] at h2; omega, hB.alloc hB.size _⟩
          case measure => simp [intOf]; omega
        · have HS2 : Hid ((M.take (k + 1)).foldl stA ([], []) = (done ++ [cur], [])) := Lib.hid (by rw [HD.out, List.foldl_append, HS.out]; simp [stA, hcl, hcur])
          have hd1 : decide (cur ≠ []) = true := by simp [hcur]
          obtain ⟨Ab, cb, rfl, hrb, hcb, _⟩ := ownsRow_slice hoB
          have hcv := run_string_of (P := Tryd.prog) 48 9 5 Tryd.underlying48 Tryd.underlying5 Tryd.underlying9 hrb
          have htb : (⟨B.toArray⟩ : ByteArray) = tb cur := by
            have := stT_fit cur []
            rw [HT.out] at this
            rw [tb, ← this]
          rw [htb] at hcv
          rw [hd1]
          have HF := Lib.hid (toks_snoc done cur)
          have hone : ∀ v ∈ [Value.int .u8 0, .string (tb cur), .int .i64 (done.length : Int)], v.oneCell' = true := by simp [Value.oneCell']
          have hte : ((toks 0 done).length : Int) = (done.length : Int) := by rw [toks_len]
          have hml : (toks 0 done).length ≤ 100001 := by rw [toks_len]; omega
          have hsz := hB.size
          clear hd1 htb hcl hcur
          rw [toks_len] at hoT
          obtain ⟨At, ct, rfl, _, _, _⟩ := ReadsK.of_own hoT
          go_wp2_with (first | (refine HC.mono ?_; rintro e w3 ⟨rfl, rfl⟩) | (at_builtin; refine wpList_append_oneB rfl (.tmp 28) (.tmp 34) 24 rfl w2.heap.size 40 i0 _ 3 32 Tryd.underlying24 hi0 hz0 hz1 hz2 rfl (by omega) _ _ _ [.int .u8 0, .string (tb cur), .int .i64 (done.length : Int)] rfl hoT rfl rfl hone (by omega) (by omega) hsz ?_; intro v6 w6 hown6 hg6 hv6))
          have hB6 := below_grown hB hoT (Nat.le_refl _) hsz hg6
          have hoE := own_empty w6 5 1
          go_roundw
          case rel => exact ⟨k + 1, done ++ [cur], [], [], false, by omega, by go_num, HS2, Lib.hid rfl, by simp; omega, by simp, rfl, by simp, by rw [HF.out, List.length_append, toks_len]; simpa [tokC] using hown6.alloc _, ownsRow_base hoE hB6.size, fun g h1 h2 => by have := (hown6.lt g h1).2; simp [Value.ownBlock] at h2; omega, hB6.alloc hB6.size _⟩
          case measure => simp [intOf]; omega
      · have HC := rclass_any M[k] wr
        have hcb : (classOf M[k] == 0) = false := by simp [hcl]
        have HFo := rfold_any M[k] wr
        have HBy := bytes_any (foldOf M[k]) wr
        have HS2 : Hid ((M.take (k + 1)).foldl stA ([], []) = (done, cur ++ [foldOf M[k]])) := Lib.hid (by rw [HD.out, List.foldl_append, HS.out]; simp [stA, hcl])
        have hel := enc_len_le (foldOf M[k])
        clear hcl
        obtain ⟨Ab, cb, rfl, _, _, _⟩ := ownsRow_slice hoB
        have hdc : Hid (decide (cur ++ [foldOf M[k]] ≠ []) = true) := Lib.hid (by simp)
        have hws : IntKind.i64.wrap ((B.length : Int) + ((enc (foldOf M[k])).length : Int)) = (B.length : Int) + ((enc (foldOf M[k])).length : Int) := IntWalk.i64_in _ (by omega)
        have hT2 : (cur ++ [foldOf M[k]]).foldl stT ([], false) = stT (B, F) (foldOf M[k]) := by rw [List.foldl_append, HT.out]; rfl
        rw [stT] at hT2
        cases F
        · by_cases h16 : 16 < B.length + (enc (foldOf M[k])).length
          · have h16' : (16 : Int) < (B.length : Int) + ((enc (foldOf M[k])).length : Int) := by omega
            rw [if_pos (.inr h16)] at hT2
            have HT2 := Lib.hid hT2
            clear hT2 h16
            go_wp2_with (first | (go_at_call 30; refine HC.mono ?_; rintro e w3 ⟨rfl, rfl⟩) | (go_at_call 18; refine HFo.mono ?_; rintro e w3 ⟨rfl, rfl⟩) | (go_at_call 29; refine HBy.mono ?_; rintro e w4 ⟨v9, rfl, hown9, hb4⟩; obtain ⟨A9, c9, rfl, hr9, hc9, _⟩ := ownsRow_slice hown9))
            go_roundw
            case rel => exact ⟨k + 1, done, cur ++ [foldOf M[k]], B, true, by omega, by go_num, HS2, HT2, by omega, hBl, rfl, by rw [hdc.out], ownsRow_below hoT hb4, ownsRow_below hoB hb4, hAP, then_ hB hb4⟩
            case measure => simp [intOf]; omega
          · have h16' : ¬ (16 : Int) < (B.length : Int) + ((enc (foldOf M[k])).length : Int) := by omega
            rw [if_neg (by simp; omega)] at hT2
            have HT2 := Lib.hid hT2
            clear hT2
            have hone : ∀ u ∈ bys (enc (foldOf M[k])), u.oneCell' = true := fun u hu => by
              obtain ⟨x, _, rfl⟩ := List.mem_map.1 hu
              rfl
            go_wp2_with (first | (go_at_call 30; refine HC.mono ?_; rintro e w3 ⟨rfl, rfl⟩) | (go_at_call 18; refine HFo.mono ?_; rintro e w3 ⟨rfl, rfl⟩) | (go_at_call 29; refine HBy.mono ?_; rintro e w4 ⟨v9, rfl, hown9, hb4⟩; obtain ⟨A9, c9, rfl, hr9, hc9, _⟩ := ownsRow_slice hown9) | (at_builtin; refine wpList_append_allK rfl (.tmp 52) (.tmp 53) 48 rfl w2.heap.size 5 b0 _ 1 1 Tryd.underlying48 hbb0 hx0 hx1 hx2 rfl (by omega) _ _ _ (ownsRow_below hoB hb4) _ _ _ _ _ (ReadsK.of_reads hr9) rfl rfl hone (by omega) (by omega) (then_ hB hb4).size ?_; intro v6 w6 hown6 hg6 hv6))
            have hoT4 := ownsRow_below hoT hb4
            have hB4 := then_ hB hb4
            go_roundw
            case rel => exact ⟨k + 1, done, cur ++ [foldOf M[k]], B ++ enc (foldOf M[k]), false, by omega, by go_num, HS2, HT2, by omega, by rw [List.length_append]; omega, rfl, by rw [hdc.out], hoT4.kept hg6 hAP.ne, by rw [List.length_append]; simpa [bys] using hown6, hAP.step hoT4 (Nat.le_refl _) hv6, below_grown hB4 (ownsRow_below hoB hb4) (Nat.le_refl _) hB4.size hg6⟩
            case measure => simp [intOf]; omega
        · rw [if_pos (.inl rfl)] at hT2
          have HT2 := Lib.hid hT2
          clear hT2
          go_wp2_with (first | (go_at_call 30; refine HC.mono ?_; rintro e w3 ⟨rfl, rfl⟩) | (go_at_call 18; refine HFo.mono ?_; rintro e w3 ⟨rfl, rfl⟩) | (go_at_call 29; refine HBy.mono ?_; rintro e w4 ⟨v9, rfl, hown9, hb4⟩; obtain ⟨A9, c9, rfl, hr9, hc9, _⟩ := ownsRow_slice hown9))
          go_roundw
          case rel => exact ⟨k + 1, done, cur ++ [foldOf M[k]], B, true, by omega, by go_num, HS2, HT2, by omega, hBl, rfl, by rw [hdc.out], ownsRow_below hoT hb4, ownsRow_below hoB hb4, hAP, then_ hB hb4⟩
          case measure => simp [intOf]; omega
    · have hlt' : ¬ (k : Int) < (n : Int) + 1 := by omega
      have HE : Hid (done = grp [] L) := Lib.hid (by
        have h1 := HS.out
        rw [List.take_of_length_le (by omega)] at h1
        have h2 := HM.out
        rw [h1] at h2
        simpa using h2)
      go_wp2
      go_ret
      exact ⟨_, rfl, by rw [HA.out, ← HE.out]; exact ownsRow_base hoT hb2.size, hb2.trans (hB.mono hb2.size)⟩
end Go.Proofs.YtmofhpebcbpccaaDoor
