/- The walk of ref.Copy of entries. -/
import Derived.Test.YtbbjlijdodnjaaaBlkMay
import Derived.Laws.MakeOwn
import Derived.Test.YtbbjlijdodnjaaaBlkRDecR
namespace Go.Proofs.Ytbbjlijdodnjaaa
open Go.RowKit

theorem made_two (z0 z1 : Value) (n : Nat) : (madeCells #[z0, z1] (n * 2)).toList = (List.replicate n [z0, z1]).flatten := by
  apply List.ext_getElem?
  intro i
  by_cases h : i < n * 2
  · have h1 : (madeCells #[z0, z1] (n * 2)).toList[i]? = some (if i % 2 = 0 then z0 else z1) := by
      simp only [madeCells, Array.toList_map, List.getElem?_map, Array.toList_range, List.getElem?_range h, Option.map_some]
      rcases (show i % 2 = 0 ∨ i % 2 = 1 from by omega) with e | e <;> simp [e]
    have h2 : (List.replicate n [z0, z1]).flatten[i]? = some (if i % 2 = 0 then z0 else z1) := by
      have := rec_get (f := fun _ : Nat => [z0, z1]) (k := 2) (fun _ => rfl) (List.range n) (i / 2) (i % 2) (by omega) (by simp; omega)
      rw [show i / 2 * 2 + i % 2 = i from by omega] at this
      have e : (List.range n).flatMap (fun _ : Nat => [z0, z1]) = (List.replicate n [z0, z1]).flatten := by
        rw [List.flatMap_def, List.map_const', List.length_range]
      rw [e] at this
      rw [this]
      rcases (show i % 2 = 0 ∨ i % 2 = 1 from by omega) with e | e <;> simp [e]
    rw [h1, h2]
  · have hl : (madeCells #[z0, z1] (n * 2)).toList.length = n * 2 := by simp [madeCells]
    have hl2 : (List.replicate n [z0, z1]).flatten.length = n * 2 := by simp
    rw [List.getElem?_eq_none (by omega), List.getElem?_eq_none (by omega)]
theorem run_make_row2 {P : Program} (t e : TypeId) (i : TypeInfo) (z0 z1 : Value) (ht : P.underlying t = some (.slice e)) (hi : P.info? e = some i) (hz : i.zero = some (.agg #[z0, z1])) (hsize : i.size = 2) (hby : i.bytes ≤ 64)
    (C : Int) (n : Nat) (hC : C = (n : Int)) (hn : n ≤ 1099511627776) (W : World) :
    (Instr.makeSlice t (.int .i64 C) (.int .i64 C)).run P W = .ok (.slice (some ⟨W.heap.size, 0, none⟩) n n) (W.alloc (.cells (List.replicate n [z0, z1]).flatten.toArray e)) := by
  subst hC
  have hb : (i.bytes : Int) * (n : Int) ≤ 281474976710656 := by
    have h1 : i.bytes * n ≤ 64 * 1099511627776 := Nat.mul_le_mul hby hn
    have h2 : ((i.bytes * n : Nat) : Int) ≤ 281474976710656 := by omega
    rwa [Int.natCast_mul] at h2
  have hr := run_make (P := P) W t e i _ ht hi hz .i64 .i64 n n (by omega) (by omega) hb (by omega)
  have hm : madeCells (Value.agg #[z0, z1]).cells (n * 2) = (List.replicate n [z0, z1]).flatten.toArray := by
    apply Array.ext'
    exact made_two z0 z1 n
  simp only [Int.toNat_natCast, hsize, hm] at hr
  exact hr
theorem flat_set (L : List Ent) (k : Nat) (hk : k < L.length) (h : Hd) (d : Int) (P : List Int) :
    ((L.flatMap enC).set (k * 2) (.int .i64 d)).set (k * 2 + 1) (.slice h.A h.n h.c) = (L.set k (h, (d, P))).flatMap enC := by
  induction L generalizing k with
  | nil => simp at hk
  | cons a L ih =>
    cases k with
    | zero => rfl
    | succ k =>
      have e : (k + 1) * 2 = k * 2 + 1 + 1 := by omega
      have := ih k (by simpa using hk)
      rw [List.set_cons_succ, List.flatMap_cons, List.flatMap_cons, ← this, e]
      rfl
theorem vals_set (L : List Ent) (k : Nat) (x : Ent) : vals (L.set k x) = (vals L).set k x.2 := by rw [vals, vals, List.map_set]
theorem enAt_set (V : List En) (k j : Nat) (e : En) (hk : k < V.length) : enAt (V.set k e) j = if j = k then e else enAt V j := by
  rw [enAt, enAt, List.getD, List.getD, List.getElem?_set]
  by_cases h : k = j
  · subst h; simp [hk]
  · rw [if_neg h, if_neg (fun e => h e.symm)]
theorem enAt_ext (V U : List En) (hl : V.length = U.length) (h : ∀ j, j < V.length → enAt V j = enAt U j) : V = U := by
  apply List.ext_getElem hl
  intro i h1 h2
  have := h i h1
  rwa [enAt_get V i h1, enAt_get U i h2] at this
theorem zero_ents (n : Nat) : (List.replicate n [Value.int .i64 0, Value.slice none 0 0]).flatten = (List.replicate n ((⟨none, 0, 0⟩, (0, [])) : Ent)).flatMap enC := by
  rw [List.flatMap_def, List.map_replicate]
  rfl

set_option maxRecDepth 100000 in
set_option maxHeartbeats 4000000 in
theorem refCopy_any (l : List Ent) (A : Option Addr) (n c : Nat) (w : World) (hx : ReadsE w w.heap.size A n c l) (hn : n ≤ 1000) (hpl : ∀ e ∈ vals l, e.2.length ≤ 100000) :
    Calls Try.prog 11 #[.slice A n c] w fun e w' => ∃ g l', e = .returned (.slice (some ⟨g, 0, none⟩) n n) ∧ ReadsE w' w'.heap.size (some ⟨g, 0, none⟩) n n l' ∧ vals l' = vals l ∧ Below w.heap.size w w' := by
  obtain ⟨i0, hi0, hz0, hz1, hz2⟩ := info_parts info_int
  obtain ⟨j0, hj0, hy0, hy1, hy2⟩ := info_parts info_ent
  have hmk := run_make_row2 (P := Try.prog) 31 52 j0 _ _ Try.underlying31 hj0 hy0 hy1 (by omega) (n : Int) n rfl (by omega)
  rw [zero_ents] at hmk
  have hPl := Lib.hid hpl
  have Hvl := Lib.hid hx.vlen
  clear hpl hj0 hy0 hy1 hy2
  obtain ⟨g, hg⟩ : ∃ g, g = w.heap.size := ⟨_, rfl⟩
  have hL0 : ((List.replicate n ((⟨none, 0, 0⟩, (0, [])) : Ent))).length = n := List.length_replicate
  have hP0 : ∀ x ∈ List.replicate n ((⟨none, 0, 0⟩, (0, [])) : Ent), ∀ (w' : World), w'.ownsRow (g + 1) 3 1 (.slice x.1.A x.1.n x.1.c) x.1.n (ints .i64 x.2.2) := fun x hx w' => by
    rw [(List.mem_replicate.1 hx).2]
    exact World.ownsRow_nil _ _ _ _
  have hr0 := Row.new w 52 ((List.replicate n ((⟨none, 0, 0⟩, (0, [])) : Ent)).flatMap enC)
  generalize List.replicate n ((⟨none, 0, 0⟩, (0, [])) : Ent) = L0 at *
  have hB0 : Below w.heap.size w (w.alloc (.cells (L0.flatMap enC).toArray 52)) := (Below.refl _ _).alloc (Nat.le_refl _) _
  have hs0 : (w.alloc (.cells (L0.flatMap enC).toArray 52)).heap.size = g + 1 := by simp [hg]
  rw [← hg] at hr0
  have Hg := Lib.hid hg
  clear hg
  go_enter Try.func11, Try.ntmps11
  go_wp2_with fail
  rw [← Hg.out]
  generalize w.alloc (.cells (L0.flatMap enC).toArray 52) = W0 at *
  have hwg : w.heap.size ≤ g := Nat.le_of_eq Hg.out.symm
  have HP0 := Lib.hid (fun x (hx : x ∈ L0) => hP0 x hx W0)
  clear hP0 hmk
  go_loopw [10] (fun i wr => ∃ (k : Nat) (L : List Ent), k ≤ n ∧ i = .int .i64 (k : Int) ∧ L.length = n ∧ Hid (∀ j, j < k → enAt (vals L) j = enAt (vals l) j) ∧ Row wr g 52 (L.flatMap enC) ∧ Hid (∀ x ∈ L, wr.ownsRow (g + 1) 3 1 (.slice x.1.A x.1.n x.1.c) x.1.n (ints .i64 x.2.2)) ∧ Below w.heap.size w wr ∧ g + 1 ≤ wr.heap.size) (fun i _ => n - (intOf i).toNat)
  case atStart => exact ⟨0, L0, by omega, rfl, hL0, Lib.hid (fun j hj => by omega), hr0, HP0, hB0, by omega⟩
  case round =>
    clear hr0 hB0
    obtain ⟨k, L, hk, rfl, hL, HV, hrow, HO, hB, hgs⟩ := hrel
    by_cases hlt : k < n
    · obtain ⟨ad, d, P, A', c', rfl, hb, hen, c0, c1, hP⟩ := (hx.below hB).at' hlt
      have hlt' : (k : Int) < (n : Int) := by omega
      have hk0 : (0 : Int) ≤ (k : Int) := by omega
      have hPl9 : P.length ≤ 100000 := by
        have hl : k < (vals l).length := by rw [Hvl.out]; exact hlt
        have := hPl.out _ (List.getElem_mem hl)
        rwa [← enAt_get _ k hl, hen] at this
      have hfl : (L.flatMap enC).length = n * 2 := by rw [rec_len enC_len, hL]
      have HL := Lib.hid hL
      have Hen := Lib.hid hen
      clear hL hen
      have hadg : ad.block ≠ g := by omega
      have hpb : (⟨(ad.add (k * 2)).block, (ad.add (k * 2)).off + 1, none⟩ : Addr).block < w.heap.size := by show (ad.add (k * 2)).block < _; rw [Go.Proofs.Ytbbjlijdodnjaaa.add_block]; exact hb
      go_wp2_with (first
        | (refine wpList_store_cellO rfl 3 (.tmp 21) (.tmp 19) rfl g (k * 2) (.int .i64 d) rfl rfl 52 _ hrow (by rw [hfl]; omega) rfl (by kernel_rfl) w.heap.size w hB hwg ?_; intro w5 hr5 hB5 hs5 hk5; have Hs5 := Lib.hid hs5; clear hs5 hrow; have hBa : Below w.heap.size w (w5.alloc (.cells #[] 3)) := hB5.alloc hB5.size _; have c1a := (hBa.cell hpb).trans ((hB.cell hpb).symm.trans c1); have hPa := hP.keep (w' := w5.alloc (.cells #[] 3)) (fun p hp => (hBa.cell hp).trans (hB.cell hp).symm); have hown0 := ownsRow_base (own_empty w5 3 1) (show g + 1 ≤ w5.heap.size from Hs5.out ▸ hgs); clear hP)
        | (at_builtin; refine wpList_append_allK rfl (.tmp 24) (.tmp 29) 50 rfl (g + 1) 3 i0 _ 1 8 Try.underlying50 hi0 hz0 hz1 hz2 rfl (by omega) _ 0 _ hown0 w.heap.size A' P.length c' _ (ReadsK.of_reads hPa) rfl rfl (ints_one _ _) (by omega) (by omega) (by have := hBa.size; have := Hs5.out; simp; omega) ?_; intro v6 w6 hown6 hg6 hv6; rw [Nat.zero_add, List.nil_append] at hown6; obtain ⟨A6, c6, rfl, _, _, _⟩ := ReadsK.of_own hown6; have hr6 : Row w6 g 52 ((L.flatMap enC).set (k * 2) (.int .i64 d)) := (hr5.alloc _).grown hg6 (fun e => by have h9 : g = w5.heap.size := Option.some.inj e; have := Hs5.out; omega); have hB6 : Below w.heap.size w w6 := below_grown hBa hown0 (by omega) hBa.size hg6)
        | (refine wpList_store_cellO rfl 50 (.tmp 32) (.tmp 30) rfl g (k * 2 + 1) (.slice A6 (P.length) c6) rfl rfl 52 _ hr6 (by rw [List.length_set, hfl]; omega) rfl (by kernel_rfl) w.heap.size w hB6 hwg ?_; intro w7 hr7 hB7 hs7 hk7))
      have hs8 : g + 1 ≤ w7.heap.size := by
        have h1 := hg6.size
        have h2 := Hs5.out
        simp at h1
        omega
      have hr8 : Row w7 g 52 ((L.set k (⟨A6, P.length, c6⟩, (d, P))).flatMap enC) := by rw [← flat_set L k (by rw [HL.out]; exact hlt)]; exact hr7
      have HL8 : Hid ((L.set k (⟨A6, P.length, c6⟩, (d, P))).length = n) := Lib.hid (by rw [List.length_set, HL.out])
      have HV8 : Hid (∀ j, j < k + 1 → enAt (vals (L.set k (⟨A6, P.length, c6⟩, (d, P)))) j = enAt (vals l) j) := Lib.hid (fun j hj => by
        rw [vals_set, enAt_set _ _ _ _ (by rw [vals, List.length_map, HL.out]; exact hlt)]
        by_cases h : j = k
        · subst h
          rw [if_pos rfl, Hen.out]
        · rw [if_neg h]
          exact HV.out j (by omega))
      have HO8 : Hid (∀ x ∈ L.set k (⟨A6, P.length, c6⟩, (d, P)), w7.ownsRow (g + 1) 3 1 (.slice x.1.A x.1.n x.1.c) x.1.n (ints .i64 x.2.2)) := Lib.hid (fun x hx => by
        rcases List.mem_or_eq_of_mem_set hx with hx | rfl
        · have h1 := HO.out x hx
          have h2 := h1.kept (grown_of hB hB5 Hs5.out hk5) (.inr fun e => by have := (h1.lt _ e).1; omega)
          have h3 := (h2.alloc (.cells #[] 3)).kept hg6 (.inr fun e => by have := (h1.lt w5.heap.size e).2; have := Hs5.out; omega)
          exact h3.kept (grown_of hB6 hB7 hs7 hk7) (.inr fun e => by have := (h1.lt _ e).1; omega)
        · have h1 := hown6.kept (grown_of hB6 hB7 hs7 hk7) (.inr fun e => by have := (hown6.lt _ e).1; omega)
          simpa using h1)
      clear hr7
      go_roundw
      case rel => exact ⟨k + 1, _, by omega, by go_num, HL8.out, HV8, hr8, HO8, hB7, hs8⟩
      case measure => simp [intOf]; omega
    · have hlt' : ¬ (k : Int) < (n : Int) := by omega
      obtain rfl : n = k := by omega
      have HV9 : Hid (vals L = vals l) := Lib.hid (enAt_ext _ _ (by rw [Hvl.out, vals, List.length_map, hL]) (fun j hj => HV.out j (by rw [vals, List.length_map, hL] at hj; exact hj)))
      have hre : ReadsE wr wr.heap.size (some ⟨g, 0, none⟩) n n L := by
        have h1 := hrow.reads (n := n * 2) (by rw [rec_len enC_len, hL])
        refine ⟨⟨h1.len, Nat.le_refl _, fun h => h1.at_ (by omega)⟩, fun x hx => ?_⟩
        obtain ⟨A', c', e, hr, _⟩ := ownsRow_slice (HO.out x hx)
        injection e with e1 e2 e3
        rw [e1, e3]
        exact hr
      clear hrow hL
      go_wp2
      go_ret
      exact ⟨g, rfl, L, hre, HV9.out, hB⟩
end Go.Proofs.Ytbbjlijdodnjaaa
