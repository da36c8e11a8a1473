/- BlockEncodes, walked. -/
import Derived.Test.YthjcacnladpbdaaBlkLaws
import Derived.Test.YthjcacnladpbdaaBlkRefEnc
import Derived.Test.YthjcacnladpbdaaBlkSame
import Derived.Test.YthjcacnladpbdaaBlkCopy
import Derived.Test.YthjcacnladpbdaaSame32
import Derived.Test.YthjcacnladpbdaaOpenD
namespace Go.Proofs.Ythjcacnladpbdaa
open Go.RowKit Go.ChangeShapes Go.WideShapes Go.Deep

section
variable {H : Type} {enc : TypeId × Value → H} {w : World} {base : Nat} {spare : Nat → Bool} {held : Bool} {r : Reach} {b0 : Nat} {v : Value} {d : DataW H} {p : List MemPlace}
/-- Entries as they come in, none with more places than the machine has room for. -/
theorem reads_ents_sized (hval : Value.okWide Try.prog w r b0 22 v) (h : DataW.Trod enc Try.prog w base spare held 22 v d p) (hs : ∀ n ∈ d.weights Try.prog 22, n ≤ reachBytes) :
    ∃ A n c, ∃ l : List Ent, v = .slice A n c ∧ ReadsE w w.heap.size A n c l ∧ c ≤ maxLen ∧ (∀ e ∈ vals l, e.2.length ≤ reachBytes) := by
  obtain ⟨a0, len0, cap0, rfl⟩ := okWide_slice Try.underlying22 hval
  obtain ⟨fuel, hf⟩ := h
  obtain ⟨A, n, c, l, hcs, hr, hm, hln, hq⟩ := open_recsD (f := enC) enC_len (by omega) (fun (o : Ent) (d : DataW H) => Reads w w.heap.size o.1.A o.1.n o.1.c (ints .i64 o.2.2) ∧ ((∀ n ∈ d.weights Try.prog 38, n ≤ reachBytes) → o.2.2.length ≤ reachBytes)) Try.underlying22 (by kernel_rfl) (fun cs n y hy => by
    obtain ⟨hl, parts, hpa, hf⟩ := open_cellsD Try.underlying38 (by kernel_rfl) (by kernel_rfl) hy
    obtain ⟨v0, m0, y0, e0, t0, _⟩ := hf 0 _ rfl
    obtain ⟨v1, m1, y1, e1, t1, hp1⟩ := hf 1 _ rfl
    obtain ⟨x0, hx0, -, g0⟩ := DataW.trod_int Try.underlying3 t0
    obtain ⟨A', n', c', P, hcs', hr', hm', hln', hq'⟩ := open_recsD (f := fun x : Int => [Value.int .i64 x]) (k := 1) (fun _ => rfl) (by omega) (fun _ _ => True) Try.underlying36 (by kernel_rfl) (fun cs n y hy => by
      obtain ⟨x, hx, -, _⟩ := DataW.trod_int Try.underlying3 hy
      exact ⟨x, hx, trivial⟩) t1
    simp at hx0 hcs'
    subst hx0 hcs'
    refine ⟨(⟨A', n', c'⟩, (x0, P)), ?_, ⟨by simpa [flat_one, ints] using hr'.len, hr'.cap, by simpa [flat_one, ints] using hr'.at_⟩, fun hwt => ?_⟩
    · match cs, hl, e0, e1 with
      | [q0, q1], _, e0, e1 =>
        simp at e0 e1
        subst e0 e1
        rfl
    · show P.length ≤ reachBytes
      rcases hq' with rfl | ⟨ds, sp, hd, hdl, _⟩
      · simp
      · have hw1 : (ds.length + sp.length) * Try.prog.bytesOf 3 ≤ reachBytes := hwt _ (by
          rw [hpa]
          have h9 : Try.prog.underlying 38 = some (.struct _) := Try.underlying38
          simp only [DataW.weights, h9]
          refine DataW.weights_mem_each (j := 1) (t := 36) (d := y1.1) rfl hp1 _ ?_
          rw [hd]
          simp [DataW.weights, Try.underlying36])
        have hb : Try.prog.bytesOf 3 = 8 := by kernel_rfl
        rw [hb] at hw1
        omega) hf
  simp [Value.cells] at hcs
  obtain ⟨rfl, rfl, rfl⟩ := hcs
  rcases hq with rfl | ⟨ds, sp, hd, hdl, hq⟩
  · exact ⟨_, _, _, [], rfl, ⟨hr, by simp⟩, hm, by simp [vals]⟩
  · have hd : d = .slice ds sp := hd
    have hall : ∀ x ∈ l, Reads w w.heap.size x.1.A x.1.n x.1.c (ints .i64 x.2.2) ∧ x.2.2.length ≤ reachBytes := fun x hx => by
      obtain ⟨dx, hdx, h1, h2⟩ := hq x hx
      refine ⟨h1, h2 fun n hn => hs n ?_⟩
      rw [hd]
      simp only [DataW.weights, Try.underlying22, List.mem_cons, List.mem_append]
      exact .inr (.inl (weightsAll_mem hdx n hn))
    exact ⟨_, _, _, l, rfl, ⟨hr, fun x hx => (hall x hx).1⟩, hm, fun e he => by
      obtain ⟨x, hx, rfl⟩ := List.mem_map.1 he
      exact (hall x hx).2⟩
end

set_option maxRecDepth 100000 in
set_option maxHeartbeats 2000000 in
theorem great_fin (l : List Ent) (A : Option Addr) (n c : Nat) (w : World) (hx : ReadsE w w.heap.size A n c l) (hpl : ∀ e ∈ vals l, e.2.length ≤ reachBytes) :
    Calls Try.prog 8 #[.slice A n c] w fun e w' => (e = .returned (.bool true) ∨ (e = .returned (.bool false) ∧ n ≤ 100 ∧ ∀ e ∈ vals l, e.2.length ≤ 3000)) ∧ Below w.heap.size w w' := by
  by_cases h100 : 100 < n
  · have h100' : (100 : Int) < (n : Int) := by omega
    go_enter Try.func8, Try.ntmps8
    go_wp2
    go_ret
    exact ⟨.inl rfl, Below.refl _ _⟩
  · have h100' : ¬ (100 : Int) < (n : Int) := by omega
    have Hpl := Lib.hid hpl
    have Hvl := Lib.hid hx.vlen
    clear hpl
    go_enter Try.func8, Try.ntmps8
    go_wp2_with fail
    go_loopw [3, 11] (fun s i wr => ∃ (k : Nat) (x : Int), k ≤ n ∧ i = .int .i64 (k : Int) ∧ s = .int .i64 x ∧ 0 ≤ x ∧ x ≤ 3000 ∧ Hid (∀ j, j < k → (enAt (vals l) j).2.length ≤ 3000) ∧ Below w.heap.size w wr) (fun _ i _ => n - (intOf i).toNat)
    case atStart => exact ⟨0, 0, by omega, rfl, rfl, by omega, by omega, Lib.hid (fun j hj => by omega), Below.refl _ _⟩
    case round =>
      obtain ⟨k, x, hk, rfl, rfl, hx0, hx3, HJ, hB⟩ := hrel
      by_cases hlt : k < n
      · obtain ⟨ad, d, P, A', c', rfl, hb, hen, c0, c1, hP⟩ := (hx.below hB).at' hlt
        have hlt' : (k : Int) < (n : Int) := by omega
        have hk0 : (0 : Int) ≤ (k : Int) := by omega
        have hP9 : P.length ≤ 140737488351232 := by
          have hl : k < (vals l).length := by rw [Hvl.out]; exact hlt
          have := Hpl.out _ (List.getElem_mem hl)
          rwa [← enAt_get _ k hl, hen] at this
        have hBa : Below w.heap.size w (wr.alloc (.cells #[.int .i64 d, .slice A' P.length c'] 38)) := hB.alloc hB.size _
        have Hen := Lib.hid hen
        clear hen
        by_cases h3 : 3000 < x + (P.length : Int)
        · go_wp2
          go_ret
          exact ⟨.inl rfl, hBa⟩
        · have HJ2 : Hid (∀ j, j < k + 1 → (enAt (vals l) j).2.length ≤ 3000) := Lib.hid (fun j hj => by
            by_cases h : j = k
            · subst h; rw [Hen.out]; show P.length ≤ 3000; omega
            · exact HJ.out j (by omega))
          go_wp2
          go_roundw
          case rel => exact ⟨k + 1, x + P.length, by omega, by go_num, by go_num, by omega, by omega, HJ2, hBa⟩
          case measure => simp [intOf]; omega
      · have hlt' : ¬ (k : Int) < (n : Int) := by omega
        have hall : Hid (∀ e ∈ vals l, e.2.length ≤ 3000) := Lib.hid (fun e he => by
          obtain ⟨j, hj, rfl⟩ := List.getElem_of_mem he
          rw [← enAt_get _ j hj]
          exact HJ.out j (by have := Hvl.out; omega))
        go_wp2
        go_ret
        exact ⟨.inr ⟨rfl, by omega, fun a b h => hall.out (a, b) h⟩, hB⟩

set_option maxRecDepth 100000 in
set_option maxHeartbeats 20000000 in
theorem walkBlockEncodes {w : World} (l : List Ent) (A : Option Addr) (n c : Nat) (hx : ReadsE w w.heap.size A n c l) (hc : c ≤ maxLen) (hpl : ∀ e ∈ vals l, e.2.length ≤ reachBytes) :
    Calls Try.prog 3 #[.slice A n c] w fun e w' => e = .returned (.bool true) ∧ Below w.heap.size w w' := by
  have HG := great_fin l A n c w hx hpl
  have HF := fixed_any
  clear hpl
  go_enter Try.func3, Try.ntmps3
  go_wp2_with fail
  refine HG.mono ?_
  clear HG
  rintro e w1 ⟨rfl | ⟨rfl, hn, hp⟩, hb1⟩
  · go_wp2_with fail
    refine (HF _).mono ?_
    rintro e w2 ⟨rfl, hb2⟩
    go_wp2
    go_ret
    exact ⟨rfl, then_ hb1 hb2⟩
  · have HC := refCopy_any l A n c w1 ((hx.below hb1).more hb1.size) (by omega) (fun e he => by have := hp e he; omega)
    have Hp := Lib.hid hp
    clear hp
    go_wp2_with fail
    refine HC.mono ?_
    clear HC
    rintro e w2 ⟨g, l2, rfl, hr2, hv2, hb2⟩
    have hB2 := then_ hb1 hb2
    have HE := enc_any l2 _ n n w2 hr2 (by simp only [maxLen]; omega)
    have hel := encA_len (vals l2)
    rw [hv2] at HE hel
    go_wp2_with fail
    refine HE.mono ?_
    clear HE
    rintro e w3 ⟨v3, rfl, hown3, hb3⟩
    have hB3 := then_ hB2 hb3
    have HR := refEnc_any l A n c w3 ((hx.below hB3).more hB3.size) hc
    obtain ⟨A3, c3, rfl, hr3, _, _⟩ := ownsRow_slice hown3
    have Hv2 := Lib.hid hv2
    clear hv2 hown3
    generalize encA (vals l) = EN at *
    obtain ⟨C2, e2⟩ := EN
    simp only at HR hel hr3
    go_wp2_with fail
    refine HR.mono ?_
    clear HR
    rintro e w4 ⟨v4, rfl, hown4, hb4⟩
    have hB4 := then_ hB3 hb4
    obtain ⟨A4, c4, rfl, hr4, _, _⟩ := ownsRow_slice hown4
    clear hown4
    go_wp2_with fail
    refine (HF _).mono ?_
    rintro e w5 ⟨rfl, hb5⟩
    have hB5 := then_ hB4 hb5
    have h35 : Below w3.heap.size w3 w5 := then_ hb4 hb5
    have HS := same32_yes C2 C2 A3 A4 C2.length c3 C2.length c4 w5 ((hr3.below h35).more h35.size) ((hr4.below hb5).more hb5.size) (by omega) rfl
    go_wp2_with fail
    refine HS.mono ?_
    clear HS
    rintro e w6 ⟨rfl, hb6⟩
    have hB6 := then_ hB5 hb6
    have h26 : Below w2.heap.size w2 w6 := then_ (then_ (then_ hb3 hb4) hb5) hb6
    have HS2 := sameE_yes l2 l Hv2.out _ A n n n c w6 ((hr2.below h26).more h26.size) ((hx.below hB6).more hB6.size) (by omega) (fun e he => by rw [Hv2.out] at he; have := Hp.out e he; omega)
    go_wp2_with fail
    refine HS2.mono ?_
    clear HS2
    rintro e w7 ⟨rfl, hb7⟩
    go_wp2
    go_ret
    exact ⟨rfl, then_ hB6 hb7⟩
end Go.Proofs.Ythjcacnladpbdaa
