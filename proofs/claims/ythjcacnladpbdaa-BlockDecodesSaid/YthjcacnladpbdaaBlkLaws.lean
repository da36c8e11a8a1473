/- Entries as they come in; great; the examples. -/
import Derived.Test.YthjcacnladpbdaaBlkEnc
import Derived.Test.YthjcacnladpbdaaBlkRefMay
import Derived.Test.YthjcacnladpbdaaSame32
namespace Go.Proofs.Ythjcacnladpbdaa
open Go.RowKit Go.ChangeShapes Go.WideShapes Go.Deep

theorem flat_one {α β : Type} (f : α → β) (l : List α) : l.flatMap (fun x => [f x]) = l.map f := by
  induction l with
  | nil => rfl
  | cons a l ih => rw [List.flatMap_cons, ih]; rfl
section
variable {H : Type} {enc : TypeId × Value → H} {w : World} {base : Nat} {spare : Nat → Bool} {held : Bool} {r : Reach} {b0 : Nat} {v : Value} {d : DataW H} {p : List MemPlace}
theorem reads_ents (hval : Value.okWide Try.prog w r b0 22 v) (h : DataW.Trod enc Try.prog w base spare held 22 v d p) :
    ∃ A n c, ∃ l : List Ent, v = .slice A n c ∧ ReadsE w w.heap.size A n c l ∧ c ≤ maxLen ∧ (∀ x ∈ l, x.1.c ≤ maxLen) := by
  obtain ⟨a0, len0, cap0, rfl⟩ := okWide_slice Try.underlying22 hval
  obtain ⟨fuel, hf⟩ := h
  obtain ⟨A, n, c, l, hcs, hr, hm, hq, -⟩ := open_recs (f := enC) enC_len (by omega) (fun o : Ent => Reads w w.heap.size o.1.A o.1.n o.1.c (ints .i64 o.2.2) ∧ o.1.c ≤ maxLen) Try.underlying22 (by kernel_rfl) (fun cs n y hy => by
    obtain ⟨hl, hf⟩ := open_cells Try.underlying38 (by kernel_rfl) (by kernel_rfl) hy
    obtain ⟨v0, m0, y0, e0, t0⟩ := hf 0 _ rfl
    obtain ⟨v1, m1, y1, e1, t1⟩ := hf 1 _ rfl
    obtain ⟨x0, hx0, -, g0⟩ := DataW.trod_int Try.underlying3 t0
    obtain ⟨A', n', c', P, hcs', hr', hm', -, -⟩ := open_recs (f := fun x : Int => [Value.int .i64 x]) (k := 1) (fun _ => rfl) (by omega) (fun _ => True) Try.underlying36 (by kernel_rfl) (fun cs n y hy => by
      obtain ⟨x, hx, -, _⟩ := DataW.trod_int Try.underlying3 hy
      exact ⟨x, hx, trivial⟩) t1
    simp at hx0 hcs'
    subst hx0 hcs'
    refine ⟨(⟨A', n', c'⟩, (x0, P)), ?_, ⟨by simpa [flat_one, ints] using hr'.len, hr'.cap, by simpa [flat_one, ints] using hr'.at_⟩, hm'⟩
    match cs, hl, e0, e1 with
    | [q0, q1], _, e0, e1 =>
      simp at e0 e1
      subst e0 e1
      rfl) hf
  simp [Value.cells] at hcs
  obtain ⟨rfl, rfl, rfl⟩ := hcs
  exact ⟨_, _, _, l, rfl, ⟨hr, fun x hx => (hq x hx).1⟩, hm, fun x hx => (hq x hx).2⟩
end

set_option maxRecDepth 100000 in
set_option maxHeartbeats 2000000 in
theorem great_any (l : List Ent) (A : Option Addr) (n c : Nat) (w : World) (hx : ReadsE w w.heap.size A n c l) (_ : c ≤ maxLen) :
    Calls Try.prog 8 #[.slice A n c] w fun e w' => (e = .returned (.bool true) ∨ e = .returned (.bool false)) ∧ Below w.heap.size w w' := by
  by_cases h100 : 100 < n
  · have h100' : (100 : Int) < (n : Int) := by omega
    go_enter Try.func8, Try.ntmps8
    go_wp2
    go_ret
    exact ⟨.inl rfl, Below.refl _ _⟩
  · have h100' : ¬ (100 : Int) < (n : Int) := by omega
    go_enter Try.func8, Try.ntmps8
    go_wp2_with fail
    go_loopw [3, 11] (fun s i wr => ∃ k : Nat, k ≤ n ∧ i = .int .i64 (k : Int) ∧ (∃ x : Int, s = .int .i64 x) ∧ Below w.heap.size w wr) (fun _ i _ => n - (intOf i).toNat)
    case atStart => exact ⟨0, by omega, rfl, ⟨0, rfl⟩, Below.refl _ _⟩
    case round =>
      obtain ⟨k, hk, rfl, ⟨x, rfl⟩, hB⟩ := hrel
      by_cases hlt : k < n
      · obtain ⟨ad, d, P, A', c', rfl, hb, hen, c0, c1, hP⟩ := (hx.below hB).at' hlt
        have hlt' : (k : Int) < (n : Int) := by omega
        have hk0 : (0 : Int) ≤ (k : Int) := by omega
        have hBa : Below w.heap.size w (wr.alloc (.cells #[.int .i64 d, .slice A' P.length c'] 38)) := hB.alloc hB.size _
        clear hen
        generalize hs : IntKind.i64.wrap (x + (P.length : Int)) = S
        by_cases h3 : 3000 < S
        · go_wp2
          go_ret
          exact ⟨.inl rfl, hBa⟩
        · go_wp2
          go_roundw
          case rel => exact ⟨k + 1, by omega, by go_num, ⟨_, rfl⟩, hBa⟩
          case measure => simp [intOf]; omega
      · have hlt' : ¬ (k : Int) < (n : Int) := by omega
        go_wp2
        go_ret
        exact ⟨.inr rfl, hB⟩

theorem enc_nil : encA (vals []) = ([0], 0) := by decide +kernel
theorem enc_one : encA [(3, [1, 5])] = ([1, 196608, 67174915], 0) := by decide +kernel
theorem built_reads (w : World) (e : TypeId) (cs : List Value) : Reads (w.alloc (.cells cs.toArray e)) (w.heap.size + 1) (some ⟨w.heap.size, 0, none⟩) cs.length cs.length cs := by
  refine ⟨rfl, Nat.le_refl _, fun _ => ⟨_, rfl, Nat.lt_succ_self _, ?_⟩⟩
  exact World.news_of_block (cs := cs.toArray) (fr := (0, 0)) (heap_alloc_new w _)
theorem one_reads (w : World) : ReadsE ((w.alloc (.cells #[.int .i64 1, .int .i64 5] 3)).alloc (.cells #[.int .i64 3, .slice (some ⟨w.heap.size, 0, none⟩) 2 2] 38)) (w.heap.size + 1 + 1) (some ⟨w.heap.size + 1, 0, none⟩) 1 1 [(⟨some ⟨w.heap.size, 0, none⟩, 2, 2⟩, (3, [1, 5]))] := by
  have h1 := built_reads w 3 [.int .i64 1, .int .i64 5]
  have h2 := built_reads (w.alloc (.cells #[.int .i64 1, .int .i64 5] 3)) 38 [.int .i64 3, .slice (some ⟨w.heap.size, 0, none⟩) 2 2]
  simp only [World.size_alloc] at h2
  refine ⟨⟨rfl, Nat.le_refl _, h2.at_ ∘ fun _ => by simp⟩, fun x hx => ?_⟩
  obtain rfl := List.mem_singleton.1 hx
  exact (h1.alloc (by simp) _).more (Nat.le_succ _)
set_option maxRecDepth 100000 in
set_option maxHeartbeats 2000000 in
theorem fixed_any (w : World) : Calls Try.prog 9 #[] w fun e w' => e = .returned (.bool true) ∧ Below w.heap.size w w' := by
  have HE := enc_any [] none 0 0 w (ReadsE.nil_ _ _ _ _) (by simp [maxLen])
  rw [enc_nil] at HE
  go_enter Try.func9, Try.ntmps9
  go_wp2_with fail
  refine HE.mono ?_
  clear HE
  rintro e w1 ⟨v1, rfl, hown1, hb1⟩
  have hr := one_reads w1
  have hb2 : Below w1.heap.size w1 ((w1.alloc (.cells #[.int .i64 1, .int .i64 5] 3)).alloc (.cells #[.int .i64 3, .slice (some ⟨w1.heap.size, 0, none⟩) 2 2] 38)) := ((Below.refl _ _).alloc (Nat.le_refl _) _).alloc (by simp) _
  have HE := enc_any _ _ 1 1 _ (hr.more (by simp)) (by simp [maxLen])
  rw [show vals [((⟨some ⟨w1.heap.size, 0, none⟩, 2, 2⟩ : Hd), ((3 : Int), [(1 : Int), 5]))] = [(3, [1, 5])] from rfl, enc_one] at HE
  clear hr
  go_wp2_with fail
  refine HE.mono ?_
  clear HE
  rintro e w3 ⟨v3, rfl, hown3, hb3⟩
  have hown1 := ownsRow_below (ownsRow_below hown1 hb2) (hb3.mono (Nat.le_refl _))
  have hB3 := then_ hb1 (hb2.trans (hb3.mono (by simp; omega)))
  have hown3 := ownsRow_base hown3 (show 0 ≤ _ from Nat.zero_le _)
  clear hb1 hb2 hb3
  obtain ⟨A1, c1, rfl, hr1, _, _⟩ := ownsRow_slice hown1
  obtain ⟨A3, c3, rfl, hr3, _, _⟩ := ownsRow_slice hown3
  clear hown1 hown3
  have hr1' := (hr1.alloc (Nat.le_refl _) (.cells #[.int .u32 0] 34)).more (B' := (w3.alloc (.cells #[.int .u32 0] 34)).heap.size) (by simp)
  have hrb := (built_reads w3 34 [.int .u32 0]).more (B' := (w3.alloc (.cells #[.int .u32 0] 34)).heap.size) (by simp)
  have HS := same32_any [0] [0] _ _ 1 _ 1 1 _ hr1' hrb (by omega) (by omega)
  rw [decide_eq_true rfl] at HS
  have hr3' := (hr3.alloc (Nat.le_refl _) (.cells #[.int .u32 0] 34)).more (B' := (w3.alloc (.cells #[.int .u32 0] 34)).heap.size) (by simp)
  have hB4 : Below w.heap.size w (w3.alloc (.cells #[.int .u32 0] 34)) := hB3.alloc hB3.size _
  clear hr1 hr3 hr1' hrb hB3
  go_wp2_with fail
  refine HS.mono ?_
  clear HS
  rintro e w5 ⟨rfl, q, rfl⟩
  generalize w3.alloc (.cells #[.int .u32 0] 34) = w4 at *
  have hr3d := ((hr3'.drewN q).alloc (Nat.le_refl _) (.cells #[.int .u32 1, .int .u32 196608, .int .u32 67174915] 34)).more (B' := ((w4.drewN q).alloc (.cells #[.int .u32 1, .int .u32 196608, .int .u32 67174915] 34)).heap.size) (by simp)
  have hrb := (built_reads (w4.drewN q) 34 [.int .u32 1, .int .u32 196608, .int .u32 67174915]).more (B' := ((w4.drewN q).alloc (.cells #[.int .u32 1, .int .u32 196608, .int .u32 67174915] 34)).heap.size) (by simp)
  have HS := same32_any [1, 196608, 67174915] [1, 196608, 67174915] _ _ 3 _ 3 3 _ hr3d hrb (by omega) (by omega)
  rw [decide_eq_true rfl] at HS
  clear hr3' hr3d hrb
  have hB5 := (below_drewN hB4 q).alloc (o := .cells #[.int .u32 1, .int .u32 196608, .int .u32 67174915] 34) (below_drewN hB4 q).size
  go_wp2_with fail
  refine HS.mono ?_
  clear HS
  rintro e w6 ⟨rfl, q', rfl⟩
  go_wp2
  go_ret
  exact ⟨rfl, below_drewN hB5 q'⟩
end Go.Proofs.Ythjcacnladpbdaa
