/- The walk of ref20.Top. -/
import Derived.Test.YtdkbiimhdbnplaaRankTop
import Derived.Deep.RegionHeld3
import Derived.Deep.AppendLies
namespace Go.Proofs.Ytdkbiimhdbnplaa
open Go.RowKit

/-- The first greatest one, taken out. -/
theorem pick_out (o : Int) (L : List Sc) (k : Nat) (hk : k < L.length) (h1 : ∀ t (h : t < L.length), t < k → kk o L[t] < kk o L[k]) (h2 : ∀ t (h : t < L.length), k ≤ t → kk o L[t] ≤ kk o L[k]) :
    sortD (kk o) L = L[k] :: sortD (kk o) (L.take k ++ L.drop (k + 1)) := by
  have e : L = L.take k ++ L[k] :: L.drop (k + 1) := by rw [← List.drop_eq_getElem_cons hk, List.take_append_drop]
  have := sort_pick (kk o) (L.take k) L[k] (L.drop (k + 1)) (fun x hx => by
    obtain ⟨t, ht, rfl⟩ := List.getElem_of_mem hx
    rw [List.getElem_take]
    simp at ht
    exact h1 t (by omega) (by omega)) (fun y hy => by
    obtain ⟨t, ht, rfl⟩ := List.getElem_of_mem hy
    rw [List.getElem_drop]
    simp at ht
    exact h2 _ (by omega) (by omega))
  rw [← e] at this
  exact this
theorem drop_cons {α : Type} {l : List α} {j : Nat} {x : α} {r : List α} (h : l.drop j = x :: r) : l.take (j + 1) = l.take j ++ [x] ∧ l.drop (j + 1) = r := by
  have hj : j < l.length := by
    rcases Nat.lt_or_ge j l.length with h' | h'
    · exact h'
    · rw [List.drop_of_length_le h'] at h; cases h
  rw [List.drop_eq_getElem_cons hj] at h
  injection h with h1 h2
  exact ⟨by rw [List.take_succ_eq_append_getElem hj, h1], h2⟩

def lenOf' : Value → Nat
  | .slice _ n _ => n
  | _ => 0
set_option maxRecDepth 100000 in
set_option maxHeartbeats 1000000 in
theorem refTop_any (l : List Sc) (A : Option Addr) (n c : Nat) (lim o : Int) (w : World) (hx : ReadsK 3 w w.heap.size A n c (l.flatMap scC)) (hsc : ∀ x ∈ l, ScOk x) (hn : n ≤ 100000) (hlim : -9223372036854775808 ≤ lim ∧ lim ≤ 9223372036854775807) :
    Calls Try.prog 13 #[.slice A n c, .int .i64 lim, .int .i64 o] w fun e w' => ∃ v, e = .returned v ∧ w'.ownsRow w.heap.size 32 2 v (topL o lim.toNat l).length ((topL o lim.toNat l).flatMap hitC) ∧ Below w.heap.size w w' := by
  obtain ⟨i0, hi0, hx0, hx1, hx2⟩ := info_parts info_scored
  obtain ⟨i1, hi1, hy0, hy1, hy2⟩ := info_parts info_hit
  have hll := hx.count scC_len (by omega)
  have HSC := Lib.hid hsc
  clear hsc
  have own0 : (w.alloc (.cells #[] 27)).ownsRow w.heap.size 27 3 (.slice (some ⟨w.heap.size, 0, none⟩) 0 0) 0 [] :=
    ⟨rfl, .inr ⟨w.heap.size, 0, #[], rfl, Nat.le_refl _, heap_alloc_new _ _, Nat.le_refl _, by simp [maxLen], rfl, rfl⟩⟩
  have hx' := hx.alloc (Nat.le_refl _) (.cells #[] 27)
  have hB0 := (Below.refl w.heap.size w).alloc (Nat.le_refl _) (.cells #[] 27)
  go_enter Try.func13, Try.ntmps13
  go_wp2_with (at_builtin; refine wpList_append_allK rfl (.tmp 13) (.tmp 14) 22 rfl w.heap.size 27 i0 _ 3 24 Try.underlying22 hi0 hx0 hx1 hx2 rfl (by omega) _ 0 [] own0 w.heap.size A n c _ hx' rfl rfl (scC_one l) (by omega) (by omega) hB0.size ?_; intro v1 w1 hown1 hg1 hob1; have hB1 := below_grown hB0 own0 (Nat.le_refl _) hB0.size hg1; simp only [Nat.zero_add, List.nil_append] at hown1)
  have hBe := hB1.alloc hB1.size (.cells #[] 32)
  have ownE : (w1.alloc (.cells #[] 32)).ownsRow w.heap.size 32 2 (.slice (some ⟨w1.heap.size, 0, none⟩) 0 0) 0 [] :=
    ⟨rfl, .inr ⟨w1.heap.size, 0, #[], rfl, hB1.size, heap_alloc_new _ _, Nat.le_refl _, by simp [maxLen], rfl, rfl⟩⟩
  have ownL := hown1.alloc (.cells #[] 32)
  have hne1 : v1.ownBlock ≠ some w1.heap.size := fun h => by have := (hown1.lt _ h).2; omega
  go_loopw [7, 8] (fun a b wr => ∃ (L : List Sc) (j : Nat), L.length + j = n ∧ Hid (sortD (kk o) L = (sortD (kk o) l).drop j) ∧ Hid (∀ x ∈ L, ScOk x) ∧ wr.ownsRow w.heap.size 27 3 a L.length (L.flatMap scC) ∧ wr.ownsRow w.heap.size 32 2 b j (((sortD (kk o) l).take j).flatMap hitC) ∧ a.ownBlock ≠ b.ownBlock ∧ j ≤ lim.toNat ∧ Below w.heap.size w wr) (fun a _ _ => lenOf' a)
  case atStart =>
    refine ⟨l, 0, by omega, Lib.hid rfl, HSC, ?_, ownE, hne1, by omega, hBe⟩
    rw [hll]; exact ownL
  case round =>
    obtain ⟨L, j, hLj, HS, HL, hownL, hownO, hne, hjl, hB⟩ := hrel
    obtain ⟨A7, c7, rfl, hr7, hm7, hn7⟩ := ReadsK.of_own hownL
    obtain ⟨A8, c8, rfl, hr8, hm8, hn8⟩ := ReadsK.of_own hownO
    obtain ⟨wb, hwb⟩ : ∃ wb, wb = wr := ⟨_, rfl⟩
    subst hwb
    by_cases hL0 : 0 < L.length
    · by_cases hjm : (j : Int) < lim
      · have hL0' : (0 : Int) < (L.length : Int) := by omega
        have hjm' : j < lim.toNat := by omega
        have hLn : L.length ≤ 100000 := by omega
        go_wp2
        go_loopw [9, 28] (fun a i wr => ∃ (i' k' : Nat), i' ≤ L.length ∧ i = .int .i64 i' ∧ a = .int .i64 k' ∧ k' < L.length ∧ k' ≤ i' ∧ Hid (∀ (hk : k' < L.length), (∀ t (h : t < L.length), t < k' → kk o L[t] < kk o L[k']) ∧ ∀ t (h : t < L.length), k' ≤ t → t < i' → kk o L[t] ≤ kk o L[k']) ∧ Below wb.heap.size wb wr) (fun _ i _ => L.length - (intOf i).toNat)
        case atStart => exact ⟨0, 0, by omega, rfl, rfl, hL0, by omega, Lib.hid (fun _ => ⟨fun t _ h => by omega, fun t _ _ h => by omega⟩), Below.refl _ _⟩
        case round =>
          obtain ⟨i, k, hi, rfl, rfl, hk, hki, HM, hBr⟩ := hrel
          by_cases hil : i < L.length
          · obtain ⟨ad, hgi, rfl, hbl, c0, hcell⟩ := (hr7.below hBr).at' scC_len (by omega) hil
            have c0 := c0 _ rfl
            have c1 := hcell 1 _ (by omega) rfl
            have c2 := hcell 2 _ (by omega) rfl
            clear hcell
            obtain ⟨ad', hgk, hae, _, d0, hcell⟩ := (hr7.below hBr).at' scC_len (by omega) hk
            injection hae with hae
            subst hae
            have d0 := d0 _ rfl
            have d1 := hcell 1 _ (by omega) rfl
            have d2 := hcell 2 _ (by omega) rfl
            clear hcell
            have hil' : (i : Int) < (L.length : Int) := by omega
            have hi0 : (0 : Int) ≤ (i : Int) := by omega
            have hk' : (k : Int) < (L.length : Int) := by omega
            have hk0 : (0 : Int) ≤ (k : Int) := by omega
            have HX := Lib.hid (HL.out L[i] (List.getElem_mem hgi))
            have HY := Lib.hid (HL.out L[k] (List.getElem_mem hgk))
            have hstep1 : betB o L[i] L[k] = true → ∀ (hk : i < L.length), (∀ t (h : t < L.length), t < i → kk o L[t] < kk o L[i]) ∧ ∀ t (h : t < L.length), i ≤ t → t < i + 1 → kk o L[t] ≤ kk o L[i] := by
              intro hb _
              have hb' : kk o L[k] < kk o L[i] := by simpa [betB] using hb
              obtain ⟨m1, m2⟩ := HM.out hk
              refine ⟨fun t h ht => ?_, fun t h ht ht2 => ?_⟩
              · rcases Nat.lt_or_ge t k with h' | h'
                · have := m1 t h h'; omega
                · have := m2 t h h' ht; omega
              · obtain rfl : t = i := by omega
                exact Int.le_refl _
            have hstep0 : betB o L[i] L[k] = false → ∀ (hk : k < L.length), (∀ t (h : t < L.length), t < k → kk o L[t] < kk o L[k]) ∧ ∀ t (h : t < L.length), k ≤ t → t < i + 1 → kk o L[t] ≤ kk o L[k] := by
              intro hb _
              have hb' : kk o L[i] ≤ kk o L[k] := by simpa [betB] using hb
              obtain ⟨m1, m2⟩ := HM.out hk
              refine ⟨m1, fun t h ht ht2 => ?_⟩
              rcases Nat.lt_or_ge t i with h' | h'
              · exact m2 t h ht h'
              · obtain rfl : t = i := by omega
                exact hb'
            have HS1 := Lib.hid hstep1
            have HS0 := Lib.hid hstep0
            clear hstep1 hstep0
            generalize hxx : L[i] = x at *
            generalize hyy : L[k] = y at *
            clear hxx hyy
            cases hb : betB o x y
            · have hb0 := Lib.hid (HS0.out hb)
              have HB := Lib.hid hb
              clear HS1 HS0 hb
              obtain ⟨d, id, s⟩ := x
              obtain ⟨d', id', s'⟩ := y
              simp only at c0 c1 c2 d0 d1 d2
              go_wp2
              have hbw := hBr.size
              have hS0 : (fun w' => w'.cell? (ad.add (i * 3)) = some (.int .i64 d) ∧ w'.cell? ⟨(ad.add (i * 3)).block, (ad.add (i * 3)).off + 1, none⟩ = some (.int .u32 id) ∧ w'.cell? ⟨(ad.add (i * 3)).block, (ad.add (i * 3)).off + 2, none⟩ = some (.float .f64 s) ∧ w'.cell? (ad.add (k * 3)) = some (.int .i64 d') ∧ w'.cell? ⟨(ad.add (k * 3)).block, (ad.add (k * 3)).off + 1, none⟩ = some (.int .u32 id') ∧ w'.cell? ⟨(ad.add (k * 3)).block, (ad.add (k * 3)).off + 2, none⟩ = some (.float .f64 s')) wr := ⟨c0, c1, c2, d0, d1, d2⟩
              have hSb : ∀ w3, Below wr.heap.size wr.drew w3 → (fun w' => w'.cell? (ad.add (i * 3)) = some (.int .i64 d) ∧ w'.cell? ⟨(ad.add (i * 3)).block, (ad.add (i * 3)).off + 1, none⟩ = some (.int .u32 id) ∧ w'.cell? ⟨(ad.add (i * 3)).block, (ad.add (i * 3)).off + 2, none⟩ = some (.float .f64 s) ∧ w'.cell? (ad.add (k * 3)) = some (.int .i64 d') ∧ w'.cell? ⟨(ad.add (k * 3)).block, (ad.add (k * 3)).off + 1, none⟩ = some (.int .u32 id') ∧ w'.cell? ⟨(ad.add (k * 3)).block, (ad.add (k * 3)).off + 2, none⟩ = some (.float .f64 s')) w3 := fun w3 hb3 => ⟨(hb3.cell (by rw [add_block]; omega)).trans c0, (hb3.cell (by show (ad.add _).block < _; rw [add_block]; omega)).trans c1, (hb3.cell (by show (ad.add _).block < _; rw [add_block]; omega)).trans c2, (hb3.cell (by rw [add_block]; omega)).trans d0, (hb3.cell (by show (ad.add _).block < _; rw [add_block]; omega)).trans d1, (hb3.cell (by show (ad.add _).block < _; rw [add_block]; omega)).trans d2⟩
              have HSB := Lib.hid hSb
              clear hSb
              go_region_held3 (fun w' => w'.cell? (ad.add (i * 3)) = some (.int .i64 d) ∧ w'.cell? ⟨(ad.add (i * 3)).block, (ad.add (i * 3)).off + 1, none⟩ = some (.int .u32 id) ∧ w'.cell? ⟨(ad.add (i * 3)).block, (ad.add (i * 3)).off + 2, none⟩ = some (.float .f64 s) ∧ w'.cell? (ad.add (k * 3)) = some (.int .i64 d') ∧ w'.cell? ⟨(ad.add (k * 3)).block, (ad.add (k * 3)).off + 1, none⟩ = some (.int .u32 id') ∧ w'.cell? ⟨(ad.add (k * 3)).block, (ad.add (k * 3)).off + 2, none⟩ = some (.float .f64 s')) (first | exact hS0 | exact HSB.out _ hb3) (first | (go_at_call 11; refine (refBetter_any o (d, id, s) (d', id', s') HX.out HY.out _).mono ?_; rw [HB.out]; rintro e w3 ⟨rfl, hb3⟩))
              all_goals
                go_wp2
                go_roundw
                case rel => exact ⟨i + 1, k, by omega, by go_num, rfl, hk, by omega, hb0, hBr.drew.trans (hb3.mono hBr.size)⟩
                case measure => simp [intOf]; omega
            · have hb1 := Lib.hid (HS1.out hb)
              have HB := Lib.hid hb
              clear HS1 HS0 hb
              obtain ⟨d, id, s⟩ := x
              obtain ⟨d', id', s'⟩ := y
              simp only at c0 c1 c2 d0 d1 d2
              go_wp2
              have hbw := hBr.size
              have hS0 : (fun w' => w'.cell? (ad.add (i * 3)) = some (.int .i64 d) ∧ w'.cell? ⟨(ad.add (i * 3)).block, (ad.add (i * 3)).off + 1, none⟩ = some (.int .u32 id) ∧ w'.cell? ⟨(ad.add (i * 3)).block, (ad.add (i * 3)).off + 2, none⟩ = some (.float .f64 s) ∧ w'.cell? (ad.add (k * 3)) = some (.int .i64 d') ∧ w'.cell? ⟨(ad.add (k * 3)).block, (ad.add (k * 3)).off + 1, none⟩ = some (.int .u32 id') ∧ w'.cell? ⟨(ad.add (k * 3)).block, (ad.add (k * 3)).off + 2, none⟩ = some (.float .f64 s')) wr := ⟨c0, c1, c2, d0, d1, d2⟩
              have hSb : ∀ w3, Below wr.heap.size wr.drew w3 → (fun w' => w'.cell? (ad.add (i * 3)) = some (.int .i64 d) ∧ w'.cell? ⟨(ad.add (i * 3)).block, (ad.add (i * 3)).off + 1, none⟩ = some (.int .u32 id) ∧ w'.cell? ⟨(ad.add (i * 3)).block, (ad.add (i * 3)).off + 2, none⟩ = some (.float .f64 s) ∧ w'.cell? (ad.add (k * 3)) = some (.int .i64 d') ∧ w'.cell? ⟨(ad.add (k * 3)).block, (ad.add (k * 3)).off + 1, none⟩ = some (.int .u32 id') ∧ w'.cell? ⟨(ad.add (k * 3)).block, (ad.add (k * 3)).off + 2, none⟩ = some (.float .f64 s')) w3 := fun w3 hb3 => ⟨(hb3.cell (by rw [add_block]; omega)).trans c0, (hb3.cell (by show (ad.add _).block < _; rw [add_block]; omega)).trans c1, (hb3.cell (by show (ad.add _).block < _; rw [add_block]; omega)).trans c2, (hb3.cell (by rw [add_block]; omega)).trans d0, (hb3.cell (by show (ad.add _).block < _; rw [add_block]; omega)).trans d1, (hb3.cell (by show (ad.add _).block < _; rw [add_block]; omega)).trans d2⟩
              have HSB := Lib.hid hSb
              clear hSb
              go_region_held3 (fun w' => w'.cell? (ad.add (i * 3)) = some (.int .i64 d) ∧ w'.cell? ⟨(ad.add (i * 3)).block, (ad.add (i * 3)).off + 1, none⟩ = some (.int .u32 id) ∧ w'.cell? ⟨(ad.add (i * 3)).block, (ad.add (i * 3)).off + 2, none⟩ = some (.float .f64 s) ∧ w'.cell? (ad.add (k * 3)) = some (.int .i64 d') ∧ w'.cell? ⟨(ad.add (k * 3)).block, (ad.add (k * 3)).off + 1, none⟩ = some (.int .u32 id') ∧ w'.cell? ⟨(ad.add (k * 3)).block, (ad.add (k * 3)).off + 2, none⟩ = some (.float .f64 s')) (first | exact hS0 | exact HSB.out _ hb3) (first | (go_at_call 11; refine (refBetter_any o (d, id, s) (d', id', s') HX.out HY.out _).mono ?_; rw [HB.out]; rintro e w3 ⟨rfl, hb3⟩))
              all_goals
                go_wp2
                go_roundw
                case rel => exact ⟨i + 1, i, by omega, by go_num, rfl, hil, by omega, hb1, hBr.drew.trans (hb3.mono hBr.size)⟩
                case measure => simp [intOf]; omega
          · obtain rfl : i = L.length := by omega
            have HP := Lib.hid (pick_out o L k hk (HM.out hk).1 (fun t h h' => (HM.out hk).2 t h h' h))
            have HDC := Lib.hid (drop_cons (HS.out.symm.trans HP.out))
            have HL2 : Hid (∀ x ∈ L.take k ++ L.drop (k + 1), ScOk x) := Lib.hid fun x hx => by
              rcases List.mem_append.1 hx with h | h
              · exact HL.out x (List.mem_of_mem_take h)
              · exact HL.out x (List.mem_of_mem_drop h)
            obtain ⟨ad, hgk, rfl, hbl, c0, hcell⟩ := (hr7.below hBr).at' scC_len (by omega) hk
            have c0 := c0 _ rfl
            have c1 := hcell 1 _ (by omega) rfl
            have c2 := hcell 2 _ (by omega) rfl
            clear hcell HM HP
            have hk' : (k : Int) < (L.length : Int) := by omega
            have hk0 : (0 : Int) ≤ (k : Int) := by omega
            have hk1 : (k : Int) + 1 ≤ (L.length : Int) := by omega
            have hk2 : (0 : Int) ≤ (k : Int) + 1 := by omega
            have hw1 : IntKind.i64.wrap ((k : Int) + 1) = (k : Int) + 1 := IntWalk.i64_in _ (by omega)
            have htn : ((k : Int) + 1).toNat = k + 1 := by omega
            generalize hxx : L[k] = x at *
            clear hxx
            obtain ⟨d, id, s⟩ := x
            simp only at c0 c1 c2
            have hownO1 := (ownsRow_below hownO hBr).drew.alloc (.cells #[.int .u32 id, .float .f64 s] 32)
            have hownL1 := (ownsRow_below hownL hBr).drew.alloc (.cells #[.int .u32 id, .float .f64 s] 32)
            have hBd : Below w.heap.size w wr.drew := (hB.trans (hBr.mono hB.size)).drew
            have hB1 : Below w.heap.size w (wr.drew.alloc (.cells #[.int .u32 id, .float .f64 s] 32)) := hBd.alloc hBd.size _
            have hone : ∀ v ∈ [Value.int .u32 id, .float .f64 s], v.oneCell' = true := by simp [Value.oneCell']
            have hnew : ∀ j u, [Value.int .u32 id, .float .f64 s][j]? = some u → (wr.drew.alloc (.cells #[.int .u32 id, .float .f64 s] 32)).cell? ((⟨wr.heap.size, 0, none⟩ : Addr).add j) = some u := World.news_of_block (cs := #[.int .u32 id, .float .f64 s]) (heap_alloc_new wr.drew _)
            have hBsz : w.heap.size ≤ (wr.drew.alloc (.cells #[.int .u32 id, .float .f64 s] 32)).heap.size := hB1.size
            have hcapL := hr7.cap
            have mixed : Try.prog.follows .mixedOrders = true := by kernel_rfl
            go_wp2
            go_region_law_o (refine step_append_lies _ rfl (.tmp 43) (.tmp 55) 28 rfl w.heap.size 32 i1 _ 2 16 Try.underlying28 hi1 hy0 hy1 hy2 rfl (by omega) _ j _ rfl hownO1 ⟨wr.heap.size, 0, none⟩ 1 1 [.int .u32 id, .float .f64 s] rfl rfl hnew hone (by omega) (by simp only [maxLen]; omega) (by omega) hBsz _ rfl ?_; intro g cap w4 hown4 hg4 hob4 hlt4)
            all_goals
              have hL4 := hownL1.kept hg4 (.inr hne)
              have hB4 := below_grown hB1 hownO1 (Nat.le_refl _) hBsz hg4
              have ownR : (w4.alloc (.cells #[] 27)).ownsRow w4.heap.size 27 3 (.slice (some ⟨w4.heap.size, 0, none⟩) 0 0) 0 [] :=
                ⟨rfl, .inr ⟨w4.heap.size, 0, #[], rfl, Nat.le_refl _, heap_alloc_new _ _, Nat.le_refl _, by simp [maxLen], rfl, rfl⟩⟩
              have hBR : Below w4.heap.size w4 (w4.alloc (.cells #[] 27)) := (Below.refl _ _).alloc (Nat.le_refl _) _
              have hr4 := ((own_reads hL4).alloc (Nat.le_refl _) (.cells #[] 27)).front (m := k) (by omega)
              rw [rec_take scC_len] at hr4
              clear hownL1 hownO1 hB1 hone hnew
              by_cases hck : c7 = k + 1
              · have hcut := (own_reads hL4).cut (m := k + 1) (by omega)
                rw [if_pos hck, rec_drop scC_len] at hcut
                subst hck
                go_wp2_with (first
                  | (at_builtin; refine wpList_append_allK rfl (.tmp 58) (.tmp 61) 22 rfl w4.heap.size 27 i0 _ 3 24 Try.underlying22 hi0 hx0 hx1 hx2 rfl (by omega) _ 0 [] ownR _ (some ad) k (k + 1) _ hr4 rfl rfl (scC_one _) (by omega) (by omega) hBR.size ?_; intro v5 w5 hown5 hg5 hob5; have hBR5 := below_grown hBR ownR (Nat.le_refl _) hBR.size hg5; simp only [Nat.zero_add, List.nil_append] at hown5)
                  | (at_builtin; refine wpList_append_allK rfl (.tmp 63) (.tmp 67) 22 rfl w4.heap.size 27 i0 _ 3 24 Try.underlying22 hi0 hx0 hx1 hx2 rfl (by omega) _ k _ hown5 _ _ (L.length - (k + 1)) (k + 1 - (k + 1)) _ (hcut.below hBR5) rfl (by simp [Act.eval]; omega) (scC_one _) (by omega) (by omega) hBR5.size ?_; intro v6 w6 hown6 hg6 hob6; have hBR6 := below_grown hBR5 hown5 (Nat.le_refl _) hBR5.size hg6))
                obtain ⟨A9, c9, rfl, _, _, _⟩ := ReadsK.of_own hown6
                have e6 : (L.take k ++ L.drop (k + 1)).length = k + (L.length - (k + 1)) := by rw [List.length_append, List.length_take, List.length_drop]; omega
                refine ⟨⟨L.take k ++ L.drop (k + 1), j + 1, by omega, Lib.hid HDC.out.2.symm, HL2, ?_, ?_, fun h => by have := (hown6.lt g h).1; omega, by omega, hB4.trans (hBR6.mono hB4.size)⟩, by show k + (L.length - (k + 1)) < L.length; omega⟩
                · have h := ownsRow_base hown6 hB4.size
                  rw [← List.flatMap_append] at h
                  rw [e6]
                  exact h
                · have h := ownsRow_below hown4 hBR6
                  rw [HDC.out.1, List.flatMap_append, List.flatMap_cons, List.flatMap_nil, List.append_nil]
                  exact h
              · have hcut := (own_reads hL4).cut (m := k + 1) (by omega)
                rw [if_neg hck, rec_drop scC_len] at hcut
                go_wp2_with (first
                  | (at_builtin; refine wpList_append_allK rfl (.tmp 58) (.tmp 61) 22 rfl w4.heap.size 27 i0 _ 3 24 Try.underlying22 hi0 hx0 hx1 hx2 rfl (by omega) _ 0 [] ownR _ (some ad) k c7 _ hr4 rfl rfl (scC_one _) (by omega) (by omega) hBR.size ?_; intro v5 w5 hown5 hg5 hob5; have hBR5 := below_grown hBR ownR (Nat.le_refl _) hBR.size hg5; simp only [Nat.zero_add, List.nil_append] at hown5)
                  | (at_builtin; refine wpList_append_allK rfl (.tmp 63) (.tmp 67) 22 rfl w4.heap.size 27 i0 _ 3 24 Try.underlying22 hi0 hx0 hx1 hx2 rfl (by omega) _ k _ hown5 _ _ (L.length - (k + 1)) (c7 - (k + 1)) _ (hcut.below hBR5) rfl (by simp [Act.eval]) (scC_one _) (by omega) (by omega) hBR5.size ?_; intro v6 w6 hown6 hg6 hob6; have hBR6 := below_grown hBR5 hown5 (Nat.le_refl _) hBR5.size hg6))
                obtain ⟨A9, c9, rfl, _, _, _⟩ := ReadsK.of_own hown6
                have e6 : (L.take k ++ L.drop (k + 1)).length = k + (L.length - (k + 1)) := by rw [List.length_append, List.length_take, List.length_drop]; omega
                refine ⟨⟨L.take k ++ L.drop (k + 1), j + 1, by omega, Lib.hid HDC.out.2.symm, HL2, ?_, ?_, fun h => by have := (hown6.lt g h).1; omega, by omega, hB4.trans (hBR6.mono hB4.size)⟩, by show k + (L.length - (k + 1)) < L.length; omega⟩
                · have h := ownsRow_base hown6 hB4.size
                  rw [← List.flatMap_append] at h
                  rw [e6]
                  exact h
                · have h := ownsRow_below hown4 hBR6
                  rw [HDC.out.1, List.flatMap_append, List.flatMap_cons, List.flatMap_nil, List.append_nil]
                  exact h
      · have htop : topL o lim.toNat l = (sortD (kk o) l).take j := by unfold topL; congr 1; omega
        have hlen : (topL o lim.toNat l).length = j := by rw [htop, List.length_take, sortD_len]; omega
        have HT := Lib.hid htop
        have HN := Lib.hid hlen
        clear htop hlen
        by_cases hL0' : (0 : Int) < (L.length : Int)
        · go_wp2
          try rw [Exit.noGoto_ret]
          go_ret
          exact ⟨.slice A8 j c8, rfl, by rw [HN.out, HT.out]; exact hownO, hB⟩
        · omega
    · have htop : topL o lim.toNat l = (sortD (kk o) l).take j := by
        unfold topL
        rw [List.take_of_length_le (by rw [sortD_len]; omega), List.take_of_length_le (by rw [sortD_len]; omega)]
      have hlen : (topL o lim.toNat l).length = j := by rw [htop, List.length_take, sortD_len]; omega
      have HT := Lib.hid htop
      have HN := Lib.hid hlen
      clear htop hlen
      have hL0' : ¬ (0 : Int) < (L.length : Int) := by omega
      go_wp2
      try rw [Exit.noGoto_ret]
      go_ret
      exact ⟨.slice A8 j c8, rfl, by rw [HN.out, HT.out]; exact hownO, hB⟩
end Go.Proofs.Ytdkbiimhdbnplaa
