/- MatchNots, walked: printed by wip/bin/gen_matnots.py. -/
import Derived.Test.YtgjdjggakkmbgaaMatLawsA
import Derived.Test.YtgjdjggakkmbgaaMatTree
import Derived.Test.YtgjdjggakkmbgaaMatSameI
import Derived.Test.YtgjdjggakkmbgaaMatRisen
import Derived.Test.YtgjdjggakkmbgaaMatGreat
import Derived.Test.YtgjdjggakkmbgaaMatNotMath
namespace Go.Proofs.Ytgjdjggakkmbgaa
open Go.RowKit

theorem evalL_len (all : List Int) (nd : NodeM) (lv : List (List Fd)) : (evalL all nd lv).length ≤ all.length := List.length_filter_le _ _
set_option maxRecDepth 100000 in
set_option maxHeartbeats 20000000 in
theorem walkMatchNots {w : World} (nd : NodeM) (hx : ReadsNd w w.heap.size nd ∧ TermsOk nd) (all : List Int) (Aa : Option Addr) (na ca : Nat) (ha : Reads w w.heap.size Aa na ca (ints .i64 all)) (_ : ∀ x ∈ all, (Lit.int .i64 x).wf = true) (lvs : List Lf) (A : Option Addr) (n c : Nat) (hl : ReadsF w w.heap.size A n c lvs) (hc : c ≤ maxLen) (hlc : ∀ x ∈ lvs, x.1.c ≤ maxLen) :
    Calls Try.prog 4 #[.agg (ndC nd).toArray, .slice Aa na ca, .slice A n c] w fun e w' => e = .returned (.bool true) ∧ Below w.heap.size w w' := by
  obtain ⟨hn, hto⟩ := hx
  have HF := fixed_any
  have Hlc := Lib.hid hlc
  have lx : all.length = na := by simpa using ha.len
  have Lx := Lib.hid lx
  obtain ⟨kind, field, ⟨tA, tn, tc⟩, ⟨kA, kn, kcp⟩, kids⟩ := nd
  have hrow := Row.new w 31 [.int .i64 kind, .int .u8 field, .slice tA tn tc, .slice kA kn kcp]
  have hB0 : Below w.heap.size w (w.alloc (.cells #[.int .i64 kind, .int .u8 field, .slice tA tn tc, .slice kA kn kcp] 31)) := (Below.refl _ _).alloc (Nat.le_refl _) _
  have HG := greatN_any (.mk kind field ⟨tA, tn, tc⟩ ⟨kA, kn, kcp⟩ kids) (w.alloc (.cells #[.int .i64 kind, .int .u8 field, .slice tA tn tc, .slice kA kn kcp] 31)) w.heap.size (hn.blw hB0) hto hB0.size
  have hs0 : (w.alloc (.cells #[.int .i64 kind, .int .u8 field, .slice tA tn tc, .slice kA kn kcp] 31)).heap.size = w.heap.size + 1 := by simp
  have q0 : (w.alloc (.cells #[.int .i64 kind, .int .u8 field, .slice tA tn tc, .slice kA kn kcp] 31)).cell? ⟨w.heap.size, 0, none⟩ = some (.int .i64 kind) := hrow.cell 0
  have q1 : (w.alloc (.cells #[.int .i64 kind, .int .u8 field, .slice tA tn tc, .slice kA kn kcp] 31)).cell? ⟨w.heap.size, 1, none⟩ = some (.int .u8 field) := hrow.cell 1
  have q2 : (w.alloc (.cells #[.int .i64 kind, .int .u8 field, .slice tA tn tc, .slice kA kn kcp] 31)).cell? ⟨w.heap.size, 2, none⟩ = some (.slice tA tn tc) := hrow.cell 2
  have q3 : (w.alloc (.cells #[.int .i64 kind, .int .u8 field, .slice tA tn tc, .slice kA kn kcp] 31)).cell? ⟨w.heap.size, 3, none⟩ = some (.slice kA kn kcp) := hrow.cell 3
  simp only [ndC] at HG ⊢
  go_enter Try.func4, Try.ntmps4
  go_wp2_with fail
  refine HG.mono ?_
  clear HG q0 q1 q2 q3
  rintro e w1 ⟨hge, hb1⟩
  have hB1 : Below w.heap.size w w1 := hB0.trans (hb1.mono hB0.size)
  have hrow1 := hrow.call hb1
  have hsz1 : w.heap.size + 1 ≤ w1.heap.size := by have := hb1.size; omega
  clear hrow hb1 hB0 hs0
  rcases hge with rfl | rfl
  · go_wp2_with fail
    refine (HF _).mono ?_
    rintro e w2 ⟨rfl, hb2⟩
    go_wp2
    go_ret
    exact ⟨rfl, then_ hB1 hb2⟩
  have HR := risen_any all lvs Aa na ca A n c w1 ((ha.below hB1).more hB1.size) ((hl.below hB1).more hB1.size) hlc
  go_wp2_with fail
  refine HR.mono ?_
  clear HR
  rintro e w2 ⟨hge, hb2⟩
  have hB2 := then_ hB1 hb2
  have hrow2 := hrow1.call hb2
  have hsz2 : w.heap.size + 1 ≤ w2.heap.size := by have := hb2.size; omega
  clear hrow1 hb2 hB1 hsz1
  rcases hge with rfl | ⟨rfl, hr, hal⟩
  · go_wp2_with fail
    refine (HF _).mono ?_
    rintro e w3 ⟨rfl, hb3⟩
    go_wp2
    go_ret
    exact ⟨rfl, then_ hB2 hb3⟩
  have q0 : w2.cell? ⟨w.heap.size, 0, none⟩ = some (.int .i64 kind) := hrow2.cell 0
  have q1 : w2.cell? ⟨w.heap.size, 1, none⟩ = some (.int .u8 field) := hrow2.cell 1
  have q2 : w2.cell? ⟨w.heap.size, 2, none⟩ = some (.slice tA tn tc) := hrow2.cell 2
  have q3 : w2.cell? ⟨w.heap.size, 3, none⟩ = some (.slice kA kn kcp) := hrow2.cell 3
  have rk := blt w2 31 [.int .i64 kind, .int .u8 field, .slice tA tn tc, .slice kA kn kcp]
  have hB3 := hB2.alloc hB2.size (.cells #[.int .i64 kind, .int .u8 field, .slice tA tn tc, .slice kA kn kcp] 31)
  have hr3 := hrow2.alloc (.cells #[.int .i64 kind, .int .u8 field, .slice tA tn tc, .slice kA kn kcp] 31)
  have hs3 : (w2.alloc (.cells #[.int .i64 kind, .int .u8 field, .slice tA tn tc, .slice kA kn kcp] 31)).heap.size = w2.heap.size + 1 := by simp
  go_wp2_with fail
  obtain ⟨b, hb⟩ : ∃ b, w2.heap.size = b := ⟨_, rfl⟩
  rw [hb] at rk hs3 hsz2
  try rw [hb]
  generalize w2.alloc (.cells #[.int .i64 kind, .int .u8 field, .slice tA tn tc, .slice kA kn kcp] 31) = w3 at *
  have rN := Row.new w3 31 [.int .i64 4, .int .u8 0, .slice none 0 0, .slice (some ⟨b, 0, none⟩) 1 1]
  rw [hs3] at rN
  have rk4 := rk.alloc (by omega) (.cells #[.int .i64 4, .int .u8 0, .slice none 0 0, .slice (some ⟨b, 0, none⟩) 1 1] 31)
  have hB4 := hB3.alloc hB3.size (.cells #[.int .i64 4, .int .u8 0, .slice none 0 0, .slice (some ⟨b, 0, none⟩) 1 1] 31)
  have hr4 := hr3.alloc (.cells #[.int .i64 4, .int .u8 0, .slice none 0 0, .slice (some ⟨b, 0, none⟩) 1 1] 31)
  have hs4 : (w3.alloc (.cells #[.int .i64 4, .int .u8 0, .slice none 0 0, .slice (some ⟨b, 0, none⟩) 1 1] 31)).heap.size = b + 1 + 1 := by simp [hs3]
  generalize w3.alloc (.cells #[.int .i64 4, .int .u8 0, .slice none 0 0, .slice (some ⟨b, 0, none⟩) 1 1] 31) = w4 at *
  clear hB3 hr3 hs3 rk q0 q1 q2 q3 hrow2 hB2
  have q0 : w4.cell? ⟨w.heap.size, 0, none⟩ = some (.int .i64 kind) := hr4.cell 0
  have q1 : w4.cell? ⟨w.heap.size, 1, none⟩ = some (.int .u8 field) := hr4.cell 1
  have q2 : w4.cell? ⟨w.heap.size, 2, none⟩ = some (.slice tA tn tc) := hr4.cell 2
  have q3 : w4.cell? ⟨w.heap.size, 3, none⟩ = some (.slice kA kn kcp) := hr4.cell 3
  have s0 : w4.cell? ⟨b + 1, 0, none⟩ = some (.int .i64 4) := rN.cell 0
  have s1 : w4.cell? ⟨b + 1, 1, none⟩ = some (.int .u8 0) := rN.cell 1
  have s2 : w4.cell? ⟨b + 1, 2, none⟩ = some (.slice none 0 0) := rN.cell 2
  have s3 : w4.cell? ⟨b + 1, 3, none⟩ = some (.slice (some ⟨b, 0, none⟩) 1 1) := rN.cell 3
  have HSB : Hid (∀ w', Below w4.heap.size w4.drew w' → (fun w' : World => w'.cell? ⟨w.heap.size, 0, none⟩ = some (.int .i64 kind) ∧ w'.cell? ⟨w.heap.size, 1, none⟩ = some (.int .u8 field) ∧ w'.cell? ⟨w.heap.size, 2, none⟩ = some (.slice tA tn tc) ∧ w'.cell? ⟨w.heap.size, 3, none⟩ = some (.slice kA kn kcp) ∧ w'.cell? ⟨b + 1, 0, none⟩ = some (.int .i64 4) ∧ w'.cell? ⟨b + 1, 1, none⟩ = some (.int .u8 0) ∧ w'.cell? ⟨b + 1, 2, none⟩ = some (.slice none 0 0) ∧ w'.cell? ⟨b + 1, 3, none⟩ = some (.slice (some ⟨b, 0, none⟩) 1 1)) w') :=
    Lib.hid (fun w' hb' => by
      have hw : w.heap.size < w4.heap.size := by omega
      have hb1 : b + 1 < w4.heap.size := by omega
      exact ⟨(hb'.cell hw).trans q0, (hb'.cell hw).trans q1, (hb'.cell hw).trans q2, (hb'.cell hw).trans q3, (hb'.cell hb1).trans s0, (hb'.cell hb1).trans s1, (hb'.cell hb1).trans s2, (hb'.cell hb1).trans s3⟩)
  have hBd : Below w.heap.size w w4.drew := hB4.drew
  have HNN : Hid (∀ w', Below w4.heap.size w4.drew w' → ReadsNd w' w4.heap.size (.mk 4 0 ⟨none, 0, 0⟩ ⟨some ⟨b, 0, none⟩, 1, 1⟩ [.mk kind field ⟨tA, tn, tc⟩ ⟨kA, kn, kcp⟩ kids])) := Lib.hid (fun w' hb' => by
    refine .mk [] (nil_k 3 _ _) ?_ (by simp [maxLen]) (fun k hk => by rw [List.mem_singleton.1 hk]; exact ((hn.blw hB4).more hB4.size).keep (fun p hp => hb'.cell hp))
    exact ((rk4.more (by omega)).keep (w' := w') (B := w4.heap.size) (fun p hp => hb'.cell hp)).many (k := 4) (n := 1) rfl (by omega))
  have HA := Lib.hid (top_any all hr hal (.mk kind field ⟨tA, tn, tc⟩ ⟨kA, kn, kcp⟩ kids) w4.drew w.heap.size Aa na ca A n c lvs (ha.below hBd) (hn.blw hBd) (hl.below hBd) hlc hBd.size hc)
  clear rk4 hr4 rN
  refine wp_region_open (S := (fun w' : World => w'.cell? ⟨w.heap.size, 0, none⟩ = some (.int .i64 kind) ∧ w'.cell? ⟨w.heap.size, 1, none⟩ = some (.int .u8 field) ∧ w'.cell? ⟨w.heap.size, 2, none⟩ = some (.slice tA tn tc) ∧ w'.cell? ⟨w.heap.size, 3, none⟩ = some (.slice kA kn kcp) ∧ w'.cell? ⟨b + 1, 0, none⟩ = some (.int .i64 4) ∧ w'.cell? ⟨b + 1, 1, none⟩ = some (.int .u8 0) ∧ w'.cell? ⟨b + 1, 2, none⟩ = some (.slice none 0 0) ∧ w'.cell? ⟨b + 1, 3, none⟩ = some (.slice (some ⟨b, 0, none⟩) 1 1))) #[false, false, false, false, false, false, false, false, false, false] 10 (by kernel_rfl) (by kernel_rfl) rfl (HSB.out _ (Below.refl _ _)) (fun hHeld => ?_)
  refine tk (i := 0) (v := ?_) rfl (by kernel_rfl) (by kernel_rfl) (by kernel_rfl) (Or.inl ⟨by rfl, ?_⟩) (by assumption) ?_; rotate_left 1
  · intro w hSw; (try dsimp only at hSw); go_simp; try with_reducible rfl
  try simp only [Act.put, List.getElem_toArray, List.getElem_cons_zero, List.setIfInBounds_toArray, List.set_cons_zero, List.set_cons_succ]
  refine tk (i := 1) (v := ?_) rfl (by kernel_rfl) (by kernel_rfl) (by kernel_rfl) (Or.inl ⟨by rfl, ?_⟩) (by assumption) ?_; rotate_left 1
  · intro w hSw; (try dsimp only at hSw); go_simp; try with_reducible rfl
  try simp only [Act.put, List.getElem_toArray, List.getElem_cons_zero, List.getElem_cons_succ, List.setIfInBounds_toArray, List.set_cons_zero, List.set_cons_succ]
  refine tk (i := 2) (v := ?_) rfl (by kernel_rfl) (by kernel_rfl) (by kernel_rfl) (Or.inl ⟨by rfl, ?_⟩) (by assumption) ?_; rotate_left 1
  · intro w hSw; (try dsimp only at hSw); go_simp; try with_reducible rfl
  try simp only [Act.put, List.getElem_toArray, List.getElem_cons_zero, List.getElem_cons_succ, List.setIfInBounds_toArray, List.set_cons_zero, List.set_cons_succ]
  refine tk (i := 4) (v := ?_) rfl (by kernel_rfl) (by kernel_rfl) (by kernel_rfl) (Or.inl ⟨by rfl, ?_⟩) (by assumption) ?_; rotate_left 1
  · intro w hSw; (try dsimp only at hSw); go_simp; try with_reducible rfl
  try simp only [Act.put, List.getElem_toArray, List.getElem_cons_zero, List.getElem_cons_succ, List.setIfInBounds_toArray, List.set_cons_zero, List.set_cons_succ]
  refine tk (i := 5) (v := ?_) rfl (by kernel_rfl) (by kernel_rfl) (by kernel_rfl) (Or.inl ⟨by rfl, ?_⟩) (by assumption) ?_; rotate_left 1
  · intro w hSw; (try dsimp only at hSw); go_simp; try with_reducible rfl
  try simp only [Act.put, List.getElem_toArray, List.getElem_cons_zero, List.getElem_cons_succ, List.setIfInBounds_toArray, List.set_cons_zero, List.set_cons_succ]
  refine tk (i := 6) (v := ?_) rfl (by kernel_rfl) (by kernel_rfl) (by kernel_rfl) (Or.inl ⟨by rfl, ?_⟩) (by assumption) ?_; rotate_left 1
  · intro w hSw; (try dsimp only at hSw); go_simp; try with_reducible rfl
  try simp only [Act.put, List.getElem_toArray, List.getElem_cons_zero, List.getElem_cons_succ, List.setIfInBounds_toArray, List.set_cons_zero, List.set_cons_succ]
  refine wpAnyH_ready (rs := [3]) (by kernel_rfl) (by simp) ?_
  refine AllReadyH.cons (o := _) rfl (fun K hK => ?_) AllReadyH.nil
  go_simp
  go_at_call 15
  refine HA.out.mono ?_
  rintro e w5 ⟨v5, rfl, hown5, hb5⟩
  clear HA
  have hB5 := hBd.trans (hb5.mono hBd.size)
  refine hK.out _ _ (HSB.out _ hb5) (fun hHeld => ?_)
  clear hK K
  try simp only [List.setIfInBounds_toArray, List.set_cons_zero, List.set_cons_succ]
  refine wpAnyH_ready (rs := [7]) (by kernel_rfl) (by simp) ?_
  refine AllReadyH.cons (o := _) rfl (fun K hK => ?_) AllReadyH.nil
  go_simp
  go_at_call 15
  refine (top_any all hr hal (.mk 4 0 ⟨none, 0, 0⟩ ⟨some ⟨b, 0, none⟩, 1, 1⟩ [.mk kind field ⟨tA, tn, tc⟩ ⟨kA, kn, kcp⟩ kids]) w5 w4.heap.size Aa na ca A n c lvs (ha.below hB5 |>.more (by omega)) (HNN.out _ hb5) ((hl.below hB5).more (by omega)) Hlc.out hb5.size hc).mono ?_
  rintro e w6 ⟨v6, rfl, hown6, hb6⟩
  have hb56 := hb5.trans (hb6.mono hb5.size)
  refine hK.out _ _ (HSB.out _ hb56) (fun hHeld => ?_)
  clear hK K
  try simp only [List.setIfInBounds_toArray, List.set_cons_zero, List.set_cons_succ]
  refine tk (i := 8) (v := ?_) rfl (by kernel_rfl) (by kernel_rfl) (by kernel_rfl) (Or.inl ⟨by rfl, ?_⟩) (by assumption) ?_; rotate_left 1
  · intro w hSw; (try dsimp only at hSw); go_simp; try with_reducible rfl
  try simp only [Act.put, List.getElem_toArray, List.getElem_cons_zero, List.getElem_cons_succ, List.setIfInBounds_toArray, List.set_cons_zero, List.set_cons_succ]
  refine tk (i := 9) (v := ?_) rfl (by kernel_rfl) (by kernel_rfl) (by kernel_rfl) (Or.inl ⟨by rfl, ?_⟩) (by assumption) ?_; rotate_left 1
  · intro w hSw; (try dsimp only at hSw); go_simp; try with_reducible rfl
  try simp only [Act.put, List.getElem_toArray, List.getElem_cons_zero, List.getElem_cons_succ, List.setIfInBounds_toArray, List.set_cons_zero, List.set_cons_succ]
  refine wpAnyH_done (by kernel_rfl) ?_ _
  refine NoPanic.normal ?_
  obtain ⟨q, hq⟩ : ∃ q, (evalQ all (.mk kind field ⟨tA, tn, tc⟩ ⟨kA, kn, kcp⟩ kids) (lfV lvs)).1 = q := ⟨_, rfl⟩
  obtain ⟨q', hq'⟩ : ∃ q' : Int → Bool, (fun d => !q d) = q' := ⟨_, rfl⟩
  rw [show evalL all (.mk kind field ⟨tA, tn, tc⟩ ⟨kA, kn, kcp⟩ kids) (lfV lvs) = all.filter q from by rw [evalL, hq]] at hown5
  rw [show evalL all (.mk 4 0 ⟨none, 0, 0⟩ ⟨some ⟨b, 0, none⟩, 1, 1⟩ [.mk kind field ⟨tA, tn, tc⟩ ⟨kA, kn, kcp⟩ kids]) (lfV lvs) = all.filter q' from by rw [evalL, evalQ_not, ← hq', hq]] at hown6
  have hla : (all.filter q).length ≤ na := by rw [← lx]; exact List.length_filter_le _ _
  have hlb : (all.filter q').length ≤ na := by rw [← lx]; exact List.length_filter_le _ _
  have hna : na ≤ 100 := by omega
  have hB6 : Below w.heap.size w w6 := hBd.trans (hb56.mono hBd.size)
  have hsz6 : b + 1 + 1 ≤ w6.heap.size := by have := hb56.size; show b + 1 + 1 ≤ _; rw [← hs4]; exact this
  have HN6 := HNN.out _ hb56
  obtain ⟨A5, c5, rfl, hr5, _, _⟩ := ownsRow_slice hown5
  obtain ⟨A6, c6, rfl, hr6, _, _⟩ := ownsRow_slice hown6
  have hr5 := (hr5.below hb6).more hb6.size
  have t0 := hHeld.2.2.2.2.1
  have t1 := hHeld.2.2.2.2.2.1
  have t2 := hHeld.2.2.2.2.2.2.1
  have t3 := hHeld.2.2.2.2.2.2.2
  clear hHeld hown5 hown6 hb5 hb6 hb56 hB5 HSB HNN q0 q1 q2 q3 s0 s1 s2 s3 hBd hB4
  have rk7 := blt w6 31 [.int .i64 4, .int .u8 0, .slice none 0 0, .slice (some ⟨b, 0, none⟩) 1 1]
  have hB7 := hB6.alloc hB6.size (.cells #[.int .i64 4, .int .u8 0, .slice none 0 0, .slice (some ⟨b, 0, none⟩) 1 1] 31)
  have hr57 := hr5.alloc (Nat.le_refl _) (.cells #[.int .i64 4, .int .u8 0, .slice none 0 0, .slice (some ⟨b, 0, none⟩) 1 1] 31)
  have hr67 := hr6.alloc (Nat.le_refl _) (.cells #[.int .i64 4, .int .u8 0, .slice none 0 0, .slice (some ⟨b, 0, none⟩) 1 1] 31)
  have hs7 : (w6.alloc (.cells #[.int .i64 4, .int .u8 0, .slice none 0 0, .slice (some ⟨b, 0, none⟩) 1 1] 31)).heap.size = w6.heap.size + 1 := by simp
  have HN7 : ReadsNd (w6.alloc (.cells #[.int .i64 4, .int .u8 0, .slice none 0 0, .slice (some ⟨b, 0, none⟩) 1 1] 31)) (w6.heap.size + 1) (.mk 4 0 ⟨none, 0, 0⟩ ⟨some ⟨w6.heap.size, 0, none⟩, 1, 1⟩ [.mk 4 0 ⟨none, 0, 0⟩ ⟨some ⟨b, 0, none⟩, 1, 1⟩ [.mk kind field ⟨tA, tn, tc⟩ ⟨kA, kn, kcp⟩ kids]]) := by
    refine .mk [] (nil_k 3 _ _) (rk7.many (k := 4) (n := 1) rfl (by omega)) (by simp [maxLen]) (fun k hk => ?_)
    rw [List.mem_singleton.1 hk]
    exact (HN6.keep (fun p hp => World.cell?_alloc_lt _ _ p (by omega))).more (by omega)
  have HC := top_any all hr hal _ _ (w6.heap.size + 1) Aa na ca A n c lvs ((ha.below hB7).more (by omega)) HN7 ((hl.below hB7).more (by omega)) Hlc.out (by omega) hc
  rw [show evalL all (.mk 4 0 ⟨none, 0, 0⟩ ⟨some ⟨w6.heap.size, 0, none⟩, 1, 1⟩ [.mk 4 0 ⟨none, 0, 0⟩ ⟨some ⟨b, 0, none⟩, 1, 1⟩ [.mk kind field ⟨tA, tn, tc⟩ ⟨kA, kn, kcp⟩ kids]]) (lfV lvs) = all.filter q from by rw [evalL, evalQ_not, evalQ_not, hq]; simp] at HC
  have Hq' := Lib.hid hq'
  clear rk7 HN7 HN6 hq hq' hn hto hlc
  go_wp2_with fail
  refine HC.mono ?_
  clear HC t0 t1 t2 t3
  rintro e w8 ⟨v8, rfl, hown8, hb8⟩
  have hB8 := hB7.trans (hb8.mono hB7.size)
  obtain ⟨A8, c8, rfl, hr8, _, _⟩ := ownsRow_slice hown8
  have hr58 := (hr57.more (by omega)).below hb8
  have hr68 := (hr67.more (by omega)).below hb8
  have ha8 := ha.below hB8
  have hs8 : w6.heap.size + 1 ≤ w8.heap.size := by have := hb8.size; omega
  clear hown8 hr57 hr67 hb8 hB7
  have hlA : (all.filter q).length = (all.filter q).length := rfl
  obtain ⟨la, hLa⟩ : ∃ la, (all.filter q).length = la := ⟨_, rfl⟩
  obtain ⟨lb, hLb⟩ : ∃ lb, (all.filter q').length = lb := ⟨_, rfl⟩
  rw [hLa] at hla hr58 hr8
  rw [hLb] at hlb hr68
  try rw [hLa]
  try rw [hLb]
  have HLa := Lib.hid hLa
  have HLb := Lib.hid hLb
  have Hr := Lib.hid hr
  clear hLa hLb hlA lx hr5 hr6 hr
  go_wp2_with fail
  go_loopw [11, 12, 43] (fun x y i wr => ∃ t : Nat, t ≤ na ∧ i = .int .i64 (t : Int) ∧ x = .int .i64 (((all.take t).countP q : Nat) : Int) ∧ y = .int .i64 (((all.take t).countP q' : Nat) : Int) ∧ wr = w8) (fun _ _ i _ => na - (intOf i).toNat)
  case atStart => exact ⟨0, by omega, rfl, by simp, by simp, rfl⟩
  case round =>
    obtain ⟨t, ht, rfl, rfl, rfl, rfl⟩ := hrel
    by_cases hlt : t < na
    · have hlt' : (t : Int) < (na : Int) := by omega
      obtain ⟨ad, hta, rfl, hbd, cd⟩ := ha8.int hlt
      have hc1 := mark_len all q t
      have hc2 := mark_len all q' t
      cases hqt : q all[t] with
      | true =>
        have hy := mark_yes all q t hta hqt
        have hs1 : (all.take (t + 1)).countP q = (all.take t).countP q + 1 := by rw [count_s' _ _ _ hta, hqt]; rfl
        have hs2 : (all.take (t + 1)).countP q' = (all.take t).countP q' := by
          have e : q' all[t] = false := by rw [← Hq'.out]; simp [hqt]
          rw [count_s' _ _ _ hta, e]; rfl
        generalize (all.take t).countP q = i at *
        generalize (all.take t).countP q' = k at *
        have hil : i < la := by
          have := (List.getElem?_eq_some_iff.1 hy).1
          rw [HLa.out] at this
          exact this
        obtain ⟨a5, hi5, rfl, _, ci⟩ := hr58.int hil
        rw [List.getElem?_eq_getElem hi5, Option.some.injEq] at hy
        rw [hy] at ci
        have hil' : (i : Int) < (la : Int) := by omega
        have Hs1 := Lib.hid hs1
        have Hs2 := Lib.hid hs2
        generalize all[t] = d at *
        clear hy hs1 hs2
        go_wp2
        go_roundw
        case rel => exact ⟨t + 1, by omega, by go_num, by rw [Hs1.out]; go_num, by rw [Hs2.out], trivial⟩
        case measure => simp [intOf]; omega
      | false =>
        have hq2 : q' all[t] = true := by rw [← Hq'.out]; simp [hqt]
        have hy := mark_yes all q' t hta hq2
        have hno := mark_no Hr.out q t hta hqt
        have hs1 : (all.take (t + 1)).countP q = (all.take t).countP q := by rw [count_s' _ _ _ hta, hqt]; rfl
        have hs2 : (all.take (t + 1)).countP q' = (all.take t).countP q' + 1 := by rw [count_s' _ _ _ hta, hq2]; rfl
        generalize (all.take t).countP q = i at *
        generalize (all.take t).countP q' = k at *
        have hkl : k < lb := by
          have := (List.getElem?_eq_some_iff.1 hy).1
          rw [HLb.out] at this
          exact this
        obtain ⟨a6, hi6, rfl, _, ck⟩ := hr68.int hkl
        rw [List.getElem?_eq_getElem hi6, Option.some.injEq] at hy
        rw [hy] at ck
        have hkl' : (k : Int) < (lb : Int) := by omega
        have Hs1 := Lib.hid hs1
        have Hs2 := Lib.hid hs2
        by_cases hil : i < la
        · have hil' : (i : Int) < (la : Int) := by omega
          obtain ⟨a5, hi5, rfl, _, ci⟩ := hr58.int hil
          have hne := hno _ (List.getElem?_eq_getElem hi5)
          generalize (all.filter q)[i] = z at *
          generalize all[t] = d at *
          have hne' : (z == d) = false := beq_false_of_ne hne
          clear hy hs1 hs2 hno hne
          go_wp2
          go_roundw
          case rel => exact ⟨t + 1, by omega, by go_num, by rw [Hs1.out], by rw [Hs2.out]; go_num, trivial⟩
          case measure => simp [intOf]; omega
        · have hil' : ¬ (i : Int) < (la : Int) := by omega
          generalize all[t] = d at *
          clear hy hs1 hs2 hno
          go_wp2
          go_roundw
          case rel => exact ⟨t + 1, by omega, by go_num, by rw [Hs1.out], by rw [Hs2.out]; go_num, trivial⟩
          case measure => simp [intOf]; omega
    · have hlt' : ¬ (t : Int) < (na : Int) := by omega
      obtain rfl : t = na := by omega
      have e1 : (all.take t).countP q = la := by rw [← Lx.out, List.take_length, ← HLa.out, List.countP_eq_length_filter]
      have e2 : (all.take t).countP q' = lb := by rw [← Lx.out, List.take_length, ← HLb.out, List.countP_eq_length_filter]
      rw [e1, e2]
      clear e1 e2
      go_wp2_with fail
      refine (HF _).mono ?_
      rintro e w9 ⟨rfl, hb9⟩
      have hB9 := then_ hB8 hb9
      have HS := sameI_yes (all.filter q) (all.filter q) A8 A5 la c8 la c5 w9 ((hr8.below hb9).more hb9.size) (((hr58.more (by rw [hs7]; omega)).below hb9).more hb9.size) (by omega) rfl
      go_wp2_with fail
      refine HS.mono ?_
      clear HS
      rintro e w10 ⟨rfl, hb10⟩
      go_wp2
      go_ret
      exact ⟨rfl, then_ hB9 hb10⟩
end Go.Proofs.Ytgjdjggakkmbgaa
