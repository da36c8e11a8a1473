/- The walk of slices.Insert at Scored, one element ahead of another one. -/
import Derived.Test.YtdkbiimhdbnplaaRows
import Derived.Test.YtdkbiimhdbnplaaCopyK
import Derived.Lib.AppendZeros
import Derived.Lib.AppendZerosOnto
import Derived.Lib.Overlaps
import Derived.Lib.SliceRun
import Derived.Lib.JoinLaws
import Derived.Laws.Externs
import Derived.WalkKit
import Derived.Lib.Walk
import Derived.Shelf.RegionOpenPlain
namespace Go.Proofs.Ytdkbiimhdbnplaa
open Go.RowKit

theorem splice_mid {α : Type} (p m r c : List α) (h : c.length = m.length) : splice (p ++ (m ++ r)) p.length c = p ++ (c ++ r) := by
  unfold splice
  rw [List.take_left, h, List.drop_append]
  simp
theorem room_row {α : Type} (L xs us : List α) (n i : Nat) (hx : L.take (n * 3) = xs) (hn : (n + 1) * 3 ≤ L.length) (hi : i < n) (hus : us.length = 3) :
    (splice L ((i + 1) * 3) (xs.drop (i * 3))).length = L.length ∧ ((splice (splice L ((i + 1) * 3) (xs.drop (i * 3))) (i * 3) us).take ((n + 1) * 3) = xs.take (i * 3) ++ us ++ xs.drop (i * 3)) ∧ (splice (splice L ((i + 1) * 3) (xs.drop (i * 3))) (i * 3) us).length = L.length := by
  have hxl : xs.length = n * 3 := by rw [← hx, List.length_take]; omega
  obtain ⟨p, hp⟩ : ∃ p, p = xs.take (i * 3) := ⟨_, rfl⟩
  obtain ⟨q, hq⟩ : ∃ q, q = xs.drop (i * 3) := ⟨_, rfl⟩
  have hpl : p.length = i * 3 := by rw [hp, List.length_take]; omega
  have hql : q.length = (n - i) * 3 := by rw [hq, List.length_drop, hxl, Nat.sub_mul]
  have e1 : L = p ++ ((L.drop (i * 3)).take 3 ++ ((L.drop ((i + 1) * 3)).take q.length ++ L.drop ((i + 1) * 3 + q.length))) := by
    have h1 : p = L.take (i * 3) := by rw [hp, ← hx, List.take_take]; congr 1; omega
    rw [← List.drop_drop, List.take_append_drop, show (i + 1) * 3 = i * 3 + 3 by omega, ← List.drop_drop, List.take_append_drop, h1, List.take_append_drop]
  obtain ⟨a, ha⟩ : ∃ a, a = (L.drop (i * 3)).take 3 := ⟨_, rfl⟩
  obtain ⟨m, hm⟩ : ∃ m, m = (L.drop ((i + 1) * 3)).take q.length := ⟨_, rfl⟩
  obtain ⟨r, hr⟩ : ∃ r, r = L.drop ((i + 1) * 3 + q.length) := ⟨_, rfl⟩
  have hal : a.length = 3 := by rw [ha, List.length_take, List.length_drop]; omega
  have hml : m.length = q.length := by rw [hm, List.length_take, List.length_drop, hql]; omega
  rw [← ha, ← hm, ← hr] at e1
  rw [← hp, ← hq]
  have e2 : splice L ((i + 1) * 3) q = p ++ (a ++ (q ++ r)) := by
    have := splice_mid (p ++ a) m r q hml.symm
    rw [List.append_assoc, List.append_assoc] at this
    rw [e1, ← this]
    congr 1
    rw [List.length_append, hpl, hal]
    omega
  have e3 : splice (splice L ((i + 1) * 3) q) (i * 3) us = p ++ (us ++ (q ++ r)) := by
    rw [e2, ← hpl, splice_mid p a (q ++ r) us (by rw [hal, hus])]
  have hL : L.length = i * 3 + (3 + (q.length + r.length)) := by rw [e1]; simp [hpl, hal, hml]
  refine ⟨by rw [e2]; simp [hpl, hal, hL], ?_, by rw [e3]; simp [hpl, hus, hL]⟩
  rw [e3, ← List.append_assoc, ← List.append_assoc, List.take_left' (by simp [hpl, hus, hql]; omega)]
theorem grow_row {α : Type} (xs us Z : List α) (n i : Nat) (hx : xs.length = n * 3) (hZ : (n + 1 - i) * 3 ≤ Z.length) (hi : i < n) (hus : us.length = 3) :
    (splice (xs.take (i * 3) ++ Z) (i * 3) us).length = i * 3 + Z.length ∧ (splice (splice (xs.take (i * 3) ++ Z) (i * 3) us) ((i + 1) * 3) (xs.drop (i * 3))).take ((n + 1) * 3) = xs.take (i * 3) ++ us ++ xs.drop (i * 3) ∧
      (splice (splice (xs.take (i * 3) ++ Z) (i * 3) us) ((i + 1) * 3) (xs.drop (i * 3))).length = i * 3 + Z.length := by
  obtain ⟨p, hp⟩ : ∃ p, p = xs.take (i * 3) := ⟨_, rfl⟩
  obtain ⟨q, hq⟩ : ∃ q, q = xs.drop (i * 3) := ⟨_, rfl⟩
  have hpl : p.length = i * 3 := by rw [hp, List.length_take]; omega
  have hql : q.length = (n - i) * 3 := by rw [hq, List.length_drop, hx, Nat.sub_mul]
  rw [← hp, ← hq]
  have e0 : Z = Z.take 3 ++ ((Z.drop 3).take q.length ++ Z.drop (3 + q.length)) := by
    rw [← List.drop_drop, List.take_append_drop, List.take_append_drop]
  obtain ⟨a, ha⟩ : ∃ a, a = Z.take 3 := ⟨_, rfl⟩
  obtain ⟨m, hm⟩ : ∃ m, m = (Z.drop 3).take q.length := ⟨_, rfl⟩
  obtain ⟨r, hr⟩ : ∃ r, r = Z.drop (3 + q.length) := ⟨_, rfl⟩
  have hal : a.length = 3 := by rw [ha, List.length_take]; omega
  have hml : m.length = q.length := by rw [hm, List.length_take, List.length_drop, hql]; omega
  rw [← ha, ← hm, ← hr] at e0
  have e1 : splice (p ++ Z) (i * 3) us = p ++ (us ++ (m ++ r)) := by
    rw [e0, ← hpl, splice_mid p a (m ++ r) us (by rw [hal, hus])]
  have e2 : splice (splice (p ++ Z) (i * 3) us) ((i + 1) * 3) q = p ++ (us ++ (q ++ r)) := by
    have := splice_mid (p ++ us) m r q hml.symm
    rw [List.append_assoc, List.append_assoc] at this
    rw [e1, ← this]
    congr 1
    rw [List.length_append, hpl, hus]
    omega
  have hL : Z.length = 3 + (q.length + r.length) := by rw [e0]; simp [hal, hml]
  refine ⟨by rw [e1]; simp [hpl, hus, hL, hml], ?_, by rw [e2]; simp [hpl, hus, hL]⟩
  rw [e2, ← List.append_assoc, ← List.append_assoc, List.take_left' (by simp [hpl, hus, hql]; omega)]

theorem size_scored : (Try.prog.info? 27).map (·.size) = some 3 := by kernel_rfl

set_option maxHeartbeats 4000000 in
set_option maxRecDepth 100000 in
theorem insert_room (B : Nat) (w : World) (g n cap i vb : Nat) (xs us : List Value) (cur : Array Value) (hBg : B ≤ g) (hg : w.heap[g]? = some (.cells cur 27 (0, 0))) (hcs : cur.size = cap * 3) (hcur : cur.toList.take (n * 3) = xs) (hcm : cap ≤ maxLen)
    (hi : i < n) (hn : n ≤ 1000000) (hroom : n + 1 ≤ cap) (hus : us.length = 3) (hv : w.heap[vb]? = some (.cells us.toArray 27 (0, 0))) (hne : vb ≠ g) (h1x : ∀ v ∈ xs, v.oneCell' = true) (h1u : ∀ v ∈ us, v.oneCell' = true) :
    Calls Try.prog 16 #[.slice (some ⟨g, 0, none⟩) n cap, .int .i64 i, .slice (some ⟨vb, 0, none⟩) 1 1] w fun e w' =>
      ∃ v', e = .returned v' ∧ w'.ownsRow B 27 3 v' (n + 1) (xs.take (i * 3) ++ us ++ xs.drop (i * 3)) ∧ w.grownBy w' (some g) := by
  obtain ⟨r1, r2, r3⟩ := room_row cur.toList xs us n i hcur (by simp [hcs]; omega) hi hus
  have hxl : xs.length = n * 3 := by rw [← hcur, List.length_take]; simp [hcs]; omega
  have hov : ∀ lb cb, (callFunc 21 #[.slice (some ⟨vb, 0, none⟩) 1 1, .slice (some ⟨g, (i + 1) * 3, none⟩) lb cb]).run Try.prog w = .ok (.value (.bool false)) w := fun lb cb => by
    rw [run_callFunc_extern Try.func21 (by kernel_rfl) (by kernel_rfl) (by kernel_rfl) (e := Extern.SlicesOverlaps.overlaps #[22, 22] #[4]) (by kernel_rfl),
      Lib.run_overlaps_apart w 22 4 27 Try.underlying22 3 Try.sizeOf27 ⟨vb, 0, none⟩ ⟨g, (i + 1) * 3, none⟩ 1 1 lb cb hne 27 27 us.length cur.size (by simp [World.shape?, hv]) (by simp [World.shape?, hg]) (by rw [hcs]; omega) (by simp [World.frozen?, hv]) (by simp [World.frozen?, hv])]
    rfl
  have hcell : ∀ j v, xs[j]? = some v → w.cell? ⟨g, j, none⟩ = some v := fun j v hj => by
    rw [← hcur, List.getElem?_take] at hj
    split at hj
    · simp only [World.cell?, hg]
      simpa using hj
    · cases hj
  obtain ⟨W1, hW1⟩ : ∃ W1, W1 = w.drew.setRow g (splice cur.toList ((i + 1) * 3) (xs.drop (i * 3))).toArray := ⟨_, rfl⟩
  have hg1 : W1.heap[g]? = some (.cells (splice cur.toList ((i + 1) * 3) (xs.drop (i * 3))).toArray 27 (0, 0)) := by rw [hW1]; exact setRow_heap w.drew g _ _ _ _ hg
  have hcp1 : ∀ ty dc sc, (Builtin.copy_ #[22, 22] ty #[.slice (some ⟨g, (i + 1) * 3, none⟩) (n - i) dc, .slice (some ⟨g, i * 3, none⟩) (n + 1 - i) sc]).run Try.prog w.drew = .ok (goInt (Nat.min (n + 1 - i) (n - i))) W1 := fun ty dc sc => by
    rw [hW1]
    exact run_copy_rowK w.drew _ _ ty 27 3 g ((i + 1) * 3) (n - i) dc ⟨g, i * 3, none⟩ (n + 1 - i) sc cur 27 (xs.drop (i * 3)) Try.underlying22 size_scored hg (by rw [List.length_drop, hxl, ← Nat.sub_mul]; congr 1; simp only [Nat.min_def]; split <;> omega)
      (fun j v hj => by
        rw [List.getElem?_drop] at hj
        rw [Addr.add_lit]
        exact hcell _ v hj) (by rw [List.length_drop, hxl, hcs]; omega) (fun v hv => h1x v (List.mem_of_mem_drop hv))
  have hv1 : W1.heap[vb]? = some (.cells us.toArray 27 (0, 0)) := by rw [hW1, setRow_other _ _ _ _ hne]; exact hv
  obtain ⟨W2, hW2⟩ : ∃ W2, W2 = W1.setRow g (splice (splice cur.toList ((i + 1) * 3) (xs.drop (i * 3))) (i * 3) us).toArray := ⟨_, rfl⟩
  have hcp2 : ∀ ty dc, (Builtin.copy_ #[22, 22] ty #[.slice (some ⟨g, i * 3, none⟩) (n + 1 - i) dc, .slice (some ⟨vb, 0, none⟩) 1 1]).run Try.prog W1 = .ok (goInt (Nat.min 1 (n + 1 - i))) W2 := fun ty dc => by
    have hm : Nat.min 1 (n + 1 - i) = 1 := by simp only [Nat.min_def]; split <;> omega
    rw [hW2]
    have := run_copy_rowK W1 22 22 ty 27 3 g (i * 3) (n + 1 - i) dc ⟨vb, 0, none⟩ 1 1 _ 27 us (P := Try.prog) Try.underlying22 size_scored hg1 (by rw [hm, hus])
      (fun j v hj => by
        have hj3 : j < us.length := (List.getElem?_eq_some_iff.1 hj).1
        have hx : W1.cell? ⟨vb, j, none⟩ = some v := by simp only [World.cell?, hv1]; simpa using hj
        rw [Addr.add_lit, Nat.zero_add]
        exact hx) (by simp [r1, hus, hcs]; omega) h1u
    simpa using this
  have hgr : w.grownBy W2 (some g) := by
    rw [hW2, hW1]
    exact grown_setRow (grown_setRow (w := w.drew) (w0 := w) ⟨rfl, rfl, rfl, Nat.le_refl _, fun _ _ _ => rfl⟩ _) _
  have hown2 : W2.ownsRow B 27 3 (.slice (some ⟨g, 0, none⟩) (n + 1) cap) (n + 1) (xs.take (i * 3) ++ us ++ xs.drop (i * 3)) := by
    refine ⟨by simp [hxl, hus]; omega, .inr ⟨g, cap, _, rfl, hBg, by rw [hW2]; exact setRow_heap W1 g _ _ _ _ hg1, hroom, hcm, by simp [r3, hcs], by simpa using r2⟩⟩
  have hz2 : ¬ ((i : Int) = (n : Int)) := by omega
  have hz2' : ((i : Int) == (n : Int)) = false := by simp; omega
  have hw0 : IntKind.i64.wrap ((n : Int) + 1) = (n : Int) + 1 := IntWalk.i64_in _ (by omega)
  have hw1 : IntKind.i64.wrap ((i : Int) + 1) = (i : Int) + 1 := IntWalk.i64_in _ (by omega)
  have hc63 : cap ≤ 9223372036854775807 := hcm
  have hrm : ¬ (cap : Int) < (n : Int) + 1 := by omega
  have hrm' : (n : Int) + 1 ≤ (cap : Int) := by omega
  have hb1 : (0 : Int) ≤ (i : Int) + 1 := by omega
  have hb0 : (0 : Int) ≤ (n : Int) + 1 := by omega
  have htn : ((i : Int) + 1).toNat = i + 1 := by omega
  have htm : ((n : Int) + 1).toNat = n + 1 := by omega
  have hb3 : (i : Int) ≤ (n : Int) + 1 := by omega
  have hb5 : (i : Int) + 1 ≤ (n : Int) + 1 := by omega
  have hin : i ≤ n := by omega
  have hb2 : ¬ (cap = i + 1) := by omega
  have hb4 : ¬ (cap = i) := by omega
  have mixed : Try.prog.follows .mixedOrders = true := by kernel_rfl
  clear r1 r2 r3 hcur hcs hv hv1 hg hg1 hxl hcell hus hW1 hW2
  go_enter Try.func16, Try.ntmps16
  go_wp2_with (simp only [hov])
  go_region_law_o (refine step_copy_run rfl _ _ 22 22 rfl _ _ (by simp [Act.eval, Act.put]) (by simp [Act.eval, Act.put]) (hcp1 _ _ _) ?_)
  go_wp2_with (at_builtin; refine wpList_copy_run rfl _ _ 22 22 rfl _ _ rfl rfl (hcp2 _ _) ?_)
  go_ret
  exact ⟨_, rfl, hown2, hgr⟩

theorem info_scored : (Try.prog.info? 27).map (fun i => (i.zero, i.size, i.bytes)) = some (some (.agg #[.int .i64 0, .int .u32 0, .float .f64 0]), 3, 24) := by kernel_rfl
theorem zeroCells_size (cs : Array Value) (k : Nat) : (Builtin.zeroCells cs k).size = k * cs.size := by
  simp [Builtin.zeroCells]
set_option maxHeartbeats 4000000 in
set_option maxRecDepth 100000 in
theorem insert_grow (B : Nat) (w : World) (g n cap i vb : Nat) (xs us : List Value) (cur : Array Value) (hBw : B ≤ w.heap.size) (hg : w.heap[g]? = some (.cells cur 27 (0, 0))) (hcs : cur.size = cap * 3) (hcur : cur.toList.take (n * 3) = xs)
    (hi : i < n) (hn : n ≤ 1000000) (hnc : n ≤ cap) (hroom : cap < n + 1) (hus : us.length = 3) (hv : w.heap[vb]? = some (.cells us.toArray 27 (0, 0))) (_ : vb ≠ g) (h1x : ∀ v ∈ xs, v.oneCell' = true) (h1u : ∀ v ∈ us, v.oneCell' = true) :
    Calls Try.prog 16 #[.slice (some ⟨g, 0, none⟩) n cap, .int .i64 i, .slice (some ⟨vb, 0, none⟩) 1 1] w fun e w' =>
      ∃ v', e = .returned v' ∧ w'.ownsRow B 27 3 v' (n + 1) (xs.take (i * 3) ++ us ++ xs.drop (i * 3)) ∧ w.grownBy w' (some g) := by
  have hxl : xs.length = n * 3 := by rw [← hcur, List.length_take]; simp [hcs]; omega
  have hcell : ∀ j v, xs[j]? = some v → w.cell? ⟨g, j, none⟩ = some v := fun j v hj => by
    rw [← hcur, List.getElem?_take] at hj
    split at hj
    · simp only [World.cell?, hg]
      simpa using hj
    · cases hj
  have hglt : g < w.heap.size := (Array.getElem?_eq_some_iff.1 hg).1
  have hvlt : vb < w.heap.size := (Array.getElem?_eq_some_iff.1 hv).1
  obtain ⟨i0, hi0, hz0, hzs, hzb⟩ := info_parts info_scored
  have hkk : (n : Int) + 1 - (i : Int) = ((n + 1 - i : Nat) : Int) := by omega
  have hik : i + (n + 1 - i) = n + 1 := by omega
  have hold : (Builtin.firstCells i0.size i (.slice (some ⟨g, 0, none⟩) i cap)).run Try.prog w.drew = .ok (xs.take (i * 3)).toArray w.drew := by
    rw [hzs]
    exact run_firstCells_some w.drew 3 i ⟨g, 0, none⟩ i cap (xs.take (i * 3)) (by rw [List.length_take]; omega) (fun j v hj => by
      rw [Addr.add_lit, Nat.zero_add]
      rw [List.getElem?_take] at hj
      split at hj
      · exact hcell j v hj
      · cases hj)
  obtain ⟨G, hG⟩ : ∃ G, G = grownCap w (n + 1) cap 27 := ⟨_, rfl⟩
  have hGn : n + 1 ≤ G := by rw [hG]; exact grownCap_ge w _ _ _
  have hGm : G ≤ maxLen := by
    have := grownCap_le_maxLen w (n + 1) cap 27 (by unfold maxLen; omega)
    rwa [← hG] at this
  obtain ⟨ROW, hROW⟩ : ∃ ROW : Array Value, ROW = (xs.take (i * 3)).toArray ++ Builtin.zeroCells (Value.agg #[.int .i64 0, .int .u32 0, .float .f64 0]).cells (n + 1 - i) ++ Builtin.zeroCells (Value.agg #[.int .i64 0, .int .u32 0, .float .f64 0]).cells (G - (n + 1)) := ⟨_, rfl⟩
  obtain ⟨W1, hW1⟩ : ∃ W1, W1 = w.drew.alloc (.cells ROW 27) := ⟨_, rfl⟩
  have hrz : ∀ ty, (Builtin.append_ #[22, 3] ty #[.slice (some ⟨g, 0, none⟩) i cap, .int .i64 ((n : Int) + 1 - (i : Int))]).run Try.prog w = .ok (.slice (some ⟨w.heap.size, 0, none⟩) (n + 1) G) W1 := fun ty => by
    have h := Lib.run_append_grow_zeros w 22 3 ty 27 i0 _ .i64 .i64 Try.underlying22 Try.underlying3 hi0 hz0 (some ⟨g, 0, none⟩) i cap (xs.take (i * 3)) hold (n + 1 - i) (by omega) (by omega) (by omega) (by omega) (by rw [hzb]; omega) (by rw [hzb, hik]; exact growslice_fits hroom (by omega))
    rw [hik, ← hG, ← hROW, ← hW1] at h
    rw [hkk]
    exact h
  have hZ : ROW.toList = xs.take (i * 3) ++ ((Builtin.zeroCells (Value.agg #[.int .i64 0, .int .u32 0, .float .f64 0]).cells (n + 1 - i)).toList ++ (Builtin.zeroCells (Value.agg #[.int .i64 0, .int .u32 0, .float .f64 0]).cells (G - (n + 1))).toList) := by rw [hROW]; simp
  obtain ⟨Z, hZ'⟩ : ∃ Z, Z = (Builtin.zeroCells (Value.agg #[.int .i64 0, .int .u32 0, .float .f64 0]).cells (n + 1 - i)).toList ++ (Builtin.zeroCells (Value.agg #[.int .i64 0, .int .u32 0, .float .f64 0]).cells (G - (n + 1))).toList := ⟨_, rfl⟩
  have hZl : Z.length = (n + 1 - i) * 3 + (G - (n + 1)) * 3 := by
    rw [hZ', List.length_append, Array.length_toList, Array.length_toList, zeroCells_size, zeroCells_size]
    rfl
  rw [← hZ'] at hZ
  obtain ⟨r1, r2, r3⟩ := grow_row xs us Z n i hxl (by omega) hi hus
  rw [← hZ] at r1 r2 r3
  have hRs : ROW.size = G * 3 := by
    have : ROW.toList.length = G * 3 := by rw [hZ, List.length_append, List.length_take, hZl, hxl]; omega
    simpa using this
  have hg1 : W1.heap[w.heap.size]? = some (.cells ROW 27 (0, 0)) := by rw [hW1]; exact heap_alloc_new w.drew _
  have hv1 : W1.heap[vb]? = some (.cells us.toArray 27 (0, 0)) := by rw [hW1]; exact (heap_alloc_old w.drew _ hvlt).trans hv
  have hgg1 : W1.heap[g]? = some (.cells cur 27 (0, 0)) := by rw [hW1]; exact (heap_alloc_old w.drew _ hglt).trans hg
  obtain ⟨W2, hW2⟩ : ∃ W2, W2 = W1.setRow w.heap.size (splice ROW.toList (i * 3) us).toArray := ⟨_, rfl⟩
  have hcpA : ∀ ty dc, (Builtin.copy_ #[22, 22] ty #[.slice (some ⟨w.heap.size, i * 3, none⟩) (n + 1 - i) dc, .slice (some ⟨vb, 0, none⟩) 1 1]).run Try.prog W1 = .ok (goInt (Nat.min 1 (n + 1 - i))) W2 := fun ty dc => by
    have hm : Nat.min 1 (n + 1 - i) = 1 := by simp only [Nat.min_def]; split <;> omega
    rw [hW2]
    exact run_copy_rowK W1 22 22 ty 27 3 w.heap.size (i * 3) (n + 1 - i) dc ⟨vb, 0, none⟩ 1 1 _ 27 us (P := Try.prog) Try.underlying22 size_scored hg1 (by rw [hm, hus])
      (fun j v hj => by
        have hx : W1.cell? ⟨vb, j, none⟩ = some v := by simp only [World.cell?, hv1]; simpa using hj
        rw [Addr.add_lit, Nat.zero_add]
        exact hx) (by simp [hus, hRs]; omega) h1u
  have hg2 : W2.heap[w.heap.size]? = some (.cells (splice ROW.toList (i * 3) us).toArray 27 (0, 0)) := by rw [hW2]; exact setRow_heap W1 _ _ _ _ _ hg1
  have hgg2 : W2.heap[g]? = some (.cells cur 27 (0, 0)) := by rw [hW2, setRow_other _ _ _ _ (by omega)]; exact hgg1
  obtain ⟨W3, hW3⟩ : ∃ W3, W3 = W2.drew.setRow w.heap.size (splice (splice ROW.toList (i * 3) us) ((i + 1) * 3) (xs.drop (i * 3))).toArray := ⟨_, rfl⟩
  have hcpB : ∀ ty dc sc, (Builtin.copy_ #[22, 22] ty #[.slice (some ⟨w.heap.size, (i + 1) * 3, none⟩) (n - i) dc, .slice (some ⟨g, i * 3, none⟩) (n - i) sc]).run Try.prog W2.drew = .ok (goInt (Nat.min (n - i) (n - i))) W3 := fun ty dc sc => by
    rw [hW3]
    have := run_copy_rowK W2.drew 22 22 ty 27 3 w.heap.size ((i + 1) * 3) (n - i) dc ⟨g, i * 3, none⟩ (n - i) sc _ 27 (xs.drop (i * 3)) (P := Try.prog) Try.underlying22 size_scored hg2 (by rw [List.length_drop, hxl, ← Nat.sub_mul]; congr 1; simp only [Nat.min_def]; split <;> omega)
      (fun j v hj => by
        rw [List.getElem?_drop] at hj
        rw [Addr.add_lit]
        have h1 := hcell _ v hj
        simp only [World.cell?, hg] at h1
        show W2.cell? _ = _
        simp only [World.cell?, hgg2]
        exact h1) (by simp [r1, hxl]; omega) (fun v hv => h1x v (List.mem_of_mem_drop hv))
    simpa using this
  have hgr : w.grownBy W3 (some g) := by
    refine ⟨by rw [hW3, hW2, hW1]; rfl, by rw [hW3, hW2, hW1]; rfl, by rw [hW3, hW2, hW1]; rfl, by rw [hW3, hW2, hW1]; simp [World.setRow], fun k hk _ => ?_⟩
    rw [hW3, setRow_other _ _ _ _ (by omega)]
    show W2.heap[k]? = _
    rw [hW2, setRow_other _ _ _ _ (by omega), hW1]
    exact heap_alloc_old w.drew _ hk
  have hown3 : W3.ownsRow B 27 3 (.slice (some ⟨w.heap.size, 0, none⟩) (n + 1) G) (n + 1) (xs.take (i * 3) ++ us ++ xs.drop (i * 3)) := by
    refine ⟨by simp [hxl, hus]; omega, .inr ⟨w.heap.size, G, _, rfl, hBw, by rw [hW3]; exact setRow_heap W2.drew _ _ _ _ _ hg2, hGn, hGm, by simp [r3]; omega, by simpa using r2⟩⟩
  have hz2 : ¬ ((i : Int) = (n : Int)) := by omega
  have hz2' : ((i : Int) == (n : Int)) = false := by simp; omega
  have hw0 : IntKind.i64.wrap ((n : Int) + 1) = (n : Int) + 1 := IntWalk.i64_in _ (by omega)
  have hw1 : IntKind.i64.wrap ((i : Int) + 1) = (i : Int) + 1 := IntWalk.i64_in _ (by omega)
  have hw2 : IntKind.i64.wrap ((n : Int) + 1 - (i : Int)) = (n : Int) + 1 - (i : Int) := IntWalk.i64_in _ (by omega)
  have hc63 : cap ≤ 1000000 := by omega
  have hrm : (cap : Int) < (n : Int) + 1 := by omega
  have hb1 : (0 : Int) ≤ (i : Int) + 1 := by omega
  have htn : ((i : Int) + 1).toNat = i + 1 := by omega
  have hin : i ≤ n := by omega
  have hin' : (i : Int) ≤ (n : Int) + 1 := by omega
  have hin2 : i ≤ cap := by omega
  have hb5 : (i : Int) + 1 ≤ (n : Int) + 1 := by omega
  have hG63 : G ≤ 9223372036854775807 := hGm
  have hGi : ¬ (G = i) := by omega
  have hGim : ¬ (G = i + 1) := by omega
  have hci : ¬ (cap = i) := by omega
  have mixed : Try.prog.follows .mixedOrders = true := by kernel_rfl
  clear r1 r2 r3 hcur hcs hv hv1 hg hg1 hg2 hgg1 hgg2 hxl hcell hus hW1 hW2 hW3 hG hROW hZ hZ' hZl hRs hold hkk hik hi0 hz0 hzs hzb
  go_enter Try.func16, Try.ntmps16
  go_wp2_with (first
    | (at_builtin; refine Lib.wpList_append_run _ rfl _ _ _ _ rfl _ _ rfl rfl _ _ (hrz _) ?_)
    | (at_builtin; refine wpList_copy_run rfl _ _ 22 22 rfl _ _ rfl rfl (hcpA _ _) ?_))
  go_region_law_o (refine step_copy_run rfl _ _ 22 22 rfl _ _ (by simp [Act.eval, Act.put]) (by simp [Act.eval, Act.put]) (hcpB _ _ _) ?_)
  go_wp2
  go_ret
  exact ⟨_, rfl, hown3, hgr⟩
theorem insert_any (B : Nat) (w : World) (n cap i vb : Nat) (A : Option Addr) (xs us : List Value) (hown : w.ownsRow B 27 3 (.slice A n cap) n xs) (hBw : B ≤ w.heap.size)
    (hi : i < n) (hn : n ≤ 1000000) (hus : us.length = 3) (hv : w.heap[vb]? = some (.cells us.toArray 27 (0, 0))) (hne : ∀ ad, A = some ad → vb ≠ ad.block) (h1x : ∀ v ∈ xs, v.oneCell' = true) (h1u : ∀ v ∈ us, v.oneCell' = true) :
    Calls Try.prog 16 #[.slice A n cap, .int .i64 i, .slice (some ⟨vb, 0, none⟩) 1 1] w fun e w' =>
      ∃ v', e = .returned v' ∧ w'.ownsRow B 27 3 v' (n + 1) (xs.take (i * 3) ++ us ++ xs.drop (i * 3)) ∧ w.grownBy w' (Value.ownBlock (.slice A n cap)) := by
  rcases hown.2 with ⟨_, h⟩ | ⟨g, cap', cur, h1, hBg, hg, hnc, hcm, hcs, hcur⟩
  · omega
  · injection h1 with h1 _ h1'
    subst h1 h1'
    have hne' := hne _ rfl
    by_cases hroom : n + 1 ≤ cap
    · exact insert_room B w g n cap i vb xs us cur hBg hg hcs hcur hcm hi hn hroom hus hv hne' h1x h1u
    · exact insert_grow B w g n cap i vb xs us cur hBw hg hcs hcur hi hn hnc (by omega) hus hv hne' h1x h1u
end Go.Proofs.Ytdkbiimhdbnplaa
