/- The walk of rank.Top. -/
import Derived.Test.YtdkbiimhdbnplaaRankBet
import Derived.Test.YtdkbiimhdbnplaaRankIns
namespace Go.Proofs.Ytdkbiimhdbnplaa
open Go.RowKit

section
variable {α : Type} {f : α → List Value} {k : Nat}
theorem rec_take (hk : ∀ x, (f x).length = k) : ∀ (l : List α) (j : Nat), (l.flatMap f).take (j * k) = (l.take j).flatMap f
  | l, 0 => by simp
  | [], j + 1 => by simp
  | x :: l, j + 1 => by
    rw [List.flatMap_cons, List.take_succ_cons, List.flatMap_cons, Nat.add_mul, Nat.one_mul, Nat.add_comm, ← hk x, List.take_length_add_append, hk x, rec_take hk l j]
theorem rec_drop (hk : ∀ x, (f x).length = k) : ∀ (l : List α) (j : Nat), (l.flatMap f).drop (j * k) = (l.drop j).flatMap f
  | l, 0 => by simp
  | [], j + 1 => by simp
  | x :: l, j + 1 => by
    rw [List.flatMap_cons, List.drop_succ_cons, Nat.add_mul, Nat.one_mul, Nat.add_comm, ← hk x, List.drop_length_add_append, hk x, rec_drop hk l j]
end
def hitC (x : Sc) : List Value := [.int .u32 x.2.1, .float .f64 x.2.2]
theorem hitC_len (x : Sc) : (hitC x).length = 2 := rfl
theorem scC_one (l : List Sc) : ∀ u ∈ l.flatMap scC, u.oneCell' = true := by
  intro u hu
  simp only [List.mem_flatMap, scC, List.mem_cons, List.not_mem_nil, or_false] at hu
  obtain ⟨s, _, rfl | rfl | rfl⟩ := hu <;> rfl
theorem hitC_one (l : List Sc) : ∀ u ∈ l.flatMap hitC, u.oneCell' = true := by
  intro u hu
  simp only [List.mem_flatMap, hitC, List.mem_cons, List.not_mem_nil, or_false] at hu
  obtain ⟨s, _, rfl | rfl⟩ := hu <;> rfl
def topL (o : Int) (m : Nat) (l : List Sc) : List Sc := (sortD (kk o) l).take m
def curL (o : Int) (m : Nat) (l : List Sc) : List Sc := l.foldl (fun b x => (ins (kk o) x b).take m) []
theorem curL_eq (o : Int) (m : Nat) (l : List Sc) : curL o m l = topL o m l := top_eq (kk o) m l
theorem curL_succ (o : Int) (m : Nat) (l : List Sc) (k : Nat) (hk : k < l.length) : curL o m (l.take (k + 1)) = (ins (kk o) l[k] (curL o m (l.take k))).take m := by
  unfold curL
  rw [List.take_succ_eq_append_getElem hk, List.foldl_append]
  rfl
theorem curL_le (o : Int) (m : Nat) (l : List Sc) : (curL o m l).length ≤ m ∧ (curL o m l).length ≤ l.length := by
  rw [curL_eq, topL, List.length_take, sortD_len]
  omega
theorem curL_ok (o : Int) (m : Nat) (l : List Sc) (h : ∀ x ∈ l, ScOk x) : ∀ x ∈ curL o m l, ScOk x := by
  intro x hx
  rw [curL_eq] at hx
  exact h x ((mem_sortD (kk o) x l).1 (List.mem_of_mem_take hx))
/-- One that stands ahead of the j-th one. -/
theorem cur_hit (o : Int) (x : Sc) (cur : List Sc) (j : Nat) (hj : j < cur.length) (hp : ∀ y ∈ cur.take j, kk o x ≤ kk o y) (hh : betB o x cur[j] = true) : ins (kk o) x cur = cur.take j ++ x :: cur.drop j := by
  have h := ins_at (kk o) x (cur.take j) (cur.drop j) hp (fun y hy => by
    rw [List.head?_drop, List.getElem?_eq_getElem hj] at hy
    injection hy with hy
    subst hy
    simpa [betB] using hh)
  rwa [List.take_append_drop] at h
theorem cur_none (o : Int) (x : Sc) (cur : List Sc) (hp : ∀ y ∈ cur.take cur.length, kk o x ≤ kk o y) : ins (kk o) x cur = cur ++ [x] := by
  have h := ins_at (kk o) x cur [] (fun y hy => hp y (by simpa using hy)) (fun y hy => by simp at hy)
  simpa using h
theorem cur_next (o : Int) (x : Sc) (cur : List Sc) (j : Nat) (hj : j < cur.length) (hp : ∀ y ∈ cur.take j, kk o x ≤ kk o y) (hh : betB o x cur[j] = false) : ∀ y ∈ cur.take (j + 1), kk o x ≤ kk o y := by
  intro y hy
  rw [List.take_succ_eq_append_getElem hj, List.mem_append] at hy
  rcases hy with hy | hy
  · exact hp y hy
  · simp at hy
    subst hy
    simpa [betB] using hh
theorem info_hit : (Try.prog.info? 32).map (fun i => (i.zero, i.size, i.bytes)) = some (some (.agg #[.int .u32 0, .float .f64 0]), 2, 16) := by kernel_rfl

theorem own_reads {w : World} {base n c k : Nat} {e : TypeId} {A : Option Addr} {xs : List Value} (h : w.ownsRow base e k (.slice A n c) n xs) : ReadsK k w w.heap.size A n c xs := by
  obtain ⟨A2, c2, e2, hr, _⟩ := ReadsK.of_own h
  injection e2 with e1 _ e3
  subst e1 e3
  exact hr
theorem own_none {w : World} {base n c k : Nat} {e : TypeId} {A : Option Addr} {xs : List Value} (h : w.ownsRow base e k (.slice A n c) n xs) : A = none → n = 0 := by
  intro hA
  subst hA
  rcases h.2 with ⟨_, h⟩ | ⟨g, cap, cur, h, _⟩
  · exact h
  · injection h with h; cases h
theorem store_float (a : Addr) (m : Mode) (b : Nat) (w : World) : (store a (.float .f64 b) m).run Try.prog w = stored Try.prog w a (.float .f64 b) m := run_store _ _ _ _ _ rfl
set_option maxRecDepth 100000 in
set_option maxHeartbeats 1000000 in
theorem top_any (l : List Sc) (A : Option Addr) (n c : Nat) (lim o : Int) (w : World) (hx : ReadsK 3 w w.heap.size A n c (l.flatMap scC)) (hsc : ∀ x ∈ l, ScOk x) (hn : n ≤ 100000) (hlim : -9223372036854775808 ≤ lim ∧ lim ≤ 9223372036854775807) :
    Calls Try.prog 9 #[.slice A n c, .int .i64 lim, .int .i64 o] w fun e w' => ∃ v, e = .returned v ∧ w'.ownsRow w.heap.size 32 2 v (topL o lim.toNat l).length ((topL o lim.toNat l).flatMap hitC) ∧ Below w.heap.size w w' := by
  obtain ⟨i0, hi0, hx0, hx1, hx2⟩ := info_parts info_scored
  obtain ⟨i1, hi1, hy0, hy1, hy2⟩ := info_parts info_hit
  have hll := hx.count scC_len (by omega)
  have HSC := Lib.hid hsc
  clear hsc
  have hstf := store_float
  go_enter Try.func9, Try.ntmps9
  go_wp2
  go_step3
  go_wp2
  go_step3
  go_wp2
  go_loopw [7, 17] (fun b i wr => ∃ k : Nat, k ≤ n ∧ i = .int .i64 k ∧ wr.ownsRow w.heap.size 27 3 b (curL o lim.toNat (l.take k)).length ((curL o lim.toNat (l.take k)).flatMap scC) ∧ Below w.heap.size w wr) (fun _ i _ => n - (intOf i).toNat)
  case atStart => exact ⟨0, by omega, rfl, World.ownsRow_nil _ _ _ _, Below.refl _ _⟩
  case round =>
    obtain ⟨k, hk, rfl, hown, hB⟩ := hrel
    by_cases hlt : k < n
    · obtain ⟨ad, hkl, rfl, hbl, c0, hcell⟩ := (hx.below hB).at' scC_len (by omega) hlt
      have c0 := c0 _ rfl
      have c1 := hcell 1 _ (by omega) rfl
      have c2 := hcell 2 _ (by omega) rfl
      clear hcell
      have hlt' : (k : Int) < (n : Int) := by omega
      have hk0 : (0 : Int) ≤ (k : Int) := by omega
      have HO := Lib.hid (HSC.out l[k] (List.getElem_mem hkl))
      have HCU := Lib.hid (curL_succ o lim.toNat l k hkl)
      have HLE := curL_le o lim.toNat (l.take k)
      have HOK := Lib.hid (curL_ok o lim.toNat (l.take k) (fun x hx => HSC.out x (List.mem_of_mem_take hx)))
      generalize hxk : l[k] = x at *
      clear hxk
      generalize curL o lim.toNat (l.take k) = cur at *
      have hcn : cur.length ≤ 100000 := by have := HLE.2; rw [List.length_take] at this; omega
      have hcm : cur.length ≤ lim.toNat := HLE.1
      clear HLE
      obtain ⟨A', c', rfl, hr, hcm', hnil⟩ := ReadsK.of_own hown
      obtain ⟨w1, hw1⟩ : ∃ w1, w1 = wr := ⟨_, rfl⟩
      subst hw1
      have hzr := hB.size
      have hrow := Row.new w1 27 (scC x)
      have hownA := hown.alloc (.cells (scC x).toArray 27)
      have hBA := hB.alloc hB.size (.cells (scC x).toArray 27)
      obtain ⟨d, id, s⟩ := x
      simp only [scC] at hrow hownA hBA c0 c1 c2
      go_wp2_with fail
      go_loopw [7, 23] (fun b i w2 => ∃ j : Nat, j ≤ cur.length ∧ b = .slice A' cur.length c' ∧ i = .int .i64 j ∧ Hid (∀ y ∈ cur.take j, kk o (d, id, s) ≤ kk o y) ∧ w2.ownsRow w.heap.size 27 3 (.slice A' cur.length c') cur.length (cur.flatMap scC) ∧ Row w2 w1.heap.size 27 (scC (d, id, s)) ∧ Below w.heap.size w w2 ∧ w1.heap.size + 1 ≤ w2.heap.size) (fun _ i _ => cur.length - (intOf i).toNat)
      case atStart => exact ⟨0, by omega, rfl, rfl, Lib.hid (fun y hy => by simp at hy), hownA, hrow, hBA, by simp⟩
      case round =>
        obtain ⟨j, hj, rfl, rfl, hp, hown2, hrow2, hB2, hz2⟩ := hrel
        clear hr
        by_cases hjl : j < cur.length
        · obtain ⟨ad2, hjk, rfl, hbl2, d0, hcell2⟩ := (own_reads hown2).at' scC_len (by omega) hjl
          have d0 := d0 _ rfl
          have d1 := hcell2 1 _ (by omega) rfl
          have d2 := hcell2 2 _ (by omega) rfl
          clear hcell2
          have hjl' : (j : Int) < (cur.length : Int) := by omega
          have hj0 : (0 : Int) ≤ (j : Int) := by omega
          have HY := Lib.hid (HOK.out cur[j] (List.getElem_mem hjk))
          have hhit := Lib.hid (fun h => cur_hit o (d, id, s) cur j hjk hp.out h)
          have hnext := Lib.hid (fun h => cur_next o (d, id, s) cur j hjk hp.out h)
          generalize hy : cur[j] = y at *
          clear hy
          obtain ⟨d', id', s'⟩ := y
          simp only at d0 d1 d2
          have hrow3 := hrow2.alloc (.cells #[.int .i64 d', .int .u32 id', .float .f64 s'] 27)
          have k0 : (wr.alloc (.cells #[.int .i64 d', .int .u32 id', .float .f64 s'] 27)).cell? ⟨w1.heap.size, 0, none⟩ = some (.int .i64 d) := hrow3.cell 0
          have k1 : (wr.alloc (.cells #[.int .i64 d', .int .u32 id', .float .f64 s'] 27)).cell? ⟨w1.heap.size, 1, none⟩ = some (.int .u32 id) := hrow3.cell 1
          have k2 : (wr.alloc (.cells #[.int .i64 d', .int .u32 id', .float .f64 s'] 27)).cell? ⟨w1.heap.size, 2, none⟩ = some (.float .f64 s) := hrow3.cell 2
          cases hb : betB o (d, id, s) (d', id', s')
          · go_wp2_with fail
            refine (better_any o (d, id, s) (d', id', s') HO.out HY.out _).mono ?_
            rw [hb]
            rintro e w3 ⟨rfl, hb3⟩
            go_wp2
            go_roundw
            case rel => exact ⟨j + 1, by omega, rfl, by go_num, Lib.hid (hnext.out hb), ownsRow_below (hown2.alloc _) hb3, hrow3.call hb3, hB2.alloc hB2.size _ |>.trans (hb3.mono (hB2.alloc hB2.size _).size), by have := hb3.size; simp at this; omega⟩
            case measure => simp [intOf]; omega
          · go_wp2_with fail
            refine (better_any o (d, id, s) (d', id', s') HO.out HY.out _).mono ?_
            rw [hb]
            rintro e w3 ⟨rfl, hb3⟩
            have hrow4 := hrow3.call hb3
            have hB3 : Below w.heap.size w w3 := (hB2.alloc hB2.size _).trans (hb3.mono (hB2.alloc hB2.size _).size)
            have hown3 := ownsRow_below (hown2.alloc _) hb3
            have hz3 : wr.heap.size + 1 ≤ w3.heap.size := by have := hb3.size; simpa using this
            clear k0 k1 k2
            have k0 : w3.cell? ⟨w1.heap.size, 0, none⟩ = some (.int .i64 d) := hrow4.cell 0
            have k1 : w3.cell? ⟨w1.heap.size, 1, none⟩ = some (.int .u32 id) := hrow4.cell 1
            have k2 : w3.cell? ⟨w1.heap.size, 2, none⟩ = some (.float .f64 s) := hrow4.cell 2
            have hnew : (w3.alloc (.cells #[.int .i64 d, .int .u32 id, .float .f64 s] 27)).heap[w3.heap.size]? = some (.cells (scC (d, id, s)).toArray 27 (0, 0)) := heap_alloc_new _ _
            have hownN : (w3.alloc (.cells #[.int .i64 d, .int .u32 id, .float .f64 s] 27)).ownsRow w.heap.size 27 3 (.slice (some ad2) cur.length c') cur.length (cur.flatMap scC) := hown3.alloc _
            have hneA : ∀ ad, some ad2 = some ad → w3.heap.size ≠ ad.block := fun ad h => by injection h with h; subst h; omega
            have hone : ∀ v ∈ scC (d, id, s), v.oneCell' = true := by simp [scC, Value.oneCell']
            have hBw : w.heap.size ≤ (w3.alloc (.cells #[.int .i64 d, .int .u32 id, .float .f64 s] 27)).heap.size := by have := hB3.size; simp; omega
            have HINS := Lib.hid (insert_any w.heap.size (w3.alloc (.cells #[.int .i64 d, .int .u32 id, .float .f64 s] 27)) cur.length c' j w3.heap.size (some ad2) (cur.flatMap scC) (scC (d, id, s)) hownN hBw hjl (by omega) rfl hnew hneA (scC_one _) hone)
            clear hnew hone
            go_wp2_with fail
            refine HINS.out.mono ?_
            rintro e w5 ⟨v5, rfl, hown5, hg5⟩
            have hB5 := below_grown (hB3.alloc hB3.size (.cells #[.int .i64 d, .int .u32 id, .float .f64 s] 27)) hownN (Nat.le_refl _) hBw hg5
            rw [rec_take scC_len, rec_drop scC_len] at hown5
            have e5 : (cur.take j).flatMap scC ++ scC (d, id, s) ++ (cur.drop j).flatMap scC = (ins (kk o) (d, id, s) cur).flatMap scC := by rw [hhit.out hb]; simp
            rw [e5] at hown5
            obtain ⟨A5, c5, rfl, hr5, hm5, _⟩ := ReadsK.of_own hown5
            have hA5 := own_none hown5
            have hcap5 := hr5.cap
            obtain ⟨m', hmm⟩ : ∃ m' : Nat, m' = min (cur.length + 1) lim.toNat := ⟨_, rfl⟩
            have hm' : min ((cur.length : Int) + 1) lim = (m' : Int) := by omega
            have hm0 : m' ≤ cur.length + 1 := by omega
            have hm1 : m' ≤ c5 := by omega
            have hm2 : (m' : Int) ≤ (c5 : Int) := by omega
            have hown7 := ownsRow_front hown5 hm0 (fun h => by have := hA5 h; omega)
            rw [rec_take scC_len] at hown7
            have e7 : curL o lim.toNat (l.take (k + 1)) = (ins (kk o) (d, id, s) cur).take m' := by
              rw [HCU.out, hmm]
              by_cases h : cur.length + 1 ≤ lim.toNat
              · rw [Nat.min_eq_left h, List.take_of_length_le (by rw [ins_length]; exact h), List.take_of_length_le (by rw [ins_length]; omega)]
              · rw [Nat.min_eq_right (by omega)]
            have e8 : (curL o lim.toNat (l.take (k + 1))).length = m' := by rw [e7, List.length_take, ins_length]; omega
            rw [← e7] at hown7
            have HOWN7 := Lib.hid hown7
            have E8 := Lib.hid e8
            clear hown7 e7 e8 hmm hown5
            go_wp2
            refine ⟨⟨k + 1, by omega, by go_num, ?_, hB5⟩, by simp [intOf]; omega⟩
            rw [E8.out]
            exact HOWN7.out
        · obtain rfl : j = cur.length := by omega
          have hap := cur_none o (d, id, s) cur hp.out
          have k0 : wr.cell? ⟨w1.heap.size, 0, none⟩ = some (.int .i64 d) := hrow2.cell 0
          have k1 : wr.cell? ⟨w1.heap.size, 1, none⟩ = some (.int .u32 id) := hrow2.cell 1
          have k2 : wr.cell? ⟨w1.heap.size, 2, none⟩ = some (.float .f64 s) := hrow2.cell 2
          have hone : ∀ v ∈ [Value.int .i64 d, .int .u32 id, .float .f64 s], v.oneCell' = true := by simp [Value.oneCell']
          by_cases hroom : (cur.length : Int) < lim
          · have e7 : curL o lim.toNat (l.take (k + 1)) = cur ++ [(d, id, s)] := by
              rw [HCU.out, hap, List.take_of_length_le (by simp; omega)]
            have E7 := Lib.hid e7
            clear e7 hap
            go_wp2_with (at_builtin; refine wpList_append_oneK rfl (.tmp 48) (.tmp 50) 22 rfl w.heap.size 27 i0 _ 3 24 Try.underlying22 hi0 hx0 hx1 hx2 rfl (by omega) _ cur.length _ [.int .i64 d, .int .u32 id, .float .f64 s] rfl hown2 rfl rfl hone (by omega) (by omega) hB2.size ?_; intro v6 w6 hown6 hg6)
            go_roundw
            case rel => exact ⟨k + 1, by omega, by go_num, by rw [E7.out]; simpa [scC] using hown6, below_grown hB2 hown2 (Nat.le_refl _) hB2.size hg6⟩
            case measure => simp [intOf]; omega
          · have e7 : curL o lim.toNat (l.take (k + 1)) = cur := by
              rw [HCU.out, hap, show lim.toNat = cur.length by omega]
              simp
            have E7 := Lib.hid e7
            clear e7 hap
            go_wp2
            go_roundw
            case rel => exact ⟨k + 1, by omega, by go_num, by rw [E7.out]; exact hown2, hB2⟩
            case measure => simp [intOf]; omega
    · obtain rfl : k = n := by omega
      rw [List.take_of_length_le (by omega), curL_eq] at hown
      have hlen : (topL o lim.toNat l).length ≤ 100000 := by unfold topL; rw [List.length_take, sortD_len]; omega
      generalize htop : topL o lim.toNat l = top at *
      have HT := Lib.hid htop
      clear htop
      obtain ⟨A', c', rfl, hr, hcm', hnil⟩ := ReadsK.of_own hown
      obtain ⟨w1, hw1⟩ : ∃ w1, w1 = wr := ⟨_, rfl⟩
      subst hw1
      go_wp2
      go_loopw [12, 55] (fun b i w2 => ∃ j : Nat, j ≤ top.length ∧ i = .int .i64 j ∧ w2.ownsRow w1.heap.size 32 2 b j ((top.take j).flatMap hitC) ∧ Below w1.heap.size w1 w2) (fun _ i _ => top.length - (intOf i).toNat)
      case atStart => exact ⟨0, by omega, rfl, World.ownsRow_nil _ _ _ _, Below.refl _ _⟩
      case round =>
        obtain ⟨j, hj, rfl, hown2, hB2⟩ := hrel
        by_cases hjl : j < top.length
        · obtain ⟨ad2, hjk, rfl, hbl2, d0, hcell2⟩ := (hr.below hB2).at' scC_len (by omega) hjl
          have d0 := d0 _ rfl
          have d1 := hcell2 1 _ (by omega) rfl
          have d2 := hcell2 2 _ (by omega) rfl
          clear hcell2
          have hjl' : (j : Int) < (top.length : Int) := by omega
          have hj0 : (0 : Int) ≤ (j : Int) := by omega
          have hts := Lib.hid (show (top.take (j + 1)).flatMap hitC = (top.take j).flatMap hitC ++ hitC top[j] from by rw [List.take_succ_eq_append_getElem hjk, List.flatMap_append, List.flatMap_cons, List.flatMap_nil, List.append_nil])
          generalize hy : top[j] = y at *
          clear hy
          obtain ⟨d, id, s⟩ := y
          simp only at d0 d1 d2
          have hone : ∀ v ∈ [Value.int .u32 id, .float .f64 s], v.oneCell' = true := by simp [Value.oneCell']
          have hownA := hown2.alloc (.cells #[.int .i64 d, .int .u32 id, .float .f64 s] 27)
          have hBA := hB2.alloc hB2.size (.cells #[.int .i64 d, .int .u32 id, .float .f64 s] 27)
          go_wp2_with (at_builtin; refine wpList_append_oneK rfl (.tmp 59) (.tmp 65) 28 rfl w1.heap.size 32 i1 _ 2 16 Try.underlying28 hi1 hy0 hy1 hy2 rfl (by omega) _ j _ [.int .u32 id, .float .f64 s] rfl hownA rfl (by show Value.slice (some ⟨wr.heap.size + 1, 0, none⟩) 1 1 = _; simp) hone (by omega) (by omega) hBA.size ?_; intro v6 w6 hown6 hg6)
          go_roundw
          case rel => exact ⟨j + 1, by omega, by go_num, by rw [hts.out]; exact hown6, below_grown hBA hownA (Nat.le_refl _) hBA.size hg6⟩
          case measure => simp [intOf]; omega
        · obtain rfl : j = top.length := by omega
          rw [List.take_of_length_le (Nat.le_refl _)] at hown2
          obtain ⟨A6, c6, rfl, hr6, hm6, hn6⟩ := ReadsK.of_own hown2
          go_wp2
          try rw [Exit.noGoto_ret]
          go_ret
          rw [HT.out]
          exact ⟨.slice A6 top.length c6, rfl, ownsRow_base hown2 hB.size, hB.trans (hB2.mono hB.size)⟩
end Go.Proofs.Ytdkbiimhdbnplaa
