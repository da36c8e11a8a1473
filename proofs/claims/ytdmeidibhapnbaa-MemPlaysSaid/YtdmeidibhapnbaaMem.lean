/- The walks of mem's functions. -/
import Derived.Test.YtdmeidibhapnbaaRows
import Derived.LaidEqlPtr
import Derived.Test.YtdmeidibhapnbaaKit
namespace Go.Proofs.Ytdmeidibhapnbaa
open Go.RowKit

/-- Only blocks b and g have turned, and what is new. -/
structure Only2 (b g : Nat) (w w' : World) : Prop where
  os : w'.os = w.os
  tape : w'.tape = w.tape
  output : w'.output = w.output
  size : w.heap.size ≤ w'.heap.size
  block : ∀ k, k < w.heap.size → k ≠ b → k ≠ g → w'.heap[k]? = w.heap[k]?
/-- A memory: block b is the struct, block g its cells. -/
structure MemAt (w : World) (b g n : Nat) (xs : List Int) (lo st : Int) : Prop where
  len : xs.length = n
  own : Row w b 54 [.slice (some ⟨g, 0, none⟩) n n, .int .i64 lo, .int .i64 st]
  row : Row w g 34 (ints .u32 xs)
section
variable {w w' w'' : World} {b g b' g' B n : Nat} {xs : List Int} {lo st : Int} {e : TypeId} {ys : List Value}
theorem Only2.refl (b g : Nat) (w : World) : Only2 b g w w := ⟨rfl, rfl, rfl, Nat.le_refl _, fun _ _ _ _ => rfl⟩
theorem Only2.trans (h : Only2 b g w w') (k : Only2 b g w' w'') : Only2 b g w w'' :=
  ⟨k.os.trans h.os, k.tape.trans h.tape, k.output.trans h.output, Nat.le_trans h.size k.size, fun i hi h1 h2 => (k.block i (Nat.lt_of_lt_of_le hi h.size) h1 h2).trans (h.block i hi h1 h2)⟩
theorem Only2.set1 (h : Only2 b g w w') (i : Nat) (u : Value) : Only2 b g w (w'.setCell ⟨b, i, none⟩ u) :=
  ⟨h.os, h.tape, h.output, by simpa [World.setCell] using h.size, fun k hk h1 h2 => (Below.heap_setCell w' _ u k h1).trans (h.block k hk h1 h2)⟩
theorem Only2.set2 (h : Only2 b g w w') (i : Nat) (u : Value) : Only2 b g w (w'.setCell ⟨g, i, none⟩ u) :=
  ⟨h.os, h.tape, h.output, by simpa [World.setCell] using h.size, fun k hk h1 h2 => (Below.heap_setCell w' _ u k h2).trans (h.block k hk h1 h2)⟩
theorem Only2.drew (h : Only2 b g w w') : Only2 b g w w'.drew := ⟨h.os, h.tape, h.output, h.size, h.block⟩
theorem Only2.drewN (h : Only2 b g w w') (n : Nat) : Only2 b g w (w'.drewN n) := ⟨h.os, h.tape, h.output, h.size, h.block⟩
theorem Only2.row (h : Only2 b g w w') {r : Nat} (hr : Row w r e ys) (h1 : r ≠ b) (h2 : r ≠ g) : Row w' r e ys := (h.block r hr.lt h1 h2).trans hr
theorem Only2.reads (h : Only2 b g w w') {A : Option Addr} {n c : Nat} (hr : Reads w B A n c ys) (hb : B ≤ b) (hg : B ≤ g) (hB : B ≤ w.heap.size) : Reads w' B A n c ys :=
  hr.keep fun p hp => World.cell?_of_block (w := w) (h.block p.block (by omega) (by omega) (by omega))
theorem Only2.mem (h : Only2 b g w w') (hm : MemAt w b' g' n xs lo st) (h1 : b' ≠ b) (h2 : b' ≠ g) (h3 : g' ≠ b) (h4 : g' ≠ g) : MemAt w' b' g' n xs lo st :=
  ⟨hm.len, h.row hm.own h1 h2, h.row hm.row h3 h4⟩
theorem Only2.below {a : World} (h : Only2 b g w w') (hb : Below B a w) (h1 : B ≤ b) (h2 : B ≤ g) (hB : B ≤ w.heap.size) : Below B a w' :=
  hb.trans ⟨h.os, h.tape, h.output, h.size, fun k hk => h.block k (by omega) (by omega) (by omega)⟩
theorem MemAt.ne_ (h : MemAt w b g n xs lo st) (ht : 54 ≠ 34) : b ≠ g := by
  rintro rfl
  have h1 := h.own
  have h2 := h.row
  unfold Row at h1 h2
  rw [h1] at h2
  injection h2 with h2
  injection h2 with _ h2
  exact ht h2
theorem MemAt.c0 (h : MemAt w b g n xs lo st) : w.cell? ⟨b, 0, none⟩ = some (.slice (some ⟨g, 0, none⟩) n n) := h.own.cell 0
theorem MemAt.c1 (h : MemAt w b g n xs lo st) : w.cell? ⟨b, 1, none⟩ = some (.int .i64 lo) := h.own.cell 1
theorem MemAt.c2 (h : MemAt w b g n xs lo st) : w.cell? ⟨b, 2, none⟩ = some (.int .i64 st) := h.own.cell 2
theorem MemAt.below (h : MemAt w b g n xs lo st) (hb : Below w.heap.size w w') : MemAt w' b g n xs lo st := ⟨h.len, h.own.call hb, h.row.call hb⟩
theorem MemAt.drew (h : MemAt w b g n xs lo st) : MemAt w.drew b g n xs lo st := ⟨h.len, h.own.drew, h.row.drew⟩
theorem MemAt.drewN (h : MemAt w b g n xs lo st) (m : Nat) : MemAt (w.drewN m) b g n xs lo st := ⟨h.len, h.own.drewN m, h.row.drewN m⟩
theorem MemAt.alloc (h : MemAt w b g n xs lo st) (o : Obj) : MemAt (w.alloc o) b g n xs lo st := ⟨h.len, h.own.alloc o, h.row.alloc o⟩
theorem MemAt.far (h : MemAt w b g n xs lo st) {p : Addr} (h1 : b ≠ p.block) (h2 : g ≠ p.block) (u : Value) : MemAt (w.setCell p u) b g n xs lo st := ⟨h.len, h.own.far h1 u, h.row.far h2 u⟩
end

theorem info_u32 : (Try.prog.info? 34).map (fun i => (i.zero, i.size, i.bytes)) = some (some (.int .u32 0), 1, 4) := by kernel_rfl

set_option maxHeartbeats 400000 in
theorem new_ok (n : Nat) (w : World) (h1 : 1 ≤ n) (h2 : n ≤ 65536) :
    Calls Try.prog 8 #[.int .i64 n] w fun e w' => ∃ b g, e = .returned (.tuple #[.pointer (some ⟨b, 0, none⟩), .int .i64 0]) ∧ MemAt w' b g n (List.replicate n 0) 0 0 ∧ w.heap.size ≤ b ∧ w.heap.size ≤ g ∧ Below w.heap.size w w' := by
  obtain ⟨i0, hi0, hz0, hz1, hz2⟩ := info_parts info_u32
  have hmk := run_make_row1 (P := Try.prog) 46 34 i0 _ Try.underlying46 hi0 hz0 hz1 (by omega) rfl (n : Int) n rfl (by omega)
  clear hi0 hz0 hz1 hz2
  go_enter Try.func8, Try.ntmps8
  go_wp2
  go_ret2
  refine ⟨_, _, rfl, ⟨List.length_replicate, ?_, ?_⟩, Nat.le_add_right _ _, Nat.le_refl _, ((Below.refl _ _).alloc (Nat.le_refl _) _).alloc (by simp) _⟩
  · have := Row.new (w.alloc (.cells (zeros (.int .u32 0) n) 34)) 54 [.slice (some ⟨w.heap.size, 0, none⟩) n n, .int .i64 0, .int .i64 0]
    simpa using this
  · have := (Row.zeros w 34 (.int .u32 0) n).alloc (.cells #[.slice (some ⟨w.heap.size, 0, none⟩) n n, .int .i64 0, .int .i64 0] 54)
    rw [ints, List.map_replicate]
    exact this
theorem new_no (n : Int) (w : World) (h : n < 1 ∨ 65536 < n) :
    Calls Try.prog 8 #[.int .i64 n] w fun e w' => e = .returned (.tuple #[.pointer none, .int .i64 1]) ∧ w = w' := by
  rcases h with h | h
  · go_enter Try.func8, Try.ntmps8
    go_wp2
    go_ret2
    exact ⟨rfl, rfl⟩
  · have h' : ¬ n < 1 := by omega
    go_enter Try.func8, Try.ntmps8
    go_wp2
    go_ret2
    exact ⟨rfl, rfl⟩

set_option maxHeartbeats 400000 in
theorem load_ok (a : Nat) (X : Int) (b g n : Nat) (xs : List Int) (lo st : Int) (w : World) (hm : MemAt w b g n xs lo st) (ha : a < n) (hX : xs[a]? = some X) (h0 : 0 ≤ lo) (h1 : lo ≤ 1000000) :
    Calls Try.prog 11 #[.pointer (some ⟨b, 0, none⟩), .int .i64 a] w fun e w' => e = .returned (.tuple #[.int .u32 X, .int .i64 0]) ∧ MemAt w' b g n xs (lo + 1) st ∧ Only2 b g w w' := by
  have hne := hm.ne_ (by decide)
  have hc0 := hm.c0
  have hc1 := hm.c1
  have hf1 := hm.own.frozen 1
  have hcg := hm.row.cell a
  have e1 : (ints .u32 xs)[a]? = some (.int .u32 X) := by simp [ints, hX]
  rw [e1] at hcg
  have ha1 : (a : Int) < (n : Int) := by omega
  have ha2 : (0 : Int) ≤ (a : Int) := by omega
  have HX := Lib.hid hX
  clear hX e1
  go_enter Try.func11, Try.ntmps11
  go_wp2
  go_ret2
  refine ⟨rfl, ⟨hm.len, ?_, hm.row.far (Ne.symm hne) _⟩, (Only2.refl b g w).set1 _ _⟩
  exact hm.own.set 1 _

theorem load_no (a : Int) (b g n : Nat) (xs : List Int) (lo st : Int) (w : World) (hm : MemAt w b g n xs lo st) (ha : a < 0 ∨ (n : Int) ≤ a) :
    Calls Try.prog 11 #[.pointer (some ⟨b, 0, none⟩), .int .i64 a] w fun e w' => e = .returned (.tuple #[.int .u32 0, .int .i64 2]) ∧ w = w' := by
  have hc0 := hm.c0
  rcases ha with h | h
  · go_enter Try.func11, Try.ntmps11
    go_wp2
    go_ret2
    exact ⟨rfl, rfl⟩
  · have h' : ¬ a < 0 := by omega
    go_enter Try.func11, Try.ntmps11
    go_wp2
    go_ret2
    exact ⟨rfl, rfl⟩
theorem load_nil (a : Int) (w : World) :
    Calls Try.prog 11 #[.pointer none, .int .i64 a] w fun e w' => e = .returned (.tuple #[.int .u32 0, .int .i64 2]) ∧ w = w' := by
  go_enter Try.func11, Try.ntmps11
  go_wp2
  go_ret2
  exact ⟨rfl, rfl⟩

set_option maxHeartbeats 400000 in
theorem store_ok (a : Nat) (v : Int) (b g n : Nat) (xs : List Int) (lo st : Int) (w : World) (hm : MemAt w b g n xs lo st) (ha : a < n) (h0 : 0 ≤ st) (h1 : st ≤ 1000000) :
    Calls Try.prog 14 #[.pointer (some ⟨b, 0, none⟩), .int .i64 a, .int .u32 v] w fun e w' => e = .returned (.int .i64 0) ∧ MemAt w' b g n (xs.set a v) lo (st + 1) ∧ Only2 b g w w' := by
  have hne := hm.ne_ (by decide)
  have hc0 := hm.c0
  have hc2 := hm.c2
  have hf2 := hm.own.frozen 2
  have hcg := hm.row.cell a
  have hfg := hm.row.frozen a
  have hl : a < xs.length := by rw [hm.len]; exact ha
  rw [ints_get? _ _ _ hl] at hcg
  have ha1 : (a : Int) < (n : Int) := by omega
  have ha2 : (0 : Int) ≤ (a : Int) := by omega
  generalize xs[a] = X at hcg
  go_enter Try.func14, Try.ntmps14
  go_wp2
  go_ret
  refine ⟨rfl, ⟨?_, ?_, ?_⟩, ((Only2.refl b g w).set1 _ _).set2 _ _⟩
  · rw [List.length_set, hm.len]
  · exact (hm.own.set 2 (.int .i64 (st + 1))).far hne _
  · have := (hm.row.far (p := ⟨b, 2, none⟩) (Ne.symm hne) (.int .i64 (st + 1))).set a (.int .u32 v)
    unfold ints
    rw [List.map_set]
    exact this
theorem store_no (a v : Int) (b g n : Nat) (xs : List Int) (lo st : Int) (w : World) (hm : MemAt w b g n xs lo st) (ha : a < 0 ∨ (n : Int) ≤ a) :
    Calls Try.prog 14 #[.pointer (some ⟨b, 0, none⟩), .int .i64 a, .int .u32 v] w fun e w' => e = .returned (.int .i64 2) ∧ w = w' := by
  have hc0 := hm.c0
  rcases ha with h | h
  · go_enter Try.func14, Try.ntmps14
    go_wp2
    go_ret
    exact ⟨rfl, rfl⟩
  · have h' : ¬ a < 0 := by omega
    go_enter Try.func14, Try.ntmps14
    go_wp2
    go_ret
    exact ⟨rfl, rfl⟩
theorem store_nil (a v : Int) (w : World) :
    Calls Try.prog 14 #[.pointer none, .int .i64 a, .int .u32 v] w fun e w' => e = .returned (.int .i64 2) ∧ w = w' := by
  go_enter Try.func14, Try.ntmps14
  go_wp2
  go_ret
  exact ⟨rfl, rfl⟩
theorem len_ok (b g n : Nat) (xs : List Int) (lo st : Int) (w : World) (hm : MemAt w b g n xs lo st) :
    Calls Try.prog 15 #[.pointer (some ⟨b, 0, none⟩)] w fun e w' => e = .returned (.int .i64 n) ∧ w = w' := by
  have hc0 := hm.c0
  go_enter Try.func15, Try.ntmps15
  go_wp2
  go_ret
  exact ⟨rfl, rfl⟩
theorem len_nil (w : World) :
    Calls Try.prog 15 #[.pointer none] w fun e w' => e = .returned (.int .i64 0) ∧ w = w' := by
  go_enter Try.func15, Try.ntmps15
  go_wp2
  go_ret
  exact ⟨rfl, rfl⟩
theorem loads_ok (b g n : Nat) (xs : List Int) (lo st : Int) (w : World) (hm : MemAt w b g n xs lo st) :
    Calls Try.prog 16 #[.pointer (some ⟨b, 0, none⟩)] w fun e w' => e = .returned (.int .i64 lo) ∧ w = w' := by
  have hc0 := hm.c1
  go_enter Try.func16, Try.ntmps16
  go_wp2
  go_ret
  exact ⟨rfl, rfl⟩
theorem loads_nil (w : World) :
    Calls Try.prog 16 #[.pointer none] w fun e w' => e = .returned (.int .i64 0) ∧ w = w' := by
  go_enter Try.func16, Try.ntmps16
  go_wp2
  go_ret
  exact ⟨rfl, rfl⟩
theorem stores_ok (b g n : Nat) (xs : List Int) (lo st : Int) (w : World) (hm : MemAt w b g n xs lo st) :
    Calls Try.prog 17 #[.pointer (some ⟨b, 0, none⟩)] w fun e w' => e = .returned (.int .i64 st) ∧ w = w' := by
  have hc0 := hm.c2
  go_enter Try.func17, Try.ntmps17
  go_wp2
  go_ret
  exact ⟨rfl, rfl⟩
theorem stores_nil (w : World) :
    Calls Try.prog 17 #[.pointer none] w fun e w' => e = .returned (.int .i64 0) ∧ w = w' := by
  go_enter Try.func17, Try.ntmps17
  go_wp2
  go_ret
  exact ⟨rfl, rfl⟩
theorem cells_nil (w : World) :
    Calls Try.prog 18 #[.pointer none] w fun e w' => e = .returned (.slice none 0 0) ∧ w = w' := by
  go_enter Try.func18, Try.ntmps18
  go_wp2
  go_ret
  exact ⟨rfl, rfl⟩

set_option maxHeartbeats 400000 in
theorem cells_ok (b g n : Nat) (xs : List Int) (lo st : Int) (w : World) (hm : MemAt w b g n xs lo st) (hn : n ≤ 65536) :
    Calls Try.prog 18 #[.pointer (some ⟨b, 0, none⟩)] w fun e w' => ∃ h, e = .returned (.slice (some ⟨h, 0, none⟩) n n) ∧ Row w' h 34 (ints .u32 xs) ∧ w.heap.size ≤ h ∧ Below w.heap.size w w' := by
  obtain ⟨i0, hi0, hz0, hz1, hz2⟩ := info_parts info_u32
  have hmk := run_make_row1 (P := Try.prog) 46 34 i0 _ Try.underlying46 hi0 hz0 hz1 (by omega) rfl (n : Int) n rfl (by omega)
  clear hi0 hz0 hz1 hz2
  have hc0 := hm.c0
  have hbl := hm.own.lt
  have hx : Reads w w.heap.size (some ⟨g, 0, none⟩) n n (ints .u32 xs) := hm.row.reads (by rw [ints_length, hm.len])
  have hcA := World.cell?_alloc_lt w (.cells (zeros (.int .u32 0) n) 34) ⟨b, 0, none⟩ hbl
  go_enter Try.func18, Try.ntmps18
  go_wp2_with (with_reducible refine wpList_copy_full rfl (.tmp 12) (.tmp 16) 46 rfl 34 Try.underlying46 (by kernel_rfl) w.heap.size (List.replicate n (.int .u32 0)) (ints .u32 xs) n n (Row.zeros _ _ _ _) (by simp) _ _ (hx.alloc (Nat.le_refl _) _) rfl rfl (ints_one _ _) w.heap.size w ((Below.refl _ _).alloc (Nat.le_refl _) _) (Nat.le_refl _) ?_; intro w1 hrow1 hb1)
  go_ret
  exact ⟨_, rfl, hrow1, Nat.le_refl _, hb1⟩
end Go.Proofs.Ytdmeidibhapnbaa
