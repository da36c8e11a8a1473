/- The walk of match.entry. -/
import Derived.Test.YtgjdjggakkmbgaaMatFind
namespace Go.Proofs.Ytgjdjggakkmbgaa
open Go.RowKit
theorem results_ent (a : Act) (w : World) (g : Nat) (xs : List Value) (f : Bool) (hx : xs.length = 2) (h : Row w g 46 xs) (h2 : a.tmps.getD 4 undef = .pointer (some ⟨g, 0, none⟩)) (h3 : a.tmps.getD 5 undef = .bool f) :
    (results Try.f18 a.tmps).run Try.prog w = .ok (.tuple #[.agg xs.toArray, .bool f]) w := by
  have h2' : a.tmps[4]?.getD undef = .pointer (some ⟨g, 0, none⟩) := by simpa using h2
  have h3' : a.tmps[5]?.getD undef = .bool f := by simpa using h3
  simp [results, Try.results18, h2', h3', asAddr, run_loadVar_row w g 46 46 xs.toArray (0, 0) _ h Try.underlying46 rfl (by rw [List.size_toArray, hx]; kernel_rfl)]
set_option maxRecDepth 100000 in
set_option maxHeartbeats 4000000 in
theorem entry_any (B : Nat) (l : List Ent) (doc : Int) (A : Option Addr) (n c : Nat) (w : World) (hx0 : ReadsE w B A n c l) (hBw : B ≤ w.heap.size) (hm : MayP (vals l)) (hd0 : 0 ≤ doc) (hd1 : doc ≤ 65535) :
    Calls Try.prog 18 #[.slice A n c, .int .i64 doc] w fun e w' =>
      ((∃ i A' P c', i < n ∧ enAt (vals l) i = (doc, P) ∧ e = .returned (.tuple #[.agg #[.int .i64 doc, .slice A' P.length c'], .bool true]) ∧ Reads w B A' P.length c' (ints .i64 P)) ∨
        ((∀ j, j < n → (enAt (vals l) j).1 ≠ doc) ∧ e = .returned (.tuple #[.agg #[.int .i64 0, .slice none 0 0], .bool false]))) ∧ Below w.heap.size w w' := by
  have hx := hx0.more hBw
  have hBa : Below w.heap.size w (w.alloc (.cells #[.int .i64 0, .slice none 0 0] 46)) := (Below.refl _ _).alloc (Nat.le_refl _) _
  have hr0 := Row.new w 46 [.int .i64 0, .slice none 0 0]
  have HS := searchE_any l doc A n c _ ((hx.below hBa).more hBa.size) hm hd0 hd1
  clear hm
  go_enter Try.func18, Try.ntmps18
  go_wp2_with fail
  refine HS.mono ?_
  clear HS
  rintro e w1 ⟨⟨i, hi, hdi, rfl⟩ | ⟨hno, i, rfl⟩, hb1⟩
  · obtain ⟨ad, d, P, A', c', rfl, hb0, hen, c0, c1, hP⟩ := hx0.at' hi
    have hb : ad.block < w.heap.size := by omega
    rw [hen] at hdi
    simp only at hdi
    subst hdi
    have hB1 := then_ hBa hb1
    have d0 := (hB1.cell (by rw [Go.Proofs.Ytgjdjggakkmbgaa.add_block]; exact hb)).trans c0
    have d1 := (hB1.cell (show (⟨(ad.add (i * 2)).block, (ad.add (i * 2)).off + 1, none⟩ : Addr).block < w.heap.size by show (ad.add (i * 2)).block < _; rw [Go.Proofs.Ytgjdjggakkmbgaa.add_block]; exact hb)).trans c1
    have hr1 := hr0.call hb1
    have hi' : (i : Int) < (n : Int) := by omega
    have hi0 : (0 : Int) ≤ (i : Int) := by omega
    have Hen := Lib.hid hen
    clear hen hr0 hb1 c0 c1
    go_wp2_with (refine wpList_store_rowO rfl 46 (.tmp 4) (.tmp 20) rfl w.heap.size [.int .i64 d, .slice A' P.length c'] rfl rfl 46 _ hr1 (by kernel_rfl) rfl rfl w.heap.size w hB1 (Nat.le_refl _) ?_; intro w2 hr2 hB2 hs2 hk2)
    exact bodyPost_ret (results_ent _ w2 _ _ true rfl hr2 rfl rfl) rfl ⟨.inl ⟨i, A', P, c', hi, Hen.out, rfl, hP⟩, hB2⟩
  · have hB1 := then_ hBa hb1
    have hr1 := hr0.call hb1
    have Hno := Lib.hid hno
    clear hr0 hb1 hno
    go_wp2_with (refine wpList_store_rowO rfl 46 (.tmp 4) (.tmp 16) rfl w.heap.size [.int .i64 0, .slice none 0 0] rfl rfl 46 _ hr1 (by kernel_rfl) rfl rfl w.heap.size w hB1 (Nat.le_refl _) ?_; intro w2 hr2 hB2 hs2 hk2)
    exact bodyPost_ret (results_ent _ w2 _ _ false rfl hr2 rfl rfl) rfl ⟨.inr ⟨Hno.out, rfl⟩, hB2⟩
end Go.Proofs.Ytgjdjggakkmbgaa
