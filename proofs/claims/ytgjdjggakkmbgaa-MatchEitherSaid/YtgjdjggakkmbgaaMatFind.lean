/- The walks of slices.BinarySearch at places, of slices.BinarySearchFunc at entries, of match.entry. -/
import Derived.Test.YtgjdjggakkmbgaaRows
import Derived.Test.YtgjdjggakkmbgaaMatMem
import Derived.Test.YtgjdjggakkmbgaaEntInfo
import Derived.Deep.QuietTactic
import Derived.BigQuiet
namespace Go.Proofs.Ytgjdjggakkmbgaa
open Go.RowKit

theorem isNaN_any (x : Int) (w : World) : Calls Try.prog 26 #[.int .i64 x] w fun e w' => e = .returned (.bool false) ∧ w = w' := by
  go_enter Try.func26, Try.ntmps26
  go_wp2
  go_ret
  exact ⟨by simp, rfl⟩
theorem cmpNaN_any (x : Int) (w : World) : Calls Try.prog 30 #[.int .i64 x] w fun e w' => e = .returned (.bool false) ∧ w = w' := by
  go_enter Try.func30, Try.ntmps30
  go_wp2
  go_ret
  exact ⟨by simp, rfl⟩
theorem less_any (x y : Int) (w : World) : Calls Try.prog 25 #[.int .i64 x, .int .i64 y] w fun e w' => e = .returned (.bool (decide (x < y))) ∧ w = w' := by
  have HN := Lib.hid (cmpNaN_any x)
  go_enter Try.func25, Try.ntmps25
  go_wp2_with fail
  refine (HN.out _).mono ?_
  rintro e w1 ⟨rfl, rfl⟩
  go_wp2
  go_ret
  exact ⟨rfl, rfl⟩
set_option maxRecDepth 100000 in
set_option maxHeartbeats 4000000 in
/-- Among rising places. -/
theorem search_any (P : List Int) (x : Int) (A : Option Addr) (n c : Nat) (w : World) (hx : Reads w w.heap.size A n c (ints .i64 P)) (hr : rising P = true) (hn : n ≤ 65536) :
    Calls Try.prog 19 #[.slice A n c, .int .i64 x] w fun e w' => ∃ i : Int, e = .returned (.tuple #[.int .i64 i, .bool (decide (x ∈ P))]) ∧ w = w' := by
  have lx : P.length = n := by simpa using hx.len
  have hcap := hx.cap
  have Lx := Lib.hid lx
  have HR := Lib.hid (fun i j (h1 : i < j) (h2 : j < P.length) => place_lt P _ hr i j h1 h2)
  clear lx hr
  go_enter Try.func19, Try.ntmps19
  go_wp2
  go_loopw [7, 8] (fun s7 s8 wr => ∃ lo hi : Nat, s7 = .int .i64 (lo : Int) ∧ s8 = .int .i64 (hi : Int) ∧ lo ≤ hi ∧ hi ≤ n ∧ Hid (∀ t (h : t < P.length), t < lo → P[t] < x) ∧ Hid (∀ t (h : t < P.length), hi ≤ t → x ≤ P[t]) ∧ w = wr) (fun s7 s8 _ => (intOf s8).toNat - (intOf s7).toNat)
  case atStart => exact ⟨0, n, rfl, rfl, by omega, by omega, Lib.hid (fun t h ht => by omega), Lib.hid (fun t h ht => by have := Lx.out; omega), rfl⟩
  case round =>
    obtain ⟨lo, hi, rfl, rfl, hlh, hhn, HL, HH, rfl⟩ := hrel
    by_cases hlt : lo < hi
    · have hlt' : (lo : Int) < (hi : Int) := by omega
      obtain ⟨m, hm⟩ : ∃ m, (lo + hi) / 2 = m := ⟨_, rfl⟩
      have hmi : ((lo : Int) + (hi : Int)) / 2 = (m : Int) := by omega
      have hmn : (m : Int) < (n : Int) := by omega
      obtain ⟨ad, h1, rfl, hb, hc⟩ := hx.int (i := m) (by omega)
      have HLess := Lib.hid (less_any P[m] x w)
      have Hm := Lib.hid hm
      clear hm
      by_cases hcx : P[m] < x
      · have HL2 : Hid (∀ t (h : t < P.length), t < m + 1 → P[t] < x) := Lib.hid (fun t h ht => by
          by_cases e : t = m
          · subst e; exact hcx
          · have := HR.out t m (by omega) h1
            omega)
        have hdc : decide (P[m] < x) = true := decide_eq_true hcx
        rw [hdc] at HLess
        have HLess2 := Lib.hid HLess.out
        clear HLess hdc
        go_wp2_with fail
        refine HLess2.out.mono ?_
        rintro e w1 ⟨rfl, rfl⟩
        clear hcx
        go_wp2
        go_roundw
        case rel => exact ⟨m + 1, hi, by go_num, rfl, by have := Hm.out; omega, hhn, HL2, HH, by first | rfl | trivial⟩
        case measure => have := Hm.out; simp [intOf]; omega
      · have HH2 : Hid (∀ t (h : t < P.length), m ≤ t → x ≤ P[t]) := Lib.hid (fun t h ht => by
          by_cases e : t = m
          · subst e; omega
          · have := HR.out m t (by omega) h
            omega)
        have hdc : decide (P[m] < x) = false := decide_eq_false hcx
        rw [hdc] at HLess
        have HLess2 := Lib.hid HLess.out
        clear HLess hdc
        go_wp2_with fail
        refine HLess2.out.mono ?_
        rintro e w1 ⟨rfl, rfl⟩
        clear hcx
        go_wp2
        go_roundw
        case rel => exact ⟨lo, m, rfl, by go_num, by have := Hm.out; omega, by omega, HL, HH2, by first | rfl | trivial⟩
        case measure => have := Hm.out; simp [intOf]; omega
    · have hlt' : ¬ (lo : Int) < (hi : Int) := by omega
      obtain rfl : lo = hi := by omega
      by_cases hin : lo < n
      · have hin' : (lo : Int) < (n : Int) := by omega
        have hl0 : (0 : Int) ≤ (lo : Int) := by omega
        obtain ⟨ad, h1, rfl, hb, hc⟩ := hx.int (i := lo) hin
        have HNa := Lib.hid (isNaN_any P[lo] w)
        by_cases he : P[lo] = x
        · have heb : (P[lo] == x) = true := by simp [he]
          have Hs : Hid (decide (x ∈ P) = true) := Lib.hid (by simp only [decide_eq_true_eq]; rw [← he]; exact List.getElem_mem h1)
          clear he
          go_wp2_with fail
          go_ret2
          first | exact ⟨_, by rw [Hs.out]; rfl, rfl⟩ | exact ⟨⟨_, by rw [Hs.out]; rfl⟩, rfl⟩
        · have heb : (P[lo] == x) = false := by simp [he]
          have Hs : Hid (decide (x ∈ P) = false) := Lib.hid (by
            simp only [decide_eq_false_iff_not]
            intro h
            obtain ⟨t, ht, e⟩ := List.getElem_of_mem h
            rcases (show t < lo ∨ t = lo ∨ lo < t from by omega) with h2 | h2 | h2
            · have := HL.out t ht h2; omega
            · subst h2; exact he e
            · have := HR.out lo t h2 ht
              have := HH.out lo h1 (Nat.le_refl _)
              omega)
          clear he
          go_wp2_with fail
          refine HNa.out.mono ?_
          rintro e w1 ⟨rfl, rfl⟩
          go_wp2_with fail
          go_ret2
          first | exact ⟨_, by rw [Hs.out]; rfl, rfl⟩ | exact ⟨⟨_, by rw [Hs.out]; rfl⟩, rfl⟩
      · have hin' : ¬ (lo : Int) < (n : Int) := by omega
        have Hs : Hid (decide (x ∈ P) = false) := Lib.hid (by
          simp only [decide_eq_false_iff_not]
          intro h
          obtain ⟨t, ht, e⟩ := List.getElem_of_mem h
          have := HL.out t ht (by have := Lx.out; omega)
          omega)
        go_wp2_with fail
        go_ret2
        first | exact ⟨_, by rw [Hs.out]; rfl, rfl⟩ | exact ⟨⟨_, by rw [Hs.out]; rfl⟩, rfl⟩

theorem close_any (d x : Int) (A : Option Addr) (n c : Nat) (w : World) (h : -9223372036854775808 ≤ d - x) (h2 : d - x ≤ 9223372036854775807) :
    Calls Try.prog 24 #[.agg #[.int .i64 d, .slice A n c], .int .i64 x] w fun e w' => e = .returned (.int .i64 (d - x)) ∧ Below w.heap.size w w' := by
  have hw : IntKind.i64.wrap (d - x) = d - x := IntWalk.i64_in _ (by omega)
  go_enter Try.func24, Try.ntmps24
  go_wp2
  go_ret
  exact ⟨rfl, (Below.refl _ _).alloc (Nat.le_refl _) _⟩

set_option maxRecDepth 100000 in
set_option maxHeartbeats 4000000 in
/-- Among entries of rising documents. -/
theorem searchE_any (l : List Ent) (doc : Int) (A : Option Addr) (n c : Nat) (w : World) (hx : ReadsE w w.heap.size A n c l) (hm : MayP (vals l)) (hd0 : 0 ≤ doc) (hd1 : doc ≤ 65535) :
    Calls Try.prog 23 #[.slice A n c, .int .i64 doc, .func (.func 24) #[] #[]] w fun e w' =>
      ((∃ i : Nat, i < n ∧ (enAt (vals l) i).1 = doc ∧ e = .returned (.tuple #[.int .i64 (i : Int), .bool true])) ∨ ((∀ j, j < n → (enAt (vals l) j).1 ≠ doc) ∧ ∃ i : Nat, e = .returned (.tuple #[.int .i64 (i : Int), .bool false]))) ∧ Below w.heap.size w w' := by
  have Hvl := Lib.hid hx.vlen
  have hn64 := hm.len
  rw [Hvl.out] at hn64
  have hcap := hx.row.cap
  have HR := Lib.hid (fun i j (h1 : i < j) (h2 : j < n) => doc_lt hm i j h1 (by rw [Hvl.out]; exact h2))
  have HD := Lib.hid (fun i (h : i < n) => hm.doc i (by rw [Hvl.out]; exact h))
  clear hm
  go_enter Try.func23, Try.ntmps23
  go_wp2
  go_loopw [9, 10] (fun s7 s8 wr => ∃ lo hi : Nat, s7 = .int .i64 (lo : Int) ∧ s8 = .int .i64 (hi : Int) ∧ lo ≤ hi ∧ hi ≤ n ∧ Hid (∀ t, t < lo → (enAt (vals l) t).1 < doc) ∧ Hid (∀ t, t < n → hi ≤ t → doc ≤ (enAt (vals l) t).1) ∧ Below w.heap.size w wr) (fun s7 s8 _ => (intOf s8).toNat - (intOf s7).toNat)
  case atStart => exact ⟨0, n, rfl, rfl, by omega, by omega, Lib.hid (fun t ht => by omega), Lib.hid (fun t h ht => by omega), Below.refl _ _⟩
  case round =>
    obtain ⟨lo, hi, rfl, rfl, hlh, hhn, HL, HH, hB⟩ := hrel
    by_cases hlt : lo < hi
    · have hlt' : (lo : Int) < (hi : Int) := by omega
      obtain ⟨m, hm⟩ : ∃ m, (lo + hi) / 2 = m := ⟨_, rfl⟩
      have hmi : ((lo : Int) + (hi : Int)) / 2 = (m : Int) := by omega
      have hmn : (m : Int) < (n : Int) := by omega
      obtain ⟨ad, d, P, A', c', rfl, hb, hen, c0, c1, _⟩ := (hx.below hB).at' (i := m) (by omega)
      have hdr := HD.out m (by omega)
      rw [hen] at hdr
      simp only at hdr
      have HC := Lib.hid (close_any d doc A' P.length c' wr (by omega) (by omega))
      have Hm := Lib.hid hm
      have Hen := Lib.hid hen
      clear hm hen
      by_cases hcx : d - doc < 0
      · have HL2 : Hid (∀ t, t < m + 1 → (enAt (vals l) t).1 < doc) := Lib.hid (fun t ht => by
          by_cases e : t = m
          · subst e; rw [Hen.out]; show d < doc; omega
          · have := HR.out t m (by omega) (by omega)
            rw [Hen.out] at this
            simp only at this
            omega)
        go_wp2_with fail
        refine HC.out.mono ?_
        rintro e w1 ⟨rfl, hb1⟩
        have hB1 := then_ hB hb1
        go_wp2
        go_roundw
        case rel => exact ⟨m + 1, hi, by go_num, rfl, by have := Hm.out; omega, hhn, HL2, HH, hB1⟩
        case measure => have := Hm.out; simp [intOf]; omega
      · have HH2 : Hid (∀ t, t < n → m ≤ t → doc ≤ (enAt (vals l) t).1) := Lib.hid (fun t h ht => by
          by_cases e : t = m
          · subst e; rw [Hen.out]; show doc ≤ d; omega
          · have := HR.out m t (by omega) h
            rw [Hen.out] at this
            simp only at this
            omega)
        go_wp2_with fail
        refine HC.out.mono ?_
        rintro e w1 ⟨rfl, hb1⟩
        have hB1 := then_ hB hb1
        go_wp2
        go_roundw
        case rel => exact ⟨lo, m, rfl, by go_num, by have := Hm.out; omega, by omega, HL, HH2, hB1⟩
        case measure => have := Hm.out; simp [intOf]; omega
    · have hlt' : ¬ (lo : Int) < (hi : Int) := by omega
      obtain rfl : lo = hi := by omega
      by_cases hin : lo < n
      · have hin' : (lo : Int) < (n : Int) := by omega
        have hl0 : (0 : Int) ≤ (lo : Int) := by omega
        obtain ⟨ad, d, P, A', c', rfl, hb, hen, c0, c1, _⟩ := (hx.below hB).at' (i := lo) (by omega)
        have hdr := HD.out lo (by omega)
        rw [hen] at hdr
        simp only at hdr
        have HC := Lib.hid (close_any d doc A' P.length c' wr (by omega) (by omega))
        have Hen := Lib.hid hen
        clear hen
        by_cases he : d = doc
        · subst he
          go_wp2_with fail
          refine HC.out.mono ?_
          rintro e w1 ⟨rfl, hb1⟩
          have hB1 := then_ hB hb1
          go_wp2
          go_ret2
          exact ⟨.inl ⟨lo, by omega, by rw [Hen.out], rfl⟩, hB1⟩
        · have heb : (d - doc == 0) = false := by simp; omega
          have Hs : Hid (∀ j, j < n → (enAt (vals l) j).1 ≠ doc) := Lib.hid (fun j hj => by
            rcases (show j < lo ∨ j = lo ∨ lo < j from by omega) with h2 | h2 | h2
            · have := HL.out j h2; omega
            · subst h2; rw [Hen.out]; exact he
            · have := HR.out lo j h2 hj
              rw [Hen.out] at this
              have h3 := HH.out lo (by omega) (Nat.le_refl _)
              rw [Hen.out] at h3
              simp only at this h3
              omega)
          go_wp2_with fail
          refine HC.out.mono ?_
          rintro e w1 ⟨rfl, hb1⟩
          have hB1 := then_ hB hb1
          go_wp2
          go_ret2
          exact ⟨.inr ⟨Hs.out, lo, rfl⟩, hB1⟩
      · have hin' : ¬ (lo : Int) < (n : Int) := by omega
        have Hs : Hid (∀ j, j < n → (enAt (vals l) j).1 ≠ doc) := Lib.hid (fun j hj => by
          have := HL.out j (by omega)
          omega)
        go_wp2_with fail
        go_ret2
        exact ⟨.inr ⟨Hs.out, lo, rfl⟩, hB⟩
end Go.Proofs.Ytgjdjggakkmbgaa
