/- The walks of the laws PackWords, PackUnlike, PackBytes, PackCells. -/
import Derived.Test.YtoclkioipehjgaaPackLaws
namespace Go.Proofs.Ytoclkioipehjgaa
open Go.RowKit

/-! Plain: there and back. -/
theorem word4_byte (l : List UInt8) (i : Nat) : word4 l (i / 4) / 256 ^ (i % 4) % 256 = byteD l i := by
  have h := byteD_lt l
  unfold word4
  have h0 := h (4 * (i / 4)); have h1 := h (4 * (i / 4) + 1); have h2 := h (4 * (i / 4) + 2); have h3 := h (4 * (i / 4) + 3)
  rcases (show i % 4 = 0 ∨ i % 4 = 1 ∨ i % 4 = 2 ∨ i % 4 = 3 from by omega) with e | e | e | e
  · have ei : i = 4 * (i / 4) := by omega
    rw [e, ← ei]; rw [← ei] at h0; simp; omega
  · have ei : i = 4 * (i / 4) + 1 := by omega
    rw [e, show byteD l i = byteD l (4 * (i / 4) + 1) from by rw [← ei]]; omega
  · have ei : i = 4 * (i / 4) + 2 := by omega
    rw [e, show byteD l i = byteD l (4 * (i / 4) + 2) from by rw [← ei]]; omega
  · have ei : i = 4 * (i / 4) + 3 := by omega
    rw [e, show byteD l i = byteD l (4 * (i / 4) + 3) from by rw [← ei]]; omega
theorem back_bytes (l : List UInt8) : bytesUp (cellsOf l ((l.length + 3) / 4)) l.length = l := by
  apply List.ext_getElem?
  intro i
  by_cases h : i < l.length
  · have e : byteOf (cellsOf l ((l.length + 3) / 4)) i = l[i] := by
      apply UInt8.toNat_inj.1
      rw [byteOf_nat, List.getD, List.getElem?_eq_getElem (by rw [cellsOf_length]; omega), Option.getD_some, cellsOf_get, Int.toNat_natCast, word4_byte]
      unfold byteD
      rw [List.getD, List.getElem?_eq_getElem h, Option.getD_some]
    simp [bytesUp, h, e]
  · simp [bytesUp, h]
theorem cells_inj (a b : List UInt8) (hl : a.length = b.length) (h : cellsOf a ((a.length + 3) / 4) = cellsOf b ((b.length + 3) / 4)) : a = b := by
  rw [← back_bytes a, ← back_bytes b, h, hl]
theorem cellsOf_wf (l : List UInt8) (n : Nat) : ∀ x ∈ cellsOf l n, 0 ≤ x ∧ x < 4294967296 := by
  intro x hx
  simp only [cellsOf, List.mem_map] at hx
  obtain ⟨j, _, rfl⟩ := hx
  have h := byteD_lt l
  have h0 := h (4 * j); have h1 := h (4 * j + 1); have h2 := h (4 * j + 2); have h3 := h (4 * j + 3)
  unfold word4
  omega
theorem len_data (s : ByteArray) : s.data.toList.length = s.size := by rw [Array.length_toList]; rfl
theorem back_str (s : ByteArray) : (⟨(bytesUp (cellsOf s.data.toList ((s.size + 3) / 4)) s.size).toArray⟩ : ByteArray) = s := by
  have := back_bytes s.data.toList
  rw [len_data] at this
  rw [this]

set_option maxHeartbeats 2000000 in
theorem walkPackWords (d : Int) (_ : (Lit.int .i64 d).wf = true) (p : Int) (_ : (Lit.int .i64 p).wf = true) (x : Int) (hx : (Lit.int .u32 x).wf = true) (w : World) :
    Calls Try.prog 5 #[.int .i64 d, .int .i64 p, .int .u32 x] w fun e w' => e = .returned (.bool true) ∧ Below w.heap.size w w' := by
  obtain ⟨x0, x1⟩ := wf32 hx
  clear hx
  have q0 : 0 ≤ x / 65536 := by omega
  have q1 : x / 65536 ≤ 65535 := by omega
  have q2 : 0 ≤ x % 65536 := by omega
  have q3 : x % 65536 ≤ 65535 := by omega
  have hz : (x / 65536 * 65536 + x % 65536 != x) = false := by simp; omega
  by_cases h : 0 ≤ d ∧ d ≤ 65535 ∧ 0 ≤ p ∧ p ≤ 65535
  · obtain ⟨a0, a1, b0, b1⟩ := h
    have e1 : ((d * 65536 + p) / 65536 == d) = true := by simp; omega
    have e2 : (p % 65536 == p) = true := by simp; omega
    go_enter Try.func5, Try.ntmps5
    go_wp2_with fail
    refine (word_ok d p _ a0 a1 b0 b1).mono ?_
    rintro e w' ⟨rfl, rfl⟩
    go_wp2_with fail
    refine (refWord_ok d p _ a0 a1 b0 b1).mono ?_
    rintro e w' ⟨rfl, rfl⟩
    go_wp2_with fail
    refine (part_any x _ x0 x1).mono ?_
    rintro e w' ⟨rfl, rfl⟩
    go_wp2_with fail
    refine (refPart_any x _ x0 x1).mono ?_
    rintro e w' ⟨rfl, rfl⟩
    go_wp2_with fail
    refine (word_ok _ _ _ q0 q1 q2 q3).mono ?_
    rintro e w' ⟨rfl, rfl⟩
    go_wp2_with fail
    refine (fixed_any _).mono ?_
    rintro e w1 ⟨rfl, hb1⟩
    go_wp2_with fail
    refine (part_any _ _ (by omega) (by omega)).mono ?_
    rintro e w' ⟨rfl, rfl⟩
    go_wp2
    go_ret
    exact ⟨rfl, hb1⟩
  · have h' : d < 0 ∨ 65535 < d ∨ p < 0 ∨ 65535 < p := by omega
    go_enter Try.func5, Try.ntmps5
    go_wp2_with fail
    refine (word_no d p _ h').mono ?_
    rintro e w' ⟨rfl, rfl⟩
    go_wp2_with fail
    refine (refWord_no d p _ h').mono ?_
    rintro e w' ⟨rfl, rfl⟩
    go_wp2_with fail
    refine (part_any x _ x0 x1).mono ?_
    rintro e w' ⟨rfl, rfl⟩
    go_wp2_with fail
    refine (refPart_any x _ x0 x1).mono ?_
    rintro e w' ⟨rfl, rfl⟩
    go_wp2_with fail
    refine (word_ok _ _ _ q0 q1 q2 q3).mono ?_
    rintro e w' ⟨rfl, rfl⟩
    go_wp2_with fail
    refine (fixed_any _).mono ?_
    rintro e w1 ⟨rfl, hb1⟩
    go_wp2
    go_ret
    exact ⟨rfl, hb1⟩

theorem fieldByte (f : Int) (hf : (Lit.int .u8 f).wf = true) : ∃ b : UInt8, f = ((b.toNat : Nat) : Int) := by
  have h : 0 ≤ f ∧ f ≤ 255 := by simp [Lit.wf, IntKind.min, IntKind.max, IntKind.signed, IntKind.bits] at hf; omega
  refine ⟨UInt8.ofNat f.toNat, ?_⟩
  rw [UInt8.toNat_ofNat']
  omega

set_option maxHeartbeats 1000000 in
theorem walkPackCells (s : ByteArray) (_ : s.size ≤ maxLen) (f : Int) (hf : (Lit.int .u8 f).wf = true) (w : World) :
    Calls Try.prog 8 #[.string s, .int .u8 f] w fun e w' => e = .returned (.bool true) ∧ Below w.heap.size w w' := by
  obtain ⟨b, rfl⟩ := fieldByte f hf
  clear hf
  by_cases h : 2000 < s.size
  · have h' : (2000 : Int) < (s.size : Int) := by omega
    go_enter Try.func8, Try.ntmps8
    go_wp2_with (go_at_call 9; refine (fixed_any _).mono ?_; rintro e w1 ⟨rfl, hb1⟩)
    go_ret
    exact ⟨rfl, hb1⟩
  · have h' : ¬ (2000 : Int) < (s.size : Int) := by omega
    have HB := Lib.hid (back_str s)
    have HA : ∀ n, n = s.size → bytesAns (cellsOf s.data.toList ((s.size + 3) / 4)) ((s.size + 3) / 4) n = .tuple #[.string s, .int .i64 0] := by
      rintro n rfl
      unfold bytesAns
      rw [if_pos (by omega), HB.out]
    have HA := Lib.hid HA
    go_enter Try.func8, Try.ntmps8
    go_wp2_with fail
    refine (cells_any _ _ (by omega)).mono ?_
    rintro e w1 ⟨g, rfl, hrow, hb1⟩
    go_wp2_with fail
    refine (bytes_all _ (cellsOf_wf _ _) _ _ _ s.size _ (hrow.reads (by rw [ints_length, cellsOf_length])) (by omega) (by omega)).mono ?_
    rw [HA.out _ rfl]
    rintro e w2 ⟨rfl, hb2⟩
    go_wp2_with fail
    refine (fixed_any _).mono ?_
    rintro e w3 ⟨rfl, hb3⟩
    go_wp2_with fail
    refine (refCells_any _ _ (by omega)).mono ?_
    rintro e w4 ⟨v, rfl, hown, hb4⟩
    obtain ⟨A, c, rfl, hr, _⟩ := ownsRow_slice hown
    go_wp2_with fail
    refine (same32_yes _ _ _ _ _ _ _ _ _ ((((hrow.call hb2).call hb3).call hb4).reads (by rw [ints_length, cellsOf_length])) hr (by omega) rfl).mono ?_
    rintro e w5 ⟨rfl, hb5⟩
    go_wp2_with fail
    refine (key_any b s _ (by omega)).mono ?_
    rintro e w6 ⟨rfl, hb6⟩
    go_wp2_with fail
    refine (refKey_any b s _ (by omega)).mono ?_
    rintro e w7 ⟨rfl, hb7⟩
    go_wp2
    go_ret
    exact ⟨rfl, then_ (then_ (then_ (then_ (then_ (then_ hb1 hb2) hb3) hb4) hb5) hb6) hb7⟩

set_option maxHeartbeats 1000000 in
theorem walkPackBytes (l : List Int) (A : Option Addr) (m c : Nat) (w : World) (hr : Reads w w.heap.size A m c (ints .u32 l)) (hw : ∀ x ∈ l, (Lit.int .u32 x).wf = true) (n : Int) (hn : (Lit.int .i64 n).wf = true) :
    Calls Try.prog 7 #[.slice A m c, .int .i64 n] w fun e w' => e = .returned (.bool true) ∧ Below w.heap.size w w' := by
  obtain ⟨n0, n1⟩ := wf64 hn
  have hl : ∀ x ∈ l, 0 ≤ x ∧ x < 4294967296 := fun x hx => wf32 (hw x hx)
  have HL := Lib.hid hl
  clear hn hw hl
  by_cases h : 500 < m
  · have h' : (500 : Int) < (m : Int) := by omega
    go_enter Try.func7, Try.ntmps7
    go_wp2_with (go_at_call 9; refine (fixed_any _).mono ?_; rintro e w1 ⟨rfl, hb1⟩)
    go_ret
    exact ⟨rfl, hb1⟩
  · have h' : ¬ (500 : Int) < (m : Int) := by omega
    obtain ⟨V, s, er, hV, H1, H2⟩ : ∃ (V : Value) (s : ByteArray) (er : Int), V = .tuple #[.string s, .int .i64 er] ∧ (∀ (A : Option Addr) (c : Nat) (w : World), Reads w w.heap.size A m c (ints .u32 l) → Calls Try.prog 20 #[.slice A m c, .int .i64 n] w fun e w' => e = .returned V ∧ Below w.heap.size w w') ∧
        (∀ (A : Option Addr) (c : Nat) (w : World), Reads w w.heap.size A m c (ints .u32 l) → Calls Try.prog 21 #[.slice A m c, .int .i64 n] w fun e w' => e = .returned V ∧ Below w.heap.size w w') := by
      by_cases hneg : n < 0
      · exact ⟨_, _, _, rfl, fun A c w _ => bytes_neg A m c n w hneg, fun A c w _ => refBytes_neg A m c n w hneg⟩
      · obtain ⟨k, rfl⟩ := Int.eq_ofNat_of_zero_le (show 0 ≤ n from by omega)
        refine ⟨bytesAns l m k, if k ≤ 4 * m then ⟨(bytesUp l k).toArray⟩ else ⟨#[]⟩, if k ≤ 4 * m then 0 else 12, ?_, fun A c w hx => bytes_all l HL.out A m c k w hx (by omega) (by omega), fun A c w hx => refBytes_all l HL.out A m c k w hx (by omega)⟩
        unfold bytesAns
        split <;> rfl
    rw [hV] at H1 H2
    clear hV
    have H1 := Lib.hid H1
    have H2 := Lib.hid H2
    go_enter Try.func7, Try.ntmps7
    go_wp2_with fail
    refine (copy_any l _ _ _ _ hr (by omega)).mono ?_
    rintro e w1 ⟨g, rfl, hrow, _, hb1⟩
    go_wp2_with fail
    refine (H1.out _ _ _ (hrow.reads (by have := hr.len; exact this))).mono ?_
    rintro e w2 ⟨rfl, hb2⟩
    have hr2 := (((hr.below hb1).more hb1.size).below hb2).more hb2.size
    go_wp2_with fail
    refine (H2.out _ _ _ hr2).mono ?_
    rintro e w3 ⟨rfl, hb3⟩
    go_wp2_with fail
    refine (fixed_any _).mono ?_
    rintro e w4 ⟨rfl, hb4⟩
    go_wp2_with fail
    refine (same32_yes _ _ _ _ _ _ _ _ _ ((((hrow.call hb2).call hb3).call hb4).reads (by have := hr.len; exact this)) ((((hr2.below hb3).more hb3.size).below hb4).more hb4.size) (by omega) rfl).mono ?_
    rintro e w5 ⟨rfl, hb5⟩
    go_wp2
    go_ret
    exact ⟨rfl, then_ (then_ (then_ (then_ hb1 hb2) hb3) hb4) hb5⟩

theorem str_ne {a b : ByteArray} (h : a ≠ b) : a.data.toList ≠ b.data.toList := fun e => h (ByteArray.ext (Array.ext' e))

set_option maxHeartbeats 1000000 in
theorem walkPackUnlike (a : ByteArray) (_ : a.size ≤ maxLen) (b : ByteArray) (_ : b.size ≤ maxLen) (f : Int) (hf : (Lit.int .u8 f).wf = true) (w : World) :
    Calls Try.prog 6 #[.string a, .string b, .int .u8 f] w fun e w' => e = .returned (.bool true) ∧ Below w.heap.size w w' := by
  obtain ⟨k, rfl⟩ := fieldByte f hf
  clear hf
  by_cases h : 1000 < a.size
  · have h' : (1000 : Int) < (a.size : Int) := by omega
    go_enter Try.func6, Try.ntmps6
    go_wp2_with (go_at_call 9; refine (fixed_any _).mono ?_; rintro e w1 ⟨rfl, hb1⟩)
    go_ret
    exact ⟨rfl, hb1⟩
  · have h' : ¬ (1000 : Int) < (a.size : Int) := by omega
    by_cases hl : a.size = b.size
    · have hne : ((a.size : Int) != (b.size : Int)) = false := by simp; omega
      have hbs : b.size ≤ 1000 := by omega
      have HLa := Lib.hid hl
      have hab : a.size ≤ b.size ∧ b.size ≤ a.size := by omega
      have hd : a ≠ b → cellsOf a.data.toList ((a.size + 3) / 4) ≠ cellsOf b.data.toList ((b.size + 3) / 4) := by
        intro hne e
        refine str_ne hne (cells_inj _ _ (by rw [len_data, len_data, hl]) ?_)
        rw [len_data, len_data]; exact e
      have HD := Lib.hid hd
      clear hl hd
      by_cases he : a = b
      · subst he
        go_enter Try.func6, Try.ntmps6
        go_wp2_with fail
        refine (fixed_any _).mono ?_
        rintro e w0 ⟨rfl, hb0⟩
        go_wp2_with fail
        refine (cells_any _ _ (by omega)).mono ?_
        rintro e w1 ⟨g, rfl, hrow, hb1⟩
        go_wp2_with fail
        refine (cells_any _ _ (by omega)).mono ?_
        rintro e w2 ⟨g2, rfl, hrow2, hb2⟩
        go_wp2_with fail
        refine (same32_yes _ _ _ _ _ _ _ _ _ ((hrow.call hb2).reads (by rw [ints_length, cellsOf_length])) (hrow2.reads (by rw [ints_length, cellsOf_length])) (by omega) rfl).mono ?_
        rintro e w3 ⟨rfl, hb3⟩
        go_wp2_with fail
        refine (key_any k a _ (by omega)).mono ?_
        rintro e w4 ⟨rfl, hb4⟩
        go_wp2_with fail
        refine (key_any k a _ (by omega)).mono ?_
        rintro e w5 ⟨rfl, hb5⟩
        go_wp2
        go_ret
        exact ⟨rfl, then_ (then_ (then_ (then_ (then_ hb0 hb1) hb2) hb3) hb4) hb5⟩
      · have hs : (a.toList == b.toList) = false := by
          have := str_ne he
          simp only [beq_eq_false_iff_ne, ne_eq]
          intro e
          rw [Go.ByteArray.toList_eq, Go.ByteArray.toList_eq] at e
          exact this e
        have hs2 : (a.data.toList == b.data.toList) = false := by
          have := str_ne he
          simpa using this
        have HC := Lib.hid (HD.out he)
        clear he
        go_enter Try.func6, Try.ntmps6
        go_wp2_with fail
        refine (fixed_any _).mono ?_
        rintro e w0 ⟨rfl, hb0⟩
        go_wp2_with fail
        refine (cells_any _ _ (by omega)).mono ?_
        rintro e w1 ⟨g, rfl, hrow, hb1⟩
        go_wp2_with fail
        refine (cells_any _ _ (by omega)).mono ?_
        rintro e w2 ⟨g2, rfl, hrow2, hb2⟩
        go_wp2_with fail
        refine (same32_no _ _ _ _ _ _ _ _ _ ((hrow.call hb2).reads (by rw [ints_length, cellsOf_length])) (hrow2.reads (by rw [ints_length, cellsOf_length])) (by omega) (by omega) HC.out).mono ?_
        rintro e w3 ⟨rfl, hb3⟩
        go_wp2_with fail
        refine (key_any k a _ (by omega)).mono ?_
        rintro e w4 ⟨rfl, hb4⟩
        go_wp2_with fail
        refine (key_any k b _ (by omega)).mono ?_
        rintro e w5 ⟨rfl, hb5⟩
        go_wp2
        go_ret
        exact ⟨rfl, then_ (then_ (then_ (then_ (then_ hb0 hb1) hb2) hb3) hb4) hb5⟩
    · have hne : ((a.size : Int) != (b.size : Int)) = true := by simp; omega
      clear hl
      go_enter Try.func6, Try.ntmps6
      go_wp2_with (go_at_call 9; refine (fixed_any _).mono ?_; rintro e w1 ⟨rfl, hb1⟩)
      go_ret
      exact ⟨rfl, hb1⟩
end Go.Proofs.Ytoclkioipehjgaa
