/- The walks of utf.Text and ref.Text, utf.Fit and ref.Fit. -/
import Derived.Test.YtmofhpebcbpccaaDoorUtfRefRunes
namespace Go.Proofs.YtmofhpebcbpccaaDoor
open Go.RowKit

/-- The bytes of runes. -/
def textOf (l : List Int) : List UInt8 := l.flatMap enc
theorem textOf_le (l : List Int) : (textOf l).length ≤ 4 * l.length := by
  induction l with
  | nil => simp [textOf]
  | cons r l ih =>
    have := enc_len_le r
    simp only [textOf, List.flatMap_cons, List.length_append, List.length_cons] at ih ⊢
    omega
theorem textOf_snoc (l : List Int) (r : Int) : textOf (l ++ [r]) = textOf l ++ enc r := by simp [textOf]
theorem textOf_take (l : List Int) (k : Nat) (h : k < l.length) : textOf (l.take (k + 1)) = textOf (l.take k) ++ enc l[k] := by
  rw [List.take_succ_eq_append_getElem h, textOf_snoc]

theorem enc_data (r : Int) : (Utf8.encode r).data.toList = enc r := rfl
theorem enc_size (r : Int) : (Utf8.encode r).size = (enc r).length := by rw [enc, Array.length_toList]; rfl

set_option maxHeartbeats 1000000 in
theorem text_any (xs : List Int) (A : Option Addr) (n c : Nat) (w : World) (hx : Reads w w.heap.size A n c (ints .i32 xs)) (hn : n ≤ 1048576) :
    Calls Tryd.prog 25 #[.slice A n c] w fun e w' => e = .returned (.string ⟨(textOf xs).toArray⟩) ∧ Below w.heap.size w w' := by
  obtain ⟨i0, hi0, hz0, hz1, hz2⟩ := info_parts info_byte
  have lx : xs.length = n := by simpa using hx.len
  have Lx := Lib.hid lx
  clear lx
  go_enter Tryd.func25, Tryd.ntmps25
  go_wp2
  go_loopw [3, 8] (fun v i wr => ∃ k : Nat, k ≤ n ∧ i = .int .i64 k ∧ wr.ownsRow w.heap.size 5 1 v (textOf (xs.take k)).length (bys (textOf (xs.take k))) ∧ Below w.heap.size w wr) (fun _ i _ => n - (intOf i).toNat)
  case atStart => exact ⟨0, Nat.zero_le _, rfl, World.ownsRow_nil _ _ _ _, Below.refl _ _⟩
  case round =>
    obtain ⟨k, hk, rfl, hown, hb⟩ := hrel
    have hsz := hb.size
    have htl := textOf_le (xs.take k)
    have htk : (xs.take k).length ≤ k := List.length_take_le _ _
    by_cases hlt : k < n
    · obtain ⟨ad, h1, rfl, hbl, hc⟩ := hx.int hlt
      have hc' : wr.cell? (ad.add k) = some (.int .i32 xs[k]) := by rw [hb.cell (by rw [add_block]; exact hbl)]; exact hc
      have hstep := Lib.hid (textOf_take xs k h1)
      have hel := enc_len_le xs[k]
      have hes := Lib.hid (enc_size xs[k])
      have hlt' : (k : Int) < (n : Int) := by omega
      clear hc
      go_wp2_with (at_builtin; refine wpList_append_str rfl _ _ 48 9 rfl w.heap.size 5 i0 Tryd.underlying48 Tryd.underlying9 hi0 hz0 hz1 hz2 _ _ _ hown (Utf8.encode xs[k]) rfl rfl (by rw [hes.out]; omega) hsz ?_; intro v1 w1 hown1 hg1)
      go_roundw
      case rel =>
        refine ⟨k + 1, by omega, by go_num, ?_, below_grown hb hown (Nat.le_refl _) hsz hg1⟩
        rw [hstep.out, List.length_append, ← hes.out, ← enc_data]; exact hown1
      case measure => simp [intOf]; omega
    · have hkn : Hid (k = n) := Lib.hid (by omega)
      obtain ⟨A', c', hv, hr, -⟩ := ownsRow_slice hown
      have HT : Hid (textOf (xs.take k) = textOf xs) := Lib.hid (by rw [List.take_of_length_le (by rw [Lx.out, hkn.out]; omega)])
      rw [hv]
      have hcv := run_string_of (P := Tryd.prog) 48 9 5 Tryd.underlying48 Tryd.underlying5 Tryd.underlying9 hr
      have Hv := Lib.hid hv
      clear hv
      go_wp2
      go_ret
      exact ⟨by rw [← HT.out]; rfl, hb⟩

set_option maxHeartbeats 1000000 in
theorem refText_any (xs : List Int) (A : Option Addr) (n c : Nat) (w : World) (hx : Reads w w.heap.size A n c (ints .i32 xs)) (hn : n ≤ 1048576) :
    Calls Tryd.prog 19 #[.slice A n c] w fun e w' => e = .returned (.string ⟨(textOf xs).toArray⟩) ∧ Below w.heap.size w w' := by
  obtain ⟨i0, hi0, hz0, hz1, hz2⟩ := info_parts info_byte
  have lx : xs.length = n := by simpa using hx.len
  have Lx := Lib.hid lx
  clear lx
  go_enter Tryd.func19, Tryd.ntmps19
  go_wp2
  go_loopw [3, 8] (fun v i wr => ∃ k : Nat, k ≤ n ∧ i = .int .i64 k ∧ wr.ownsRow w.heap.size 5 1 v (textOf (xs.take k)).length (bys (textOf (xs.take k))) ∧ Below w.heap.size w wr) (fun _ i _ => n - (intOf i).toNat)
  case atStart => exact ⟨0, Nat.zero_le _, rfl, built_new w _ [] (by simp), (Below.refl _ _).alloc (Nat.le_refl _) _⟩
  case round =>
    obtain ⟨k, hk, rfl, hown, hb⟩ := hrel
    have hsz := hb.size
    have htl := textOf_le (xs.take k)
    have htk : (xs.take k).length ≤ k := List.length_take_le _ _
    by_cases hlt : k < n
    · obtain ⟨ad, h1, rfl, hbl, hc⟩ := hx.int hlt
      have hc' : wr.cell? (ad.add k) = some (.int .i32 xs[k]) := by rw [hb.cell (by rw [add_block]; exact hbl)]; exact hc
      have hstep := Lib.hid (textOf_take xs k h1)
      have hel := enc_len_le xs[k]
      have hlt' : (k : Int) < (n : Int) := by omega
      clear hc
      go_wp2_with (first | (go_at_call 29; refine (bytes_any _ _).mono ?_; rintro e w1 ⟨v1, rfl, hown1, hb1⟩; obtain ⟨A1, c1, rfl, hr1, _⟩ := ownsRow_slice hown1) | (at_builtin; refine wpList_append_all rfl _ _ 48 rfl w.heap.size 5 i0 (.int .u8 0) 1 Tryd.underlying48 hi0 hz0 hz1 hz2 rfl _ _ _ (ownsRow_below hown hb1) _ _ _ _ _ hr1 rfl rfl (bys_one _) (by omega) (by omega) (by have := hb1.size; omega) ?_; intro v2 w2 hown2 hg2))
      go_roundw
      case rel =>
        refine ⟨k + 1, by omega, by go_num, ?_, below_grown (hb.trans (hb1.mono hsz)) (ownsRow_below hown hb1) (Nat.le_refl _) (by have := hb1.size; omega) hg2⟩
        rw [hstep.out, List.length_append, bys_append]; exact hown2
      case measure => simp [intOf]; omega
    · have hkn : Hid (k = n) := Lib.hid (by omega)
      obtain ⟨A', c', hv, hr, -⟩ := ownsRow_slice hown
      have HT : Hid (textOf (xs.take k) = textOf xs) := Lib.hid (by rw [List.take_of_length_le (by rw [Lx.out, hkn.out]; omega)])
      rw [hv]
      have hcv := run_string_of (P := Tryd.prog) 48 9 5 Tryd.underlying48 Tryd.underlying5 Tryd.underlying9 hr
      have Hv := Lib.hid hv
      clear hv
      go_wp2
      go_ret
      exact ⟨by rw [← HT.out]; rfl, hb⟩
end Go.Proofs.YtmofhpebcbpccaaDoor
