/- The walks of the laws of layer 7. -/
import Derived.Test.YtoclkioipehjgaaPackHash
import Derived.Test.YtoclkioipehjgaaPackWord
import Derived.Test.YtoclkioipehjgaaPackRefCells
import Derived.Test.YtoclkioipehjgaaPackRefBytes
import Derived.Test.YtoclkioipehjgaaSame32
namespace Go.Proofs.Ytoclkioipehjgaa
open Go.RowKit

theorem exc : cellsOf ([97, 98, 99, 100, 101] : List UInt8) 2 = [1684234849, 101] := by decide +kernel
theorem exh0 : hashOf [] = 2166136261 := rfl
theorem exh1 : hashOf [97] = 3826002220 := by decide +kernel
theorem built32 (w : World) (e : TypeId) (cs : List Value) : Reads (w.alloc (.cells cs.toArray e)) (w.alloc (.cells cs.toArray e)).heap.size (some ⟨w.heap.size, 0, none⟩) cs.length cs.length cs := (Row.new w e cs).reads rfl

set_option maxHeartbeats 1000000 in
theorem fixed_any (w : World) : Calls Try.prog 9 #[] w fun e w' => e = .returned (.bool true) ∧ Below w.heap.size w w' := by
  go_enter Try.func9, Try.ntmps9
  go_wp2_with fail
  refine (word_ok 1 2 _ (by decide) (by decide) (by decide) (by decide)).mono ?_
  rintro e w' ⟨rfl, rfl⟩
  go_wp2_with fail
  refine (cells_any _ _ (by decide)).mono ?_
  rintro e w1 ⟨g, rfl, hrow, hb1⟩
  have hrow' : Row w1 g 23 (ints .u32 [1684234849, 101]) := by
    have := hrow
    rw [show (⟨#[97, 98, 99, 100, 101]⟩ : ByteArray).data.toList = [97, 98, 99, 100, 101] from rfl, show ((⟨#[97, 98, 99, 100, 101]⟩ : ByteArray).size + 3) / 4 = 2 from rfl, exc] at this
    exact this
  clear hrow
  go_wp2_with fail
  refine (same32_yes [1684234849, 101] [1684234849, 101] _ _ _ _ _ _ _ ((hrow'.reads rfl).alloc (Nat.le_refl _) _ |>.more (by simp)) (built32 w1 _ [.int .u32 1684234849, .int .u32 101]) (by decide) rfl).mono ?_
  rintro e w2 ⟨rfl, hb2⟩
  go_wp2_with fail
  refine (hash_any _ _ (by decide)).mono ?_
  rintro e w' ⟨rfl, rfl⟩
  rw [show (⟨#[]⟩ : ByteArray).data.toList = [] from rfl, exh0]
  go_wp2_with fail
  refine (hash_any _ _ (by decide)).mono ?_
  rintro e w' ⟨rfl, rfl⟩
  rw [show (⟨#[97]⟩ : ByteArray).data.toList = [97] from rfl, exh1]
  go_wp2
  go_ret
  exact ⟨rfl, then_ (al_ hb1 _) hb2⟩

set_option maxHeartbeats 1000000 in
theorem walkPackHash (s : ByteArray) (_ : s.size ≤ maxLen) (w : World) : Calls Try.prog 3 #[.string s] w fun e w' => e = .returned (.bool true) ∧ Below w.heap.size w w' := by
  by_cases h : 5000 < s.size
  · have h' : (5000 : Int) < (s.size : Int) := by omega
    go_enter Try.func3, Try.ntmps3
    go_wp2_with (go_at_call 9; refine (fixed_any _).mono ?_; rintro e w1 ⟨rfl, hb1⟩)
    go_ret
    exact ⟨rfl, hb1⟩
  · have h' : ¬ (5000 : Int) < (s.size : Int) := by omega
    go_enter Try.func3, Try.ntmps3
    go_wp2_with (first | (go_at_call 9; refine (fixed_any _).mono ?_; rintro e w1 ⟨rfl, hb1⟩) | (go_at_call 10; refine (hash_any _ _ (by omega)).mono ?_; rintro e w' ⟨rfl, rfl⟩) | (go_at_call 11; refine (refHash_any _ _ (by omega)).mono ?_; rintro e w' ⟨rfl, rfl⟩))
    go_ret
    exact ⟨rfl, hb1⟩

theorem wf16 {x : Int} (h : (Lit.int .u16 x).wf = true) : 0 ≤ x ∧ x ≤ 65535 := by
  simp [Lit.wf, IntKind.min, IntKind.max, IntKind.signed, IntKind.bits] at h; omega
theorem wf32 {x : Int} (h : (Lit.int .u32 x).wf = true) : 0 ≤ x ∧ x < 4294967296 := by
  simp [Lit.wf, IntKind.min, IntKind.max, IntKind.signed, IntKind.bits] at h; omega
theorem wf64 {x : Int} (h : (Lit.int .i64 x).wf = true) : -9223372036854775808 ≤ x ∧ x ≤ 9223372036854775807 := by
  simp [Lit.wf, IntKind.min, IntKind.max, IntKind.signed, IntKind.bits] at h; omega

set_option maxHeartbeats 2000000 in
theorem walkPackOrder (a : Int) (ha : (Lit.int .u16 a).wf = true) (b : Int) (hb : (Lit.int .u16 b).wf = true) (c : Int) (hc : (Lit.int .u16 c).wf = true) (d : Int) (hd : (Lit.int .u16 d).wf = true) (w : World) :
    Calls Try.prog 4 #[.int .u16 a, .int .u16 b, .int .u16 c, .int .u16 d] w fun e w' => e = .returned (.bool true) ∧ Below w.heap.size w w' := by
  obtain ⟨a0, a1⟩ := wf16 ha; obtain ⟨b0, b1⟩ := wf16 hb; obtain ⟨c0, c1⟩ := wf16 hc; obtain ⟨d0, d1⟩ := wf16 hd
  clear ha hb hc hd
  rcases (show a < c ∨ c < a ∨ (a = c ∧ b < d) ∨ (a = c ∧ d < b) ∨ (a = c ∧ b = d) from by omega) with h | h | ⟨h, h'⟩ | ⟨h, h'⟩ | ⟨h, h'⟩
  · have h1 : a * 65536 + b < c * 65536 + d := by omega
    have h2 : (a * 65536 + b == c * 65536 + d) = false := by simp; omega
    have h3 : (a == c) = false := by simp; omega
    go_enter Try.func4, Try.ntmps4
    go_wp2_with (first | (go_at_call 12; refine (word_ok _ _ _ (by omega) (by omega) (by omega) (by omega)).mono ?_; rintro e w' ⟨rfl, rfl⟩) | (go_at_call 9; refine (fixed_any _).mono ?_; rintro e w1 ⟨rfl, hb1⟩))
    go_ret
    exact ⟨rfl, hb1⟩
  · have h1 : ¬ a * 65536 + b < c * 65536 + d := by omega
    have h2 : (a * 65536 + b == c * 65536 + d) = false := by simp; omega
    have h3 : (a == c) = false := by simp; omega
    go_enter Try.func4, Try.ntmps4
    go_wp2_with (first | (go_at_call 12; refine (word_ok _ _ _ (by omega) (by omega) (by omega) (by omega)).mono ?_; rintro e w' ⟨rfl, rfl⟩) | (go_at_call 9; refine (fixed_any _).mono ?_; rintro e w1 ⟨rfl, hb1⟩))
    go_ret
    exact ⟨rfl, hb1⟩
  · subst h
    have h1 : a * 65536 + b < a * 65536 + d := by omega
    have h2 : (a * 65536 + b == a * 65536 + d) = false := by simp; omega
    have h3 : (b == d) = false := by simp; omega
    go_enter Try.func4, Try.ntmps4
    go_wp2_with (first | (go_at_call 12; refine (word_ok _ _ _ (by omega) (by omega) (by omega) (by omega)).mono ?_; rintro e w' ⟨rfl, rfl⟩) | (go_at_call 9; refine (fixed_any _).mono ?_; rintro e w1 ⟨rfl, hb1⟩))
    go_ret
    exact ⟨rfl, hb1⟩
  · subst h
    have h1 : ¬ a * 65536 + b < a * 65536 + d := by omega
    have h2 : (a * 65536 + b == a * 65536 + d) = false := by simp; omega
    have h3 : (b == d) = false := by simp; omega
    go_enter Try.func4, Try.ntmps4
    go_wp2_with (first | (go_at_call 12; refine (word_ok _ _ _ (by omega) (by omega) (by omega) (by omega)).mono ?_; rintro e w' ⟨rfl, rfl⟩) | (go_at_call 9; refine (fixed_any _).mono ?_; rintro e w1 ⟨rfl, hb1⟩))
    go_ret
    exact ⟨rfl, hb1⟩
  · subst h; subst h'
    go_enter Try.func4, Try.ntmps4
    go_wp2_with (first | (go_at_call 12; refine (word_ok _ _ _ (by omega) (by omega) (by omega) (by omega)).mono ?_; rintro e w' ⟨rfl, rfl⟩) | (go_at_call 9; refine (fixed_any _).mono ?_; rintro e w1 ⟨rfl, hb1⟩))
    go_ret
    exact ⟨rfl, hb1⟩
end Go.Proofs.Ytoclkioipehjgaa
