/- Plain functions on strings and runes: what utf.Runes, utf.Text and utf.Fit compute. No program in sight. -/
import Derived.WalkKit
namespace Go.Proofs.YtmofhpebcbpccaaDoor

/-- The runes of s from a place on, with fuel. -/
def runesAt (s : ByteArray) : Nat → Nat → List Int
  | 0, _ => []
  | f + 1, p => if p < s.size then ((Utf8.decode s p).1 : Int) :: runesAt s f (p + (Utf8.decode s p).2) else []
def runesOf (s : ByteArray) : List Int := runesAt s s.size 0
theorem width_pos (s : ByteArray) (p : Nat) : 1 ≤ (Utf8.decode s p).2 := by
  simp only [Utf8.decode]
  repeat' split
  all_goals simp
theorem width_le (s : ByteArray) (p : Nat) : (Utf8.decode s p).2 ≤ 4 := by
  simp only [Utf8.decode]
  repeat' split
  all_goals simp
theorem runesAt_end (s : ByteArray) (f p : Nat) (h : s.size ≤ p) : runesAt s f p = [] := by
  cases f with
  | zero => rfl
  | succ f => simp [runesAt]; omega
theorem runesAt_fuel (s : ByteArray) : ∀ (f g p : Nat), s.size - p ≤ f → s.size - p ≤ g → runesAt s f p = runesAt s g p := by
  intro f
  induction f with
  | zero => intro g p hf _; rw [runesAt_end s 0 p (by omega), runesAt_end s g p (by omega)]
  | succ f ih =>
    intro g p hf hg
    cases g with
    | zero => rw [runesAt_end s _ p (by omega), runesAt_end s 0 p (by omega)]
    | succ g =>
      by_cases hp : p < s.size
      · have hw := width_pos s p
        simp only [runesAt, if_pos hp]
        rw [ih g _ (by omega) (by omega)]
      · rw [runesAt_end s _ p (by omega), runesAt_end s _ p (by omega)]
theorem runesAt_step (s : ByteArray) (p : Nat) (hp : p < s.size) : runesAt s (s.size - p) p = ((Utf8.decode s p).1 : Int) :: runesAt s (s.size - (p + (Utf8.decode s p).2)) (p + (Utf8.decode s p).2) := by
  have hw := width_pos s p
  obtain ⟨f, hf⟩ : ∃ f, s.size - p = f + 1 := ⟨s.size - p - 1, by omega⟩
  rw [hf, runesAt, if_pos hp, runesAt_fuel s f (s.size - (p + (Utf8.decode s p).2)) _ (by omega) (by omega)]
theorem runesAt_len (s : ByteArray) : ∀ (f p : Nat), (runesAt s f p).length ≤ s.size - p := by
  intro f
  induction f with
  | zero => intro p; simp [runesAt]
  | succ f ih =>
    intro p
    by_cases hp : p < s.size
    · have hw := width_pos s p
      have := ih (p + (Utf8.decode s p).2)
      simp only [runesAt, if_pos hp, List.length_cons]
      omega
    · rw [runesAt_end s _ p (by omega)]; simp
end Go.Proofs.YtmofhpebcbpccaaDoor
