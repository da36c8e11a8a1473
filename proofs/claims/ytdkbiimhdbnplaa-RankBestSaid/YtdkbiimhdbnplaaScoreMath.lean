/- Plain: how two doubles stand to each other, by their words. -/
import GoSem.Core.Float
namespace Go.Proofs.Ytdkbiimhdbnplaa

def binN : Nat := 4503599627370496
def topN : Nat := 9223372036854775808
def infN : Nat := 9218868437227405312
/-- A word's key: the bits behind the sign, with it. -/
def key (x : Nat) : Int := if x / topN % 2 = 1 then -((x % topN : Nat) : Int) else ((x % topN : Nat) : Int)
def nanB (x : Nat) : Bool := decide (infN < x % topN)
def mant (r : Nat) : Nat := if r < binN then r else binN + r % binN
def expo (r : Nat) : Nat := if r < binN then 0 else r / binN - 1
def mag (r : Nat) : Nat := mant r * 2 ^ expo r

theorem mag_step (r : Nat) : mag r < mag (r + 1) := by
  unfold mag mant expo
  by_cases h : r + 1 < binN
  · rw [if_pos (by omega), if_pos h, if_pos (by omega), if_pos h]; omega
  · by_cases h1 : r < binN
    · have e : r + 1 = binN := by omega
      rw [if_pos h1, if_neg h, if_pos h1, if_neg h, e]
      simp only [binN] at *
      omega
    · rw [if_neg h1, if_neg h, if_neg h1, if_neg h]
      have hB : 0 < binN := by decide
      by_cases h2 : r % binN + 1 = binN
      · have hd : (r + 1) / binN = r / binN + 1 := by
          have := Nat.div_add_mod r binN
          rw [show r + 1 = binN * (r / binN + 1) from by rw [Nat.mul_add]; omega]
          exact Nat.mul_div_cancel_left _ hB
        have hm : (r + 1) % binN = 0 := by
          have := Nat.div_add_mod r binN
          rw [show r + 1 = binN * (r / binN + 1) from by rw [Nat.mul_add]; omega]
          exact Nat.mul_mod_right _ _
        have hge : 1 ≤ r / binN := (Nat.le_div_iff_mul_le hB).2 (by omega)
        rw [hd, hm, show r / binN + 1 - 1 = (r / binN - 1) + 1 from by omega, Nat.pow_succ]
        have hp : 0 < 2 ^ (r / binN - 1) := Nat.pow_pos (by omega)
        calc (binN + r % binN) * 2 ^ (r / binN - 1) < (binN * 2) * 2 ^ (r / binN - 1) := Nat.mul_lt_mul_of_pos_right (by omega) hp
          _ = (binN + 0) * (2 ^ (r / binN - 1) * 2) := by rw [Nat.add_zero, Nat.mul_assoc, Nat.mul_comm 2]
      · have hlt := Nat.mod_lt r hB
        have hd : (r + 1) / binN = r / binN := by
          have := Nat.div_add_mod r binN
          rw [show r + 1 = (r % binN + 1) + binN * (r / binN) from by omega, Nat.add_mul_div_left _ _ hB, Nat.div_eq_of_lt (by omega), Nat.zero_add]
        have hm : (r + 1) % binN = r % binN + 1 := by
          have := Nat.div_add_mod r binN
          rw [show r + 1 = (r % binN + 1) + binN * (r / binN) from by omega, Nat.add_mul_mod_self_left, Nat.mod_eq_of_lt (by omega)]
        rw [hd, hm]
        exact Nat.mul_lt_mul_of_pos_right (by omega) (Nat.pow_pos (by omega))
theorem mag_lt {r s : Nat} (h : r < s) : mag r < mag s := by
  induction s with
  | zero => omega
  | succ s ih =>
    by_cases e : r = s
    · subst e; exact mag_step r
    · exact Nat.lt_trans (ih (by omega)) (mag_step s)
theorem mag_iff (r s : Nat) : mag r < mag s ↔ r < s := by
  refine ⟨fun h => ?_, mag_lt⟩
  rcases Nat.lt_trichotomy r s with h1 | h1 | h1
  · exact h1
  · subst h1; omega
  · have := mag_lt h1; omega
theorem mag_zero : mag 0 = 0 := by decide

theorem read_num (x : Nat) (h : x % topN < infN) : FloatKind.f64.format.read x = .number (x / topN % 2 == 1) (mant (x % topN)) (-1074 + (expo (x % topN) : Nat)) := by
  unfold Ieee.Format.read mant expo
  have e1 : FloatKind.f64.format.signWeight = topN := by decide +kernel
  have e2 : FloatKind.f64.format.binade = binN := by decide +kernel
  have e3 : FloatKind.f64.format.infRung = infN := by decide +kernel
  have e4 : FloatKind.f64.format.leastPlace = -1074 := by decide +kernel
  simp only [e1, e2, e3, e4]
  by_cases hb : x % topN < binN
  · simp [hb]
  · rw [if_neg hb, if_pos h, if_neg hb, if_neg hb]
theorem read_inf (x : Nat) (h : x % topN = infN) : FloatKind.f64.format.read x = .infinity (x / topN % 2 == 1) := by
  unfold Ieee.Format.read
  have e1 : FloatKind.f64.format.signWeight = topN := by decide +kernel
  have e2 : FloatKind.f64.format.binade = binN := by decide +kernel
  have e3 : FloatKind.f64.format.infRung = infN := by decide +kernel
  simp only [e1, e2, e3, h]
  rw [if_neg (by decide), if_neg (by decide)]
  simp
theorem read_nan (x : Nat) (h : infN < x % topN) : ∃ s t, FloatKind.f64.format.read x = .nan s t := by
  unfold Ieee.Format.read
  have e1 : FloatKind.f64.format.signWeight = topN := by decide +kernel
  have e2 : FloatKind.f64.format.binade = binN := by decide +kernel
  have e3 : FloatKind.f64.format.infRung = infN := by decide +kernel
  simp only [e1, e2, e3]
  have hb : ¬ x % topN < binN := by simp only [binN, infN] at *; omega
  rw [if_neg hb, if_neg (by omega), if_neg (by omega)]
  exact ⟨_, _, rfl⟩

theorem cmp_of {a b c d : Int} (h1 : a < b ↔ c < d) (h2 : b < a ↔ d < c) : compare a b = compare c d := by
  rcases Int.lt_trichotomy a b with h | h | h
  · rw [Int.compare_eq_lt.2 h, Int.compare_eq_lt.2 (h1.1 h)]
  · subst h
    have : c = d := by
      rcases Int.lt_trichotomy c d with h | h | h
      · exact absurd (h1.2 h) (by omega)
      · exact h
      · exact absurd (h2.2 h) (by omega)
    subst this
    rw [Int.compare_eq_eq.2 rfl, Int.compare_eq_eq.2 rfl]
  · rw [Int.compare_eq_gt.2 h, Int.compare_eq_gt.2 (h2.1 h)]
theorem signed_eq (s : Bool) (m u : Nat) : Ieee.signed s m u = if s = true then -((m * 2 ^ u : Nat) : Int) else ((m * 2 ^ u : Nat) : Int) := by
  unfold Ieee.signed
  rw [Nat.shiftLeft_eq]
theorem pow_split (m a c : Nat) (h : c ≤ a) : m * 2 ^ (a - c) * 2 ^ c = m * 2 ^ a := by
  rw [Nat.mul_assoc, ← Nat.pow_add, Nat.sub_add_cancel h]
theorem order_num (x y : Nat) (hx : x % topN < infN) (hy : y % topN < infN) : FloatKind.f64.format.order x y = some (compare (key x) (key y)) := by
  unfold Ieee.Format.order
  rw [read_num x hx, read_num y hy]
  unfold Ieee.Datum.order
  simp only [Option.some.injEq]
  unfold key
  generalize x % topN = r
  generalize y % topN = t
  generalize hc : min (expo r) (expo t) = c
  have e1 : ((-1074 : Int) + ((expo r : Nat) : Int) - min ((-1074 : Int) + ((expo r : Nat) : Int)) ((-1074 : Int) + ((expo t : Nat) : Int))).toNat = expo r - c := by omega
  have e2 : ((-1074 : Int) + ((expo t : Nat) : Int) - min ((-1074 : Int) + ((expo r : Nat) : Int)) ((-1074 : Int) + ((expo t : Nat) : Int))).toNat = expo t - c := by omega
  rw [e1, e2, signed_eq, signed_eq]
  have p1 := pow_split (mant r) (expo r) c (by omega)
  have p2 := pow_split (mant t) (expo t) c (by omega)
  generalize mant r * 2 ^ (expo r - c) = P at *
  generalize mant t * 2 ^ (expo t - c) = Q at *
  have m1 : mag r = P * 2 ^ c := p1.symm
  have m2 : mag t = Q * 2 ^ c := p2.symm
  have hpos : 0 < 2 ^ c := Nat.pow_pos (by omega)
  have i1 : P < Q ↔ r < t := by
    rw [← mag_iff r t, m1, m2]
    exact (Nat.mul_lt_mul_right hpos).symm
  have i2 : Q < P ↔ t < r := by
    rw [← mag_iff t r, m1, m2]
    exact (Nat.mul_lt_mul_right hpos).symm
  have z1 : 0 < P ↔ 0 < r := by
    rw [← mag_iff 0 r, mag_zero, m1]
    exact ⟨fun h => Nat.mul_pos h hpos, fun h => Nat.pos_of_mul_pos_right h⟩
  have z2 : 0 < Q ↔ 0 < t := by
    rw [← mag_iff 0 t, mag_zero, m2]
    exact ⟨fun h => Nat.mul_pos h hpos, fun h => Nat.pos_of_mul_pos_right h⟩
  clear p1 p2 e1 e2 hc m1 m2
  by_cases s1 : x / topN % 2 = 1
  · by_cases s2 : y / topN % 2 = 1
    · simp only [s1, s2, beq_self_eq_true, if_true]
      exact cmp_of (by omega) (by omega)
    · have b2 : (y / topN % 2 == 1) = false := by simp [s2]
      simp only [s1, b2, beq_self_eq_true, if_true, if_neg s2, Bool.false_eq_true, if_false]
      exact cmp_of (by omega) (by omega)
  · have b1 : (x / topN % 2 == 1) = false := by simp [s1]
    by_cases s2 : y / topN % 2 = 1
    · simp only [s2, b1, beq_self_eq_true, if_true, if_neg s1, Bool.false_eq_true, if_false]
      exact cmp_of (by omega) (by omega)
    · have b2 : (y / topN % 2 == 1) = false := by simp [s2]
      simp only [b1, b2, if_neg s1, if_neg s2, Bool.false_eq_true, if_false]
      exact cmp_of (by omega) (by omega)
theorem key_num (x : Nat) (h : x % topN < infN) : -(infN : Int) < key x ∧ key x < infN := by
  unfold key; split <;> omega
theorem cmp_lt {a b : Int} (h : a < b) : compare a b = .lt := Int.compare_eq_lt.2 h
theorem cmp_gt {a b : Int} (h : b < a) : compare a b = .gt := Int.compare_eq_gt.2 h
theorem order_key (x y : Nat) (hx : x % topN ≤ infN) (hy : y % topN ≤ infN) : FloatKind.f64.format.order x y = some (compare (key x) (key y)) := by
  by_cases h1 : x % topN < infN
  · by_cases h2 : y % topN < infN
    · exact order_num x y h1 h2
    · have e2 : y % topN = infN := by omega
      have hk := key_num x h1
      unfold Ieee.Format.order
      rw [read_num x h1, read_inf y e2]
      unfold Ieee.Datum.order
      by_cases s2 : y / topN % 2 = 1
      · have ky : key y = -(infN : Int) := by unfold key; rw [if_pos s2, e2]
        rw [ky, cmp_gt (by omega)]
        simp [s2]
      · have ky : key y = (infN : Int) := by unfold key; rw [if_neg s2, e2]
        rw [ky, cmp_lt (by omega)]
        simp [s2]
  · have e1 : x % topN = infN := by omega
    by_cases h2 : y % topN < infN
    · have hk := key_num y h2
      unfold Ieee.Format.order
      rw [read_num y h2, read_inf x e1]
      unfold Ieee.Datum.order
      by_cases s1 : x / topN % 2 = 1
      · have kx : key x = -(infN : Int) := by unfold key; rw [if_pos s1, e1]
        rw [kx, cmp_lt (by omega)]
        simp [s1]
      · have kx : key x = (infN : Int) := by unfold key; rw [if_neg s1, e1]
        rw [kx, cmp_gt (by omega)]
        simp [s1]
    · have e2 : y % topN = infN := by omega
      unfold Ieee.Format.order
      rw [read_inf x e1, read_inf y e2]
      unfold Ieee.Datum.order key
      rw [e1, e2]
      by_cases s1 : x / topN % 2 = 1
      · have b1 : (x / topN % 2 == 1) = true := by simp [s1]
        by_cases s2 : y / topN % 2 = 1
        · have b2 : (y / topN % 2 == 1) = true := by simp [s2]
          rw [b1, b2, if_pos s1, if_pos s2]; decide
        · have b2 : (y / topN % 2 == 1) = false := by simp [s2]
          rw [b1, b2, if_pos s1, if_neg s2]; decide
      · have b1 : (x / topN % 2 == 1) = false := by simp [s1]
        by_cases s2 : y / topN % 2 = 1
        · have b2 : (y / topN % 2 == 1) = true := by simp [s2]
          rw [b1, b2, if_neg s1, if_pos s2]; decide
        · have b2 : (y / topN % 2 == 1) = false := by simp [s2]
          rw [b1, b2, if_neg s1, if_neg s2]; decide
theorem order_nan (x y : Nat) (h : infN < x % topN ∨ infN < y % topN) : FloatKind.f64.format.order x y = none := by
  unfold Ieee.Format.order
  rcases h with h | h
  · obtain ⟨s, t, e⟩ := read_nan x h
    rw [e]
    cases FloatKind.f64.format.read y <;> rfl
  · obtain ⟨s, t, e⟩ := read_nan y h
    rw [e]
    cases FloatKind.f64.format.read x <;> rfl
end Go.Proofs.Ytdkbiimhdbnplaa
