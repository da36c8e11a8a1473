/- Plain: numbers as bytes of seven bits. No program in sight. -/
import Derived.WalkKit
import Derived.Test.YtbbjlijdodnjaaaKit
namespace Go.Proofs.Ytbbjlijdodnjaaa
open Go.RowKit

/-- Byte i of a list, 0 behind its end. -/
def byteD (l : List UInt8) (i : Nat) : Nat := (l.getD i 0).toNat
theorem byteD_lt (l : List UInt8) (i : Nat) : byteD l i < 256 := (l.getD i 0).toNat_lt

def putF : Nat → Nat → List UInt8
  | 0, n => [UInt8.ofNat n]
  | f + 1, n => if 128 ≤ n then UInt8.ofNat (n % 128 + 128) :: putF f (n / 128) else [UInt8.ofNat n]
def putL (n : Nat) : List UInt8 := putF 4 n
theorem putF_len (f n : Nat) : 1 ≤ (putF f n).length ∧ (putF f n).length ≤ f + 1 := by
  induction f generalizing n with
  | zero => simp [putF]
  | succ f ih =>
    unfold putF
    split
    · have := ih (n / 128)
      simp only [List.length_cons]
      omega
    · simp

/-- The number gathered of the first i bytes from p on. -/
def accV (b : List UInt8) (p : Nat) : Nat → Nat
  | 0 => 0
  | i + 1 => accV b p i + (byteD b (p + i) - 128) * 2 ^ (7 * i)
theorem accV_lt (b : List UInt8) (p : Nat) : ∀ i, accV b p i < 2 ^ (7 * i) := by
  intro i
  induction i with
  | zero => simp [accV]
  | succ i ih =>
    have := byteD_lt b (p + i)
    have e : 2 ^ (7 * (i + 1)) = 128 * 2 ^ (7 * i) := by rw [show 7 * (i + 1) = 7 + 7 * i from by omega, Nat.pow_add]
    have h1 : (byteD b (p + i) - 128) * 2 ^ (7 * i) ≤ 127 * 2 ^ (7 * i) := Nat.mul_le_mul_right _ (by omega)
    rw [accV, e]
    omega
/-- The answer: the number, the place behind it, the error's number. -/
structure Got where
  n : Nat
  next : Nat
  err : Nat
def getF (b : List UInt8) (p : Nat) : Nat → Nat → Got
  | 0, _ => ⟨0, 0, 11⟩
  | f + 1, i =>
    if b.length ≤ p + i then ⟨0, 0, 12⟩
    else if (byteD b (p + i) = 0 ∧ 0 < i) ∨ (i = 4 ∧ 15 < byteD b (p + i)) then ⟨0, 0, 11⟩
    else if byteD b (p + i) < 128 then ⟨accV b p i + byteD b (p + i) * 2 ^ (7 * i), p + i + 1, 0⟩
    else getF b p f (i + 1)
def getL (b : List UInt8) (p : Nat) : Got := getF b p 5 0
def Cont (b : List UInt8) (p k : Nat) : Prop := ∀ t, t < k → 128 ≤ byteD b (p + t)
theorem getF_reach (b : List UInt8) (p : Nat) : ∀ k, k ≤ 4 → Cont b p k → p + k ≤ b.length → getL b p = getF b p (5 - k) k := by
  intro k
  induction k with
  | zero => intro _ _ _; rfl
  | succ k ih =>
    intro hk hc hl
    rw [ih (by omega) (fun t ht => hc t (by omega)) (by omega)]
    have hx := hc k (by omega)
    rw [show 5 - k = (5 - (k + 1)) + 1 from by omega, getF, if_neg (by omega), if_neg (by omega), if_neg (by omega)]
theorem get_short (b : List UInt8) (p k : Nat) (hk : k ≤ 4) (hc : Cont b p k) (hl : p + k = b.length) : getL b p = ⟨0, 0, 12⟩ := by
  rw [getF_reach b p k hk hc (by omega), show 5 - k = (4 - k) + 1 from by omega, getF, if_pos (by omega)]
theorem get_form (b : List UInt8) (p k : Nat) (hk : k ≤ 4) (hc : Cont b p k) (hl : p + k < b.length) (h : (byteD b (p + k) = 0 ∧ 0 < k) ∨ (k = 4 ∧ 15 < byteD b (p + k))) : getL b p = ⟨0, 0, 11⟩ := by
  rw [getF_reach b p k hk hc (by omega), show 5 - k = (4 - k) + 1 from by omega, getF, if_neg (by omega), if_pos h]
theorem get_ok (b : List UInt8) (p k : Nat) (hk : k ≤ 4) (hc : Cont b p k) (hl : p + k < b.length) (h : ¬ ((byteD b (p + k) = 0 ∧ 0 < k) ∨ (k = 4 ∧ 15 < byteD b (p + k)))) (hx : byteD b (p + k) < 128) :
    getL b p = ⟨accV b p k + byteD b (p + k) * 2 ^ (7 * k), p + k + 1, 0⟩ := by
  rw [getF_reach b p k hk hc (by omega), show 5 - k = (4 - k) + 1 from by omega, getF, if_neg (by omega), if_neg h, if_pos hx]
theorem acc_fits (b : List UInt8) (p k : Nat) (hk : k ≤ 4) (x : Nat) (hx : x < 128) (h4 : k = 4 → x ≤ 15) : x * 2 ^ (7 * k) < 4294967296 ∧ accV b p k + x * 2 ^ (7 * k) < 4294967296 := by
  have h := accV_lt b p k
  rcases (show k = 0 ∨ k = 1 ∨ k = 2 ∨ k = 3 ∨ k = 4 from by omega) with rfl | rfl | rfl | rfl | rfl
  all_goals (simp at h4 h ⊢; omega)
theorem or_vlq (acc x k : Nat) (hacc : acc < 2 ^ (7 * k)) (h1 : x * 2 ^ (7 * k) < 4294967296) (h2 : acc < 4294967296) :
    bits .or .u32 (acc : Int) ((x : Int) * 2 ^ (7 * k) % 4294967296) = ((acc + x * 2 ^ (7 * k) : Nat) : Int) := by
  have e : (x : Int) * 2 ^ (7 * k) % 4294967296 = ((x * 2 ^ (7 * k) : Nat) : Int) := by
    rw [show (x : Int) * 2 ^ (7 * k) = ((x * 2 ^ (7 * k) : Nat) : Int) from by push_cast; rfl]
    omega
  rw [e, u32_or_nat acc _ h2 h1, Nat.or_comm, nat_join (7 * k) _ _ (by simp) hacc, Nat.add_comm]
theorem Cont.succ {b : List UInt8} {p k : Nat} (h : Cont b p k) (hx : 128 ≤ byteD b (p + k)) : Cont b p (k + 1) := by
  intro t ht
  by_cases e : t = k
  · rw [e]; exact hx
  · exact h t (by omega)
end Go.Proofs.Ytbbjlijdodnjaaa
