/- Plain laws of numbers' bytes. No program in sight. -/
import Derived.Test.YtbbjlijdodnjaaaVlqPlain
namespace Go.Proofs.Ytbbjlijdodnjaaa
open Go.RowKit

theorem got_eq {g : Got} {a b c : Nat} (h : (g.n, g.next, g.err) = (a, b, c)) : g = ⟨a, b, c⟩ := by
  obtain ⟨x, y, z⟩ := g
  simp only [Prod.mk.injEq] at h
  obtain ⟨rfl, rfl, rfl⟩ := h
  rfl
def ob (n : Nat) : UInt8 := UInt8.ofNat n
theorem ob_nat (n : Nat) (h : n < 256) : (ob n).toNat = n := by unfold ob; rw [UInt8.toNat_ofNat']; exact Nat.mod_eq_of_lt (by simpa using h)
theorem put_1 (n : Nat) (h : n < 128) : putL n = [ob n] := by unfold putL; rw [putF, if_neg (by omega)]; rfl
theorem put_2 (n : Nat) (h : 128 ≤ n) (h' : n < 16384) : putL n = [ob (n % 128 + 128), ob (n / 128)] := by
  unfold putL; rw [putF, if_pos h, putF, if_neg (by omega)]; rfl
theorem put_3 (n : Nat) (h : 16384 ≤ n) (h' : n < 2097152) : putL n = [ob (n % 128 + 128), ob (n / 128 % 128 + 128), ob (n / 128 / 128)] := by
  unfold putL; rw [putF, if_pos (by omega), putF, if_pos (by omega), putF, if_neg (by omega)]; rfl
theorem put_4 (n : Nat) (h : 2097152 ≤ n) (h' : n < 268435456) : putL n = [ob (n % 128 + 128), ob (n / 128 % 128 + 128), ob (n / 128 / 128 % 128 + 128), ob (n / 128 / 128 / 128)] := by
  unfold putL; rw [putF, if_pos (by omega), putF, if_pos (by omega), putF, if_pos (by omega), putF, if_neg (by omega)]; rfl
theorem put_5 (n : Nat) (h : 268435456 ≤ n) : putL n = [ob (n % 128 + 128), ob (n / 128 % 128 + 128), ob (n / 128 / 128 % 128 + 128), ob (n / 128 / 128 / 128 % 128 + 128), ob (n / 128 / 128 / 128 / 128)] := by
  unfold putL; rw [putF, if_pos (by omega), putF, if_pos (by omega), putF, if_pos (by omega), putF, if_pos (by omega), putF]; rfl
theorem byteD_0 (a : UInt8) (l : List UInt8) : byteD (a :: l) 0 = a.toNat := rfl
theorem byteD_s (a : UInt8) (l : List UInt8) (i : Nat) : byteD (a :: l) (i + 1) = byteD l i := rfl
theorem accV_0 (b : List UInt8) (p : Nat) : accV b p 0 = 0 := rfl
theorem accV_s (b : List UInt8) (p i : Nat) : accV b p (i + 1) = accV b p i + (byteD b (p + i) - 128) * 2 ^ (7 * i) := rfl
theorem acc_1 (b : List UInt8) (p : Nat) : accV b p 1 = byteD b (p + 0) - 128 := by rw [accV_s, accV_0]; simp
theorem acc_2 (b : List UInt8) (p : Nat) : accV b p 2 = (byteD b (p + 0) - 128) + (byteD b (p + 1) - 128) * 128 := by rw [accV_s, acc_1]
theorem acc_3 (b : List UInt8) (p : Nat) : accV b p 3 = (byteD b (p + 0) - 128) + (byteD b (p + 1) - 128) * 128 + (byteD b (p + 2) - 128) * 16384 := by rw [accV_s, acc_2]
theorem acc_4 (b : List UInt8) (p : Nat) : accV b p 4 = (byteD b (p + 0) - 128) + (byteD b (p + 1) - 128) * 128 + (byteD b (p + 2) - 128) * 16384 + (byteD b (p + 3) - 128) * 2097152 := by rw [accV_s, acc_3]

/-- The five forms of a number's bytes. -/
theorem put_cases (n : Nat) (hn : n < 4294967296) (P : List UInt8 → Prop)
    (h1 : n < 128 → P [ob n]) (h2 : 128 ≤ n → n < 16384 → P [ob (n % 128 + 128), ob (n / 128)])
    (h3 : 16384 ≤ n → n < 2097152 → P [ob (n % 128 + 128), ob (n / 128 % 128 + 128), ob (n / 128 / 128)])
    (h4 : 2097152 ≤ n → n < 268435456 → P [ob (n % 128 + 128), ob (n / 128 % 128 + 128), ob (n / 128 / 128 % 128 + 128), ob (n / 128 / 128 / 128)])
    (h5 : 268435456 ≤ n → n / 128 / 128 / 128 / 128 < 16 → P [ob (n % 128 + 128), ob (n / 128 % 128 + 128), ob (n / 128 / 128 % 128 + 128), ob (n / 128 / 128 / 128 % 128 + 128), ob (n / 128 / 128 / 128 / 128)]) : P (putL n) := by
  by_cases c1 : n < 128
  · rw [put_1 n c1]; exact h1 c1
  · by_cases c2 : n < 16384
    · rw [put_2 n (by omega) c2]; exact h2 (by omega) c2
    · by_cases c3 : n < 2097152
      · rw [put_3 n (by omega) c3]; exact h3 (by omega) c3
      · by_cases c4 : n < 268435456
        · rw [put_4 n (by omega) c4]; exact h4 (by omega) c4
        · rw [put_5 n (by omega)]; exact h5 (by omega) (by omega)

theorem got_of {b : List UInt8} {p k n : Nat} (hk : k ≤ 4) (hc : Cont b p k) (hl : p + k < b.length) (h0 : 0 < k → byteD b (p + k) ≠ 0) (h4 : k = 4 → byteD b (p + k) ≤ 15) (hx : byteD b (p + k) < 128)
    (hn : accV b p k + byteD b (p + k) * 2 ^ (7 * k) = n) : getL b p = ⟨n, p + k + 1, 0⟩ := by
  rw [get_ok b p k hk hc hl (by rintro (⟨h1, h2⟩ | ⟨h1, h2⟩); exact h0 h2 h1; have := h4 h1; omega) hx, hn]

/-- What is put is read, wherever it stands. -/
theorem get_put (b : List UInt8) (p n : Nat) (hn : n < 4294967296) : (∀ t, t < (putL n).length → byteD b (p + t) = byteD (putL n) t) → p + (putL n).length ≤ b.length → getL b p = ⟨n, p + (putL n).length, 0⟩ := by
  refine put_cases n hn (fun L => (∀ t, t < L.length → byteD b (p + t) = byteD L t) → p + L.length ≤ b.length → getL b p = ⟨n, p + L.length, 0⟩) ?_ ?_ ?_ ?_ ?_
  · intro c1 h hl
    have e0 := h 0 (by simp)
    rw [byteD_0, ob_nat _ (by omega)] at e0
    have hl' : p + 1 ≤ b.length := hl
    refine got_of (k := 0) (by omega) (fun t ht => by omega) (by omega) (fun h => by omega) (fun h => by omega) (by omega) ?_
    rw [accV_0, e0]; simp
  · intro c1 c2 h hl
    have e0 := h 0 (by simp); have e1 := h 1 (by simp)
    rw [byteD_0, ob_nat _ (by omega)] at e0
    rw [show (1 : Nat) = 0 + 1 from rfl, byteD_s, byteD_0, ob_nat _ (by omega)] at e1
    simp only [Nat.zero_add] at e1
    have hl' : p + 2 ≤ b.length := hl
    refine got_of (k := 1) (by omega) (fun t ht => by rw [show t = 0 from by omega]; omega) (by omega) (fun h => by omega) (fun h => by omega) (by omega) ?_
    rw [acc_1, e0, e1]; simp; omega
  · intro c1 c2 h hl
    have e0 := h 0 (by simp); have e1 := h 1 (by simp); have e2 := h 2 (by simp)
    have f0 : byteD b (p + 0) = n % 128 + 128 := by rw [e0]; exact ob_nat _ (by omega)
    have f1 : byteD b (p + 1) = n / 128 % 128 + 128 := by rw [e1]; exact ob_nat _ (by omega)
    have f2 : byteD b (p + 2) = n / 128 / 128 := by rw [e2]; exact ob_nat _ (by omega)
    have hl' : p + 3 ≤ b.length := hl
    refine got_of (k := 2) (by omega) (fun t ht => by rcases (show t = 0 ∨ t = 1 from by omega) with rfl | rfl <;> omega) (by omega) (fun h => by omega) (fun h => by omega) (by omega) ?_
    rw [acc_2, f0, f1, f2]; simp; omega
  · intro c1 c2 h hl
    have e0 := h 0 (by simp); have e1 := h 1 (by simp); have e2 := h 2 (by simp); have e3 := h 3 (by simp)
    have f0 : byteD b (p + 0) = n % 128 + 128 := by rw [e0]; exact ob_nat _ (by omega)
    have f1 : byteD b (p + 1) = n / 128 % 128 + 128 := by rw [e1]; exact ob_nat _ (by omega)
    have f2 : byteD b (p + 2) = n / 128 / 128 % 128 + 128 := by rw [e2]; exact ob_nat _ (by omega)
    have f3 : byteD b (p + 3) = n / 128 / 128 / 128 := by rw [e3]; exact ob_nat _ (by omega)
    have hl' : p + 4 ≤ b.length := hl
    refine got_of (k := 3) (by omega) (fun t ht => by rcases (show t = 0 ∨ t = 1 ∨ t = 2 from by omega) with rfl | rfl | rfl <;> omega) (by omega) (fun h => by omega) (fun h => by omega) (by omega) ?_
    rw [acc_3, f0, f1, f2, f3]; simp; omega
  · intro c1 c2 h hl
    have e0 := h 0 (by simp); have e1 := h 1 (by simp); have e2 := h 2 (by simp); have e3 := h 3 (by simp); have e4 := h 4 (by simp)
    have f0 : byteD b (p + 0) = n % 128 + 128 := by rw [e0]; exact ob_nat _ (by omega)
    have f1 : byteD b (p + 1) = n / 128 % 128 + 128 := by rw [e1]; exact ob_nat _ (by omega)
    have f2 : byteD b (p + 2) = n / 128 / 128 % 128 + 128 := by rw [e2]; exact ob_nat _ (by omega)
    have f3 : byteD b (p + 3) = n / 128 / 128 / 128 % 128 + 128 := by rw [e3]; exact ob_nat _ (by omega)
    have f4 : byteD b (p + 4) = n / 128 / 128 / 128 / 128 := by rw [e4]; exact ob_nat _ (by omega)
    have hl' : p + 5 ≤ b.length := hl
    refine got_of (k := 4) (by omega) (fun t ht => by rcases (show t = 0 ∨ t = 1 ∨ t = 2 ∨ t = 3 from by omega) with rfl | rfl | rfl | rfl <;> omega) (by omega) (fun h => by omega) (fun h => by omega) (by omega) ?_
    rw [acc_4, f0, f1, f2, f3, f4]; simp; omega

/-- What a good answer has come of. -/
theorem getF_inv (b : List UInt8) (p : Nat) : ∀ f i, i + f = 5 → (getF b p f i).err = 0 → ∃ k, i ≤ k ∧ k ≤ 4 ∧ (∀ t, i ≤ t → t < k → 128 ≤ byteD b (p + t)) ∧ p + k < b.length ∧ (0 < k → byteD b (p + k) ≠ 0) ∧ (k = 4 → byteD b (p + k) ≤ 15) ∧ byteD b (p + k) < 128 := by
  intro f
  induction f with
  | zero => intro i _ h; simp [getF] at h
  | succ f ih =>
    intro i hi h
    rw [getF] at h
    split at h
    · simp at h
    · rename_i h1
      split at h
      · simp at h
      · rename_i h2
        split at h
        · rename_i h3
          exact ⟨i, Nat.le_refl _, by omega, fun t a c => by omega, by omega, fun a c => h2 (.inl ⟨c, a⟩), fun a => by omega, h3⟩
        · rename_i h3
          obtain ⟨k, a1, a2, a3, a4, a5, a6, a7⟩ := ih (i + 1) (by omega) h
          refine ⟨k, by omega, a2, fun t c1 c2 => ?_, a4, a5, a6, a7⟩
          by_cases e : t = i
          · rw [e]; omega
          · exact a3 t (by omega) c2
theorem take_bytes (b : List UInt8) (p : Nat) : ∀ m, p + m ≤ b.length → (b.drop p).take m = (List.range m).map fun t => ob (byteD b (p + t)) := by
  intro m
  induction m with
  | zero => intro _; rfl
  | succ m ih =>
    intro h
    have hl : m < (b.drop p).length := by rw [List.length_drop]; omega
    rw [List.take_succ_eq_append_getElem hl, ih (by omega), List.range_succ, List.map_append, List.getElem_drop]
    congr 1
    have e : ob (byteD b (p + m)) = b[p + m] := by
      apply UInt8.toNat_inj.1
      rw [ob_nat _ (byteD_lt _ _)]
      unfold byteD
      rw [List.getD, List.getElem?_eq_getElem (by omega), Option.getD_some]
    simp [e]
theorem range_2 : List.range 2 = [0, 1] := rfl
theorem range_3 : List.range 3 = [0, 1, 2] := rfl
theorem range_4 : List.range 4 = [0, 1, 2, 3] := rfl
theorem range_5 : List.range 5 = [0, 1, 2, 3, 4] := rfl
theorem pd2 (y0 y1 : Nat) (a0 : 128 ≤ y0) (c0 : y0 < 256) (z : y1 ≠ 0) (h : y1 < 128) : putL ((y0 - 128) + y1 * 128) = [ob y0, ob y1] := by
  have e0 : ((y0 - 128) + y1 * 128) % 128 + 128 = y0 := by omega
  have e1 : ((y0 - 128) + y1 * 128) / 128 = y1 := by omega
  rw [put_2 _ (by omega) (by omega), e0, e1]
theorem pd3 (y0 y1 y2 : Nat) (a0 : 128 ≤ y0) (c0 : y0 < 256) (a1 : 128 ≤ y1) (c1 : y1 < 256) (z : y2 ≠ 0) (h : y2 < 128) : putL ((y0 - 128) + (y1 - 128) * 128 + y2 * 16384) = [ob y0, ob y1, ob y2] := by
  have e0 : ((y0 - 128) + (y1 - 128) * 128 + y2 * 16384) % 128 + 128 = y0 := by omega
  have e1 : ((y0 - 128) + (y1 - 128) * 128 + y2 * 16384) / 128 % 128 + 128 = y1 := by omega
  have e2 : ((y0 - 128) + (y1 - 128) * 128 + y2 * 16384) / 128 / 128 = y2 := by omega
  rw [put_3 _ (by omega) (by omega), e0, e1, e2]
theorem pd4 (y0 y1 y2 y3 : Nat) (a0 : 128 ≤ y0) (c0 : y0 < 256) (a1 : 128 ≤ y1) (c1 : y1 < 256) (a2 : 128 ≤ y2) (c2 : y2 < 256) (z : y3 ≠ 0) (h : y3 < 128) : putL ((y0 - 128) + (y1 - 128) * 128 + (y2 - 128) * 16384 + y3 * 2097152) = [ob y0, ob y1, ob y2, ob y3] := by
  have e0 : ((y0 - 128) + (y1 - 128) * 128 + (y2 - 128) * 16384 + y3 * 2097152) % 128 + 128 = y0 := by omega
  have e1 : ((y0 - 128) + (y1 - 128) * 128 + (y2 - 128) * 16384 + y3 * 2097152) / 128 % 128 + 128 = y1 := by omega
  have e2 : ((y0 - 128) + (y1 - 128) * 128 + (y2 - 128) * 16384 + y3 * 2097152) / 128 / 128 % 128 + 128 = y2 := by omega
  have e3 : ((y0 - 128) + (y1 - 128) * 128 + (y2 - 128) * 16384 + y3 * 2097152) / 128 / 128 / 128 = y3 := by omega
  rw [put_4 _ (by omega) (by omega), e0, e1, e2, e3]
theorem pd5 (y0 y1 y2 y3 y4 : Nat) (a0 : 128 ≤ y0) (c0 : y0 < 256) (a1 : 128 ≤ y1) (c1 : y1 < 256) (a2 : 128 ≤ y2) (c2 : y2 < 256) (a3 : 128 ≤ y3) (c3 : y3 < 256) (z : y4 ≠ 0) : putL ((y0 - 128) + (y1 - 128) * 128 + (y2 - 128) * 16384 + (y3 - 128) * 2097152 + y4 * 268435456) = [ob y0, ob y1, ob y2, ob y3, ob y4] := by
  have e0 : ((y0 - 128) + (y1 - 128) * 128 + (y2 - 128) * 16384 + (y3 - 128) * 2097152 + y4 * 268435456) % 128 + 128 = y0 := by omega
  have e1 : ((y0 - 128) + (y1 - 128) * 128 + (y2 - 128) * 16384 + (y3 - 128) * 2097152 + y4 * 268435456) / 128 % 128 + 128 = y1 := by omega
  have e2 : ((y0 - 128) + (y1 - 128) * 128 + (y2 - 128) * 16384 + (y3 - 128) * 2097152 + y4 * 268435456) / 128 / 128 % 128 + 128 = y2 := by omega
  have e3 : ((y0 - 128) + (y1 - 128) * 128 + (y2 - 128) * 16384 + (y3 - 128) * 2097152 + y4 * 268435456) / 128 / 128 / 128 % 128 + 128 = y3 := by omega
  have e4 : ((y0 - 128) + (y1 - 128) * 128 + (y2 - 128) * 16384 + (y3 - 128) * 2097152 + y4 * 268435456) / 128 / 128 / 128 / 128 = y4 := by omega
  rw [put_5 _ (by omega), e0, e1, e2, e3, e4]
/-- What is read is just what is put. -/
theorem get_only (b : List UInt8) (p : Nat) (h : (getL b p).err = 0) : putL (getL b p).n = (b.drop p).take ((getL b p).next - p) ∧ (getL b p).n < 4294967296 := by
  obtain ⟨k, _, hk, hc, hl, h0, h4, hx⟩ := getF_inv b p 5 0 rfl h
  have hC : Cont b p k := fun t ht => hc t (Nat.zero_le _) ht
  have hg := got_of hk hC hl h0 h4 hx rfl
  have hfit := (acc_fits b p k hk _ hx h4).2
  rw [hg]
  refine ⟨?_, hfit⟩
  show putL (accV b p k + byteD b (p + k) * 2 ^ (7 * k)) = (b.drop p).take (p + k + 1 - p)
  rw [show p + k + 1 - p = k + 1 from by omega, take_bytes b p (k + 1) (by omega)]
  have hb := fun t => byteD_lt b (p + t)
  rcases (show k = 0 ∨ k = 1 ∨ k = 2 ∨ k = 3 ∨ k = 4 from by omega) with rfl | rfl | rfl | rfl | rfl
  · show putL (accV b p 0 + byteD b (p + 0) * 1) = [ob (byteD b (p + 0))]
    rw [accV_0, Nat.zero_add, Nat.mul_one]
    exact put_1 _ hx
  · have g0 := hC 0 (by omega); have z := h0 (by omega); have b0 := hb 0
    show putL (accV b p 1 + byteD b (p + 1) * 128) = [ob (byteD b (p + 0)), ob (byteD b (p + 1))]
    rw [acc_1]; exact pd2 _ _ g0 b0 z hx
  · have g0 := hC 0 (by omega); have g1 := hC 1 (by omega); have z := h0 (by omega); have b0 := hb 0; have b1 := hb 1
    show putL (accV b p 2 + byteD b (p + 2) * 16384) = [ob (byteD b (p + 0)), ob (byteD b (p + 1)), ob (byteD b (p + 2))]
    rw [acc_2]; exact pd3 _ _ _ g0 b0 g1 b1 z hx
  · have g0 := hC 0 (by omega); have g1 := hC 1 (by omega); have g2 := hC 2 (by omega); have z := h0 (by omega); have b0 := hb 0; have b1 := hb 1; have b2 := hb 2
    show putL (accV b p 3 + byteD b (p + 3) * 2097152) = [ob (byteD b (p + 0)), ob (byteD b (p + 1)), ob (byteD b (p + 2)), ob (byteD b (p + 3))]
    rw [acc_3]; exact pd4 _ _ _ _ g0 b0 g1 b1 g2 b2 z hx
  · have g0 := hC 0 (by omega); have g1 := hC 1 (by omega); have g2 := hC 2 (by omega); have g3 := hC 3 (by omega); have z := h0 (by omega); have b0 := hb 0; have b1 := hb 1; have b2 := hb 2; have b3 := hb 3
    show putL (accV b p 4 + byteD b (p + 4) * 268435456) = [ob (byteD b (p + 0)), ob (byteD b (p + 1)), ob (byteD b (p + 2)), ob (byteD b (p + 3)), ob (byteD b (p + 4))]
    rw [acc_4]; exact pd5 _ _ _ _ _ g0 b0 g1 b1 g2 b2 g3 b3 z

/-- Lengths. -/
theorem put_facts (n : Nat) (hn : n < 4294967296) : 1 ≤ (putL n).length ∧ (putL n).length ≤ 5 ∧ (1 < (putL n).length → n / 2 ^ (7 * ((putL n).length - 1)) ≠ 0) ∧ n / 2 ^ (7 * (putL n).length) = 0 ∧
    ∀ i, i < (putL n).length → (byteD (putL n) i < 128 ↔ i + 1 = (putL n).length) := by
  refine put_cases n hn (fun L => 1 ≤ L.length ∧ L.length ≤ 5 ∧ (1 < L.length → n / 2 ^ (7 * (L.length - 1)) ≠ 0) ∧ n / 2 ^ (7 * L.length) = 0 ∧ ∀ i, i < L.length → (byteD L i < 128 ↔ i + 1 = L.length)) ?_ ?_ ?_ ?_ ?_
  · intro c1
    refine ⟨by simp, by simp, by simp, by simp; omega, fun i hi => ?_⟩
    obtain rfl : i = 0 := by simp at hi; omega
    have e0 : byteD [ob n] 0 = n := ob_nat _ (by omega)
    rw [e0]; simp; omega
  · intro c1 c2
    refine ⟨by simp, by simp, by simp; omega, by simp; omega, fun i hi => ?_⟩
    have e0 : byteD [ob (n % 128 + 128), ob (n / 128)] 0 = n % 128 + 128 := ob_nat _ (by omega)
    have e1 : byteD [ob (n % 128 + 128), ob (n / 128)] 1 = n / 128 := ob_nat _ (by omega)
    rcases (show i = 0 ∨ i = 1 from by simp at hi; omega) with rfl | rfl
    · rw [e0]; simp
    · rw [e1]; simp; omega
  · intro c1 c2
    refine ⟨by simp, by simp, by simp; omega, by simp; omega, fun i hi => ?_⟩
    have e0 : byteD [ob (n % 128 + 128), ob (n / 128 % 128 + 128), ob (n / 128 / 128)] 0 = n % 128 + 128 := ob_nat _ (by omega)
    have e1 : byteD [ob (n % 128 + 128), ob (n / 128 % 128 + 128), ob (n / 128 / 128)] 1 = n / 128 % 128 + 128 := ob_nat _ (by omega)
    have e2 : byteD [ob (n % 128 + 128), ob (n / 128 % 128 + 128), ob (n / 128 / 128)] 2 = n / 128 / 128 := ob_nat _ (by omega)
    rcases (show i = 0 ∨ i = 1 ∨ i = 2 from by simp at hi; omega) with rfl | rfl | rfl
    · rw [e0]; simp
    · rw [e1]; simp
    · rw [e2]; simp; omega
  · intro c1 c2
    refine ⟨by simp, by simp, by simp; omega, by simp; omega, fun i hi => ?_⟩
    have e0 : byteD [ob (n % 128 + 128), ob (n / 128 % 128 + 128), ob (n / 128 / 128 % 128 + 128), ob (n / 128 / 128 / 128)] 0 = n % 128 + 128 := ob_nat _ (by omega)
    have e1 : byteD [ob (n % 128 + 128), ob (n / 128 % 128 + 128), ob (n / 128 / 128 % 128 + 128), ob (n / 128 / 128 / 128)] 1 = n / 128 % 128 + 128 := ob_nat _ (by omega)
    have e2 : byteD [ob (n % 128 + 128), ob (n / 128 % 128 + 128), ob (n / 128 / 128 % 128 + 128), ob (n / 128 / 128 / 128)] 2 = n / 128 / 128 % 128 + 128 := ob_nat _ (by omega)
    have e3 : byteD [ob (n % 128 + 128), ob (n / 128 % 128 + 128), ob (n / 128 / 128 % 128 + 128), ob (n / 128 / 128 / 128)] 3 = n / 128 / 128 / 128 := ob_nat _ (by omega)
    rcases (show i = 0 ∨ i = 1 ∨ i = 2 ∨ i = 3 from by simp at hi; omega) with rfl | rfl | rfl | rfl
    · rw [e0]; simp
    · rw [e1]; simp
    · rw [e2]; simp
    · rw [e3]; simp; omega
  · intro c1 c2
    refine ⟨by simp, by simp, by simp; omega, by simp; omega, fun i hi => ?_⟩
    have e0 : byteD [ob (n % 128 + 128), ob (n / 128 % 128 + 128), ob (n / 128 / 128 % 128 + 128), ob (n / 128 / 128 / 128 % 128 + 128), ob (n / 128 / 128 / 128 / 128)] 0 = n % 128 + 128 := ob_nat _ (by omega)
    have e1 : byteD [ob (n % 128 + 128), ob (n / 128 % 128 + 128), ob (n / 128 / 128 % 128 + 128), ob (n / 128 / 128 / 128 % 128 + 128), ob (n / 128 / 128 / 128 / 128)] 1 = n / 128 % 128 + 128 := ob_nat _ (by omega)
    have e2 : byteD [ob (n % 128 + 128), ob (n / 128 % 128 + 128), ob (n / 128 / 128 % 128 + 128), ob (n / 128 / 128 / 128 % 128 + 128), ob (n / 128 / 128 / 128 / 128)] 2 = n / 128 / 128 % 128 + 128 := ob_nat _ (by omega)
    have e3 : byteD [ob (n % 128 + 128), ob (n / 128 % 128 + 128), ob (n / 128 / 128 % 128 + 128), ob (n / 128 / 128 / 128 % 128 + 128), ob (n / 128 / 128 / 128 / 128)] 3 = n / 128 / 128 / 128 % 128 + 128 := ob_nat _ (by omega)
    have e4 : byteD [ob (n % 128 + 128), ob (n / 128 % 128 + 128), ob (n / 128 / 128 % 128 + 128), ob (n / 128 / 128 / 128 % 128 + 128), ob (n / 128 / 128 / 128 / 128)] 4 = n / 128 / 128 / 128 / 128 := ob_nat _ (by omega)
    rcases (show i = 0 ∨ i = 1 ∨ i = 2 ∨ i = 3 ∨ i = 4 from by simp at hi; omega) with rfl | rfl | rfl | rfl | rfl
    · rw [e0]; simp
    · rw [e1]; simp
    · rw [e2]; simp
    · rw [e3]; simp
    · rw [e4]; simp; omega
theorem put_mono (n m : Nat) (h : n ≤ m) (hm : m < 4294967296) : (putL n).length ≤ (putL m).length := by
  obtain ⟨a1, a2, a3, a4, _⟩ := put_facts n (by omega)
  obtain ⟨b1, b2, b3, b4, _⟩ := put_facts m hm
  rcases Nat.lt_or_ge (putL m).length (putL n).length with hlt | hge
  · exfalso
    have h1 := a3 (by omega)
    have h2 : 2 ^ (7 * (putL m).length) ≤ 2 ^ (7 * ((putL n).length - 1)) := Nat.pow_le_pow_right (by omega) (by omega)
    have h3 : m < 2 ^ (7 * (putL m).length) := by
      rcases Nat.div_eq_zero_iff.1 b4 with h | h
      · have := Nat.two_pow_pos (7 * (putL m).length); omega
      · exact h
    exact h1 (Nat.div_eq_of_lt (by omega))
  · exact hge

/-- Bytes in the middle of bytes. -/
theorem byteD_mid (A L B : List UInt8) (t : Nat) (h : t < L.length) : byteD (A ++ L ++ B) (A.length + t) = byteD L t := by
  unfold byteD
  rw [List.getD, List.getD, List.append_assoc, List.getElem?_append_right (by omega), Nat.add_sub_cancel_left, List.getElem?_append_left h]
theorem get_mid (A B : List UInt8) (n : Nat) (hn : n < 4294967296) : getL (A ++ putL n ++ B) A.length = ⟨n, A.length + (putL n).length, 0⟩ :=
  get_put _ _ n hn (fun t ht => byteD_mid A (putL n) B t ht) (by simp)
/-- Numbers' bytes, one behind the other. -/
def catPut (l : List Int) : List UInt8 := l.flatMap fun n => putL n.toNat
theorem catPut_snoc (l : List Int) (n : Int) : catPut (l ++ [n]) = catPut l ++ putL n.toNat := by simp [catPut]
theorem catPut_take (l : List Int) (k : Nat) (h : k < l.length) : catPut (l.take (k + 1)) = catPut (l.take k) ++ putL l[k].toNat := by
  rw [List.take_succ_eq_append_getElem h, catPut_snoc]
theorem catPut_len (l : List Int) : (catPut l).length ≤ 5 * l.length := by
  induction l with
  | nil => simp [catPut]
  | cons n l ih =>
    have := putF_len 4 n.toNat
    simp only [catPut, List.flatMap_cons, List.length_append, List.length_cons] at ih ⊢
    unfold putL at *
    omega
end Go.Proofs.Ytbbjlijdodnjaaa
