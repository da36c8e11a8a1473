/- The walk of ref.Get. -/
import Derived.Test.YtbbjlijdodnjaaaVlqGet
namespace Go.Proofs.Ytbbjlijdodnjaaa
open Go.RowKit

/-- What the second loop has gathered after m steps. -/
def hor (b : List UInt8) (p k : Nat) : Nat → Nat
  | 0 => byteD b (p + k)
  | m + 1 => hor b p k m * 128 + (byteD b (p + (k - 1 - m)) - 128)
theorem hor_0 (b : List UInt8) (p k : Nat) : hor b p k 0 = byteD b (p + k) := rfl
theorem hor_s (b : List UInt8) (p k m : Nat) : hor b p k (m + 1) = hor b p k m * 128 + (byteD b (p + (k - 1 - m)) - 128) := rfl
theorem hor_lt (b : List UInt8) (p k : Nat) (h : byteD b (p + k) < 128) : ∀ m, hor b p k m < 128 ^ (m + 1) := by
  intro m
  induction m with
  | zero => rw [hor_0, Nat.zero_add, Nat.pow_one]; exact h
  | succ m ih =>
    have := byteD_lt b (p + (k - 1 - m))
    rw [hor_s, Nat.pow_succ]
    omega
theorem hor_acc (b : List UInt8) (p k : Nat) : ∀ m, m ≤ k → hor b p k m * 2 ^ (7 * (k - m)) + accV b p (k - m) = byteD b (p + k) * 2 ^ (7 * k) + accV b p k := by
  intro m
  induction m with
  | zero => intro _; rfl
  | succ m ih =>
    intro hm
    rw [← ih (by omega), hor_s, show k - m = (k - (m + 1)) + 1 from by omega, accV, show k - (m + 1) = k - 1 - m from by omega,
      show 7 * (k - 1 - m + 1) = 7 + 7 * (k - 1 - m) from by omega, Nat.pow_add, show (2 : Nat) ^ 7 = 128 from rfl, Nat.add_mul, ← Nat.mul_assoc]
    omega
theorem hor_k (b : List UInt8) (p k : Nat) : hor b p k k = accV b p k + byteD b (p + k) * 2 ^ (7 * k) := by
  have := hor_acc b p k k (Nat.le_refl _)
  simp only [Nat.sub_self, Nat.mul_zero, Nat.pow_zero, Nat.mul_one, accV] at this
  omega

set_option maxRecDepth 100000 in
set_option maxHeartbeats 2000000 in
theorem refGet_any (b : List UInt8) (A : Option Addr) (m c p : Nat) (w : World) (hx : Reads w w.heap.size A m c (bys b)) (hm : m ≤ 1048576) (hp : p ≤ m) :
    Calls Try.prog 37 #[.slice A m c, .int .i64 p] w fun e w' => e = .returned (gotV (getL b p)) ∧ w = w' := by
  have hbl : b.length = m := by have := hx.len; rwa [bys_length] at this
  have Hbl := Lib.hid hbl
  clear hbl
  have hpm : decide ((m : Int) < (p : Int)) = false := by simp; omega
  go_enter Try.func37, Try.ntmps37
  go_wp2
  go_loop [7] (fun i => ∃ k : Nat, k ≤ 5 ∧ i = .int .i64 k ∧ Cont b p k ∧ p + k ≤ m) (fun i => 5 - (intOf i).toNat)
  case atStart => exact ⟨0, by omega, rfl, fun t ht => by omega, hp⟩
  case round =>
    obtain ⟨k, hk, rfl, hc, hpk⟩ := hrel
    by_cases h5 : k = 5
    · have HG := Lib.hid (get_form b p 4 (by omega) (fun t ht => hc t (by omega)) (by rw [Hbl.out]; omega) (.inr ⟨rfl, by have := hc 4 (by omega); omega⟩))
      have h5b : ((k : Int) == 5) = true := by simp; omega
      have hk5 : ¬ (k : Int) < 5 := by omega
      have H5 := Lib.hid h5
      clear h5
      by_cases hlt : (p : Int) + (k : Int) < (m : Int)
      · go_wp2
        go_ret3
        exact ⟨by rw [HG.out]; rfl, rfl⟩
      · go_wp2
        go_ret3
        exact ⟨by rw [HG.out]; rfl, rfl⟩
    · have hk4 : k ≤ 4 := by omega
      have hk5 : (k : Int) < 5 := by omega
      have hk5b : ((k : Int) == 5) = false := by simp; omega
      clear h5
      by_cases hend : p + k = m
      · have HG := Lib.hid (get_short b p k hk4 hc (by rw [Hbl.out]; exact hend))
        have h1 : ¬ (p : Int) + (k : Int) < (m : Int) := by omega
        have h2 : ((p : Int) + (k : Int) == (m : Int)) = true := by simp; omega
        clear hend
        by_cases h4 : k = 4
        · have h4b : ((k : Int) == 4) = true := by simp; omega
          have H4 := Lib.hid h4
          clear h4
          go_wp2
          go_ret3
          exact ⟨by rw [HG.out]; rfl, rfl⟩
        · have h4b : ((k : Int) == 4) = false := by simp; omega
          clear h4
          go_wp2
          go_ret3
          exact ⟨by rw [HG.out]; rfl, rfl⟩
      · have h1 : (p : Int) + (k : Int) < (m : Int) := by omega
        have h2 : ((p : Int) + (k : Int) == (m : Int)) = false := by simp; omega
        have hlt : p + k < m := by omega
        clear hend
        obtain ⟨ad, rfl, _, hcell⟩ := cell_byteD hx hlt
        have hx256 := byteD_lt b (p + k)
        by_cases hx128 : byteD b (p + k) < 128
        · have hgt : ¬ (127 : Int) < ((byteD b (p + k) : Nat) : Int) := by omega
          by_cases h415 : k = 4 ∧ 15 < byteD b (p + k)
          · have HG := Lib.hid (get_form b p k hk4 hc (by rw [Hbl.out]; exact hlt) (.inr h415))
            obtain ⟨h4, h15⟩ := h415
            have h4b : ((k : Int) == 4) = true := by simp; omega
            have H4 := Lib.hid h4
            generalize byteD b (p + k) = x at *
            clear h4
            go_wp2
            go_ret3
            exact ⟨by rw [HG.out]; rfl, rfl⟩
          · by_cases hz : byteD b (p + k) = 0 ∧ 0 < k
            · have HG := Lib.hid (get_form b p k hk4 hc (by rw [Hbl.out]; exact hlt) (.inl hz))
              obtain ⟨h0, h00⟩ := hz
              have H15 : ¬ (15 : Int) < ((byteD b (p + k) : Nat) : Int) := by omega
              have hz0 : (((byteD b (p + k) : Nat) : Int) == 0) = true := by simp; omega
              have H0 := Lib.hid h0
              generalize byteD b (p + k) = x at *
              clear h415 h0
              by_cases h4 : k = 4
              · have h4b : ((k : Int) == 4) = true := by simp; omega
                have H4 := Lib.hid h4
                clear h4
                go_wp2
                go_ret3
                exact ⟨by rw [HG.out]; rfl, rfl⟩
              · have h4b : ((k : Int) == 4) = false := by simp; omega
                clear h4
                go_wp2
                go_ret3
                exact ⟨by rw [HG.out]; rfl, rfl⟩
            · have HG := Lib.hid (get_ok b p k hk4 hc (by rw [Hbl.out]; exact hlt) (fun h => h.elim hz h415) hx128)
              have hfit := (acc_fits b p k hk4 _ hx128 (fun h => by omega)).2
              rw [← hor_k] at hfit
              have HK := Lib.hid (hor_k b p k)
              have hlow : ∀ q, q ≤ k → hor b p k q < 34359738368 := fun q hq => Nat.lt_of_lt_of_le (hor_lt b p k hx128 q) (by rcases (show q = 0 ∨ q = 1 ∨ q = 2 ∨ q = 3 ∨ q = 4 from by omega) with rfl | rfl | rfl | rfl | rfl <;> decide)
              have Hlow := Lib.hid hlow
              have Hh0 : Hid (hor b p k 0 = byteD b (p + k)) := Lib.hid rfl
              have Hc := Lib.hid hc
              have Hfit := Lib.hid hfit
              have hzz : 0 < k → ((((byteD b (p + k) : Nat) : Int) == 0) = false) := fun h => by simp; omega
              have h4c : k = 4 → ¬ (15 : Int) < ((byteD b (p + k) : Nat) : Int) := fun h => by omega
              have HZZ := Lib.hid hzz
              have H4c := Lib.hid h4c
              clear hlow hc hfit hzz h4c h415 hz
              by_cases h4 : k = 4
              · have h4b : ((k : Int) == 4) = true := by simp; omega
                have h15 := H4c.out h4
                have hk0 : (0 : Int) < (k : Int) := by omega
                have hz0 := HZZ.out (by omega)
                have H4 := Lib.hid h4
                clear h4
                generalize byteD b (p + k) = x at *
                go_wp2
                rw [← Hh0.out]
                go_loop [8, 9] (fun n i => ∃ q : Nat, q ≤ k ∧ i = .int .i64 ((k : Int) - 1 - (q : Int)) ∧ n = .int .u64 (hor b p k q : Nat)) (fun _ i => (intOf i + 1).toNat)
                case atStart => exact ⟨0, by omega, by simp, rfl⟩
                case round =>
                  obtain ⟨q, hq, rfl, rfl⟩ := hrel
                  have hl := Hlow.out q hq
                  by_cases hqk : q < k
                  · have hi0 : (0 : Int) ≤ (k : Int) - 1 - (q : Int) := by omega
                    have hidx : (p : Int) + ((k : Int) - 1 - (q : Int)) < (m : Int) := by omega
                    obtain ⟨ad2, had, _, hc2⟩ := cell_byteD hx (i := p + (k - 1 - q)) (by omega)
                    injection had with had
                    subst had
                    have hb1 := Hc.out (k - 1 - q) (by omega)
                    have hb2 := byteD_lt b (p + (k - 1 - q))
                    have Hs := Lib.hid (hor_s b p k q)
                    generalize byteD b (p + (k - 1 - q)) = y at *
                    generalize hor b p k q = v at *
                    go_wp2
                    go_round
                    case rel => exact ⟨q + 1, by omega, by go_num, by rw [Hs.out]; exact congrArg (Value.int .u64) (by omega)⟩
                    case measure => simp [intOf]; omega
                  · have hi0 : ¬ (0 : Int) ≤ (k : Int) - 1 - (q : Int) := by omega
                    have Hq : Hid (q = k) := Lib.hid (by omega)
                    rw [Hq.out] at hl ⊢
                    have hfit := Hfit.out
                    generalize hor b p k k = v at *
                    go_wp2
                    go_ret3
                    exact ⟨by rw [HG.out, ← HK.out]; rfl, rfl⟩
              · have h4b : ((k : Int) == 4) = false := by simp; omega
                clear h4
                by_cases hk0 : 0 < k
                · have hk0' : (0 : Int) < (k : Int) := by omega
                  have hz0 := HZZ.out hk0
                  generalize byteD b (p + k) = x at *
                  go_wp2
                  rw [← Hh0.out]
                  go_loop [8, 9] (fun n i => ∃ q : Nat, q ≤ k ∧ i = .int .i64 ((k : Int) - 1 - (q : Int)) ∧ n = .int .u64 (hor b p k q : Nat)) (fun _ i => (intOf i + 1).toNat)
                  case atStart => exact ⟨0, by omega, by simp, rfl⟩
                  case round =>
                    obtain ⟨q, hq, rfl, rfl⟩ := hrel
                    have hl := Hlow.out q hq
                    by_cases hqk : q < k
                    · have hi0 : (0 : Int) ≤ (k : Int) - 1 - (q : Int) := by omega
                      have hidx : (p : Int) + ((k : Int) - 1 - (q : Int)) < (m : Int) := by omega
                      obtain ⟨ad2, had, _, hc2⟩ := cell_byteD hx (i := p + (k - 1 - q)) (by omega)
                      injection had with had
                      subst had
                      have hb1 := Hc.out (k - 1 - q) (by omega)
                      have hb2 := byteD_lt b (p + (k - 1 - q))
                      have Hs := Lib.hid (hor_s b p k q)
                      generalize byteD b (p + (k - 1 - q)) = y at *
                      generalize hor b p k q = v at *
                      go_wp2
                      go_round
                      case rel => exact ⟨q + 1, by omega, by go_num, by rw [Hs.out]; exact congrArg (Value.int .u64) (by omega)⟩
                      case measure => simp [intOf]; omega
                    · have hi0 : ¬ (0 : Int) ≤ (k : Int) - 1 - (q : Int) := by omega
                      have Hq : Hid (q = k) := Lib.hid (by omega)
                      rw [Hq.out] at hl ⊢
                      have hfit := Hfit.out
                      generalize hor b p k k = v at *
                      go_wp2
                      go_ret3
                      exact ⟨by rw [HG.out, ← HK.out]; rfl, rfl⟩
                · have hk0' : decide ((0 : Int) < (k : Int)) = false := by simp; omega
                  generalize byteD b (p + k) = x at *
                  go_wp2
                  rw [← Hh0.out]
                  go_loop [8, 9] (fun n i => ∃ q : Nat, q ≤ k ∧ i = .int .i64 ((k : Int) - 1 - (q : Int)) ∧ n = .int .u64 (hor b p k q : Nat)) (fun _ i => (intOf i + 1).toNat)
                  case atStart => exact ⟨0, by omega, by simp, rfl⟩
                  case round =>
                    obtain ⟨q, hq, rfl, rfl⟩ := hrel
                    have hl := Hlow.out q hq
                    by_cases hqk : q < k
                    · exact absurd hqk (by omega)
                    · have hi0 : ¬ (0 : Int) ≤ (k : Int) - 1 - (q : Int) := by omega
                      have Hq : Hid (q = k) := Lib.hid (by omega)
                      rw [Hq.out] at hl ⊢
                      have hfit := Hfit.out
                      generalize hor b p k k = v at *
                      go_wp2
                      go_ret3
                      exact ⟨by rw [HG.out, ← HK.out]; rfl, rfl⟩
        · have hge : 128 ≤ byteD b (p + k) := by omega
          have hgt : (127 : Int) < ((byteD b (p + k) : Nat) : Int) := by omega
          have hc' := Lib.hid (hc.succ hge)
          generalize byteD b (p + k) = x at *
          go_wp2
          go_round
          case rel => exact ⟨k + 1, by omega, by go_num, hc'.out, by omega⟩
          case measure => simp [intOf]; omega

set_option maxRecDepth 100000 in
set_option maxHeartbeats 1000000 in
theorem refGet_out (A : Option Addr) (m c : Nat) (p : Int) (w : World) (hp : p < 0 ∨ (m : Int) < p) :
    Calls Try.prog 37 #[.slice A m c, .int .i64 p] w fun e w' => e = .returned (gotV ⟨0, 0, 1⟩) ∧ w = w' := by
  rcases (show p < 0 ∨ (0 ≤ p ∧ (m : Int) < p) from by omega) with h | ⟨h, h'⟩
  all_goals
    go_enter Try.func37, Try.ntmps37
    go_wp2
    go_ret3
    exact ⟨rfl, rfl⟩
end Go.Proofs.Ytbbjlijdodnjaaa
