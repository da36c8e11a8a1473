/- The walk of ref.at: the rune at a place, and its width; two zeros where there is none. -/
import Derived.Test.YtmofhpebcbpccaaDoorRows
import Derived.Deep.QuietTactic
import Derived.BigQuiet
import Derived.Test.YtmofhpebcbpccaaDoorUtfText
namespace Go.Proofs.YtmofhpebcbpccaaDoor
open Go.RowKit

def byteAt (s : ByteArray) (i : Nat) : Nat := (s.get! i).toNat
theorem byteAt_get (s : ByteArray) (i : Nat) (h : i < s.size) : byteAt s i = (s[i]'h).toNat := by
  simp [byteAt, ByteArray.get!, getElem!_pos, h]
  rfl
/-- The number gathered from the lead's bits n0 and m more bytes. -/
def numAt (s : ByteArray) (i : Nat) (n0 : Int) : Nat → Int
  | 0 => n0
  | m + 1 => numAt s i n0 m * 64 + byteAt s (i + (m + 1)) - 128
def contAll (s : ByteArray) (i m : Nat) : Prop := ∀ t, 1 ≤ t → t ≤ m → 128 ≤ byteAt s (i + t) ∧ byteAt s (i + t) ≤ 191
theorem num_bd (s : ByteArray) (i : Nat) (n0 : Int) (h0 : 0 ≤ n0) (h1 : n0 < 32) : ∀ m, contAll s i m → 0 ≤ numAt s i n0 m ∧ numAt s i n0 m < 32 * 64 ^ m := by
  intro m
  induction m with
  | zero => intro _; simp [numAt]; omega
  | succ m ih =>
    intro hc
    have := ih (fun t a b => hc t a (by omega))
    have := hc (m + 1) (by omega) (by omega)
    have e : (32 : Int) * 64 ^ (m + 1) = 64 * (32 * 64 ^ m) := by rw [Int.pow_succ]; omega
    simp only [numAt]
    rw [e]
    omega
theorem num_bd3 (s : ByteArray) (i : Nat) (n0 : Int) (h0 : 0 ≤ n0) (h1 : n0 < 32) (m : Nat) (hm : m ≤ 3) (hc : contAll s i m) : 0 ≤ numAt s i n0 m ∧ numAt s i n0 m < 8388608 := by
  obtain ⟨a, b⟩ := num_bd s i n0 h0 h1 m hc
  refine ⟨a, Int.lt_of_lt_of_le b ?_⟩
  rcases (show m = 0 ∨ m = 1 ∨ m = 2 ∨ m = 3 from by omega) with rfl | rfl | rfl | rfl <;> decide
/-- What at answers where the lead says K bytes and bits n0. -/
def atMulti (s : ByteArray) (i K : Nat) (n0 : Int) : Int × Int :=
  if s.size - i < K then (0, 0) else
  if (∀ t, t < K → 1 ≤ t → 128 ≤ byteAt s (i + t) ∧ byteAt s (i + t) ≤ 191) then
    if Utf8.valid (numAt s i n0 (K - 1)) = true ∧ (enc (numAt s i n0 (K - 1))).length = K then (numAt s i n0 (K - 1), (K : Int)) else (0, 0)
  else (0, 0)
theorem atMulti_short (s : ByteArray) (i K : Nat) (n0 : Int) (h : s.size - i < K) : atMulti s i K n0 = (0, 0) := by unfold atMulti; rw [if_pos h]
theorem atMulti_bad (s : ByteArray) (i K m : Nat) (n0 : Int) (hm : m + 1 < K) (h : byteAt s (i + (m + 1)) < 128 ∨ 191 < byteAt s (i + (m + 1))) : atMulti s i K n0 = (0, 0) := by
  unfold atMulti
  split
  · rfl
  · rw [if_neg]
    intro hh
    have := hh (m + 1) hm (by omega)
    omega
theorem atMulti_end (s : ByteArray) (i K m : Nat) (n0 : Int) (hs : ¬ s.size - i < K) (hm : m + 1 = K) (h : contAll s i m) :
    atMulti s i K n0 = if Utf8.valid (numAt s i n0 m) = true ∧ (enc (numAt s i n0 m)).length = K then (numAt s i n0 m, (K : Int)) else (0, 0) := by
  unfold atMulti
  rw [if_neg hs, if_pos (fun t a b => h t b (by omega)), show K - 1 = m from by omega]
theorem ret_at {a b c d : Int} (h1 : a = c) (h2 : b = d) : Ending.returned (.tuple #[.int .i32 a, .int .i64 b]) = .returned (.tuple #[.int .i32 c, .int .i64 d]) := by rw [h1, h2]

set_option maxHeartbeats 2000000 in
set_option maxRecDepth 100000 in
theorem at_multi2 (s : ByteArray) (i K : Nat) (n0 : Int) (w : World) (hi : i < s.size) (hs : s.size ≤ 1048576) (hK : K = 2) (h1 : 192 ≤ byteAt s i) (h2 : byteAt s i < 224) (h3 : n0 = byteAt s i - 192) :
    Calls Tryd.prog 27 #[.string s, .int .i64 i] w fun e w' => e = .returned (.tuple #[.int .i32 (atMulti s i K n0).1, .int .i64 (atMulti s i K n0).2]) ∧ Below w.heap.size w w' := by
  rw [byteAt_get s i hi] at h1 h2 h3
  have hd1 : decide (((s[i]'hi).toNat : Int) < 128) = false := by simp; omega
  by_cases hsz : s.size - i < K
  · have HF := Lib.hid (atMulti_short s i K n0 hsz)
    have hd2 : decide ((s.size : Int) - (i : Int) < 2) = true := by simp; omega
    clear hK h3 hsz
    go_enter Tryd.func27, Tryd.ntmps27
    go_wp2
    go_ret2
    exact ⟨ret_at (by rw [HF.out]) (by rw [HF.out]), Below.refl _ _⟩
  · have HK := Lib.hid hK
    have hK1 : K ≤ 2 := by omega
    have hK2 : 2 ≤ K := by omega
    have hn0 : 0 ≤ n0 := by omega
    have hn1 : n0 < 32 := by omega
    have H3 := Lib.hid h3
    clear hK h3
    have hd2 : decide ((s.size : Int) - (i : Int) < 2) = false := by simp; omega
    go_enter Tryd.func27, Tryd.ntmps27
    go_wp2
    rw [← H3.out]
    go_loop [7, 9] (fun n j => ∃ m : Nat, m + 1 ≤ K ∧ j = .int .i64 ((m + 1 : Nat) : Int) ∧ n = .int .i64 (numAt s i n0 m) ∧ contAll s i m) (fun _ j => K - (intOf j).toNat)
    case atStart => exact ⟨0, by omega, rfl, rfl, fun t a b => by omega⟩
    case round =>
      obtain ⟨m, hm, rfl, rfl, hc⟩ := hrel
      have hnb := num_bd3 s i n0 hn0 hn1 m (by omega) hc
      by_cases hlt : m + 1 < K
      · have hlt' : i + (m + 1) < s.size := by omega
        have hby : ((s[i + (m + 1)]'hlt').toNat : Int) < 256 := by have := (s[i + (m + 1)]'hlt').toNat_lt; omega
        have hg := byteAt_get s (i + (m + 1)) hlt'
        have HG := Lib.hid hg
        clear hg
        by_cases hcont : 128 ≤ (s[i + (m + 1)]'hlt').toNat ∧ (s[i + (m + 1)]'hlt').toNat ≤ 191
        · obtain ⟨hc1, hc2⟩ := hcont
          go_wp2
          go_round
          case rel =>
            refine ⟨m + 1, by omega, by go_num, ?_, ?_⟩
            · simp only [numAt]; rw [HG.out]
            · intro t a b
              by_cases e : t = m + 1
              · subst e; rw [HG.out]; omega
              · exact hc t a (by omega)
          case measure => simp [intOf]; omega
        · have HF := Lib.hid (atMulti_bad s i K m n0 hlt (by rw [HG.out]; omega))
          rcases (show (s[i + (m + 1)]'hlt').toNat < 128 ∨ 191 < (s[i + (m + 1)]'hlt').toNat from by omega) with hlo | hhi
          all_goals
            clear hcont
            go_wp2
            go_ret2
            exact ⟨ret_at (by rw [HF.out]) (by rw [HF.out]), Below.refl _ _⟩
      · have HE := Lib.hid (atMulti_end s i K m n0 hsz (by omega) hc)
        by_cases hv : Utf8.valid (numAt s i n0 m) = true
        · by_cases hl : (enc (numAt s i n0 m)).length = K
          · have hl2 : (((enc (numAt s i n0 m)).length : Int) != 2) = false := by have := HK.out; simp; omega
            have HL := Lib.hid hl
            clear hl
            go_wp2_with (first | (go_at_call 31; refine (may_any _ _).mono ?_; rintro e w' ⟨rfl, rfl⟩) | (go_at_call 29; refine (bytes_any _ _).mono ?_; rintro e w1 ⟨v, rfl, hown, hb1⟩; obtain ⟨A, c, rfl, hr, _⟩ := ownsRow_slice hown))
            go_ret2
            exact ⟨ret_at (by rw [HE.out, if_pos ⟨hv, HL.out⟩]) (by rw [HE.out, if_pos ⟨hv, HL.out⟩, HK.out]; rfl), hb1⟩
          · have hl2 : (((enc (numAt s i n0 m)).length : Int) != 2) = true := by have := HK.out; simp; omega
            have HL := Lib.hid hl
            clear hl
            go_wp2_with (first | (go_at_call 31; refine (may_any _ _).mono ?_; rintro e w' ⟨rfl, rfl⟩) | (go_at_call 29; refine (bytes_any _ _).mono ?_; rintro e w1 ⟨v, rfl, hown, hb1⟩; obtain ⟨A, c, rfl, hr, _⟩ := ownsRow_slice hown))
            go_ret2
            exact ⟨ret_at (by rw [HE.out, if_neg (fun h => HL.out h.2)]) (by rw [HE.out, if_neg (fun h => HL.out h.2)]), hb1⟩
        · have hv' : Utf8.valid (numAt s i n0 m) = false := by simpa using hv
          have HV := Lib.hid hv
          clear hv
          go_wp2_with (first | (go_at_call 31; refine (may_any _ _).mono ?_; rintro e w' ⟨rfl, rfl⟩))
          go_ret2
          exact ⟨ret_at (by rw [HE.out, if_neg (fun h => HV.out h.1)]) (by rw [HE.out, if_neg (fun h => HV.out h.1)]), Below.refl _ _⟩

set_option maxHeartbeats 2000000 in
set_option maxRecDepth 100000 in
theorem at_multi3 (s : ByteArray) (i K : Nat) (n0 : Int) (w : World) (hi : i < s.size) (hs : s.size ≤ 1048576) (hK : K = 3) (h1 : 224 ≤ byteAt s i) (h2 : byteAt s i < 240) (h3 : n0 = byteAt s i - 224) :
    Calls Tryd.prog 27 #[.string s, .int .i64 i] w fun e w' => e = .returned (.tuple #[.int .i32 (atMulti s i K n0).1, .int .i64 (atMulti s i K n0).2]) ∧ Below w.heap.size w w' := by
  rw [byteAt_get s i hi] at h1 h2 h3
  have hd1 : decide (((s[i]'hi).toNat : Int) < 128) = false := by simp; omega
  have hd3 : decide (((s[i]'hi).toNat : Int) < 224) = false := by simp; omega
  by_cases hsz : s.size - i < K
  · have HF := Lib.hid (atMulti_short s i K n0 hsz)
    have hd2 : decide ((s.size : Int) - (i : Int) < 3) = true := by simp; omega
    clear hK h3 hsz
    go_enter Tryd.func27, Tryd.ntmps27
    go_wp2
    go_ret2
    exact ⟨ret_at (by rw [HF.out]) (by rw [HF.out]), Below.refl _ _⟩
  · have HK := Lib.hid hK
    have hK1 : K ≤ 3 := by omega
    have hK2 : 3 ≤ K := by omega
    have hn0 : 0 ≤ n0 := by omega
    have hn1 : n0 < 32 := by omega
    have H3 := Lib.hid h3
    clear hK h3
    have hd2 : decide ((s.size : Int) - (i : Int) < 3) = false := by simp; omega
    go_enter Tryd.func27, Tryd.ntmps27
    go_wp2
    rw [← H3.out]
    go_loop [7, 9] (fun n j => ∃ m : Nat, m + 1 ≤ K ∧ j = .int .i64 ((m + 1 : Nat) : Int) ∧ n = .int .i64 (numAt s i n0 m) ∧ contAll s i m) (fun _ j => K - (intOf j).toNat)
    case atStart => exact ⟨0, by omega, rfl, rfl, fun t a b => by omega⟩
    case round =>
      obtain ⟨m, hm, rfl, rfl, hc⟩ := hrel
      have hnb := num_bd3 s i n0 hn0 hn1 m (by omega) hc
      by_cases hlt : m + 1 < K
      · have hlt' : i + (m + 1) < s.size := by omega
        have hby : ((s[i + (m + 1)]'hlt').toNat : Int) < 256 := by have := (s[i + (m + 1)]'hlt').toNat_lt; omega
        have hg := byteAt_get s (i + (m + 1)) hlt'
        have HG := Lib.hid hg
        clear hg
        by_cases hcont : 128 ≤ (s[i + (m + 1)]'hlt').toNat ∧ (s[i + (m + 1)]'hlt').toNat ≤ 191
        · obtain ⟨hc1, hc2⟩ := hcont
          go_wp2
          go_round
          case rel =>
            refine ⟨m + 1, by omega, by go_num, ?_, ?_⟩
            · simp only [numAt]; rw [HG.out]
            · intro t a b
              by_cases e : t = m + 1
              · subst e; rw [HG.out]; omega
              · exact hc t a (by omega)
          case measure => simp [intOf]; omega
        · have HF := Lib.hid (atMulti_bad s i K m n0 hlt (by rw [HG.out]; omega))
          rcases (show (s[i + (m + 1)]'hlt').toNat < 128 ∨ 191 < (s[i + (m + 1)]'hlt').toNat from by omega) with hlo | hhi
          all_goals
            clear hcont
            go_wp2
            go_ret2
            exact ⟨ret_at (by rw [HF.out]) (by rw [HF.out]), Below.refl _ _⟩
      · have HE := Lib.hid (atMulti_end s i K m n0 hsz (by omega) hc)
        by_cases hv : Utf8.valid (numAt s i n0 m) = true
        · by_cases hl : (enc (numAt s i n0 m)).length = K
          · have hl2 : (((enc (numAt s i n0 m)).length : Int) != 3) = false := by have := HK.out; simp; omega
            have HL := Lib.hid hl
            clear hl
            go_wp2_with (first | (go_at_call 31; refine (may_any _ _).mono ?_; rintro e w' ⟨rfl, rfl⟩) | (go_at_call 29; refine (bytes_any _ _).mono ?_; rintro e w1 ⟨v, rfl, hown, hb1⟩; obtain ⟨A, c, rfl, hr, _⟩ := ownsRow_slice hown))
            go_ret2
            exact ⟨ret_at (by rw [HE.out, if_pos ⟨hv, HL.out⟩]) (by rw [HE.out, if_pos ⟨hv, HL.out⟩, HK.out]; rfl), hb1⟩
          · have hl2 : (((enc (numAt s i n0 m)).length : Int) != 3) = true := by have := HK.out; simp; omega
            have HL := Lib.hid hl
            clear hl
            go_wp2_with (first | (go_at_call 31; refine (may_any _ _).mono ?_; rintro e w' ⟨rfl, rfl⟩) | (go_at_call 29; refine (bytes_any _ _).mono ?_; rintro e w1 ⟨v, rfl, hown, hb1⟩; obtain ⟨A, c, rfl, hr, _⟩ := ownsRow_slice hown))
            go_ret2
            exact ⟨ret_at (by rw [HE.out, if_neg (fun h => HL.out h.2)]) (by rw [HE.out, if_neg (fun h => HL.out h.2)]), hb1⟩
        · have hv' : Utf8.valid (numAt s i n0 m) = false := by simpa using hv
          have HV := Lib.hid hv
          clear hv
          go_wp2_with (first | (go_at_call 31; refine (may_any _ _).mono ?_; rintro e w' ⟨rfl, rfl⟩))
          go_ret2
          exact ⟨ret_at (by rw [HE.out, if_neg (fun h => HV.out h.1)]) (by rw [HE.out, if_neg (fun h => HV.out h.1)]), Below.refl _ _⟩

set_option maxHeartbeats 2000000 in
set_option maxRecDepth 100000 in
theorem at_multi4 (s : ByteArray) (i K : Nat) (n0 : Int) (w : World) (hi : i < s.size) (hs : s.size ≤ 1048576) (hK : K = 4) (h1 : 240 ≤ byteAt s i) (h2 : byteAt s i < 248) (h3 : n0 = byteAt s i - 240) :
    Calls Tryd.prog 27 #[.string s, .int .i64 i] w fun e w' => e = .returned (.tuple #[.int .i32 (atMulti s i K n0).1, .int .i64 (atMulti s i K n0).2]) ∧ Below w.heap.size w w' := by
  rw [byteAt_get s i hi] at h1 h2 h3
  have hd1 : decide (((s[i]'hi).toNat : Int) < 128) = false := by simp; omega
  have hd3 : decide (((s[i]'hi).toNat : Int) < 224) = false := by simp; omega
  have hd4 : decide (((s[i]'hi).toNat : Int) < 240) = false := by simp; omega
  have hd5 : decide (((s[i]'hi).toNat : Int) < 248) = true := by simp; omega
  by_cases hsz : s.size - i < K
  · have HF := Lib.hid (atMulti_short s i K n0 hsz)
    have hd2 : decide ((s.size : Int) - (i : Int) < 4) = true := by simp; omega
    clear hK h3 hsz
    go_enter Tryd.func27, Tryd.ntmps27
    go_wp2
    go_ret2
    exact ⟨ret_at (by rw [HF.out]) (by rw [HF.out]), Below.refl _ _⟩
  · have HK := Lib.hid hK
    have hK1 : K ≤ 4 := by omega
    have hK2 : 4 ≤ K := by omega
    have hn0 : 0 ≤ n0 := by omega
    have hn1 : n0 < 32 := by omega
    have H3 := Lib.hid h3
    clear hK h3
    have hd2 : decide ((s.size : Int) - (i : Int) < 4) = false := by simp; omega
    go_enter Tryd.func27, Tryd.ntmps27
    go_wp2
    rw [← H3.out]
    go_loop [7, 9] (fun n j => ∃ m : Nat, m + 1 ≤ K ∧ j = .int .i64 ((m + 1 : Nat) : Int) ∧ n = .int .i64 (numAt s i n0 m) ∧ contAll s i m) (fun _ j => K - (intOf j).toNat)
    case atStart => exact ⟨0, by omega, rfl, rfl, fun t a b => by omega⟩
    case round =>
      obtain ⟨m, hm, rfl, rfl, hc⟩ := hrel
      have hnb := num_bd3 s i n0 hn0 hn1 m (by omega) hc
      by_cases hlt : m + 1 < K
      · have hlt' : i + (m + 1) < s.size := by omega
        have hby : ((s[i + (m + 1)]'hlt').toNat : Int) < 256 := by have := (s[i + (m + 1)]'hlt').toNat_lt; omega
        have hg := byteAt_get s (i + (m + 1)) hlt'
        have HG := Lib.hid hg
        clear hg
        by_cases hcont : 128 ≤ (s[i + (m + 1)]'hlt').toNat ∧ (s[i + (m + 1)]'hlt').toNat ≤ 191
        · obtain ⟨hc1, hc2⟩ := hcont
          go_wp2
          go_round
          case rel =>
            refine ⟨m + 1, by omega, by go_num, ?_, ?_⟩
            · simp only [numAt]; rw [HG.out]
            · intro t a b
              by_cases e : t = m + 1
              · subst e; rw [HG.out]; omega
              · exact hc t a (by omega)
          case measure => simp [intOf]; omega
        · have HF := Lib.hid (atMulti_bad s i K m n0 hlt (by rw [HG.out]; omega))
          rcases (show (s[i + (m + 1)]'hlt').toNat < 128 ∨ 191 < (s[i + (m + 1)]'hlt').toNat from by omega) with hlo | hhi
          all_goals
            clear hcont
            go_wp2
            go_ret2
            exact ⟨ret_at (by rw [HF.out]) (by rw [HF.out]), Below.refl _ _⟩
      · have HE := Lib.hid (atMulti_end s i K m n0 hsz (by omega) hc)
        by_cases hv : Utf8.valid (numAt s i n0 m) = true
        · by_cases hl : (enc (numAt s i n0 m)).length = K
          · have hl2 : (((enc (numAt s i n0 m)).length : Int) != 4) = false := by have := HK.out; simp; omega
            have HL := Lib.hid hl
            clear hl
            go_wp2_with (first | (go_at_call 31; refine (may_any _ _).mono ?_; rintro e w' ⟨rfl, rfl⟩) | (go_at_call 29; refine (bytes_any _ _).mono ?_; rintro e w1 ⟨v, rfl, hown, hb1⟩; obtain ⟨A, c, rfl, hr, _⟩ := ownsRow_slice hown))
            go_ret2
            exact ⟨ret_at (by rw [HE.out, if_pos ⟨hv, HL.out⟩]) (by rw [HE.out, if_pos ⟨hv, HL.out⟩, HK.out]; rfl), hb1⟩
          · have hl2 : (((enc (numAt s i n0 m)).length : Int) != 4) = true := by have := HK.out; simp; omega
            have HL := Lib.hid hl
            clear hl
            go_wp2_with (first | (go_at_call 31; refine (may_any _ _).mono ?_; rintro e w' ⟨rfl, rfl⟩) | (go_at_call 29; refine (bytes_any _ _).mono ?_; rintro e w1 ⟨v, rfl, hown, hb1⟩; obtain ⟨A, c, rfl, hr, _⟩ := ownsRow_slice hown))
            go_ret2
            exact ⟨ret_at (by rw [HE.out, if_neg (fun h => HL.out h.2)]) (by rw [HE.out, if_neg (fun h => HL.out h.2)]), hb1⟩
        · have hv' : Utf8.valid (numAt s i n0 m) = false := by simpa using hv
          have HV := Lib.hid hv
          clear hv
          go_wp2_with (first | (go_at_call 31; refine (may_any _ _).mono ?_; rintro e w' ⟨rfl, rfl⟩))
          go_ret2
          exact ⟨ret_at (by rw [HE.out, if_neg (fun h => HV.out h.1)]) (by rw [HE.out, if_neg (fun h => HV.out h.1)]), Below.refl _ _⟩

end Go.Proofs.YtmofhpebcbpccaaDoor
