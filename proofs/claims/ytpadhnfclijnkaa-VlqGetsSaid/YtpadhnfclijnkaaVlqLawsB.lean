/- The walks of VlqGets, VlqOnly, VlqPuts, VlqAll. -/
import Derived.Test.YtpadhnfclijnkaaVlqLawsA
import Derived.Deep.RegionHeld3
namespace Go.Proofs.Ytpadhnfclijnkaa
open Go.RowKit

theorem wf32 {x : Int} (h : (Lit.int .u32 x).wf = true) : 0 ≤ x ∧ x < 4294967296 := by
  simp [Lit.wf, IntKind.min, IntKind.max, IntKind.signed, IntKind.bits] at h; omega
theorem wf64 {x : Int} (h : (Lit.int .i64 x).wf = true) : -9223372036854775808 ≤ x ∧ x ≤ 9223372036854775807 := by
  simp [Lit.wf, IntKind.min, IntKind.max, IntKind.signed, IntKind.bits] at h; omega
theorem bytes_of (l : List Int) (h : ∀ x ∈ l, (Lit.int .u8 x).wf = true) : ∃ b : List UInt8, ints .u8 l = bys b := by
  induction l with
  | nil => exact ⟨[], rfl⟩
  | cons x l ih =>
    obtain ⟨b, hb⟩ := ih (fun y hy => h y (by simp [hy]))
    have hx : 0 ≤ x ∧ x ≤ 255 := by have := h x (by simp); simp [Lit.wf, IntKind.min, IntKind.max, IntKind.signed, IntKind.bits] at this; omega
    refine ⟨UInt8.ofNat x.toNat :: b, ?_⟩
    simp only [ints, bys, List.map_cons] at hb ⊢
    rw [hb, UInt8.toNat_ofNat']
    congr 2
    omega

/-- What Get answers at any place, as a value. -/
theorem gets_any (b : List UInt8) (m : Nat) (p : Int) (hm : m ≤ 1048576) : ∃ g : Got, (∀ (A : Option Addr) (c : Nat) (w : World), Reads w w.heap.size A m c (bys b) → Calls Try.prog 10 #[.slice A m c, .int .i64 p] w fun e w' => e = .returned (gotV g) ∧ w = w') ∧
    (∀ (A : Option Addr) (c : Nat) (w : World), Reads w w.heap.size A m c (bys b) → Calls Try.prog 14 #[.slice A m c, .int .i64 p] w fun e w' => e = .returned (gotV g) ∧ w = w') ∧
    (g.err = 0 → ∃ q : Nat, p = q ∧ q ≤ m ∧ g = getL b q) ∧ (g.err ≠ 0 → g.n = 0 ∧ g.next = 0) := by
  by_cases h : 0 ≤ p ∧ p ≤ m
  · obtain ⟨q, rfl⟩ := Int.eq_ofNat_of_zero_le h.1
    refine ⟨getL b q, fun A c w hx => get_any b A m c q w hx hm (by omega), fun A c w hx => refGet_any b A m c q w hx hm (by omega), fun _ => ⟨q, rfl, by omega, rfl⟩, ?_⟩
    have : ∀ f i, (getF b q f i).err ≠ 0 → (getF b q f i).n = 0 ∧ (getF b q f i).next = 0 := by
      intro f
      induction f with
      | zero => intro i _; exact ⟨rfl, rfl⟩
      | succ f ih =>
        intro i h
        rw [getF] at h ⊢
        split
        · exact ⟨rfl, rfl⟩
        · rename_i h1
          rw [if_neg h1] at h
          split
          · exact ⟨rfl, rfl⟩
          · rename_i h2
            rw [if_neg h2] at h
            split
            · rename_i h3
              rw [if_pos h3] at h
              exact absurd rfl h
            · rename_i h3
              rw [if_neg h3] at h
              exact ih _ h
    exact this 5 0
  · refine ⟨⟨0, 0, 1⟩, fun A c w _ => get_out A m c p w (by omega), fun A c w _ => refGet_out A m c p w (by omega), fun h => by simp at h, fun _ => ⟨rfl, rfl⟩⟩

set_option maxHeartbeats 1000000 in
theorem walkVlqGets (l : List Int) (A : Option Addr) (m c : Nat) (w : World) (hr : Reads w w.heap.size A m c (ints .u8 l)) (hw : ∀ x ∈ l, (Lit.int .u8 x).wf = true) (p : Int) (_ : (Lit.int .i64 p).wf = true) :
    Calls Try.prog 4 #[.slice A m c, .int .i64 p] w fun e w' => e = .returned (.bool true) ∧ Below w.heap.size w w' := by
  obtain ⟨b, hb⟩ := bytes_of l hw
  rw [hb] at hr
  clear hb hw
  by_cases h : 1000 < m
  · have h' : (1000 : Int) < (m : Int) := by omega
    go_enter Try.func4, Try.ntmps4
    go_wp2_with (go_at_call 8; refine (fixed_any _).mono ?_; rintro e w1 ⟨rfl, hb1⟩)
    go_ret
    exact ⟨rfl, hb1⟩
  · have h' : ¬ (1000 : Int) < (m : Int) := by omega
    obtain ⟨⟨gn, gx, ge⟩, H1, H2, _, _⟩ := gets_any b m p (by omega)
    unfold gotV at H1 H2
    have H1 := Lib.hid H1
    have H2 := Lib.hid H2
    go_enter Try.func4, Try.ntmps4
    go_wp2_with fail
    refine (copyB_any b _ _ _ _ hr (by omega)).mono ?_
    rintro e w1 ⟨g, rfl, hrow, hb1⟩
    have hlen : (bys b).length = m := hr.len
    have Hlen := Lib.hid hlen
    clear hlen
    go_wp2_with fail
    refine (H1.out _ _ _ (hrow.reads Hlen.out)).mono ?_
    rintro e w' ⟨rfl, rfl⟩
    have hr2 := (hr.below hb1).more hb1.size
    go_wp2_with fail
    refine (H2.out _ _ _ hr2).mono ?_
    rintro e w' ⟨rfl, rfl⟩
    go_wp2_with fail
    refine (fixed_any _).mono ?_
    rintro e w4 ⟨rfl, hb4⟩
    go_wp2_with fail
    refine (sameBy_yes _ _ _ _ _ _ _ _ _ ((hrow.call hb4).reads Hlen.out) ((hr2.below hb4).more hb4.size) (by omega) rfl).mono ?_
    rintro e w5 ⟨rfl, hb5⟩
    go_wp2
    go_ret
    exact ⟨rfl, then_ (then_ hb1 hb4) hb5⟩

set_option maxHeartbeats 1000000 in
theorem walkVlqOnly (l : List Int) (A : Option Addr) (m c : Nat) (w : World) (hr : Reads w w.heap.size A m c (ints .u8 l)) (hw : ∀ x ∈ l, (Lit.int .u8 x).wf = true) (p : Int) (_ : (Lit.int .i64 p).wf = true) :
    Calls Try.prog 5 #[.slice A m c, .int .i64 p] w fun e w' => e = .returned (.bool true) ∧ Below w.heap.size w w' := by
  obtain ⟨b, hb⟩ := bytes_of l hw
  rw [hb] at hr
  clear hb hw
  by_cases h : 1000 < m
  · have h' : (1000 : Int) < (m : Int) := by omega
    go_enter Try.func5, Try.ntmps5
    go_wp2_with (go_at_call 8; refine (fixed_any _).mono ?_; rintro e w1 ⟨rfl, hb1⟩)
    go_ret
    exact ⟨rfl, hb1⟩
  · have h' : ¬ (1000 : Int) < (m : Int) := by omega
    obtain ⟨g, H1, _, hok, hno⟩ := gets_any b m p (by omega)
    have hlen : b.length = m := by have := hr.len; rwa [bys_length] at this
    by_cases he : g.err = 0
    · obtain ⟨q, rfl, hq, rfl⟩ := hok he
      obtain ⟨n1, n2⟩ := getL_next b q he
      obtain ⟨o1, o2⟩ := get_only b q he
      clear hok hno
      have hpl : (putL (getL b q).n).length = (getL b q).next - q := by rw [o1, List.length_take, List.length_drop]; omega
      rw [hlen] at n2
      generalize getL b q = gg at he n1 n2 o1 o2 hpl H1
      obtain ⟨gn, gx, ge⟩ := gg
      have Ho := Lib.hid o1
      have Hpl := Lib.hid hpl
      have Hlen := Lib.hid hlen
      obtain rfl : ge = 0 := he
      clear hlen o1 hpl
      unfold gotV at H1
      have H1 := Lib.hid H1
      have n1' : q < gx := n1
      have n2' : gx ≤ m := n2
      have o2' : gn < 4294967296 := o2
      clear n1 n2 o2
      have hcap := hr.cap
      go_enter Try.func5, Try.ntmps5
      go_wp2_with fail
      refine (H1.out _ _ _ hr).mono ?_
      rintro e w' ⟨rfl, rfl⟩
      have hcq : ¬ c = q := by omega
      have hr1 := (hr.cut (k := q) (by omega)).front (k := gx - q) (by omega)
      rw [if_neg hcq] at hr1
      rw [show ((bys b).drop q).take (gx - q) = bys ((b.drop q).take (gx - q)) from by simp [bys, List.map_take, List.map_drop]] at hr1
      have hq1 : (q : Int) < (gx : Int) := by omega
      have hq2 : (gx : Int) ≤ (m : Int) := by omega
      have hq3 : gx ≤ c := by omega
      have hq4 : (gx : Int) ≤ (c : Int) := by omega
      have hq5 : (q : Int) ≤ (gx : Int) := by omega
      go_wp2_with fail
      go_region_held3 (fun _ => True) (trivial) (first | (go_at_call 8; refine (fixed_any _).mono ?_; rintro e w1 ⟨rfl, hb1⟩) | (go_at_call 9; refine (put_any _ _ o2').mono ?_; rintro e w2 ⟨v2, rfl, hown2, hb2⟩; obtain ⟨A2, c2, rfl, hr2, _⟩ := ownsRow_slice hown2) | (go_at_call 11; refine (sameBy_yes _ _ _ _ _ _ _ _ _ hr2 ((((hr1.drew.below hb1).more hb1.size).below hb2).more hb2.size) (by have h : (putL gn).length = gx - q := Hpl.out; omega) Ho.out).mono ?_; rintro e w3 ⟨rfl, hb3⟩))
      go_wp2
      go_ret
      exact ⟨rfl, then_ (then_ (then_ (Below.refl _ _).drew hb1) hb2) hb3⟩
    · obtain ⟨e1, e2⟩ := hno he
      have he1 : ((g.err : Int) != 0) = true := by simp; omega
      clear hok hno he
      obtain ⟨gn, gx, ge⟩ := g
      obtain rfl : gn = 0 := e1
      obtain rfl : gx = 0 := e2
      unfold gotV at H1
      have H1 := Lib.hid H1
      go_enter Try.func5, Try.ntmps5
      go_wp2_with fail
      refine (H1.out _ _ _ hr).mono ?_
      rintro e w' ⟨rfl, rfl⟩
      go_wp2_with (go_at_call 8; refine (fixed_any _).mono ?_; rintro e w1 ⟨rfl, hb1⟩)
      go_ret
      exact ⟨rfl, hb1⟩
end Go.Proofs.Ytpadhnfclijnkaa
