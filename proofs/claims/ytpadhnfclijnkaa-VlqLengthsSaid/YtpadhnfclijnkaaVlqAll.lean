/- The walks of vlq.All and ref.All. -/
import Derived.Test.YtpadhnfclijnkaaVlqRefGet
namespace Go.Proofs.Ytpadhnfclijnkaa
open Go.RowKit

theorem info_u32 : (Try.prog.info? 22).map (fun i => (i.zero, i.size, i.bytes)) = some (some (.int .u32 0), 1, 4) := by kernel_rfl

/-- The numbers of all bytes: what All answers, from a place on. -/
def allF (b : List UInt8) : Nat → Nat → List Int → List Int × Nat
  | 0, _, acc => (acc, 0)
  | f + 1, p, acc => if p < b.length then (if (getL b p).err = 0 then allF b f (getL b p).next (acc ++ [((getL b p).n : Int)]) else ([], (getL b p).err)) else (acc, 0)
def allL (b : List UInt8) : List Int × Nat := allF b b.length 0 []
theorem getL_next (b : List UInt8) (p : Nat) (h : (getL b p).err = 0) : p < (getL b p).next ∧ (getL b p).next ≤ b.length := by
  have : ∀ f i, (getF b p f i).err = 0 → p < (getF b p f i).next ∧ (getF b p f i).next ≤ b.length := by
    intro f
    induction f with
    | zero => intro i h; simp [getF] at h
    | succ f ih =>
      intro i h
      rw [getF] at h ⊢
      split at h
      · simp at h
      · rename_i h1
        rw [if_neg h1]
        split at h
        · simp at h
        · rename_i h2
          rw [if_neg h2]
          split at h
          · rename_i h3
            rw [if_pos h3]
            simp
            omega
          · rename_i h3
            rw [if_neg h3]
            exact ih _ h
  exact this 5 0 h
theorem allF_end (b : List UInt8) (f p : Nat) (acc : List Int) (h : ¬ p < b.length) : allF b f p acc = (acc, 0) := by
  cases f with
  | zero => rfl
  | succ f => rw [allF, if_neg h]
theorem getL_small (b : List UInt8) (p : Nat) : (getL b p).err ≤ 12 := by
  have : ∀ f i, (getF b p f i).err ≤ 12 := by
    intro f
    induction f with
    | zero => intro i; simp [getF]
    | succ f ih =>
      intro i
      rw [getF]
      split
      · simp
      · split
        · simp
        · split
          · simp
          · exact ih _
  exact this 5 0

set_option maxRecDepth 100000 in
set_option maxHeartbeats 1000000 in
theorem all_any (b : List UInt8) (A : Option Addr) (m c : Nat) (w : World) (hx : Reads w w.heap.size A m c (bys b)) (hm : m ≤ 1048576) :
    Calls Try.prog 15 #[.slice A m c] w fun e w' => ∃ v, e = .returned (.tuple #[v, .int .i64 ((allL b).2 : Nat)]) ∧ w'.ownsRow w.heap.size 22 1 v (allL b).1.length (ints .u32 (allL b).1) ∧ Below w.heap.size w w' := by
  obtain ⟨i0, hi0, hz0, hz1, hz2⟩ := info_parts info_u32
  have hbl : b.length = m := by have := hx.len; rwa [bys_length] at this
  have Hbl := Lib.hid hbl
  have H0 : Hid (allL b = allF b m 0 []) := Lib.hid (by rw [allL, hbl])
  clear hbl
  generalize allL b = R at *
  go_enter Try.func15, Try.ntmps15
  go_wp2
  go_loopw [4, 5] (fun v i wr => ∃ (f p : Nat) (acc : List Int), i = .int .i64 p ∧ p ≤ m ∧ m ≤ p + f ∧ acc.length ≤ p ∧ R = allF b f p acc ∧ wr.ownsRow w.heap.size 22 1 v acc.length (ints .u32 acc) ∧ Below w.heap.size w wr) (fun _ i _ => m - (intOf i).toNat)
  case atStart => exact ⟨m, 0, [], rfl, by omega, by omega, by simp, H0.out, World.ownsRow_nil _ _ _ _, Below.refl _ _⟩
  case round =>
    obtain ⟨f, p, acc, rfl, hp, hpf, hal, hR, hown, hb⟩ := hrel
    have HR := Lib.hid hR
    clear hR
    have hsz := hb.size
    have hr2 := (hx.below hb).more hsz
    by_cases hlt : p < m
    · obtain ⟨f', hf'⟩ : ∃ f', f = f' + 1 := ⟨f - 1, by omega⟩
      have hff : m ≤ p + f' + 1 := by omega
      have HS := Lib.hid (show allF b f p acc = if (getL b p).err = 0 then allF b f' (getL b p).next (acc ++ [((getL b p).n : Int)]) else ([], (getL b p).err) by rw [hf', allF, if_pos (by rw [Hbl.out]; exact hlt)])
      clear hf'
      by_cases herr : (getL b p).err = 0
      · obtain ⟨hn1, hn2⟩ := getL_next b p herr
        rw [Hbl.out] at hn2
        have HS2 := Lib.hid (HS.out.trans (if_pos herr))
        have he0 : (((getL b p).err : Int) != 0) = false := by simp; omega
        clear herr
        generalize hg : getL b p = g at *
        have HC : ∀ w', Reads w' w'.heap.size A m c (bys b) → Calls Try.prog 10 #[.slice A m c, .int .i64 p] w' fun e w'' => e = .returned (gotV g) ∧ w' = w'' := fun w' h => by
          have := get_any b A m c p w' h hm hp
          rw [hg] at this; exact this
        have HC := Lib.hid HC
        clear hg
        obtain ⟨gn, gnext, gerr⟩ := g
        have hn1' : p < gnext := hn1
        have hn2' : gnext ≤ m := hn2
        clear hn1 hn2
        go_wp2_with (first | (go_at_call 10; refine (HC.out _ hr2).mono ?_; unfold gotV; rintro e w' ⟨rfl, rfl⟩) | (at_builtin; refine wpList_append_one rfl _ _ 37 rfl w.heap.size 22 i0 (.int .u32 0) 4 Try.underlying37 hi0 hz0 hz1 hz2 rfl _ _ _ (.int .u32 (gn : Nat)) hown rfl rfl rfl (by omega) (by omega) hsz ?_; intro v2 w2 hown2 hg2))
        go_roundw
        case rel => exact ⟨f', gnext, acc ++ [(gn : Int)], rfl, hn2', by omega, by simp; omega, by rw [HR.out, HS2.out], by rw [List.length_append, ints_append]; exact hown2, below_grown hb hown (Nat.le_refl _) hsz hg2⟩
        case measure => simp [intOf]; omega
      · have HS2 := Lib.hid (HS.out.trans (if_neg herr))
        have he0 : (((getL b p).err : Int) != 0) = true := by simp; omega
        clear herr
        generalize hg : getL b p = g at *
        have HC : ∀ w', Reads w' w'.heap.size A m c (bys b) → Calls Try.prog 10 #[.slice A m c, .int .i64 p] w' fun e w'' => e = .returned (gotV g) ∧ w' = w'' := fun w' h => by
          have := get_any b A m c p w' h hm hp
          rw [hg] at this; exact this
        have HC := Lib.hid HC
        clear hg
        obtain ⟨gn, gnext, gerr⟩ := g
        go_wp2_with (go_at_call 10; refine (HC.out _ hr2).mono ?_; unfold gotV; rintro e w' ⟨rfl, rfl⟩)
        go_ret2
        exact ⟨_, by rw [HR.out, HS2.out]; rfl, by rw [HR.out, HS2.out]; exact World.ownsRow_nil _ _ _ _, hb⟩
    · have Hend := Lib.hid (allF_end b f p acc (by rw [Hbl.out]; omega))
      go_wp2
      go_ret2
      exact ⟨_, by rw [HR.out, Hend.out]; rfl, by rw [HR.out, Hend.out]; exact hown, hb⟩

set_option maxRecDepth 100000 in
set_option maxHeartbeats 1000000 in
theorem refAll_any (b : List UInt8) (A : Option Addr) (m c : Nat) (w : World) (hx : Reads w w.heap.size A m c (bys b)) (hm : m ≤ 1048576) :
    Calls Try.prog 16 #[.slice A m c] w fun e w' => ∃ v, e = .returned (.tuple #[v, .int .i64 ((allL b).2 : Nat)]) ∧ w'.ownsRow w.heap.size 22 1 v (allL b).1.length (ints .u32 (allL b).1) ∧ Below w.heap.size w w' := by
  obtain ⟨i0, hi0, hz0, hz1, hz2⟩ := info_parts info_u32
  have hbl : b.length = m := by have := hx.len; rwa [bys_length] at this
  have Hbl := Lib.hid hbl
  have H0 : Hid (allL b = allF b m 0 []) := Lib.hid (by rw [allL, hbl])
  clear hbl
  generalize allL b = R at *
  go_enter Try.func16, Try.ntmps16
  go_wp2
  go_loopw [4, 5] (fun v i wr => ∃ (f p : Nat) (acc : List Int), i = .int .i64 p ∧ p ≤ m ∧ m ≤ p + f ∧ acc.length ≤ p ∧ R = allF b f p acc ∧ wr.ownsRow w.heap.size 22 1 v acc.length (ints .u32 acc) ∧ Below w.heap.size w wr) (fun _ i _ => m - (intOf i).toNat)
  case atStart => exact ⟨m, 0, [], rfl, by omega, by omega, by simp, H0.out, built_new w _ [] (by simp), (Below.refl _ _).alloc (Nat.le_refl _) _⟩
  case round =>
    obtain ⟨f, p, acc, rfl, hp, hpf, hal, hR, hown, hb⟩ := hrel
    have HR := Lib.hid hR
    clear hR
    have hsz := hb.size
    have hr2 := (hx.below hb).more hsz
    by_cases hlt : p < m
    · obtain ⟨f', hf'⟩ : ∃ f', f = f' + 1 := ⟨f - 1, by omega⟩
      have hff : m ≤ p + f' + 1 := by omega
      have HS := Lib.hid (show allF b f p acc = if (getL b p).err = 0 then allF b f' (getL b p).next (acc ++ [((getL b p).n : Int)]) else ([], (getL b p).err) by rw [hf', allF, if_pos (by rw [Hbl.out]; exact hlt)])
      clear hf'
      by_cases herr : (getL b p).err = 0
      · obtain ⟨hn1, hn2⟩ := getL_next b p herr
        rw [Hbl.out] at hn2
        have HS2 := Lib.hid (HS.out.trans (if_pos herr))
        have he0 : (((getL b p).err : Int) != 0) = false := by simp; omega
        clear herr
        generalize hg : getL b p = g at *
        have HC : ∀ w', Reads w' w'.heap.size A m c (bys b) → Calls Try.prog 14 #[.slice A m c, .int .i64 p] w' fun e w'' => e = .returned (gotV g) ∧ w' = w'' := fun w' h => by
          have := refGet_any b A m c p w' h hm hp
          rw [hg] at this; exact this
        have HC := Lib.hid HC
        clear hg
        obtain ⟨gn, gnext, gerr⟩ := g
        have hn1' : p < gnext := hn1
        have hn2' : gnext ≤ m := hn2
        clear hn1 hn2
        go_wp2_with (first | (go_at_call 14; refine (HC.out _ hr2).mono ?_; unfold gotV; rintro e w' ⟨rfl, rfl⟩) | (at_builtin; refine wpList_append_one rfl _ _ 37 rfl w.heap.size 22 i0 (.int .u32 0) 4 Try.underlying37 hi0 hz0 hz1 hz2 rfl _ _ _ (.int .u32 (gn : Nat)) hown rfl rfl rfl (by omega) (by omega) hsz ?_; intro v2 w2 hown2 hg2))
        go_roundw
        case rel => exact ⟨f', gnext, acc ++ [(gn : Int)], rfl, hn2', by omega, by simp; omega, by rw [HR.out, HS2.out], by rw [List.length_append, ints_append]; exact hown2, below_grown hb hown (Nat.le_refl _) hsz hg2⟩
        case measure => simp [intOf]; omega
      · have HS2 := Lib.hid (HS.out.trans (if_neg herr))
        have he0 : (((getL b p).err : Int) != 0) = true := by simp; omega
        clear herr
        generalize hg : getL b p = g at *
        have HC : ∀ w', Reads w' w'.heap.size A m c (bys b) → Calls Try.prog 14 #[.slice A m c, .int .i64 p] w' fun e w'' => e = .returned (gotV g) ∧ w' = w'' := fun w' h => by
          have := refGet_any b A m c p w' h hm hp
          rw [hg] at this; exact this
        have HC := Lib.hid HC
        clear hg
        obtain ⟨gn, gnext, gerr⟩ := g
        go_wp2_with (go_at_call 14; refine (HC.out _ hr2).mono ?_; unfold gotV; rintro e w' ⟨rfl, rfl⟩)
        go_ret2
        exact ⟨_, by rw [HR.out, HS2.out]; rfl, by rw [HR.out, HS2.out]; exact World.ownsRow_nil _ _ _ _, hb⟩
    · have Hend := Lib.hid (allF_end b f p acc (by rw [Hbl.out]; omega))
      go_wp2
      go_ret2
      exact ⟨_, by rw [HR.out, Hend.out]; rfl, by rw [HR.out, Hend.out]; exact hown, hb⟩
end Go.Proofs.Ytpadhnfclijnkaa
