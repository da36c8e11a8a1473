/- The walk of law14's fixed: the chapter's examples. -/
import Derived.Test.YtbbjlijdodnjaaaImgMake
import Derived.Test.YtbbjlijdodnjaaaSame32
namespace Go.Proofs.Ytbbjlijdodnjaaa
open Go.RowKit

theorem fix_a : imgA 10 [(1, 7, 2, 0)] [] = ([2, 0, 1, 7, 2, 0], 0) := by decide +kernel
theorem fix_b : imgA 10 [(1, 7, 2, 0)] [(⟨#[]⟩, 5, [(0, [1])])] = ([2, 1, 1, 7, 2, 0, 5, 18, 1, 0, 65792], 0) := by decide +kernel
theorem Reads.many {k n : Nat} {w : World} {B c : Nat} {A : Option Addr} {xs : List Value} (h : Reads w B A c c xs) (hn : n * k = c) (hk : 0 < k) : ReadsK k w B A n n xs :=
  ⟨by rw [h.len, hn], Nat.le_refl _, fun h0 => h.at_ (by rw [← hn]; exact Nat.mul_pos h0 hk)⟩
set_option maxRecDepth 100000 in
set_option maxHeartbeats 4000000 in
theorem fixed_any (w : World) : Calls Try.prog 9 #[] w fun e w' => e = .returned (.bool true) ∧ Below w.heap.size w w' := by
  have r0 := lit_reads w 54 [.int .u32 1, .int .u32 7, .int .u32 2, .int .u32 0]
  have hB0 : Below w.heap.size w (w.alloc (.cells #[.int .u32 1, .int .u32 7, .int .u32 2, .int .u32 0] 54)) := (Below.refl _ _).alloc (Nat.le_refl _) _
  have hs0 : (w.alloc (.cells #[.int .u32 1, .int .u32 7, .int .u32 2, .int .u32 0] 54)).heap.size = w.heap.size + 1 := by simp
  have rk0 : ReadsK 4 (w.alloc (.cells #[.int .u32 1, .int .u32 7, .int .u32 2, .int .u32 0] 54)) (w.heap.size + 1) (some ⟨w.heap.size, 0, none⟩) 1 1 (([(1, 7, 2, 0)] : List Rv).flatMap rwC) := r0.many (k := 4) (n := 1) rfl (by omega)
  have HM := make_any 10 [(1, 7, 2, 0)] _ 1 1 [] none 0 0 _ (rk0.more (by omega)) (ReadsL.nil_ _ _ _ _)
  rw [show ltV [] = [] from rfl, fix_a] at HM
  clear r0
  go_enter Try.func9, Try.ntmps9
  go_wp2_with fail
  refine HM.mono ?_
  clear HM
  rintro e w2 ⟨v2, rfl, hown2, hb2⟩
  have hB2 : Below w.heap.size w w2 := hB0.trans (hb2.mono hB0.size)
  have rk2 := rk0.below (by rw [← hs0]; exact hb2)
  have hsz2 : w.heap.size + 1 ≤ w2.heap.size := by rw [← hs0]; exact hb2.size
  obtain ⟨A2, c2, rfl, hr2, _, _⟩ := ownsRow_slice hown2
  clear hown2 hb2 rk0 hB0 hs0
  have ra := lit_reads w2 3 [.int .i64 1]
  have rb := lit_reads (w2.alloc (.cells #[.int .i64 1] 3)) 52 [.int .i64 0, .slice (some ⟨w2.heap.size, 0, none⟩) 1 1]
  simp only [World.size_alloc] at rb
  have rc := lit_reads ((w2.alloc (.cells #[.int .i64 1] 3)).alloc (.cells #[.int .i64 0, .slice (some ⟨w2.heap.size, 0, none⟩) 1 1] 52)) 47 [.string ⟨#[]⟩, .int .i64 5, .slice (some ⟨w2.heap.size + 1, 0, none⟩) 1 1]
  simp only [World.size_alloc] at rc
  replace ra := (ra.alloc (by simp only [World.size_alloc]; omega) (.cells #[.int .i64 0, .slice (some ⟨w2.heap.size, 0, none⟩) 1 1] 52)).alloc (by simp only [World.size_alloc]; omega) (.cells #[.string ⟨#[]⟩, .int .i64 5, .slice (some ⟨w2.heap.size + 1, 0, none⟩) 1 1] 47)
  replace rb := rb.alloc (by simp only [World.size_alloc]; omega) (.cells #[.string ⟨#[]⟩, .int .i64 5, .slice (some ⟨w2.heap.size + 1, 0, none⟩) 1 1] 47)
  have hb3 : Below w2.heap.size w2 (((w2.alloc (.cells #[.int .i64 1] 3)).alloc (.cells #[.int .i64 0, .slice (some ⟨w2.heap.size, 0, none⟩) 1 1] 52)).alloc (.cells #[.string ⟨#[]⟩, .int .i64 5, .slice (some ⟨w2.heap.size + 1, 0, none⟩) 1 1] 47)) := al_ (al_ (al_ (Below.refl _ _) _) _) _
  have hs3 : (((w2.alloc (.cells #[.int .i64 1] 3)).alloc (.cells #[.int .i64 0, .slice (some ⟨w2.heap.size, 0, none⟩) 1 1] 52)).alloc (.cells #[.string ⟨#[]⟩, .int .i64 5, .slice (some ⟨w2.heap.size + 1, 0, none⟩) 1 1] 47)).heap.size = w2.heap.size + 1 + 1 + 1 := by simp only [World.size_alloc]
  have HM := make_any 10 [(1, 7, 2, 0)] _ 1 1 [⟨⟨#[]⟩, 5, ⟨some ⟨w2.heap.size + 1, 0, none⟩, 1, 1⟩, [(⟨some ⟨w2.heap.size, 0, none⟩, 1, 1⟩, (0, [1]))]⟩] (some ⟨w2.heap.size + 1 + 1, 0, none⟩) 1 1 _ ((rk2.below (hb3.mono hsz2)).more (by omega)) ⟨(rc.many (k := 3) (n := 1) rfl (by omega)).more (by omega), fun x hx => by
      rw [List.mem_singleton.1 hx]
      exact ⟨(rb.many (k := 2) (n := 1) rfl (by omega)).more (by omega), fun y hy => by rw [List.mem_singleton.1 hy]; exact ra.more (by omega)⟩, fun x hx => by rw [List.mem_singleton.1 hx]; simp [maxLen], fun x hx => by rw [List.mem_singleton.1 hx]; exact Nat.zero_le _⟩
  rw [show ltV [⟨⟨#[]⟩, 5, ⟨some ⟨w2.heap.size + 1, 0, none⟩, 1, 1⟩, [(⟨some ⟨w2.heap.size, 0, none⟩, 1, 1⟩, (0, [1]))]⟩] = [(⟨#[]⟩, 5, [(0, [1])])] from rfl, fix_b] at HM
  clear ra rb rc rk2
  go_wp2_with fail
  refine HM.mono ?_
  clear HM
  rintro e w4 ⟨v4, rfl, hown4, hb4⟩
  have hb24 := hb3.trans (hb4.mono hb3.size)
  have hB4 := then_ hB2 hb24
  obtain ⟨A4, c4, rfl, hr4, _, _⟩ := ownsRow_slice hown4
  have hr24 := (hr2.below hb24).more hb24.size
  clear hown4 hb4 hb3 hs3 hr2
  have rl := lit_reads w4 30 [.int .u32 2, .int .u32 0, .int .u32 1, .int .u32 7, .int .u32 2, .int .u32 0]
  have hB5 := al_ hB4 (.cells #[.int .u32 2, .int .u32 0, .int .u32 1, .int .u32 7, .int .u32 2, .int .u32 0] 30)
  have HS := same32_yes [2, 0, 1, 7, 2, 0] [2, 0, 1, 7, 2, 0] A2 _ 6 c2 6 6 _ ((hr24.alloc (Nat.le_refl _) (.cells #[.int .u32 2, .int .u32 0, .int .u32 1, .int .u32 7, .int .u32 2, .int .u32 0] 30)).more (by simp)) (rl.more (by simp)) (by omega) rfl
  have hr45 := (hr4.alloc (Nat.le_refl _) (.cells #[.int .u32 2, .int .u32 0, .int .u32 1, .int .u32 7, .int .u32 2, .int .u32 0] 30)).more (B' := (w4.alloc (.cells #[.int .u32 2, .int .u32 0, .int .u32 1, .int .u32 7, .int .u32 2, .int .u32 0] 30)).heap.size) (by simp)
  clear rl hr24 hr4
  go_wp2_with fail
  refine HS.mono ?_
  clear HS
  rintro e w6 ⟨rfl, hb6⟩
  have hB6 := then_ hB5 hb6
  have hr46 := (hr45.below hb6).more hb6.size
  have rl := lit_reads w6 30 [.int .u32 2, .int .u32 1, .int .u32 1, .int .u32 7, .int .u32 2, .int .u32 0, .int .u32 5, .int .u32 18, .int .u32 1, .int .u32 0, .int .u32 65792]
  have hB7 := al_ hB6 (.cells #[.int .u32 2, .int .u32 1, .int .u32 1, .int .u32 7, .int .u32 2, .int .u32 0, .int .u32 5, .int .u32 18, .int .u32 1, .int .u32 0, .int .u32 65792] 30)
  have HS := same32_yes [2, 1, 1, 7, 2, 0, 5, 18, 1, 0, 65792] [2, 1, 1, 7, 2, 0, 5, 18, 1, 0, 65792] A4 _ 11 c4 11 11 _ ((hr46.alloc (Nat.le_refl _) (.cells #[.int .u32 2, .int .u32 1, .int .u32 1, .int .u32 7, .int .u32 2, .int .u32 0, .int .u32 5, .int .u32 18, .int .u32 1, .int .u32 0, .int .u32 65792] 30)).more (by simp)) (rl.more (by simp)) (by omega) rfl
  clear rl hr45 hr46
  go_wp2_with fail
  refine HS.mono ?_
  clear HS
  rintro e w8 ⟨rfl, hb8⟩
  go_wp2
  go_ret
  exact ⟨rfl, then_ hB7 hb8⟩
end Go.Proofs.Ytbbjlijdodnjaaa
