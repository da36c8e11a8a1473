/- The walk of the examples of layer 18: printed by wip/bin/gen_matfix.py. -/
import Derived.Test.YtgjdjggakkmbgaaMatTree
import Derived.Test.YtgjdjggakkmbgaaMatPhrase
import Derived.Test.YtgjdjggakkmbgaaMatSame
import Derived.Test.YtgjdjggakkmbgaaMatSameI
namespace Go.Proofs.Ytgjdjggakkmbgaa
open Go.RowKit

theorem blt (w : World) (e : TypeId) (cs : List Value) : Reads (w.alloc (.cells cs.toArray e)) (w.heap.size + 1) (some ⟨w.heap.size, 0, none⟩) cs.length cs.length cs := by
  refine ⟨rfl, Nat.le_refl _, fun _ => ⟨_, rfl, Nat.lt_succ_self _, ?_⟩⟩
  exact World.news_of_block (cs := cs.toArray) (fr := (0, 0)) (heap_alloc_new w _)
theorem Reads.many {k n : Nat} {w : World} {B c : Nat} {A : Option Addr} {xs : List Value} (h : Reads w B A c c xs) (hn : n * k = c) (hk : 0 < k) : ReadsK k w B A n n xs :=
  ⟨by rw [h.len, hn], Nat.le_refl _, fun h0 => h.at_ (by rw [← hn]; exact Nat.mul_pos h0 hk)⟩
theorem fix_world (w : World) : ReadsT ((((((w.alloc (.cells #[.int .u8 0, .string ⟨#[102, 111, 120]⟩, .int .i64 0, .int .u8 0, .string ⟨#[100, 111, 103]⟩, .int .i64 1] 41)).alloc (.cells #[.int .i64 0, .int .i64 4] 3)).alloc (.cells #[.int .i64 0, .slice (some ⟨w.heap.size + 1, 0, none⟩) 2 2] 46)).alloc (.cells #[.int .i64 1] 3)).alloc (.cells #[.int .i64 0, .slice (some ⟨w.heap.size + 1 + 1 + 1, 0, none⟩) 1 1] 46)).alloc (.cells #[.slice (some ⟨w.heap.size + 1 + 1, 0, none⟩) 1 1, .slice (some ⟨w.heap.size + 1 + 1 + 1 + 1, 0, none⟩) 1 1] 42)) (w.heap.size + 1 + 1 + 1 + 1 + 1 + 1) (some ⟨w.heap.size, 0, none⟩) 2 2 [⟨0, ⟨#[102, 111, 120]⟩, 0⟩, ⟨0, ⟨#[100, 111, 103]⟩, 1⟩] ∧ ReadsL ((((((w.alloc (.cells #[.int .u8 0, .string ⟨#[102, 111, 120]⟩, .int .i64 0, .int .u8 0, .string ⟨#[100, 111, 103]⟩, .int .i64 1] 41)).alloc (.cells #[.int .i64 0, .int .i64 4] 3)).alloc (.cells #[.int .i64 0, .slice (some ⟨w.heap.size + 1, 0, none⟩) 2 2] 46)).alloc (.cells #[.int .i64 1] 3)).alloc (.cells #[.int .i64 0, .slice (some ⟨w.heap.size + 1 + 1 + 1, 0, none⟩) 1 1] 46)).alloc (.cells #[.slice (some ⟨w.heap.size + 1 + 1, 0, none⟩) 1 1, .slice (some ⟨w.heap.size + 1 + 1 + 1 + 1, 0, none⟩) 1 1] 42)) (w.heap.size + 1 + 1 + 1 + 1 + 1 + 1) (some ⟨w.heap.size + 1 + 1 + 1 + 1 + 1, 0, none⟩) 2 2 [(⟨some ⟨w.heap.size + 1 + 1, 0, none⟩, 1, 1⟩, [(⟨some ⟨w.heap.size + 1, 0, none⟩, 2, 2⟩, (0, [0, 4]))]), (⟨some ⟨w.heap.size + 1 + 1 + 1 + 1, 0, none⟩, 1, 1⟩, [(⟨some ⟨w.heap.size + 1 + 1 + 1, 0, none⟩, 1, 1⟩, (0, [1]))])] := by
  have r0 := blt w 41 [.int .u8 0, .string ⟨#[102, 111, 120]⟩, .int .i64 0, .int .u8 0, .string ⟨#[100, 111, 103]⟩, .int .i64 1]
  have r1 := blt (w.alloc (.cells #[.int .u8 0, .string ⟨#[102, 111, 120]⟩, .int .i64 0, .int .u8 0, .string ⟨#[100, 111, 103]⟩, .int .i64 1] 41)) 3 [.int .i64 0, .int .i64 4]
  simp only [World.size_alloc] at r1
  have r2 := blt ((w.alloc (.cells #[.int .u8 0, .string ⟨#[102, 111, 120]⟩, .int .i64 0, .int .u8 0, .string ⟨#[100, 111, 103]⟩, .int .i64 1] 41)).alloc (.cells #[.int .i64 0, .int .i64 4] 3)) 46 [.int .i64 0, .slice (some ⟨w.heap.size + 1, 0, none⟩) 2 2]
  simp only [World.size_alloc] at r2
  have r3 := blt (((w.alloc (.cells #[.int .u8 0, .string ⟨#[102, 111, 120]⟩, .int .i64 0, .int .u8 0, .string ⟨#[100, 111, 103]⟩, .int .i64 1] 41)).alloc (.cells #[.int .i64 0, .int .i64 4] 3)).alloc (.cells #[.int .i64 0, .slice (some ⟨w.heap.size + 1, 0, none⟩) 2 2] 46)) 3 [.int .i64 1]
  simp only [World.size_alloc] at r3
  have r4 := blt ((((w.alloc (.cells #[.int .u8 0, .string ⟨#[102, 111, 120]⟩, .int .i64 0, .int .u8 0, .string ⟨#[100, 111, 103]⟩, .int .i64 1] 41)).alloc (.cells #[.int .i64 0, .int .i64 4] 3)).alloc (.cells #[.int .i64 0, .slice (some ⟨w.heap.size + 1, 0, none⟩) 2 2] 46)).alloc (.cells #[.int .i64 1] 3)) 46 [.int .i64 0, .slice (some ⟨w.heap.size + 1 + 1 + 1, 0, none⟩) 1 1]
  simp only [World.size_alloc] at r4
  have r5 := blt (((((w.alloc (.cells #[.int .u8 0, .string ⟨#[102, 111, 120]⟩, .int .i64 0, .int .u8 0, .string ⟨#[100, 111, 103]⟩, .int .i64 1] 41)).alloc (.cells #[.int .i64 0, .int .i64 4] 3)).alloc (.cells #[.int .i64 0, .slice (some ⟨w.heap.size + 1, 0, none⟩) 2 2] 46)).alloc (.cells #[.int .i64 1] 3)).alloc (.cells #[.int .i64 0, .slice (some ⟨w.heap.size + 1 + 1 + 1, 0, none⟩) 1 1] 46)) 42 [.slice (some ⟨w.heap.size + 1 + 1, 0, none⟩) 1 1, .slice (some ⟨w.heap.size + 1 + 1 + 1 + 1, 0, none⟩) 1 1]
  simp only [World.size_alloc] at r5
  replace r0 := r0.alloc (by simp only [World.size_alloc]; omega) (.cells #[.int .i64 0, .int .i64 4] 3)
  replace r0 := r0.alloc (by simp only [World.size_alloc]; omega) (.cells #[.int .i64 0, .slice (some ⟨w.heap.size + 1, 0, none⟩) 2 2] 46)
  replace r0 := r0.alloc (by simp only [World.size_alloc]; omega) (.cells #[.int .i64 1] 3)
  replace r0 := r0.alloc (by simp only [World.size_alloc]; omega) (.cells #[.int .i64 0, .slice (some ⟨w.heap.size + 1 + 1 + 1, 0, none⟩) 1 1] 46)
  replace r0 := r0.alloc (by simp only [World.size_alloc]; omega) (.cells #[.slice (some ⟨w.heap.size + 1 + 1, 0, none⟩) 1 1, .slice (some ⟨w.heap.size + 1 + 1 + 1 + 1, 0, none⟩) 1 1] 42)
  replace r1 := r1.alloc (by simp only [World.size_alloc]; omega) (.cells #[.int .i64 0, .slice (some ⟨w.heap.size + 1, 0, none⟩) 2 2] 46)
  replace r1 := r1.alloc (by simp only [World.size_alloc]; omega) (.cells #[.int .i64 1] 3)
  replace r1 := r1.alloc (by simp only [World.size_alloc]; omega) (.cells #[.int .i64 0, .slice (some ⟨w.heap.size + 1 + 1 + 1, 0, none⟩) 1 1] 46)
  replace r1 := r1.alloc (by simp only [World.size_alloc]; omega) (.cells #[.slice (some ⟨w.heap.size + 1 + 1, 0, none⟩) 1 1, .slice (some ⟨w.heap.size + 1 + 1 + 1 + 1, 0, none⟩) 1 1] 42)
  replace r2 := r2.alloc (by simp only [World.size_alloc]; omega) (.cells #[.int .i64 1] 3)
  replace r2 := r2.alloc (by simp only [World.size_alloc]; omega) (.cells #[.int .i64 0, .slice (some ⟨w.heap.size + 1 + 1 + 1, 0, none⟩) 1 1] 46)
  replace r2 := r2.alloc (by simp only [World.size_alloc]; omega) (.cells #[.slice (some ⟨w.heap.size + 1 + 1, 0, none⟩) 1 1, .slice (some ⟨w.heap.size + 1 + 1 + 1 + 1, 0, none⟩) 1 1] 42)
  replace r3 := r3.alloc (by simp only [World.size_alloc]; omega) (.cells #[.int .i64 0, .slice (some ⟨w.heap.size + 1 + 1 + 1, 0, none⟩) 1 1] 46)
  replace r3 := r3.alloc (by simp only [World.size_alloc]; omega) (.cells #[.slice (some ⟨w.heap.size + 1 + 1, 0, none⟩) 1 1, .slice (some ⟨w.heap.size + 1 + 1 + 1 + 1, 0, none⟩) 1 1] 42)
  replace r4 := r4.alloc (by simp only [World.size_alloc]; omega) (.cells #[.slice (some ⟨w.heap.size + 1 + 1, 0, none⟩) 1 1, .slice (some ⟨w.heap.size + 1 + 1 + 1 + 1, 0, none⟩) 1 1] 42)
  refine ⟨((r0.many (k := 3) (n := 2) rfl (by omega)).more (by omega)), ⟨((r5.many (k := 1) (n := 2) rfl (by omega)).more (by omega)), fun x hx => ?_⟩⟩
  simp only [List.mem_cons, List.mem_nil_iff, or_false] at hx
  rcases hx with rfl | rfl
  · refine ⟨(r2.many (k := 2) (n := 1) rfl (by omega)).more (by omega), fun x hx => ?_⟩
    obtain rfl := List.mem_singleton.1 hx
    exact r1.more (by omega)
  · refine ⟨(r4.many (k := 2) (n := 1) rfl (by omega)).more (by omega), fun x hx => ?_⟩
    obtain rfl := List.mem_singleton.1 hx
    exact r3.more (by omega)
theorem fix_ph : phF [0, 1] [[(0, [0, 4])], [(0, [1])]] = [(0, 1)] := by decide +kernel
theorem fix_may : ∀ V ∈ ([[(0, [0, 4])], [(0, [1])]] : List (List En)), MayP V := fun V hV => by
  simp only [List.mem_cons, List.mem_nil_iff, or_false] at hV
  rcases hV with rfl | rfl <;> exact may_parts (by decide +kernel)
theorem fix_ev (kh : Hn) : evalL [1, 2, 3] (.mk 4 0 ⟨none, 0, 0⟩ kh [.mk 1 0 ⟨none, 0, 0⟩ ⟨none, 0, 0⟩ []]) [[(2, 1)]] = [1, 3] := by
  have e : (evalQ [1, 2, 3] (.mk 4 0 ⟨none, 0, 0⟩ kh [.mk 1 0 ⟨none, 0, 0⟩ ⟨none, 0, 0⟩ []]) [[(2, 1)]]).1 = fun d => sel 4 1 (one (keepQ [1, 2, 3] [(2, 1)] d) + 0) := by
    rw [eval_in _ _ _ _ _ _ _ (by decide), evalQs, eval_leaf]
    rfl
  rw [evalL, e]
  decide +kernel

theorem rise_123 : Rise [1, 2, 3] := fun i j hij hj => by
  have h3 : j < 3 := hj
  rcases (show (i = 0 ∧ j = 1) ∨ (i = 0 ∧ j = 2) ∨ (i = 1 ∧ j = 2) from by omega) with ⟨rfl, rfl⟩ | ⟨rfl, rfl⟩ | ⟨rfl, rfl⟩ <;> simp
theorem nil_k (k : Nat) (w : World) (B : Nat) : ReadsK k w B none 0 0 [] := ⟨by simp, Nat.le_refl _, fun h => absurd h (by omega)⟩
def leafN : NodeM := .mk 1 0 ⟨none, 0, 0⟩ ⟨none, 0, 0⟩ []
theorem leafN_reads (w : World) (B : Nat) : ReadsNd w B leafN := .mk [] (nil_k 3 w B) (nil_k 4 w B) (by simp [maxLen]) (by simp)
set_option maxRecDepth 100000 in
set_option maxHeartbeats 4000000 in
theorem fixed_any (w : World) : Calls Try.prog 9 #[] w fun e w' => e = .returned (.bool true) ∧ Below w.heap.size w w' := by
  obtain ⟨hT, hL⟩ := fix_world w
  have hs6 : ((((((w.alloc (.cells #[.int .u8 0, .string ⟨#[102, 111, 120]⟩, .int .i64 0, .int .u8 0, .string ⟨#[100, 111, 103]⟩, .int .i64 1] 41)).alloc (.cells #[.int .i64 0, .int .i64 4] 3)).alloc (.cells #[.int .i64 0, .slice (some ⟨w.heap.size + 1, 0, none⟩) 2 2] 46)).alloc (.cells #[.int .i64 1] 3)).alloc (.cells #[.int .i64 0, .slice (some ⟨w.heap.size + 1 + 1 + 1, 0, none⟩) 1 1] 46)).alloc (.cells #[.slice (some ⟨w.heap.size + 1 + 1, 0, none⟩) 1 1, .slice (some ⟨w.heap.size + 1 + 1 + 1 + 1, 0, none⟩) 1 1] 42)).heap.size = w.heap.size + 1 + 1 + 1 + 1 + 1 + 1 := by simp only [World.size_alloc]
  have hB6 : Below w.heap.size w ((((((w.alloc (.cells #[.int .u8 0, .string ⟨#[102, 111, 120]⟩, .int .i64 0, .int .u8 0, .string ⟨#[100, 111, 103]⟩, .int .i64 1] 41)).alloc (.cells #[.int .i64 0, .int .i64 4] 3)).alloc (.cells #[.int .i64 0, .slice (some ⟨w.heap.size + 1, 0, none⟩) 2 2] 46)).alloc (.cells #[.int .i64 1] 3)).alloc (.cells #[.int .i64 0, .slice (some ⟨w.heap.size + 1 + 1 + 1, 0, none⟩) 1 1] 46)).alloc (.cells #[.slice (some ⟨w.heap.size + 1 + 1, 0, none⟩) 1 1, .slice (some ⟨w.heap.size + 1 + 1 + 1 + 1, 0, none⟩) 1 1] 42)) := al_ (al_ (al_ (al_ (al_ (al_ (Below.refl _ _) _) _) _) _) _) _
  have HP := phrase_any [⟨0, ⟨#[102, 111, 120]⟩, 0⟩, ⟨0, ⟨#[100, 111, 103]⟩, 1⟩] [(⟨some ⟨w.heap.size + 1 + 1, 0, none⟩, 1, 1⟩, [(⟨some ⟨w.heap.size + 1, 0, none⟩, 2, 2⟩, (0, [0, 4]))]), (⟨some ⟨w.heap.size + 1 + 1 + 1 + 1, 0, none⟩, 1, 1⟩, [(⟨some ⟨w.heap.size + 1 + 1 + 1, 0, none⟩, 1, 1⟩, (0, [1]))])] _ 2 2 _ 2 2 ((((((w.alloc (.cells #[.int .u8 0, .string ⟨#[102, 111, 120]⟩, .int .i64 0, .int .u8 0, .string ⟨#[100, 111, 103]⟩, .int .i64 1] 41)).alloc (.cells #[.int .i64 0, .int .i64 4] 3)).alloc (.cells #[.int .i64 0, .slice (some ⟨w.heap.size + 1, 0, none⟩) 2 2] 46)).alloc (.cells #[.int .i64 1] 3)).alloc (.cells #[.int .i64 0, .slice (some ⟨w.heap.size + 1 + 1 + 1, 0, none⟩) 1 1] 46)).alloc (.cells #[.slice (some ⟨w.heap.size + 1 + 1, 0, none⟩) 1 1, .slice (some ⟨w.heap.size + 1 + 1 + 1 + 1, 0, none⟩) 1 1] 42)) (by rw [hs6]; exact hT) (by rw [hs6]; exact hL) (by omega) fix_may
  rw [show phF (tkP [⟨0, ⟨#[102, 111, 120]⟩, 0⟩, ⟨0, ⟨#[100, 111, 103]⟩, 1⟩]) (lnV [(⟨some ⟨w.heap.size + 1 + 1, 0, none⟩, 1, 1⟩, [(⟨some ⟨w.heap.size + 1, 0, none⟩, 2, 2⟩, (0, [0, 4]))]), (⟨some ⟨w.heap.size + 1 + 1 + 1 + 1, 0, none⟩, 1, 1⟩, [(⟨some ⟨w.heap.size + 1 + 1 + 1, 0, none⟩, 1, 1⟩, (0, [1]))])]) = [(0, 1)] from fix_ph] at HP
  clear hT hL hs6
  go_enter Try.func9, Try.ntmps9
  go_wp2_with fail
  refine HP.mono ?_
  clear HP
  rintro e w7 ⟨v7, rfl, hown7, hb7⟩
  have hB7 : Below w.heap.size w w7 := hB6.trans (hb7.mono hB6.size)
  clear hb7 hB6
  obtain ⟨A7, c7, rfl, hr7, _, _⟩ := ReadsK.of_own hown7
  have hk8 := blt w7 31 [.int .i64 1, .int .u8 0, .slice none 0 0, .slice none 0 0]
  have hB8 := al_ hB7 (.cells #[.int .i64 1, .int .u8 0, .slice none 0 0, .slice none 0 0] 31)
  have hr8 := hr7.alloc (Nat.le_refl _) (.cells #[.int .i64 1, .int .u8 0, .slice none 0 0, .slice none 0 0] 31)
  have hs8 : (w7.alloc (.cells #[.int .i64 1, .int .u8 0, .slice none 0 0, .slice none 0 0] 31)).heap.size = w7.heap.size + 1 := by simp
  obtain ⟨b, hb⟩ : ∃ b, w7.heap.size = b := ⟨_, rfl⟩
  clear hown7
  go_wp2_with fail
  rw [hb] at hk8 hr8 hs8
  try rw [hb]
  generalize w7.alloc (.cells #[.int .i64 1, .int .u8 0, .slice none 0 0, .slice none 0 0] 31) = w8 at *
  have hrN := Row.new w8 31 [.int .i64 4, .int .u8 0, .slice none 0 0, .slice (some ⟨b, 0, none⟩) 1 1]
  have hB9 := al_ hB8 (.cells #[.int .i64 4, .int .u8 0, .slice none 0 0, .slice (some ⟨b, 0, none⟩) 1 1] 31)
  have hr9 := hr8.alloc (by omega) (.cells #[.int .i64 4, .int .u8 0, .slice none 0 0, .slice (some ⟨b, 0, none⟩) 1 1] 31)
  have hk9 := hk8.alloc (by omega) (.cells #[.int .i64 4, .int .u8 0, .slice none 0 0, .slice (some ⟨b, 0, none⟩) 1 1] 31)
  have hs9 : (w8.alloc (.cells #[.int .i64 4, .int .u8 0, .slice none 0 0, .slice (some ⟨b, 0, none⟩) 1 1] 31)).heap.size = b + 1 + 1 := by simp [hs8]
  rw [hs8] at hrN
  generalize w8.alloc (.cells #[.int .i64 4, .int .u8 0, .slice none 0 0, .slice (some ⟨b, 0, none⟩) 1 1] 31) = w9 at *
  have hf10 := blt w9 44 [.int .i64 0, .int .i64 1]
  have hrN10 := hrN.alloc (.cells #[.int .i64 0, .int .i64 1] 44)
  have hB10 := al_ hB9 (.cells #[.int .i64 0, .int .i64 1] 44)
  have hr10 := hr9.alloc (by omega) (.cells #[.int .i64 0, .int .i64 1] 44)
  have hk10 := hk9.alloc (by omega) (.cells #[.int .i64 0, .int .i64 1] 44)
  have hs10 : (w9.alloc (.cells #[.int .i64 0, .int .i64 1] 44)).heap.size = b + 1 + 1 + 1 := by simp [hs9]
  rw [hs9] at hf10
  have HS := sameF_yes [(0, 1)] A7 (some ⟨b + 1 + 1, 0, none⟩) 1 c7 1 1 (w9.alloc (.cells #[.int .i64 0, .int .i64 1] 44)) (hr10.more (by omega)) ((hf10.many (k := 2) (n := 1) rfl (by omega)).more (by omega)) (by omega)
  refine HS.mono ?_
  clear HS hf10 hr8 hr9 hr10 hr7 hs8 hs9 hb hk8 hk9 hrN
  rintro e w11 ⟨rfl, hb11⟩
  have hB11 := then_ hB10 hb11
  have hrN11 := hrN10.call hb11
  have q0 : w11.cell? ⟨b + 1, 0, none⟩ = some (.int .i64 4) := hrN11.cell 0
  have q1 : w11.cell? ⟨b + 1, 1, none⟩ = some (.int .u8 0) := hrN11.cell 1
  have q2 : w11.cell? ⟨b + 1, 2, none⟩ = some (.slice none 0 0) := hrN11.cell 2
  have q3 : w11.cell? ⟨b + 1, 3, none⟩ = some (.slice (some ⟨b, 0, none⟩) 1 1) := hrN11.cell 3
  have hk11 := (hk10.more (show b + 1 ≤ b + 1 + 1 + 1 by omega)).below (by rw [← hs10]; exact hb11)
  have hsz11 : b + 1 + 1 + 1 ≤ w11.heap.size := by have := hb11.size; omega
  have ra := blt w11 3 [.int .i64 1, .int .i64 2, .int .i64 3]
  have rb := blt (w11.alloc (.cells #[.int .i64 1, .int .i64 2, .int .i64 3] 3)) 44 [.int .i64 2, .int .i64 1]
  simp only [World.size_alloc] at rb
  have rc := blt ((w11.alloc (.cells #[.int .i64 1, .int .i64 2, .int .i64 3] 3)).alloc (.cells #[.int .i64 2, .int .i64 1] 44)) 27 [.slice (some ⟨w11.heap.size + 1, 0, none⟩) 1 1]
  simp only [World.size_alloc] at rc
  replace ra := (ra.alloc (by simp only [World.size_alloc]; omega) (.cells #[.int .i64 2, .int .i64 1] 44)).alloc (by simp only [World.size_alloc]; omega) (.cells #[.slice (some ⟨w11.heap.size + 1, 0, none⟩) 1 1] 27)
  replace rb := rb.alloc (by simp only [World.size_alloc]; omega) (.cells #[.slice (some ⟨w11.heap.size + 1, 0, none⟩) 1 1] 27)
  have hkk := ((hk11.alloc (by omega) (.cells #[.int .i64 1, .int .i64 2, .int .i64 3] 3)).alloc (by simp only [World.size_alloc]; omega) (.cells #[.int .i64 2, .int .i64 1] 44)).alloc (by simp only [World.size_alloc]; omega) (.cells #[.slice (some ⟨w11.heap.size + 1, 0, none⟩) 1 1] 27)
  have hB14 := al_ (al_ (al_ hB11 (.cells #[.int .i64 1, .int .i64 2, .int .i64 3] 3)) (.cells #[.int .i64 2, .int .i64 1] 44)) (.cells #[.slice (some ⟨w11.heap.size + 1, 0, none⟩) 1 1] 27)
  have hs14 : (((w11.alloc (.cells #[.int .i64 1, .int .i64 2, .int .i64 3] 3)).alloc (.cells #[.int .i64 2, .int .i64 1] 44)).alloc (.cells #[.slice (some ⟨w11.heap.size + 1, 0, none⟩) 1 1] 27)).heap.size = w11.heap.size + 1 + 1 + 1 := by simp only [World.size_alloc]
  have HT := top_any [1, 2, 3] rise_123 (by simp) (.mk 4 0 ⟨none, 0, 0⟩ ⟨some ⟨b, 0, none⟩, 1, 1⟩ [leafN]) (((w11.alloc (.cells #[.int .i64 1, .int .i64 2, .int .i64 3] 3)).alloc (.cells #[.int .i64 2, .int .i64 1] 44)).alloc (.cells #[.slice (some ⟨w11.heap.size + 1, 0, none⟩) 1 1] 27)) (w11.heap.size + 1 + 1 + 1) _ 3 3 _ 1 1 [(⟨some ⟨w11.heap.size + 1, 0, none⟩, 1, 1⟩, [(2, 1)])] (ra.more (by omega)) (.mk [] (nil_k 3 _ _) ((hkk.many (k := 4) (n := 1) rfl (by omega)).more (by omega)) (by simp [maxLen]) (fun k hk => by rw [List.mem_singleton.1 hk]; exact leafN_reads _ _)) ⟨rc.many (k := 1) (n := 1) rfl (by omega), fun x hx => by rw [List.mem_singleton.1 hx]; exact (rb.many (k := 2) (n := 1) rfl (by omega)).more (by omega)⟩ (by simp [maxLen]) (by omega) (by simp [maxLen])
  rw [show evalL [1, 2, 3] (.mk 4 0 ⟨none, 0, 0⟩ ⟨some ⟨b, 0, none⟩, 1, 1⟩ [leafN]) (lfV [(⟨some ⟨w11.heap.size + 1, 0, none⟩, 1, 1⟩, [(2, 1)])]) = [1, 3] from fix_ev _] at HT
  clear ra rb rc hkk hk11 hk10
  go_wp2_with fail
  refine HT.mono ?_
  clear HT
  rintro e w15 ⟨v15, rfl, hown15, hb15⟩
  have hB15 := then_ hB14 hb15
  obtain ⟨A15, c15, rfl, hr15, _, _⟩ := ownsRow_slice hown15
  have r16 := blt w15 3 [.int .i64 1, .int .i64 3]
  have hB16 := al_ hB15 (.cells #[.int .i64 1, .int .i64 3] 3)
  have hr16 := hr15.alloc (Nat.le_refl _) (.cells #[.int .i64 1, .int .i64 3] 3)
  have HS := sameI_yes [1, 3] [1, 3] A15 _ 2 c15 2 2 (w15.alloc (.cells #[.int .i64 1, .int .i64 3] 3)) (hr16.more (by simp)) (r16.more (by simp)) (by omega) rfl
  clear hown15 hb15
  go_wp2_with fail
  refine HS.mono ?_
  clear HS
  rintro e w17 ⟨rfl, hb17⟩
  go_wp2
  go_ret
  exact ⟨rfl, then_ hB16 hb17⟩
end Go.Proofs.Ytgjdjggakkmbgaa
