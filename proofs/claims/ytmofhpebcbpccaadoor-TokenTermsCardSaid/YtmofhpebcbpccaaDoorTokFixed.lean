/- The walk of the examples. -/
import Derived.Test.YtmofhpebcbpccaaDoorTokRefDocs
import Derived.Test.YtmofhpebcbpccaaDoorTokPlain
import Derived.Laws.OwnMore
namespace Go.Proofs.YtmofhpebcbpccaaDoor
open Go.RowKit

def fiveL : List ByteArray := [⟨#[]⟩, ⟨#[]⟩, ⟨#[]⟩, ⟨#[]⟩, ⟨#[]⟩]
def quickL : List Tok := [(0, ⟨#[113, 117, 105, 99, 107]⟩, 1), (0, ⟨#[113, 117, 105, 99, 107]⟩, 2), (0, ⟨#[102, 111, 120]⟩, 3)]
def a1bL : List Tok := [(0, ⟨#[97, 49, 98]⟩, 0), (0, ⟨#[50]⟩, 1)]
theorem lit_reads (w : World) (l : List Tok) (n : Nat) (hl : l.length = n) (hn : n ≤ 1000) : ReadsK 3 (w.alloc (.cells (l.flatMap tokC).toArray 40)) (w.alloc (.cells (l.flatMap tokC).toArray 40)).heap.size (some ⟨w.heap.size, 0, none⟩) n n (l.flatMap tokC) := by
  have h := World.ownsRow_lit (base := w.heap.size) (e := 40) (size := 3) w (l.flatMap tokC).toArray n (Nat.le_refl _) (by simp only [maxLen]; omega) (by rw [List.size_toArray, rec_len tokC_len, hl])
  exact own_reads h
set_option maxRecDepth 100000 in
set_option maxHeartbeats 2000000 in
theorem fixed_any {w : World} (hL : LaidF w) : Calls Tryd.prog 9 #[] w fun e w' => e = .returned (.bool true) ∧ Below w.heap.size w w' := by
  have hb1 : Below w.heap.size w (w.alloc (.cells (strs fiveL).toArray 9)) := (Below.refl _ _).alloc (Nat.le_refl _) _
  have HT := tokens_any fiveL _ 5 5 (hL.below hb1) (built_reads w 9 (strs fiveL)) (by omega)
  rw [show docOf fiveL = ([], 4) from fix_five] at HT
  go_enter Tryd.func9, Tryd.ntmps9
  go_wp2_with fail
  refine HT.mono ?_
  clear HT
  rintro e w2 ⟨v2, rfl, _, hb2⟩
  have hB2 := then_ hb1 hb2
  clear hb1 hb2
  have HQ := words_any ⟨#[84, 104, 101, 32, 113, 117, 105, 99, 107, 44, 32, 81, 85, 73, 67, 75, 32, 102, 111, 120]⟩ (by decide) (hL.below hB2)
  rw [show wordsOf ⟨#[84, 104, 101, 32, 113, 117, 105, 99, 107, 44, 32, 81, 85, 73, 67, 75, 32, 102, 111, 120]⟩ = quickL from fix_quick] at HQ
  go_wp2_with fail
  refine HQ.mono ?_
  clear HQ
  rintro e w3 ⟨v3, rfl, hown3, hb3⟩
  obtain ⟨A3, c3, rfl, hr3, _, _⟩ := ReadsK.of_own hown3
  have hB3 := then_ hB2 hb3
  clear hb3 hown3
  have hr4 := hr3.alloc (Nat.le_refl _) (.cells (quickL.flatMap tokC).toArray 40)
  have hb4 : Below w.heap.size w (w3.alloc (.cells (quickL.flatMap tokC).toArray 40)) := hB3.alloc hB3.size _
  have hs4 : w3.heap.size ≤ (w3.alloc (.cells (quickL.flatMap tokC).toArray 40)).heap.size := by simp
  have HS := same_any quickL quickL _ _ _ _ _ _ _ (hr4.more hs4) (lit_reads w3 quickL 3 rfl (by omega)) (by decide) (by omega)
  rw [decide_eq_true rfl] at HS
  clear hr3 hr4
  go_wp2_with fail
  refine HS.mono ?_
  clear HS
  rintro e w5 ⟨rfl, hb5⟩
  have hB5 := then_ hb4 hb5
  clear hb5 hb4
  have HQ := words_any ⟨#[97, 49, 98, 32, 50]⟩ (by decide) (hL.below hB5)
  rw [show wordsOf ⟨#[97, 49, 98, 32, 50]⟩ = a1bL from fix_a1b] at HQ
  go_wp2_with fail
  refine HQ.mono ?_
  clear HQ
  rintro e w6 ⟨v6, rfl, hown6, hb6⟩
  obtain ⟨A6, c6, rfl, hr6, _, _⟩ := ReadsK.of_own hown6
  have hB6 := then_ hB5 hb6
  clear hb6 hown6
  have hr7 := hr6.alloc (Nat.le_refl _) (.cells (a1bL.flatMap tokC).toArray 40)
  have hb7 : Below w.heap.size w (w6.alloc (.cells (a1bL.flatMap tokC).toArray 40)) := hB6.alloc hB6.size _
  have hs7 : w6.heap.size ≤ (w6.alloc (.cells (a1bL.flatMap tokC).toArray 40)).heap.size := by simp
  have HS := same_any a1bL a1bL _ _ _ _ _ _ _ (hr7.more hs7) (lit_reads w6 a1bL 2 rfl (by omega)) (by decide) (by omega)
  rw [decide_eq_true rfl] at HS
  clear hr6 hr7
  go_wp2_with fail
  refine HS.mono ?_
  clear HS
  rintro e w8 ⟨rfl, hb8⟩
  have hB8 := then_ hb7 hb8
  clear hb7 hb8
  go_wp2
  go_ret
  exact ⟨rfl, hB8⟩
end Go.Proofs.YtmofhpebcbpccaaDoor
