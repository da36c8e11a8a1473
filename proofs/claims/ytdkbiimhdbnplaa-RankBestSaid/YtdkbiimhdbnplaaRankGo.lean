/- Rank's walks in the middle of a law. -/
import Derived.Test.YtdkbiimhdbnplaaRankOpen
import Derived.Test.YtdkbiimhdbnplaaRowOps
import Derived.Deep.RegionHeld3
namespace Go.Proofs.Ytdkbiimhdbnplaa
open Go.RowKit

theorem fixed_go {W w : World} (hb : Below W.heap.size W w) : Calls Try.prog 8 #[] w fun e w' => e = .returned (.bool true) ∧ Below W.heap.size W w' :=
  (fixed_any w).mono fun _ _ ⟨h1, h2⟩ => ⟨h1, hb.trans (h2.mono hb.size)⟩
theorem better_go {W w : World} (o : Int) (a b : Sc) (ha : ScOk a) (hb : ScOk b) (h : Below W.heap.size W w) : Calls Try.prog 10 #[scV a, scV b, .int .i64 o] w fun e w' => e = .returned (.bool (betB o a b)) ∧ Below W.heap.size W w' :=
  (better_any o a b ha hb w).mono fun _ _ ⟨h1, h2⟩ => ⟨h1, h.trans (h2.mono h.size)⟩
theorem refBetter_go {W w : World} (o : Int) (a b : Sc) (ha : ScOk a) (hb : ScOk b) (h : Below W.heap.size W w) : Calls Try.prog 11 #[scV a, scV b, .int .i64 o] w fun e w' => e = .returned (.bool (betB o a b)) ∧ Below W.heap.size W w' :=
  (refBetter_any o a b ha hb w).mono fun _ _ ⟨h1, h2⟩ => ⟨h1, h.trans (h2.mono h.size)⟩

end Go.Proofs.Ytdkbiimhdbnplaa
