/- A world in which fold's tables lie. -/
import Derived.Test.YtmofhpebcbpccaaDoorTokLaid
namespace Go.Proofs.YtmofhpebcbpccaaDoor
open Go.RowKit

theorem laid_of {W : World} (h : laidMetH Tryd.prog Rows.tokenWordsRow.laid W) : LaidF W := laidF_of h
def highC : List Value := ints .i32 [19968, 40959, 44032, 55203]
def cellsTo (cs : List Value) : Obj → Obj
  | .cells _ t frozen => .cells cs.toArray t frozen
  | o => o
noncomputable def laidBy (w : World) : World :=
  { w with heap := ((w.heap.modify 0 (cellsTo highC)).modify 1 (cellsTo (ints .i32 letL))).modify 2 (cellsTo movC) }
end Go.Proofs.YtmofhpebcbpccaaDoor
