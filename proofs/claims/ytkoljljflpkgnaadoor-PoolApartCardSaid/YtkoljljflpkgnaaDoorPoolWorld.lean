/- A world in which the pools' table lies. -/
import Derived.Test.YtkoljljflpkgnaaDoorPoolGo
namespace Go.Proofs.YtkoljljflpkgnaaDoor
open Go.RowKit

theorem laid_of {W : World} (h : laidMetH Tryd.prog Rows.poolLaysRow.laid W) : SizesAt W := sizesAt_of h
def cellsTo (cs : List Value) : Obj → Obj
  | .cells _ t frozen => .cells cs.toArray t frozen
  | o => o
noncomputable def laidBy (w : World) : World :=
  { w with heap := w.heap.modify 0 (cellsTo (ints .i64 [4, 16, 64, 256])) }
end Go.Proofs.YtkoljljflpkgnaaDoor
