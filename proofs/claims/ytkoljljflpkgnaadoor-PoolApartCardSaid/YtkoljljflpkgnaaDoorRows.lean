/-
  NARROWER THAN 'FOR EVERY INPUT', by the rows' own cells (each row's printed sentence says how): PoolLays: laid · PoolApart: laid · PoolShifts: laid · PoolTakes: laid · PoolRoom: laid · PoolClass: laid.
  DERIVED. THE GIVEN ROWS OF THIS SEAT. 6 by the template 'for every input the law returns true; each argument reads behind the call as it read before'; 0 by the template 'total and deterministic' (their statements: YtkoljljflpkgnaaDoorTotals.lean).
  GIVEN WITH THE SEED: the statements are not yours to turn. If you find one false, say at which input.
  Laid BY PROGRAM, IN A SANDBOX (cutbox-rows.mjs): the forced cells as the released guide's own fill.sh prints them over the translation dcf072961521afa4… (all of the seat's roots in one cut). By AI agents, Wed Nov 11 2026. No macro, syntax, notation, axiom, sorry.
-/
import Derived.Test.YtkoljljflpkgnaaDoorChecked
import GoSem.Claim
import GoSem.ClaimJoined
import GoSem.ClaimMapViews
import Derived.JoinedTies
import Derived.KernelRfl
namespace Go.Proofs.YtkoljljflpkgnaaDoor
/- THE CELL 'sum', in the pinned program and in every row, IS THE sha256 OF THE DUMP (.gsa) THAT YtkoljljflpkgnaaDoorProg.lean LOADS. Nothing in Lean hashes anything: it is a label: what it is worth is what the hold of that sum in a sandbox is worth. -/
noncomputable def Tryd.pinned : Pinned := { name := "ytkoljljflpkgnaadoor", sum := "dcf072961521afa4689b6435d4331a3695a598054af5a65b34dd4659b6da02f5", checked := Tryd.checked }
namespace Rows
def none {H : Type} : Left H := { results := [], args := [] }

/- WHAT THE LISTED PACKAGE-LEVEL VARIABLES READ AS WHEN THE CALL BEGINS. Each datum BY PROGRAM (the guide's laid-datum.mjs) off the statement by which the dump's own 'gosem.cut.vars' lays the variable. In a bare row this is a premise. The card (YtkoljljflpkgnaaDoorCards.lean) ties it to the program's text. -/
def laid_plover_pool_sizes {H : Type} : DataW H := .agg [.lit (.int .i64 4), .lit (.int .i64 16), .lit (.int .i64 64), .lit (.int .i64 256)]

/-- 'ploverlaw02.PoolLays': WHATEVER THE INPUT: true; the input reads as it did. -/
def poolLaysSpec : ChangeSpec := { name := "poolLays", fn := fun _ => fun
  | [d] => { results := [.lit (.bool true)], args := [d] }
  | _ => none }
def poolLaysRow : OpenClaim := { program := "ytkoljljflpkgnaadoor", sum := "dcf072961521afa4689b6435d4331a3695a598054af5a65b34dd4659b6da02f5", func := "plover/ploverlaw02.PoolLays", spec := "poolLays", named := ["plover/pool.sizes"], apart := false, laid := [("plover/pool.sizes", laid_plover_pool_sizes)] }
def PoolLaysSaid : Prop := poolLaysRow.holds Tryd.pinned (OpenSpec.ofChange poolLaysSpec)

/-- ITS FALSE NEIGHBOUR: 'it returns false'. Refute it at one input. -/
def poolLaysWrong : ChangeSpec := { name := "poolLays", fn := fun _ => fun
  | [d] => { results := [.lit (.bool false)], args := [d] }
  | _ => none }
def PoolLaysWrongFalsely : Prop := poolLaysRow.holds Tryd.pinned (OpenSpec.ofChange poolLaysWrong)

/-- 'ploverlaw02.PoolApart': WHATEVER THE INPUT: true; the input reads as it did. -/
def poolApartSpec : ChangeSpec := { name := "poolApart", fn := fun _ => fun
  | [d1, d2] => { results := [.lit (.bool true)], args := [d1, d2] }
  | _ => none }
def poolApartRow : OpenClaim := { program := "ytkoljljflpkgnaadoor", sum := "dcf072961521afa4689b6435d4331a3695a598054af5a65b34dd4659b6da02f5", func := "plover/ploverlaw02.PoolApart", spec := "poolApart", named := ["plover/pool.sizes"], apart := false, laid := [("plover/pool.sizes", laid_plover_pool_sizes)] }
def PoolApartSaid : Prop := poolApartRow.holds Tryd.pinned (OpenSpec.ofChange poolApartSpec)

/-- ITS FALSE NEIGHBOUR: 'it returns false'. Refute it at one input. -/
def poolApartWrong : ChangeSpec := { name := "poolApart", fn := fun _ => fun
  | [d1, d2] => { results := [.lit (.bool false)], args := [d1, d2] }
  | _ => none }
def PoolApartWrongFalsely : Prop := poolApartRow.holds Tryd.pinned (OpenSpec.ofChange poolApartWrong)

/-- 'ploverlaw02.PoolShifts': WHATEVER THE INPUT: true; the input reads as it did. -/
def poolShiftsSpec : ChangeSpec := { name := "poolShifts", fn := fun _ => fun
  | [d1, d2] => { results := [.lit (.bool true)], args := [d1, d2] }
  | _ => none }
def poolShiftsRow : OpenClaim := { program := "ytkoljljflpkgnaadoor", sum := "dcf072961521afa4689b6435d4331a3695a598054af5a65b34dd4659b6da02f5", func := "plover/ploverlaw02.PoolShifts", spec := "poolShifts", named := ["plover/pool.sizes"], apart := false, laid := [("plover/pool.sizes", laid_plover_pool_sizes)] }
def PoolShiftsSaid : Prop := poolShiftsRow.holds Tryd.pinned (OpenSpec.ofChange poolShiftsSpec)

/-- ITS FALSE NEIGHBOUR: 'it returns false'. Refute it at one input. -/
def poolShiftsWrong : ChangeSpec := { name := "poolShifts", fn := fun _ => fun
  | [d1, d2] => { results := [.lit (.bool false)], args := [d1, d2] }
  | _ => none }
def PoolShiftsWrongFalsely : Prop := poolShiftsRow.holds Tryd.pinned (OpenSpec.ofChange poolShiftsWrong)

/-- 'ploverlaw02.PoolTakes': WHATEVER THE INPUT: true; the input reads as it did. -/
def poolTakesSpec : ChangeSpec := { name := "poolTakes", fn := fun _ => fun
  | [d1, d2, d3, d4, d5] => { results := [.lit (.bool true)], args := [d1, d2, d3, d4, d5] }
  | _ => none }
def poolTakesRow : OpenClaim := { program := "ytkoljljflpkgnaadoor", sum := "dcf072961521afa4689b6435d4331a3695a598054af5a65b34dd4659b6da02f5", func := "plover/ploverlaw02.PoolTakes", spec := "poolTakes", named := ["plover/pool.sizes"], apart := false, laid := [("plover/pool.sizes", laid_plover_pool_sizes)] }
def PoolTakesSaid : Prop := poolTakesRow.holds Tryd.pinned (OpenSpec.ofChange poolTakesSpec)

/-- ITS FALSE NEIGHBOUR: 'it returns false'. Refute it at one input. -/
def poolTakesWrong : ChangeSpec := { name := "poolTakes", fn := fun _ => fun
  | [d1, d2, d3, d4, d5] => { results := [.lit (.bool false)], args := [d1, d2, d3, d4, d5] }
  | _ => none }
def PoolTakesWrongFalsely : Prop := poolTakesRow.holds Tryd.pinned (OpenSpec.ofChange poolTakesWrong)

/-- 'ploverlaw02.PoolRoom': WHATEVER THE INPUT: true; the input reads as it did. -/
def poolRoomSpec : ChangeSpec := { name := "poolRoom", fn := fun _ => fun
  | [d1, d2] => { results := [.lit (.bool true)], args := [d1, d2] }
  | _ => none }
def poolRoomRow : OpenClaim := { program := "ytkoljljflpkgnaadoor", sum := "dcf072961521afa4689b6435d4331a3695a598054af5a65b34dd4659b6da02f5", func := "plover/ploverlaw02.PoolRoom", spec := "poolRoom", named := ["plover/pool.sizes"], apart := false, laid := [("plover/pool.sizes", laid_plover_pool_sizes)] }
def PoolRoomSaid : Prop := poolRoomRow.holds Tryd.pinned (OpenSpec.ofChange poolRoomSpec)

/-- ITS FALSE NEIGHBOUR: 'it returns false'. Refute it at one input. -/
def poolRoomWrong : ChangeSpec := { name := "poolRoom", fn := fun _ => fun
  | [d1, d2] => { results := [.lit (.bool false)], args := [d1, d2] }
  | _ => none }
def PoolRoomWrongFalsely : Prop := poolRoomRow.holds Tryd.pinned (OpenSpec.ofChange poolRoomWrong)

/-- 'ploverlaw02.PoolClass': WHATEVER THE INPUT: true; the input reads as it did. -/
def poolClassSpec : ChangeSpec := { name := "poolClass", fn := fun _ => fun
  | [d1, d2] => { results := [.lit (.bool true)], args := [d1, d2] }
  | _ => none }
def poolClassRow : OpenClaim := { program := "ytkoljljflpkgnaadoor", sum := "dcf072961521afa4689b6435d4331a3695a598054af5a65b34dd4659b6da02f5", func := "plover/ploverlaw02.PoolClass", spec := "poolClass", named := ["plover/pool.sizes"], apart := false, laid := [("plover/pool.sizes", laid_plover_pool_sizes)] }
def PoolClassSaid : Prop := poolClassRow.holds Tryd.pinned (OpenSpec.ofChange poolClassSpec)

/-- ITS FALSE NEIGHBOUR: 'it returns false'. Refute it at one input. -/
def poolClassWrong : ChangeSpec := { name := "poolClass", fn := fun _ => fun
  | [d1, d2] => { results := [.lit (.bool false)], args := [d1, d2] }
  | _ => none }
def PoolClassWrongFalsely : Prop := poolClassRow.holds Tryd.pinned (OpenSpec.ofChange poolClassWrong)

/- THE SECOND FORM. 'bulk': how many values and letters a reading holds, each counted each time it is reached (what is shared counts as often as it is met; a slice's spare places count too). A statement '..UptoSaid' is the law's where the arguments, and the package variables that the reading takes, are together of bulk at most 1048576: NARROWER than '..Said'. Prove '..Said' where nothing that the law and all that it calls make is longer than what came in: it says more and counts as full. Else prove '..UptoSaid'. A law counts once. -/
mutual
def uptoBulk {H : Type} : DataW H → Nat
  | .lit (.string bytes) => bytes.length + 1
  | .lit _ => 1
  | .nil => 1
  | .ptr d => uptoBulk d + 1
  | .slice elems spare => uptoBulkAll elems + uptoBulkAll spare + 1
  | .agg parts => uptoBulkAll parts + 1
  | .iface _ d => uptoBulk d + 1
  | .map entries => uptoBulkEntries entries + 1
  | .held _ => 1
def uptoBulkAll {H : Type} : List (DataW H) → Nat
  | [] => 0
  | d :: r => uptoBulk d + uptoBulkAll r
def uptoBulkEntries {H : Type} : List (Lit × DataW H) → Nat
  | [] => 0
  | x :: r => uptoBulkEntry x + uptoBulkEntries r
def uptoBulkEntry {H : Type} : Lit × DataW H → Nat
  | (.string bytes, d) => bytes.length + uptoBulk d + 1
  | (_, d) => uptoBulk d + 1
 end
def uptoSmall : (H : Type) → List (DataW H) → Bool := fun _ ds => decide (uptoBulkAll ds ≤ 1048576)
def OpenSpec.upto (s : _root_.Go.ChangeSpec) : _root_.Go.OpenSpec := { _root_.Go.OpenSpec.ofChange s with cond := some uptoSmall }

/-- 'ploverlaw02.PoolLays', WHERE WHAT IT READS IS OF BULK AT MOST 1048576: true; the input reads as it did. -/
def poolLaysUptoRow : OpenClaim := { program := "ytkoljljflpkgnaadoor", sum := "dcf072961521afa4689b6435d4331a3695a598054af5a65b34dd4659b6da02f5", func := "plover/ploverlaw02.PoolLays", spec := "poolLays", named := ["plover/pool.sizes"], apart := false, laid := [("plover/pool.sizes", laid_plover_pool_sizes)], narrowed := true }
def PoolLaysUptoSaid : Prop := poolLaysUptoRow.holds Tryd.pinned (OpenSpec.upto poolLaysSpec)

/-- 'ploverlaw02.PoolApart', WHERE WHAT IT READS IS OF BULK AT MOST 1048576: true; the input reads as it did. -/
def poolApartUptoRow : OpenClaim := { program := "ytkoljljflpkgnaadoor", sum := "dcf072961521afa4689b6435d4331a3695a598054af5a65b34dd4659b6da02f5", func := "plover/ploverlaw02.PoolApart", spec := "poolApart", named := ["plover/pool.sizes"], apart := false, laid := [("plover/pool.sizes", laid_plover_pool_sizes)], narrowed := true }
def PoolApartUptoSaid : Prop := poolApartUptoRow.holds Tryd.pinned (OpenSpec.upto poolApartSpec)

/-- 'ploverlaw02.PoolShifts', WHERE WHAT IT READS IS OF BULK AT MOST 1048576: true; the input reads as it did. -/
def poolShiftsUptoRow : OpenClaim := { program := "ytkoljljflpkgnaadoor", sum := "dcf072961521afa4689b6435d4331a3695a598054af5a65b34dd4659b6da02f5", func := "plover/ploverlaw02.PoolShifts", spec := "poolShifts", named := ["plover/pool.sizes"], apart := false, laid := [("plover/pool.sizes", laid_plover_pool_sizes)], narrowed := true }
def PoolShiftsUptoSaid : Prop := poolShiftsUptoRow.holds Tryd.pinned (OpenSpec.upto poolShiftsSpec)

/-- 'ploverlaw02.PoolTakes', WHERE WHAT IT READS IS OF BULK AT MOST 1048576: true; the input reads as it did. -/
def poolTakesUptoRow : OpenClaim := { program := "ytkoljljflpkgnaadoor", sum := "dcf072961521afa4689b6435d4331a3695a598054af5a65b34dd4659b6da02f5", func := "plover/ploverlaw02.PoolTakes", spec := "poolTakes", named := ["plover/pool.sizes"], apart := false, laid := [("plover/pool.sizes", laid_plover_pool_sizes)], narrowed := true }
def PoolTakesUptoSaid : Prop := poolTakesUptoRow.holds Tryd.pinned (OpenSpec.upto poolTakesSpec)

/-- 'ploverlaw02.PoolRoom', WHERE WHAT IT READS IS OF BULK AT MOST 1048576: true; the input reads as it did. -/
def poolRoomUptoRow : OpenClaim := { program := "ytkoljljflpkgnaadoor", sum := "dcf072961521afa4689b6435d4331a3695a598054af5a65b34dd4659b6da02f5", func := "plover/ploverlaw02.PoolRoom", spec := "poolRoom", named := ["plover/pool.sizes"], apart := false, laid := [("plover/pool.sizes", laid_plover_pool_sizes)], narrowed := true }
def PoolRoomUptoSaid : Prop := poolRoomUptoRow.holds Tryd.pinned (OpenSpec.upto poolRoomSpec)

/-- 'ploverlaw02.PoolClass', WHERE WHAT IT READS IS OF BULK AT MOST 1048576: true; the input reads as it did. -/
def poolClassUptoRow : OpenClaim := { program := "ytkoljljflpkgnaadoor", sum := "dcf072961521afa4689b6435d4331a3695a598054af5a65b34dd4659b6da02f5", func := "plover/ploverlaw02.PoolClass", spec := "poolClass", named := ["plover/pool.sizes"], apart := false, laid := [("plover/pool.sizes", laid_plover_pool_sizes)], narrowed := true }
def PoolClassUptoSaid : Prop := poolClassUptoRow.holds Tryd.pinned (OpenSpec.upto poolClassSpec)

end Rows
end Go.Proofs.YtkoljljflpkgnaaDoor
