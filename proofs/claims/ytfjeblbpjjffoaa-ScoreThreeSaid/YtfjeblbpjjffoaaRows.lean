/-
  No cell of these rows narrows 'for every input' (looked for: loops, veiled, ifaces, maps, wideKeys, modest, calm, conditions, laid).
  DERIVED. THE GIVEN ROWS OF THIS SEAT. 5 by the template 'for every input the law returns true; each argument reads behind the call as it read before'; 0 by the template 'total and deterministic' (their statements: YtfjeblbpjjffoaaTotals.lean).
  GIVEN WITH THE SEED: the statements are not yours to turn. If you find one false, say at which input.
  Laid BY PROGRAM, IN A SANDBOX (cutbox-rows.mjs): the forced cells as the released guide's own fill.sh prints them over the translation 10460eadb7e2031a… (all of the seat's roots in one cut). By AI agents, Wed Nov 11 2026. No macro, syntax, notation, axiom, sorry.
-/
import Derived.Test.YtfjeblbpjjffoaaChecked
import GoSem.Claim
import GoSem.ClaimJoined
import GoSem.ClaimMapViews
import Derived.JoinedTies
import Derived.KernelRfl
namespace Go.Proofs.Ytfjeblbpjjffoaa
/- THE CELL 'sum', in the pinned program and in every row, IS THE sha256 OF THE DUMP (.gsa) THAT YtfjeblbpjjffoaaProg.lean LOADS. Nothing in Lean hashes anything: it is a label: what it is worth is what the hold of that sum in a sandbox is worth. -/
noncomputable def Try.pinned : Pinned := { name := "ytfjeblbpjjffoaa", sum := "10460eadb7e2031a00405a60501ba9994f0b14e1010c17a366c1d1dc924cdea1", checked := Try.checked }
namespace Rows
def none {H : Type} : Left H := { results := [], args := [] }

/-- 'ploverlaw19.ScoreRare': WHATEVER THE INPUT: true; the input reads as it did. -/
def scoreRareSpec : ChangeSpec := { name := "scoreRare", fn := fun _ => fun
  | [d1, d2] => { results := [.lit (.bool true)], args := [d1, d2] }
  | _ => none }
def scoreRareRow : OpenClaim := { program := "ytfjeblbpjjffoaa", sum := "10460eadb7e2031a00405a60501ba9994f0b14e1010c17a366c1d1dc924cdea1", func := "plover/ploverlaw19.ScoreRare", spec := "scoreRare", inPlace := ["math.Float64frombits", "math.Float64bits"], apart := false }
def ScoreRareSaid : Prop := scoreRareRow.holds Try.pinned (OpenSpec.ofChange scoreRareSpec)

/-- ITS FALSE NEIGHBOUR: 'it returns false'. Refute it at one input. -/
def scoreRareWrong : ChangeSpec := { name := "scoreRare", fn := fun _ => fun
  | [d1, d2] => { results := [.lit (.bool false)], args := [d1, d2] }
  | _ => none }
def ScoreRareWrongFalsely : Prop := scoreRareRow.holds Try.pinned (OpenSpec.ofChange scoreRareWrong)

/-- 'ploverlaw19.ScoreWorth': WHATEVER THE INPUT: true; the input reads as it did. -/
def scoreWorthSpec : ChangeSpec := { name := "scoreWorth", fn := fun _ => fun
  | [d1, d2, d3, d4, d5] => { results := [.lit (.bool true)], args := [d1, d2, d3, d4, d5] }
  | _ => none }
def scoreWorthRow : OpenClaim := { program := "ytfjeblbpjjffoaa", sum := "10460eadb7e2031a00405a60501ba9994f0b14e1010c17a366c1d1dc924cdea1", func := "plover/ploverlaw19.ScoreWorth", spec := "scoreWorth", inPlace := ["math.Float64frombits", "math.Float64bits"], apart := false }
def ScoreWorthSaid : Prop := scoreWorthRow.holds Try.pinned (OpenSpec.ofChange scoreWorthSpec)

/-- ITS FALSE NEIGHBOUR: 'it returns false'. Refute it at one input. -/
def scoreWorthWrong : ChangeSpec := { name := "scoreWorth", fn := fun _ => fun
  | [d1, d2, d3, d4, d5] => { results := [.lit (.bool false)], args := [d1, d2, d3, d4, d5] }
  | _ => none }
def ScoreWorthWrongFalsely : Prop := scoreWorthRow.holds Try.pinned (OpenSpec.ofChange scoreWorthWrong)

/-- 'ploverlaw19.ScoreOrders': WHATEVER THE INPUT: true; the input reads as it did. -/
def scoreOrdersSpec : ChangeSpec := { name := "scoreOrders", fn := fun _ => fun
  | [d1, d2] => { results := [.lit (.bool true)], args := [d1, d2] }
  | _ => none }
def scoreOrdersRow : OpenClaim := { program := "ytfjeblbpjjffoaa", sum := "10460eadb7e2031a00405a60501ba9994f0b14e1010c17a366c1d1dc924cdea1", func := "plover/ploverlaw19.ScoreOrders", spec := "scoreOrders", inPlace := ["math.Float64frombits", "math.Float64bits"], apart := false }
def ScoreOrdersSaid : Prop := scoreOrdersRow.holds Try.pinned (OpenSpec.ofChange scoreOrdersSpec)

/-- ITS FALSE NEIGHBOUR: 'it returns false'. Refute it at one input. -/
def scoreOrdersWrong : ChangeSpec := { name := "scoreOrders", fn := fun _ => fun
  | [d1, d2] => { results := [.lit (.bool false)], args := [d1, d2] }
  | _ => none }
def ScoreOrdersWrongFalsely : Prop := scoreOrdersRow.holds Try.pinned (OpenSpec.ofChange scoreOrdersWrong)

/-- 'ploverlaw19.ScoreTurned': WHATEVER THE INPUT: true; the input reads as it did. -/
def scoreTurnedSpec : ChangeSpec := { name := "scoreTurned", fn := fun _ => fun
  | [d1, d2] => { results := [.lit (.bool true)], args := [d1, d2] }
  | _ => none }
def scoreTurnedRow : OpenClaim := { program := "ytfjeblbpjjffoaa", sum := "10460eadb7e2031a00405a60501ba9994f0b14e1010c17a366c1d1dc924cdea1", func := "plover/ploverlaw19.ScoreTurned", spec := "scoreTurned", inPlace := ["math.Float64frombits", "math.Float64bits"], apart := false }
def ScoreTurnedSaid : Prop := scoreTurnedRow.holds Try.pinned (OpenSpec.ofChange scoreTurnedSpec)

/-- ITS FALSE NEIGHBOUR: 'it returns false'. Refute it at one input. -/
def scoreTurnedWrong : ChangeSpec := { name := "scoreTurned", fn := fun _ => fun
  | [d1, d2] => { results := [.lit (.bool false)], args := [d1, d2] }
  | _ => none }
def ScoreTurnedWrongFalsely : Prop := scoreTurnedRow.holds Try.pinned (OpenSpec.ofChange scoreTurnedWrong)

/-- 'ploverlaw19.ScoreThree': WHATEVER THE INPUT: true; the input reads as it did. -/
def scoreThreeSpec : ChangeSpec := { name := "scoreThree", fn := fun _ => fun
  | [d1, d2, d3] => { results := [.lit (.bool true)], args := [d1, d2, d3] }
  | _ => none }
def scoreThreeRow : OpenClaim := { program := "ytfjeblbpjjffoaa", sum := "10460eadb7e2031a00405a60501ba9994f0b14e1010c17a366c1d1dc924cdea1", func := "plover/ploverlaw19.ScoreThree", spec := "scoreThree", inPlace := ["math.Float64frombits", "math.Float64bits"], apart := false }
def ScoreThreeSaid : Prop := scoreThreeRow.holds Try.pinned (OpenSpec.ofChange scoreThreeSpec)

/-- ITS FALSE NEIGHBOUR: 'it returns false'. Refute it at one input. -/
def scoreThreeWrong : ChangeSpec := { name := "scoreThree", fn := fun _ => fun
  | [d1, d2, d3] => { results := [.lit (.bool false)], args := [d1, d2, d3] }
  | _ => none }
def ScoreThreeWrongFalsely : Prop := scoreThreeRow.holds Try.pinned (OpenSpec.ofChange scoreThreeWrong)

/- THE SECOND FORM. 'bulk': how many values and letters a reading holds, each counted each time it is reached (what is shared counts as often as it is met; a slice's spare places count too). A statement '..UptoSaid' is the law's where the arguments, and the package variables that the reading takes, are together of bulk at most 1048576: NARROWER than '..Said'. Prove '..Said' where nothing that the law and all that it calls make is longer than what came in: it says more and counts as full. Else prove '..UptoSaid'. A law counts once. -/
mutual
def uptoBulk {H : Type} : DataW H → Nat
  | .lit (.string bytes) => bytes.length + 1
  | .lit _ => 1
  | .nil => 1
  | .ptr d => uptoBulk d + 1
  | .slice elems spare => uptoBulkAll elems + uptoBulkAll spare + 1
  | .agg parts => uptoBulkAll parts + 1
  | .iface _ d => uptoBulk d + 1
  | .map entries => uptoBulkEntries entries + 1
  | .held _ => 1
def uptoBulkAll {H : Type} : List (DataW H) → Nat
  | [] => 0
  | d :: r => uptoBulk d + uptoBulkAll r
def uptoBulkEntries {H : Type} : List (Lit × DataW H) → Nat
  | [] => 0
  | x :: r => uptoBulkEntry x + uptoBulkEntries r
def uptoBulkEntry {H : Type} : Lit × DataW H → Nat
  | (.string bytes, d) => bytes.length + uptoBulk d + 1
  | (_, d) => uptoBulk d + 1
 end
def uptoSmall : (H : Type) → List (DataW H) → Bool := fun _ ds => decide (uptoBulkAll ds ≤ 1048576)
def OpenSpec.upto (s : _root_.Go.ChangeSpec) : _root_.Go.OpenSpec := { _root_.Go.OpenSpec.ofChange s with cond := some uptoSmall }

/-- 'ploverlaw19.ScoreRare', WHERE WHAT IT READS IS OF BULK AT MOST 1048576: true; the input reads as it did. -/
def scoreRareUptoRow : OpenClaim := { program := "ytfjeblbpjjffoaa", sum := "10460eadb7e2031a00405a60501ba9994f0b14e1010c17a366c1d1dc924cdea1", func := "plover/ploverlaw19.ScoreRare", spec := "scoreRare", inPlace := ["math.Float64frombits", "math.Float64bits"], apart := false, narrowed := true }
def ScoreRareUptoSaid : Prop := scoreRareUptoRow.holds Try.pinned (OpenSpec.upto scoreRareSpec)

/-- 'ploverlaw19.ScoreWorth', WHERE WHAT IT READS IS OF BULK AT MOST 1048576: true; the input reads as it did. -/
def scoreWorthUptoRow : OpenClaim := { program := "ytfjeblbpjjffoaa", sum := "10460eadb7e2031a00405a60501ba9994f0b14e1010c17a366c1d1dc924cdea1", func := "plover/ploverlaw19.ScoreWorth", spec := "scoreWorth", inPlace := ["math.Float64frombits", "math.Float64bits"], apart := false, narrowed := true }
def ScoreWorthUptoSaid : Prop := scoreWorthUptoRow.holds Try.pinned (OpenSpec.upto scoreWorthSpec)

/-- 'ploverlaw19.ScoreOrders', WHERE WHAT IT READS IS OF BULK AT MOST 1048576: true; the input reads as it did. -/
def scoreOrdersUptoRow : OpenClaim := { program := "ytfjeblbpjjffoaa", sum := "10460eadb7e2031a00405a60501ba9994f0b14e1010c17a366c1d1dc924cdea1", func := "plover/ploverlaw19.ScoreOrders", spec := "scoreOrders", inPlace := ["math.Float64frombits", "math.Float64bits"], apart := false, narrowed := true }
def ScoreOrdersUptoSaid : Prop := scoreOrdersUptoRow.holds Try.pinned (OpenSpec.upto scoreOrdersSpec)

/-- 'ploverlaw19.ScoreTurned', WHERE WHAT IT READS IS OF BULK AT MOST 1048576: true; the input reads as it did. -/
def scoreTurnedUptoRow : OpenClaim := { program := "ytfjeblbpjjffoaa", sum := "10460eadb7e2031a00405a60501ba9994f0b14e1010c17a366c1d1dc924cdea1", func := "plover/ploverlaw19.ScoreTurned", spec := "scoreTurned", inPlace := ["math.Float64frombits", "math.Float64bits"], apart := false, narrowed := true }
def ScoreTurnedUptoSaid : Prop := scoreTurnedUptoRow.holds Try.pinned (OpenSpec.upto scoreTurnedSpec)

/-- 'ploverlaw19.ScoreThree', WHERE WHAT IT READS IS OF BULK AT MOST 1048576: true; the input reads as it did. -/
def scoreThreeUptoRow : OpenClaim := { program := "ytfjeblbpjjffoaa", sum := "10460eadb7e2031a00405a60501ba9994f0b14e1010c17a366c1d1dc924cdea1", func := "plover/ploverlaw19.ScoreThree", spec := "scoreThree", inPlace := ["math.Float64frombits", "math.Float64bits"], apart := false, narrowed := true }
def ScoreThreeUptoSaid : Prop := scoreThreeUptoRow.holds Try.pinned (OpenSpec.upto scoreThreeSpec)

end Rows
end Go.Proofs.Ytfjeblbpjjffoaa
