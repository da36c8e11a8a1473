/-
  No cell of these rows narrows 'for every input' (looked for: loops, veiled, ifaces, maps, wideKeys, modest, calm, conditions, laid).
  DERIVED. THE GIVEN ROWS OF THIS SEAT. 5 by the template 'for every input the law returns true; each argument reads behind the call as it read before'; 0 by the template 'total and deterministic' (their statements: YthjcacnladpbdaaTotals.lean).
  GIVEN WITH THE SEED: the statements are not yours to turn. If you find one false, say at which input.
  Laid BY PROGRAM, IN A SANDBOX (cutbox-rows.mjs): the forced cells as the released guide's own fill.sh prints them over the translation 0716308a59c2fd11… (all of the seat's roots in one cut). By AI agents, Wed Nov 11 2026. No macro, syntax, notation, axiom, sorry.
-/
import Derived.Test.YthjcacnladpbdaaChecked
import GoSem.Claim
import GoSem.ClaimJoined
import GoSem.ClaimMapViews
import Derived.JoinedTies
import Derived.KernelRfl
namespace Go.Proofs.Ythjcacnladpbdaa
/- THE CELL 'sum', in the pinned program and in every row, IS THE sha256 OF THE DUMP (.gsa) THAT YthjcacnladpbdaaProg.lean LOADS. Nothing in Lean hashes anything: it is a label: what it is worth is what the hold of that sum in a sandbox is worth. -/
noncomputable def Try.pinned : Pinned := { name := "ythjcacnladpbdaa", sum := "0716308a59c2fd1199b779f35f79f908efb0b50e9ee456932876be10916ea2d9", checked := Try.checked }
namespace Rows
def none {H : Type} : Left H := { results := [], args := [] }

/-- 'ploverlaw13.BlockEncodes': WHATEVER THE INPUT: true; the input reads as it did. -/
def blockEncodesSpec : ChangeSpec := { name := "blockEncodes", fn := fun _ => fun
  | [d] => { results := [.lit (.bool true)], args := [d] }
  | _ => none }
def blockEncodesRow : OpenClaim := { program := "ythjcacnladpbdaa", sum := "0716308a59c2fd1199b779f35f79f908efb0b50e9ee456932876be10916ea2d9", func := "plover/ploverlaw13.BlockEncodes", spec := "blockEncodes", apart := false }
def BlockEncodesSaid : Prop := blockEncodesRow.holds Try.pinned (OpenSpec.ofChange blockEncodesSpec)

/-- ITS FALSE NEIGHBOUR: 'it returns false'. Refute it at one input. -/
def blockEncodesWrong : ChangeSpec := { name := "blockEncodes", fn := fun _ => fun
  | [d] => { results := [.lit (.bool false)], args := [d] }
  | _ => none }
def BlockEncodesWrongFalsely : Prop := blockEncodesRow.holds Try.pinned (OpenSpec.ofChange blockEncodesWrong)

/-- 'ploverlaw13.BlockSkips': WHATEVER THE INPUT: true; the input reads as it did. -/
def blockSkipsSpec : ChangeSpec := { name := "blockSkips", fn := fun _ => fun
  | [d1, d2] => { results := [.lit (.bool true)], args := [d1, d2] }
  | _ => none }
def blockSkipsRow : OpenClaim := { program := "ythjcacnladpbdaa", sum := "0716308a59c2fd1199b779f35f79f908efb0b50e9ee456932876be10916ea2d9", func := "plover/ploverlaw13.BlockSkips", spec := "blockSkips", apart := false }
def BlockSkipsSaid : Prop := blockSkipsRow.holds Try.pinned (OpenSpec.ofChange blockSkipsSpec)

/-- ITS FALSE NEIGHBOUR: 'it returns false'. Refute it at one input. -/
def blockSkipsWrong : ChangeSpec := { name := "blockSkips", fn := fun _ => fun
  | [d1, d2] => { results := [.lit (.bool false)], args := [d1, d2] }
  | _ => none }
def BlockSkipsWrongFalsely : Prop := blockSkipsRow.holds Try.pinned (OpenSpec.ofChange blockSkipsWrong)

/-- 'ploverlaw13.BlockGrows': WHATEVER THE INPUT: true; the input reads as it did. -/
def blockGrowsSpec : ChangeSpec := { name := "blockGrows", fn := fun _ => fun
  | [d] => { results := [.lit (.bool true)], args := [d] }
  | _ => none }
def blockGrowsRow : OpenClaim := { program := "ythjcacnladpbdaa", sum := "0716308a59c2fd1199b779f35f79f908efb0b50e9ee456932876be10916ea2d9", func := "plover/ploverlaw13.BlockGrows", spec := "blockGrows", apart := false }
def BlockGrowsSaid : Prop := blockGrowsRow.holds Try.pinned (OpenSpec.ofChange blockGrowsSpec)

/-- ITS FALSE NEIGHBOUR: 'it returns false'. Refute it at one input. -/
def blockGrowsWrong : ChangeSpec := { name := "blockGrows", fn := fun _ => fun
  | [d] => { results := [.lit (.bool false)], args := [d] }
  | _ => none }
def BlockGrowsWrongFalsely : Prop := blockGrowsRow.holds Try.pinned (OpenSpec.ofChange blockGrowsWrong)

/-- 'ploverlaw13.BlockDecodes': WHATEVER THE INPUT: true; the input reads as it did. -/
def blockDecodesSpec : ChangeSpec := { name := "blockDecodes", fn := fun _ => fun
  | [d] => { results := [.lit (.bool true)], args := [d] }
  | _ => none }
def blockDecodesRow : OpenClaim := { program := "ythjcacnladpbdaa", sum := "0716308a59c2fd1199b779f35f79f908efb0b50e9ee456932876be10916ea2d9", func := "plover/ploverlaw13.BlockDecodes", spec := "blockDecodes", apart := false }
def BlockDecodesSaid : Prop := blockDecodesRow.holds Try.pinned (OpenSpec.ofChange blockDecodesSpec)

/-- ITS FALSE NEIGHBOUR: 'it returns false'. Refute it at one input. -/
def blockDecodesWrong : ChangeSpec := { name := "blockDecodes", fn := fun _ => fun
  | [d] => { results := [.lit (.bool false)], args := [d] }
  | _ => none }
def BlockDecodesWrongFalsely : Prop := blockDecodesRow.holds Try.pinned (OpenSpec.ofChange blockDecodesWrong)

/-- 'ploverlaw13.BlockBack': WHATEVER THE INPUT: true; the input reads as it did. -/
def blockBackSpec : ChangeSpec := { name := "blockBack", fn := fun _ => fun
  | [d1, d2] => { results := [.lit (.bool true)], args := [d1, d2] }
  | _ => none }
def blockBackRow : OpenClaim := { program := "ythjcacnladpbdaa", sum := "0716308a59c2fd1199b779f35f79f908efb0b50e9ee456932876be10916ea2d9", func := "plover/ploverlaw13.BlockBack", spec := "blockBack", apart := false }
def BlockBackSaid : Prop := blockBackRow.holds Try.pinned (OpenSpec.ofChange blockBackSpec)

/-- ITS FALSE NEIGHBOUR: 'it returns false'. Refute it at one input. -/
def blockBackWrong : ChangeSpec := { name := "blockBack", fn := fun _ => fun
  | [d1, d2] => { results := [.lit (.bool false)], args := [d1, d2] }
  | _ => none }
def BlockBackWrongFalsely : Prop := blockBackRow.holds Try.pinned (OpenSpec.ofChange blockBackWrong)

/- THE SECOND FORM. 'bulk': how many values and letters a reading holds, each counted each time it is reached (what is shared counts as often as it is met; a slice's spare places count too). A statement '..UptoSaid' is the law's where the arguments, and the package variables that the reading takes, are together of bulk at most 1048576: NARROWER than '..Said'. Prove '..Said' where nothing that the law and all that it calls make is longer than what came in: it says more and counts as full. Else prove '..UptoSaid'. A law counts once. -/
mutual
def uptoBulk {H : Type} : DataW H → Nat
  | .lit (.string bytes) => bytes.length + 1
  | .lit _ => 1
  | .nil => 1
  | .ptr d => uptoBulk d + 1
  | .slice elems spare => uptoBulkAll elems + uptoBulkAll spare + 1
  | .agg parts => uptoBulkAll parts + 1
  | .iface _ d => uptoBulk d + 1
  | .map entries => uptoBulkEntries entries + 1
  | .held _ => 1
def uptoBulkAll {H : Type} : List (DataW H) → Nat
  | [] => 0
  | d :: r => uptoBulk d + uptoBulkAll r
def uptoBulkEntries {H : Type} : List (Lit × DataW H) → Nat
  | [] => 0
  | x :: r => uptoBulkEntry x + uptoBulkEntries r
def uptoBulkEntry {H : Type} : Lit × DataW H → Nat
  | (.string bytes, d) => bytes.length + uptoBulk d + 1
  | (_, d) => uptoBulk d + 1
 end
def uptoSmall : (H : Type) → List (DataW H) → Bool := fun _ ds => decide (uptoBulkAll ds ≤ 1048576)
def OpenSpec.upto (s : _root_.Go.ChangeSpec) : _root_.Go.OpenSpec := { _root_.Go.OpenSpec.ofChange s with cond := some uptoSmall }

/-- 'ploverlaw13.BlockEncodes', WHERE WHAT IT READS IS OF BULK AT MOST 1048576: true; the input reads as it did. -/
def blockEncodesUptoRow : OpenClaim := { program := "ythjcacnladpbdaa", sum := "0716308a59c2fd1199b779f35f79f908efb0b50e9ee456932876be10916ea2d9", func := "plover/ploverlaw13.BlockEncodes", spec := "blockEncodes", apart := false, narrowed := true }
def BlockEncodesUptoSaid : Prop := blockEncodesUptoRow.holds Try.pinned (OpenSpec.upto blockEncodesSpec)

/-- 'ploverlaw13.BlockSkips', WHERE WHAT IT READS IS OF BULK AT MOST 1048576: true; the input reads as it did. -/
def blockSkipsUptoRow : OpenClaim := { program := "ythjcacnladpbdaa", sum := "0716308a59c2fd1199b779f35f79f908efb0b50e9ee456932876be10916ea2d9", func := "plover/ploverlaw13.BlockSkips", spec := "blockSkips", apart := false, narrowed := true }
def BlockSkipsUptoSaid : Prop := blockSkipsUptoRow.holds Try.pinned (OpenSpec.upto blockSkipsSpec)

/-- 'ploverlaw13.BlockGrows', WHERE WHAT IT READS IS OF BULK AT MOST 1048576: true; the input reads as it did. -/
def blockGrowsUptoRow : OpenClaim := { program := "ythjcacnladpbdaa", sum := "0716308a59c2fd1199b779f35f79f908efb0b50e9ee456932876be10916ea2d9", func := "plover/ploverlaw13.BlockGrows", spec := "blockGrows", apart := false, narrowed := true }
def BlockGrowsUptoSaid : Prop := blockGrowsUptoRow.holds Try.pinned (OpenSpec.upto blockGrowsSpec)

/-- 'ploverlaw13.BlockDecodes', WHERE WHAT IT READS IS OF BULK AT MOST 1048576: true; the input reads as it did. -/
def blockDecodesUptoRow : OpenClaim := { program := "ythjcacnladpbdaa", sum := "0716308a59c2fd1199b779f35f79f908efb0b50e9ee456932876be10916ea2d9", func := "plover/ploverlaw13.BlockDecodes", spec := "blockDecodes", apart := false, narrowed := true }
def BlockDecodesUptoSaid : Prop := blockDecodesUptoRow.holds Try.pinned (OpenSpec.upto blockDecodesSpec)

/-- 'ploverlaw13.BlockBack', WHERE WHAT IT READS IS OF BULK AT MOST 1048576: true; the input reads as it did. -/
def blockBackUptoRow : OpenClaim := { program := "ythjcacnladpbdaa", sum := "0716308a59c2fd1199b779f35f79f908efb0b50e9ee456932876be10916ea2d9", func := "plover/ploverlaw13.BlockBack", spec := "blockBack", apart := false, narrowed := true }
def BlockBackUptoSaid : Prop := blockBackUptoRow.holds Try.pinned (OpenSpec.upto blockBackSpec)

end Rows
end Go.Proofs.Ythjcacnladpbdaa
