/-
  No cell of these rows narrows 'for every input' (looked for: loops, veiled, ifaces, maps, wideKeys, modest, calm, conditions, laid).
  DERIVED. THE GIVEN ROWS OF THIS SEAT. 5 by the template 'for every input the law returns true; each argument reads behind the call as it read before'; 0 by the template 'total and deterministic' (their statements: YtpadhnfclijnkaaTotals.lean).
  GIVEN WITH THE SEED: the statements are not yours to turn. If you find one false, say at which input.
  Laid BY PROGRAM, IN A SANDBOX (cutbox-rows.mjs): the forced cells as the released guide's own fill.sh prints them over the translation 7f3fbb986bc8405a… (all of the seat's roots in one cut). By AI agents, Wed Nov 11 2026. No macro, syntax, notation, axiom, sorry.
-/
import Derived.Test.YtpadhnfclijnkaaChecked
import GoSem.Claim
import GoSem.ClaimJoined
import GoSem.ClaimMapViews
import Derived.JoinedTies
import Derived.KernelRfl
namespace Go.Proofs.Ytpadhnfclijnkaa
/- THE CELL 'sum', in the pinned program and in every row, IS THE sha256 OF THE DUMP (.gsa) THAT YtpadhnfclijnkaaProg.lean LOADS. Nothing in Lean hashes anything: it is a label: what it is worth is what the hold of that sum in a sandbox is worth. -/
noncomputable def Try.pinned : Pinned := { name := "ytpadhnfclijnkaa", sum := "7f3fbb986bc8405ad77842ef9543b49b72fcc1f7117d71dbc5e9e8d8702157ea", checked := Try.checked }
namespace Rows
def none {H : Type} : Left H := { results := [], args := [] }

/-- 'ploverlaw08.VlqPuts': WHATEVER THE INPUT: true; the input reads as it did. -/
def vlqPutsSpec : ChangeSpec := { name := "vlqPuts", fn := fun _ => fun
  | [d1, d2, d3] => { results := [.lit (.bool true)], args := [d1, d2, d3] }
  | _ => none }
def vlqPutsRow : OpenClaim := { program := "ytpadhnfclijnkaa", sum := "7f3fbb986bc8405ad77842ef9543b49b72fcc1f7117d71dbc5e9e8d8702157ea", func := "plover/ploverlaw08.VlqPuts", spec := "vlqPuts", apart := false }
def VlqPutsSaid : Prop := vlqPutsRow.holds Try.pinned (OpenSpec.ofChange vlqPutsSpec)

/-- ITS FALSE NEIGHBOUR: 'it returns false'. Refute it at one input. -/
def vlqPutsWrong : ChangeSpec := { name := "vlqPuts", fn := fun _ => fun
  | [d1, d2, d3] => { results := [.lit (.bool false)], args := [d1, d2, d3] }
  | _ => none }
def VlqPutsWrongFalsely : Prop := vlqPutsRow.holds Try.pinned (OpenSpec.ofChange vlqPutsWrong)

/-- 'ploverlaw08.VlqGets': WHATEVER THE INPUT: true; the input reads as it did. -/
def vlqGetsSpec : ChangeSpec := { name := "vlqGets", fn := fun _ => fun
  | [d1, d2] => { results := [.lit (.bool true)], args := [d1, d2] }
  | _ => none }
def vlqGetsRow : OpenClaim := { program := "ytpadhnfclijnkaa", sum := "7f3fbb986bc8405ad77842ef9543b49b72fcc1f7117d71dbc5e9e8d8702157ea", func := "plover/ploverlaw08.VlqGets", spec := "vlqGets", apart := false }
def VlqGetsSaid : Prop := vlqGetsRow.holds Try.pinned (OpenSpec.ofChange vlqGetsSpec)

/-- ITS FALSE NEIGHBOUR: 'it returns false'. Refute it at one input. -/
def vlqGetsWrong : ChangeSpec := { name := "vlqGets", fn := fun _ => fun
  | [d1, d2] => { results := [.lit (.bool false)], args := [d1, d2] }
  | _ => none }
def VlqGetsWrongFalsely : Prop := vlqGetsRow.holds Try.pinned (OpenSpec.ofChange vlqGetsWrong)

/-- 'ploverlaw08.VlqOnly': WHATEVER THE INPUT: true; the input reads as it did. -/
def vlqOnlySpec : ChangeSpec := { name := "vlqOnly", fn := fun _ => fun
  | [d1, d2] => { results := [.lit (.bool true)], args := [d1, d2] }
  | _ => none }
def vlqOnlyRow : OpenClaim := { program := "ytpadhnfclijnkaa", sum := "7f3fbb986bc8405ad77842ef9543b49b72fcc1f7117d71dbc5e9e8d8702157ea", func := "plover/ploverlaw08.VlqOnly", spec := "vlqOnly", apart := false }
def VlqOnlySaid : Prop := vlqOnlyRow.holds Try.pinned (OpenSpec.ofChange vlqOnlySpec)

/-- ITS FALSE NEIGHBOUR: 'it returns false'. Refute it at one input. -/
def vlqOnlyWrong : ChangeSpec := { name := "vlqOnly", fn := fun _ => fun
  | [d1, d2] => { results := [.lit (.bool false)], args := [d1, d2] }
  | _ => none }
def VlqOnlyWrongFalsely : Prop := vlqOnlyRow.holds Try.pinned (OpenSpec.ofChange vlqOnlyWrong)

/-- 'ploverlaw08.VlqLengths': WHATEVER THE INPUT: true; the input reads as it did. -/
def vlqLengthsSpec : ChangeSpec := { name := "vlqLengths", fn := fun _ => fun
  | [d1, d2] => { results := [.lit (.bool true)], args := [d1, d2] }
  | _ => none }
def vlqLengthsRow : OpenClaim := { program := "ytpadhnfclijnkaa", sum := "7f3fbb986bc8405ad77842ef9543b49b72fcc1f7117d71dbc5e9e8d8702157ea", func := "plover/ploverlaw08.VlqLengths", spec := "vlqLengths", apart := false }
def VlqLengthsSaid : Prop := vlqLengthsRow.holds Try.pinned (OpenSpec.ofChange vlqLengthsSpec)

/-- ITS FALSE NEIGHBOUR: 'it returns false'. Refute it at one input. -/
def vlqLengthsWrong : ChangeSpec := { name := "vlqLengths", fn := fun _ => fun
  | [d1, d2] => { results := [.lit (.bool false)], args := [d1, d2] }
  | _ => none }
def VlqLengthsWrongFalsely : Prop := vlqLengthsRow.holds Try.pinned (OpenSpec.ofChange vlqLengthsWrong)

/-- 'ploverlaw08.VlqAll': WHATEVER THE INPUT: true; the input reads as it did. -/
def vlqAllSpec : ChangeSpec := { name := "vlqAll", fn := fun _ => fun
  | [d1, d2] => { results := [.lit (.bool true)], args := [d1, d2] }
  | _ => none }
def vlqAllRow : OpenClaim := { program := "ytpadhnfclijnkaa", sum := "7f3fbb986bc8405ad77842ef9543b49b72fcc1f7117d71dbc5e9e8d8702157ea", func := "plover/ploverlaw08.VlqAll", spec := "vlqAll", apart := false }
def VlqAllSaid : Prop := vlqAllRow.holds Try.pinned (OpenSpec.ofChange vlqAllSpec)

/-- ITS FALSE NEIGHBOUR: 'it returns false'. Refute it at one input. -/
def vlqAllWrong : ChangeSpec := { name := "vlqAll", fn := fun _ => fun
  | [d1, d2] => { results := [.lit (.bool false)], args := [d1, d2] }
  | _ => none }
def VlqAllWrongFalsely : Prop := vlqAllRow.holds Try.pinned (OpenSpec.ofChange vlqAllWrong)

/- THE SECOND FORM. 'bulk': how many values and letters a reading holds, each counted each time it is reached (what is shared counts as often as it is met; a slice's spare places count too). A statement '..UptoSaid' is the law's where the arguments, and the package variables that the reading takes, are together of bulk at most 1048576: NARROWER than '..Said'. Prove '..Said' where nothing that the law and all that it calls make is longer than what came in: it says more and counts as full. Else prove '..UptoSaid'. A law counts once. -/
mutual
def uptoBulk {H : Type} : DataW H → Nat
  | .lit (.string bytes) => bytes.length + 1
  | .lit _ => 1
  | .nil => 1
  | .ptr d => uptoBulk d + 1
  | .slice elems spare => uptoBulkAll elems + uptoBulkAll spare + 1
  | .agg parts => uptoBulkAll parts + 1
  | .iface _ d => uptoBulk d + 1
  | .map entries => uptoBulkEntries entries + 1
  | .held _ => 1
def uptoBulkAll {H : Type} : List (DataW H) → Nat
  | [] => 0
  | d :: r => uptoBulk d + uptoBulkAll r
def uptoBulkEntries {H : Type} : List (Lit × DataW H) → Nat
  | [] => 0
  | x :: r => uptoBulkEntry x + uptoBulkEntries r
def uptoBulkEntry {H : Type} : Lit × DataW H → Nat
  | (.string bytes, d) => bytes.length + uptoBulk d + 1
  | (_, d) => uptoBulk d + 1
 end
def uptoSmall : (H : Type) → List (DataW H) → Bool := fun _ ds => decide (uptoBulkAll ds ≤ 1048576)
def OpenSpec.upto (s : _root_.Go.ChangeSpec) : _root_.Go.OpenSpec := { _root_.Go.OpenSpec.ofChange s with cond := some uptoSmall }

/-- 'ploverlaw08.VlqPuts', WHERE WHAT IT READS IS OF BULK AT MOST 1048576: true; the input reads as it did. -/
def vlqPutsUptoRow : OpenClaim := { program := "ytpadhnfclijnkaa", sum := "7f3fbb986bc8405ad77842ef9543b49b72fcc1f7117d71dbc5e9e8d8702157ea", func := "plover/ploverlaw08.VlqPuts", spec := "vlqPuts", apart := false, narrowed := true }
def VlqPutsUptoSaid : Prop := vlqPutsUptoRow.holds Try.pinned (OpenSpec.upto vlqPutsSpec)

/-- 'ploverlaw08.VlqGets', WHERE WHAT IT READS IS OF BULK AT MOST 1048576: true; the input reads as it did. -/
def vlqGetsUptoRow : OpenClaim := { program := "ytpadhnfclijnkaa", sum := "7f3fbb986bc8405ad77842ef9543b49b72fcc1f7117d71dbc5e9e8d8702157ea", func := "plover/ploverlaw08.VlqGets", spec := "vlqGets", apart := false, narrowed := true }
def VlqGetsUptoSaid : Prop := vlqGetsUptoRow.holds Try.pinned (OpenSpec.upto vlqGetsSpec)

/-- 'ploverlaw08.VlqOnly', WHERE WHAT IT READS IS OF BULK AT MOST 1048576: true; the input reads as it did. -/
def vlqOnlyUptoRow : OpenClaim := { program := "ytpadhnfclijnkaa", sum := "7f3fbb986bc8405ad77842ef9543b49b72fcc1f7117d71dbc5e9e8d8702157ea", func := "plover/ploverlaw08.VlqOnly", spec := "vlqOnly", apart := false, narrowed := true }
def VlqOnlyUptoSaid : Prop := vlqOnlyUptoRow.holds Try.pinned (OpenSpec.upto vlqOnlySpec)

/-- 'ploverlaw08.VlqLengths', WHERE WHAT IT READS IS OF BULK AT MOST 1048576: true; the input reads as it did. -/
def vlqLengthsUptoRow : OpenClaim := { program := "ytpadhnfclijnkaa", sum := "7f3fbb986bc8405ad77842ef9543b49b72fcc1f7117d71dbc5e9e8d8702157ea", func := "plover/ploverlaw08.VlqLengths", spec := "vlqLengths", apart := false, narrowed := true }
def VlqLengthsUptoSaid : Prop := vlqLengthsUptoRow.holds Try.pinned (OpenSpec.upto vlqLengthsSpec)

/-- 'ploverlaw08.VlqAll', WHERE WHAT IT READS IS OF BULK AT MOST 1048576: true; the input reads as it did. -/
def vlqAllUptoRow : OpenClaim := { program := "ytpadhnfclijnkaa", sum := "7f3fbb986bc8405ad77842ef9543b49b72fcc1f7117d71dbc5e9e8d8702157ea", func := "plover/ploverlaw08.VlqAll", spec := "vlqAll", apart := false, narrowed := true }
def VlqAllUptoSaid : Prop := vlqAllUptoRow.holds Try.pinned (OpenSpec.upto vlqAllSpec)

end Rows
end Go.Proofs.Ytpadhnfclijnkaa
