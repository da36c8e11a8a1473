/-
  No cell of these rows narrows 'for every input' (looked for: loops, veiled, ifaces, maps, wideKeys, modest, calm, conditions, laid).
  DERIVED. THE GIVEN ROWS OF THIS SEAT. 6 by the template 'for every input the law returns true; each argument reads behind the call as it read before'; 0 by the template 'total and deterministic' (their statements: YtoclkioipehjgaaTotals.lean).
  GIVEN WITH THE SEED: the statements are not yours to turn. If you find one false, say at which input.
  Laid BY PROGRAM, IN A SANDBOX (cutbox-rows.mjs): the forced cells as the released guide's own fill.sh prints them over the translation 9ad61910519374b2… (all of the seat's roots in one cut). By AI agents, Wed Nov 11 2026. No macro, syntax, notation, axiom, sorry.
-/
import Derived.Test.YtoclkioipehjgaaChecked
import GoSem.Claim
import GoSem.ClaimJoined
import GoSem.ClaimMapViews
import Derived.JoinedTies
import Derived.KernelRfl
namespace Go.Proofs.Ytoclkioipehjgaa
/- THE CELL 'sum', in the pinned program and in every row, IS THE sha256 OF THE DUMP (.gsa) THAT YtoclkioipehjgaaProg.lean LOADS. Nothing in Lean hashes anything: it is a label: what it is worth is what the hold of that sum in a sandbox is worth. -/
noncomputable def Try.pinned : Pinned := { name := "ytoclkioipehjgaa", sum := "9ad61910519374b26c45c7aaa17e120234953b70e80eb05746be5fd96fe29f29", checked := Try.checked }
namespace Rows
def none {H : Type} : Left H := { results := [], args := [] }

/-- 'ploverlaw07.PackHash': WHATEVER THE INPUT: true; the input reads as it did. -/
def packHashSpec : ChangeSpec := { name := "packHash", fn := fun _ => fun
  | [d] => { results := [.lit (.bool true)], args := [d] }
  | _ => none }
def packHashRow : OpenClaim := { program := "ytoclkioipehjgaa", sum := "9ad61910519374b26c45c7aaa17e120234953b70e80eb05746be5fd96fe29f29", func := "plover/ploverlaw07.PackHash", spec := "packHash", apart := false }
def PackHashSaid : Prop := packHashRow.holds Try.pinned (OpenSpec.ofChange packHashSpec)

/-- ITS FALSE NEIGHBOUR: 'it returns false'. Refute it at one input. -/
def packHashWrong : ChangeSpec := { name := "packHash", fn := fun _ => fun
  | [d] => { results := [.lit (.bool false)], args := [d] }
  | _ => none }
def PackHashWrongFalsely : Prop := packHashRow.holds Try.pinned (OpenSpec.ofChange packHashWrong)

/-- 'ploverlaw07.PackOrder': WHATEVER THE INPUT: true; the input reads as it did. -/
def packOrderSpec : ChangeSpec := { name := "packOrder", fn := fun _ => fun
  | [d1, d2, d3, d4] => { results := [.lit (.bool true)], args := [d1, d2, d3, d4] }
  | _ => none }
def packOrderRow : OpenClaim := { program := "ytoclkioipehjgaa", sum := "9ad61910519374b26c45c7aaa17e120234953b70e80eb05746be5fd96fe29f29", func := "plover/ploverlaw07.PackOrder", spec := "packOrder", apart := false }
def PackOrderSaid : Prop := packOrderRow.holds Try.pinned (OpenSpec.ofChange packOrderSpec)

/-- ITS FALSE NEIGHBOUR: 'it returns false'. Refute it at one input. -/
def packOrderWrong : ChangeSpec := { name := "packOrder", fn := fun _ => fun
  | [d1, d2, d3, d4] => { results := [.lit (.bool false)], args := [d1, d2, d3, d4] }
  | _ => none }
def PackOrderWrongFalsely : Prop := packOrderRow.holds Try.pinned (OpenSpec.ofChange packOrderWrong)

/-- 'ploverlaw07.PackWords': WHATEVER THE INPUT: true; the input reads as it did. -/
def packWordsSpec : ChangeSpec := { name := "packWords", fn := fun _ => fun
  | [d1, d2, d3] => { results := [.lit (.bool true)], args := [d1, d2, d3] }
  | _ => none }
def packWordsRow : OpenClaim := { program := "ytoclkioipehjgaa", sum := "9ad61910519374b26c45c7aaa17e120234953b70e80eb05746be5fd96fe29f29", func := "plover/ploverlaw07.PackWords", spec := "packWords", apart := false }
def PackWordsSaid : Prop := packWordsRow.holds Try.pinned (OpenSpec.ofChange packWordsSpec)

/-- ITS FALSE NEIGHBOUR: 'it returns false'. Refute it at one input. -/
def packWordsWrong : ChangeSpec := { name := "packWords", fn := fun _ => fun
  | [d1, d2, d3] => { results := [.lit (.bool false)], args := [d1, d2, d3] }
  | _ => none }
def PackWordsWrongFalsely : Prop := packWordsRow.holds Try.pinned (OpenSpec.ofChange packWordsWrong)

/-- 'ploverlaw07.PackUnlike': WHATEVER THE INPUT: true; the input reads as it did. -/
def packUnlikeSpec : ChangeSpec := { name := "packUnlike", fn := fun _ => fun
  | [d1, d2, d3] => { results := [.lit (.bool true)], args := [d1, d2, d3] }
  | _ => none }
def packUnlikeRow : OpenClaim := { program := "ytoclkioipehjgaa", sum := "9ad61910519374b26c45c7aaa17e120234953b70e80eb05746be5fd96fe29f29", func := "plover/ploverlaw07.PackUnlike", spec := "packUnlike", apart := false }
def PackUnlikeSaid : Prop := packUnlikeRow.holds Try.pinned (OpenSpec.ofChange packUnlikeSpec)

/-- ITS FALSE NEIGHBOUR: 'it returns false'. Refute it at one input. -/
def packUnlikeWrong : ChangeSpec := { name := "packUnlike", fn := fun _ => fun
  | [d1, d2, d3] => { results := [.lit (.bool false)], args := [d1, d2, d3] }
  | _ => none }
def PackUnlikeWrongFalsely : Prop := packUnlikeRow.holds Try.pinned (OpenSpec.ofChange packUnlikeWrong)

/-- 'ploverlaw07.PackBytes': WHATEVER THE INPUT: true; the input reads as it did. -/
def packBytesSpec : ChangeSpec := { name := "packBytes", fn := fun _ => fun
  | [d1, d2] => { results := [.lit (.bool true)], args := [d1, d2] }
  | _ => none }
def packBytesRow : OpenClaim := { program := "ytoclkioipehjgaa", sum := "9ad61910519374b26c45c7aaa17e120234953b70e80eb05746be5fd96fe29f29", func := "plover/ploverlaw07.PackBytes", spec := "packBytes", apart := false }
def PackBytesSaid : Prop := packBytesRow.holds Try.pinned (OpenSpec.ofChange packBytesSpec)

/-- ITS FALSE NEIGHBOUR: 'it returns false'. Refute it at one input. -/
def packBytesWrong : ChangeSpec := { name := "packBytes", fn := fun _ => fun
  | [d1, d2] => { results := [.lit (.bool false)], args := [d1, d2] }
  | _ => none }
def PackBytesWrongFalsely : Prop := packBytesRow.holds Try.pinned (OpenSpec.ofChange packBytesWrong)

/-- 'ploverlaw07.PackCells': WHATEVER THE INPUT: true; the input reads as it did. -/
def packCellsSpec : ChangeSpec := { name := "packCells", fn := fun _ => fun
  | [d1, d2] => { results := [.lit (.bool true)], args := [d1, d2] }
  | _ => none }
def packCellsRow : OpenClaim := { program := "ytoclkioipehjgaa", sum := "9ad61910519374b26c45c7aaa17e120234953b70e80eb05746be5fd96fe29f29", func := "plover/ploverlaw07.PackCells", spec := "packCells", apart := false }
def PackCellsSaid : Prop := packCellsRow.holds Try.pinned (OpenSpec.ofChange packCellsSpec)

/-- ITS FALSE NEIGHBOUR: 'it returns false'. Refute it at one input. -/
def packCellsWrong : ChangeSpec := { name := "packCells", fn := fun _ => fun
  | [d1, d2] => { results := [.lit (.bool false)], args := [d1, d2] }
  | _ => none }
def PackCellsWrongFalsely : Prop := packCellsRow.holds Try.pinned (OpenSpec.ofChange packCellsWrong)

/- THE SECOND FORM. 'bulk': how many values and letters a reading holds, each counted each time it is reached (what is shared counts as often as it is met; a slice's spare places count too). A statement '..UptoSaid' is the law's where the arguments, and the package variables that the reading takes, are together of bulk at most 1048576: NARROWER than '..Said'. Prove '..Said' where nothing that the law and all that it calls make is longer than what came in: it says more and counts as full. Else prove '..UptoSaid'. A law counts once. -/
mutual
def uptoBulk {H : Type} : DataW H → Nat
  | .lit (.string bytes) => bytes.length + 1
  | .lit _ => 1
  | .nil => 1
  | .ptr d => uptoBulk d + 1
  | .slice elems spare => uptoBulkAll elems + uptoBulkAll spare + 1
  | .agg parts => uptoBulkAll parts + 1
  | .iface _ d => uptoBulk d + 1
  | .map entries => uptoBulkEntries entries + 1
  | .held _ => 1
def uptoBulkAll {H : Type} : List (DataW H) → Nat
  | [] => 0
  | d :: r => uptoBulk d + uptoBulkAll r
def uptoBulkEntries {H : Type} : List (Lit × DataW H) → Nat
  | [] => 0
  | x :: r => uptoBulkEntry x + uptoBulkEntries r
def uptoBulkEntry {H : Type} : Lit × DataW H → Nat
  | (.string bytes, d) => bytes.length + uptoBulk d + 1
  | (_, d) => uptoBulk d + 1
 end
def uptoSmall : (H : Type) → List (DataW H) → Bool := fun _ ds => decide (uptoBulkAll ds ≤ 1048576)
def OpenSpec.upto (s : _root_.Go.ChangeSpec) : _root_.Go.OpenSpec := { _root_.Go.OpenSpec.ofChange s with cond := some uptoSmall }

/-- 'ploverlaw07.PackHash', WHERE WHAT IT READS IS OF BULK AT MOST 1048576: true; the input reads as it did. -/
def packHashUptoRow : OpenClaim := { program := "ytoclkioipehjgaa", sum := "9ad61910519374b26c45c7aaa17e120234953b70e80eb05746be5fd96fe29f29", func := "plover/ploverlaw07.PackHash", spec := "packHash", apart := false, narrowed := true }
def PackHashUptoSaid : Prop := packHashUptoRow.holds Try.pinned (OpenSpec.upto packHashSpec)

/-- 'ploverlaw07.PackOrder', WHERE WHAT IT READS IS OF BULK AT MOST 1048576: true; the input reads as it did. -/
def packOrderUptoRow : OpenClaim := { program := "ytoclkioipehjgaa", sum := "9ad61910519374b26c45c7aaa17e120234953b70e80eb05746be5fd96fe29f29", func := "plover/ploverlaw07.PackOrder", spec := "packOrder", apart := false, narrowed := true }
def PackOrderUptoSaid : Prop := packOrderUptoRow.holds Try.pinned (OpenSpec.upto packOrderSpec)

/-- 'ploverlaw07.PackWords', WHERE WHAT IT READS IS OF BULK AT MOST 1048576: true; the input reads as it did. -/
def packWordsUptoRow : OpenClaim := { program := "ytoclkioipehjgaa", sum := "9ad61910519374b26c45c7aaa17e120234953b70e80eb05746be5fd96fe29f29", func := "plover/ploverlaw07.PackWords", spec := "packWords", apart := false, narrowed := true }
def PackWordsUptoSaid : Prop := packWordsUptoRow.holds Try.pinned (OpenSpec.upto packWordsSpec)

/-- 'ploverlaw07.PackUnlike', WHERE WHAT IT READS IS OF BULK AT MOST 1048576: true; the input reads as it did. -/
def packUnlikeUptoRow : OpenClaim := { program := "ytoclkioipehjgaa", sum := "9ad61910519374b26c45c7aaa17e120234953b70e80eb05746be5fd96fe29f29", func := "plover/ploverlaw07.PackUnlike", spec := "packUnlike", apart := false, narrowed := true }
def PackUnlikeUptoSaid : Prop := packUnlikeUptoRow.holds Try.pinned (OpenSpec.upto packUnlikeSpec)

/-- 'ploverlaw07.PackBytes', WHERE WHAT IT READS IS OF BULK AT MOST 1048576: true; the input reads as it did. -/
def packBytesUptoRow : OpenClaim := { program := "ytoclkioipehjgaa", sum := "9ad61910519374b26c45c7aaa17e120234953b70e80eb05746be5fd96fe29f29", func := "plover/ploverlaw07.PackBytes", spec := "packBytes", apart := false, narrowed := true }
def PackBytesUptoSaid : Prop := packBytesUptoRow.holds Try.pinned (OpenSpec.upto packBytesSpec)

/-- 'ploverlaw07.PackCells', WHERE WHAT IT READS IS OF BULK AT MOST 1048576: true; the input reads as it did. -/
def packCellsUptoRow : OpenClaim := { program := "ytoclkioipehjgaa", sum := "9ad61910519374b26c45c7aaa17e120234953b70e80eb05746be5fd96fe29f29", func := "plover/ploverlaw07.PackCells", spec := "packCells", apart := false, narrowed := true }
def PackCellsUptoSaid : Prop := packCellsUptoRow.holds Try.pinned (OpenSpec.upto packCellsSpec)

end Rows
end Go.Proofs.Ytoclkioipehjgaa
