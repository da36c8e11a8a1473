/-
  No cell of these rows narrows 'for every input' (looked for: loops, veiled, ifaces, maps, wideKeys, modest, calm, conditions, laid).
  DERIVED. THE GIVEN ROWS OF THIS SEAT. 6 by the template 'for every input the law returns true; each argument reads behind the call as it read before'; 0 by the template 'total and deterministic' (their statements: YtcgcbemhbkjijaaTotals.lean).
  GIVEN WITH THE SEED: the statements are not yours to turn. If you find one false, say at which input.
  Laid BY PROGRAM, IN A SANDBOX (cutbox-rows.mjs): the forced cells as the released guide's own fill.sh prints them over the translation 6a08ec1ab3738d3c… (all of the seat's roots in one cut). By AI agents, Wed Nov 11 2026. No macro, syntax, notation, axiom, sorry.
-/
import Derived.Test.YtcgcbemhbkjijaaChecked
import GoSem.Claim
import GoSem.ClaimJoined
import GoSem.ClaimMapViews
import Derived.JoinedTies
import Derived.KernelRfl
namespace Go.Proofs.Ytcgcbemhbkjijaa
/- THE CELL 'sum', in the pinned program and in every row, IS THE sha256 OF THE DUMP (.gsa) THAT YtcgcbemhbkjijaaProg.lean LOADS. Nothing in Lean hashes anything: it is a label: what it is worth is what the hold of that sum in a sandbox is worth. -/
noncomputable def Try.pinned : Pinned := { name := "ytcgcbemhbkjijaa", sum := "6a08ec1ab3738d3cf76cb0bbde33b8e47e3623146014f583dbb4ad6c7b8b9ce7", checked := Try.checked }
namespace Rows
def none {H : Type} : Left H := { results := [], args := [] }

/-- 'ploverlaw04.UtfRunes': WHATEVER THE INPUT: true; the input reads as it did. -/
def utfRunesSpec : ChangeSpec := { name := "utfRunes", fn := fun _ => fun
  | [d] => { results := [.lit (.bool true)], args := [d] }
  | _ => none }
def utfRunesRow : OpenClaim := { program := "ytcgcbemhbkjijaa", sum := "6a08ec1ab3738d3cf76cb0bbde33b8e47e3623146014f583dbb4ad6c7b8b9ce7", func := "plover/ploverlaw04.UtfRunes", spec := "utfRunes", apart := false }
def UtfRunesSaid : Prop := utfRunesRow.holds Try.pinned (OpenSpec.ofChange utfRunesSpec)

/-- ITS FALSE NEIGHBOUR: 'it returns false'. Refute it at one input. -/
def utfRunesWrong : ChangeSpec := { name := "utfRunes", fn := fun _ => fun
  | [d] => { results := [.lit (.bool false)], args := [d] }
  | _ => none }
def UtfRunesWrongFalsely : Prop := utfRunesRow.holds Try.pinned (OpenSpec.ofChange utfRunesWrong)

/-- 'ploverlaw04.UtfFits': WHATEVER THE INPUT: true; the input reads as it did. -/
def utfFitsSpec : ChangeSpec := { name := "utfFits", fn := fun _ => fun
  | [d1, d2] => { results := [.lit (.bool true)], args := [d1, d2] }
  | _ => none }
def utfFitsRow : OpenClaim := { program := "ytcgcbemhbkjijaa", sum := "6a08ec1ab3738d3cf76cb0bbde33b8e47e3623146014f583dbb4ad6c7b8b9ce7", func := "plover/ploverlaw04.UtfFits", spec := "utfFits", apart := false }
def UtfFitsSaid : Prop := utfFitsRow.holds Try.pinned (OpenSpec.ofChange utfFitsSpec)

/-- ITS FALSE NEIGHBOUR: 'it returns false'. Refute it at one input. -/
def utfFitsWrong : ChangeSpec := { name := "utfFits", fn := fun _ => fun
  | [d1, d2] => { results := [.lit (.bool false)], args := [d1, d2] }
  | _ => none }
def UtfFitsWrongFalsely : Prop := utfFitsRow.holds Try.pinned (OpenSpec.ofChange utfFitsWrong)

/-- 'ploverlaw04.UtfApart': WHATEVER THE INPUT: true; the input reads as it did. -/
def utfApartSpec : ChangeSpec := { name := "utfApart", fn := fun _ => fun
  | [d1, d2, d3] => { results := [.lit (.bool true)], args := [d1, d2, d3] }
  | _ => none }
def utfApartRow : OpenClaim := { program := "ytcgcbemhbkjijaa", sum := "6a08ec1ab3738d3cf76cb0bbde33b8e47e3623146014f583dbb4ad6c7b8b9ce7", func := "plover/ploverlaw04.UtfApart", spec := "utfApart", apart := false }
def UtfApartSaid : Prop := utfApartRow.holds Try.pinned (OpenSpec.ofChange utfApartSpec)

/-- ITS FALSE NEIGHBOUR: 'it returns false'. Refute it at one input. -/
def utfApartWrong : ChangeSpec := { name := "utfApart", fn := fun _ => fun
  | [d1, d2, d3] => { results := [.lit (.bool false)], args := [d1, d2, d3] }
  | _ => none }
def UtfApartWrongFalsely : Prop := utfApartRow.holds Try.pinned (OpenSpec.ofChange utfApartWrong)

/-- 'ploverlaw04.UtfLess': WHATEVER THE INPUT: true; the input reads as it did. -/
def utfLessSpec : ChangeSpec := { name := "utfLess", fn := fun _ => fun
  | [d1, d2] => { results := [.lit (.bool true)], args := [d1, d2] }
  | _ => none }
def utfLessRow : OpenClaim := { program := "ytcgcbemhbkjijaa", sum := "6a08ec1ab3738d3cf76cb0bbde33b8e47e3623146014f583dbb4ad6c7b8b9ce7", func := "plover/ploverlaw04.UtfLess", spec := "utfLess", apart := false }
def UtfLessSaid : Prop := utfLessRow.holds Try.pinned (OpenSpec.ofChange utfLessSpec)

/-- ITS FALSE NEIGHBOUR: 'it returns false'. Refute it at one input. -/
def utfLessWrong : ChangeSpec := { name := "utfLess", fn := fun _ => fun
  | [d1, d2] => { results := [.lit (.bool false)], args := [d1, d2] }
  | _ => none }
def UtfLessWrongFalsely : Prop := utfLessRow.holds Try.pinned (OpenSpec.ofChange utfLessWrong)

/-- 'ploverlaw04.UtfTexts': WHATEVER THE INPUT: true; the input reads as it did. -/
def utfTextsSpec : ChangeSpec := { name := "utfTexts", fn := fun _ => fun
  | [d] => { results := [.lit (.bool true)], args := [d] }
  | _ => none }
def utfTextsRow : OpenClaim := { program := "ytcgcbemhbkjijaa", sum := "6a08ec1ab3738d3cf76cb0bbde33b8e47e3623146014f583dbb4ad6c7b8b9ce7", func := "plover/ploverlaw04.UtfTexts", spec := "utfTexts", apart := false }
def UtfTextsSaid : Prop := utfTextsRow.holds Try.pinned (OpenSpec.ofChange utfTextsSpec)

/-- ITS FALSE NEIGHBOUR: 'it returns false'. Refute it at one input. -/
def utfTextsWrong : ChangeSpec := { name := "utfTexts", fn := fun _ => fun
  | [d] => { results := [.lit (.bool false)], args := [d] }
  | _ => none }
def UtfTextsWrongFalsely : Prop := utfTextsRow.holds Try.pinned (OpenSpec.ofChange utfTextsWrong)

/-- 'ploverlaw04.UtfBack': WHATEVER THE INPUT: true; the input reads as it did. -/
def utfBackSpec : ChangeSpec := { name := "utfBack", fn := fun _ => fun
  | [d] => { results := [.lit (.bool true)], args := [d] }
  | _ => none }
def utfBackRow : OpenClaim := { program := "ytcgcbemhbkjijaa", sum := "6a08ec1ab3738d3cf76cb0bbde33b8e47e3623146014f583dbb4ad6c7b8b9ce7", func := "plover/ploverlaw04.UtfBack", spec := "utfBack", apart := false }
def UtfBackSaid : Prop := utfBackRow.holds Try.pinned (OpenSpec.ofChange utfBackSpec)

/-- ITS FALSE NEIGHBOUR: 'it returns false'. Refute it at one input. -/
def utfBackWrong : ChangeSpec := { name := "utfBack", fn := fun _ => fun
  | [d] => { results := [.lit (.bool false)], args := [d] }
  | _ => none }
def UtfBackWrongFalsely : Prop := utfBackRow.holds Try.pinned (OpenSpec.ofChange utfBackWrong)

/- THE SECOND FORM. 'bulk': how many values and letters a reading holds, each counted each time it is reached (what is shared counts as often as it is met; a slice's spare places count too). A statement '..UptoSaid' is the law's where the arguments, and the package variables that the reading takes, are together of bulk at most 1048576: NARROWER than '..Said'. Prove '..Said' where nothing that the law and all that it calls make is longer than what came in: it says more and counts as full. Else prove '..UptoSaid'. A law counts once. -/
mutual
def uptoBulk {H : Type} : DataW H → Nat
  | .lit (.string bytes) => bytes.length + 1
  | .lit _ => 1
  | .nil => 1
  | .ptr d => uptoBulk d + 1
  | .slice elems spare => uptoBulkAll elems + uptoBulkAll spare + 1
  | .agg parts => uptoBulkAll parts + 1
  | .iface _ d => uptoBulk d + 1
  | .map entries => uptoBulkEntries entries + 1
  | .held _ => 1
def uptoBulkAll {H : Type} : List (DataW H) → Nat
  | [] => 0
  | d :: r => uptoBulk d + uptoBulkAll r
def uptoBulkEntries {H : Type} : List (Lit × DataW H) → Nat
  | [] => 0
  | x :: r => uptoBulkEntry x + uptoBulkEntries r
def uptoBulkEntry {H : Type} : Lit × DataW H → Nat
  | (.string bytes, d) => bytes.length + uptoBulk d + 1
  | (_, d) => uptoBulk d + 1
 end
def uptoSmall : (H : Type) → List (DataW H) → Bool := fun _ ds => decide (uptoBulkAll ds ≤ 1048576)
def OpenSpec.upto (s : _root_.Go.ChangeSpec) : _root_.Go.OpenSpec := { _root_.Go.OpenSpec.ofChange s with cond := some uptoSmall }

/-- 'ploverlaw04.UtfRunes', WHERE WHAT IT READS IS OF BULK AT MOST 1048576: true; the input reads as it did. -/
def utfRunesUptoRow : OpenClaim := { program := "ytcgcbemhbkjijaa", sum := "6a08ec1ab3738d3cf76cb0bbde33b8e47e3623146014f583dbb4ad6c7b8b9ce7", func := "plover/ploverlaw04.UtfRunes", spec := "utfRunes", apart := false, narrowed := true }
def UtfRunesUptoSaid : Prop := utfRunesUptoRow.holds Try.pinned (OpenSpec.upto utfRunesSpec)

/-- 'ploverlaw04.UtfFits', WHERE WHAT IT READS IS OF BULK AT MOST 1048576: true; the input reads as it did. -/
def utfFitsUptoRow : OpenClaim := { program := "ytcgcbemhbkjijaa", sum := "6a08ec1ab3738d3cf76cb0bbde33b8e47e3623146014f583dbb4ad6c7b8b9ce7", func := "plover/ploverlaw04.UtfFits", spec := "utfFits", apart := false, narrowed := true }
def UtfFitsUptoSaid : Prop := utfFitsUptoRow.holds Try.pinned (OpenSpec.upto utfFitsSpec)

/-- 'ploverlaw04.UtfApart', WHERE WHAT IT READS IS OF BULK AT MOST 1048576: true; the input reads as it did. -/
def utfApartUptoRow : OpenClaim := { program := "ytcgcbemhbkjijaa", sum := "6a08ec1ab3738d3cf76cb0bbde33b8e47e3623146014f583dbb4ad6c7b8b9ce7", func := "plover/ploverlaw04.UtfApart", spec := "utfApart", apart := false, narrowed := true }
def UtfApartUptoSaid : Prop := utfApartUptoRow.holds Try.pinned (OpenSpec.upto utfApartSpec)

/-- 'ploverlaw04.UtfLess', WHERE WHAT IT READS IS OF BULK AT MOST 1048576: true; the input reads as it did. -/
def utfLessUptoRow : OpenClaim := { program := "ytcgcbemhbkjijaa", sum := "6a08ec1ab3738d3cf76cb0bbde33b8e47e3623146014f583dbb4ad6c7b8b9ce7", func := "plover/ploverlaw04.UtfLess", spec := "utfLess", apart := false, narrowed := true }
def UtfLessUptoSaid : Prop := utfLessUptoRow.holds Try.pinned (OpenSpec.upto utfLessSpec)

/-- 'ploverlaw04.UtfTexts', WHERE WHAT IT READS IS OF BULK AT MOST 1048576: true; the input reads as it did. -/
def utfTextsUptoRow : OpenClaim := { program := "ytcgcbemhbkjijaa", sum := "6a08ec1ab3738d3cf76cb0bbde33b8e47e3623146014f583dbb4ad6c7b8b9ce7", func := "plover/ploverlaw04.UtfTexts", spec := "utfTexts", apart := false, narrowed := true }
def UtfTextsUptoSaid : Prop := utfTextsUptoRow.holds Try.pinned (OpenSpec.upto utfTextsSpec)

/-- 'ploverlaw04.UtfBack', WHERE WHAT IT READS IS OF BULK AT MOST 1048576: true; the input reads as it did. -/
def utfBackUptoRow : OpenClaim := { program := "ytcgcbemhbkjijaa", sum := "6a08ec1ab3738d3cf76cb0bbde33b8e47e3623146014f583dbb4ad6c7b8b9ce7", func := "plover/ploverlaw04.UtfBack", spec := "utfBack", apart := false, narrowed := true }
def UtfBackUptoSaid : Prop := utfBackUptoRow.holds Try.pinned (OpenSpec.upto utfBackSpec)

end Rows
end Go.Proofs.Ytcgcbemhbkjijaa
