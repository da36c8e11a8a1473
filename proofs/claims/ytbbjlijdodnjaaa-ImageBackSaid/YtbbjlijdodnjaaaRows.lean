/-
  No cell of these rows narrows 'for every input' (looked for: loops, veiled, ifaces, maps, wideKeys, modest, calm, conditions, laid).
  DERIVED. THE GIVEN ROWS OF THIS SEAT. 5 by the template 'for every input the law returns true; each argument reads behind the call as it read before'; 0 by the template 'total and deterministic' (their statements: YtbbjlijdodnjaaaTotals.lean).
  GIVEN WITH THE SEED: the statements are not yours to turn. If you find one false, say at which input.
  Laid BY PROGRAM, IN A SANDBOX (cutbox-rows.mjs): the forced cells as the released guide's own fill.sh prints them over the translation 896cba1b8b4bd13d… (all of the seat's roots in one cut). By AI agents, Wed Nov 11 2026. No macro, syntax, notation, axiom, sorry.
-/
import Derived.Test.YtbbjlijdodnjaaaChecked
import GoSem.Claim
import GoSem.ClaimJoined
import GoSem.ClaimMapViews
import Derived.JoinedTies
import Derived.KernelRfl
namespace Go.Proofs.Ytbbjlijdodnjaaa
/- THE CELL 'sum', in the pinned program and in every row, IS THE sha256 OF THE DUMP (.gsa) THAT YtbbjlijdodnjaaaProg.lean LOADS. Nothing in Lean hashes anything: it is a label: what it is worth is what the hold of that sum in a sandbox is worth. -/
noncomputable def Try.pinned : Pinned := { name := "ytbbjlijdodnjaaa", sum := "896cba1b8b4bd13d43c3d1d00f0808f26b8e502c29c750905ec6369f39664905", checked := Try.checked }
namespace Rows
def none {H : Type} : Left H := { results := [], args := [] }

/-- 'ploverlaw14.ImageAnywhere': WHATEVER THE INPUT: true; the input reads as it did. -/
def imageAnywhereSpec : ChangeSpec := { name := "imageAnywhere", fn := fun _ => fun
  | [d1, d2, d3, d4] => { results := [.lit (.bool true)], args := [d1, d2, d3, d4] }
  | _ => none }
def imageAnywhereRow : OpenClaim := { program := "ytbbjlijdodnjaaa", sum := "896cba1b8b4bd13d43c3d1d00f0808f26b8e502c29c750905ec6369f39664905", func := "plover/ploverlaw14.ImageAnywhere", spec := "imageAnywhere", apart := false }
def ImageAnywhereSaid : Prop := imageAnywhereRow.holds Try.pinned (OpenSpec.ofChange imageAnywhereSpec)

/-- ITS FALSE NEIGHBOUR: 'it returns false'. Refute it at one input. -/
def imageAnywhereWrong : ChangeSpec := { name := "imageAnywhere", fn := fun _ => fun
  | [d1, d2, d3, d4] => { results := [.lit (.bool false)], args := [d1, d2, d3, d4] }
  | _ => none }
def ImageAnywhereWrongFalsely : Prop := imageAnywhereRow.holds Try.pinned (OpenSpec.ofChange imageAnywhereWrong)

/-- 'ploverlaw14.ImageMakes': WHATEVER THE INPUT: true; the input reads as it did. -/
def imageMakesSpec : ChangeSpec := { name := "imageMakes", fn := fun _ => fun
  | [d1, d2, d3] => { results := [.lit (.bool true)], args := [d1, d2, d3] }
  | _ => none }
def imageMakesRow : OpenClaim := { program := "ytbbjlijdodnjaaa", sum := "896cba1b8b4bd13d43c3d1d00f0808f26b8e502c29c750905ec6369f39664905", func := "plover/ploverlaw14.ImageMakes", spec := "imageMakes", apart := false }
def ImageMakesSaid : Prop := imageMakesRow.holds Try.pinned (OpenSpec.ofChange imageMakesSpec)

/-- ITS FALSE NEIGHBOUR: 'it returns false'. Refute it at one input. -/
def imageMakesWrong : ChangeSpec := { name := "imageMakes", fn := fun _ => fun
  | [d1, d2, d3] => { results := [.lit (.bool false)], args := [d1, d2, d3] }
  | _ => none }
def ImageMakesWrongFalsely : Prop := imageMakesRow.holds Try.pinned (OpenSpec.ofChange imageMakesWrong)

/-- 'ploverlaw14.ImageReads': WHATEVER THE INPUT: true; the input reads as it did. -/
def imageReadsSpec : ChangeSpec := { name := "imageReads", fn := fun _ => fun
  | [d1, d2] => { results := [.lit (.bool true)], args := [d1, d2] }
  | _ => none }
def imageReadsRow : OpenClaim := { program := "ytbbjlijdodnjaaa", sum := "896cba1b8b4bd13d43c3d1d00f0808f26b8e502c29c750905ec6369f39664905", func := "plover/ploverlaw14.ImageReads", spec := "imageReads", apart := false }
def ImageReadsSaid : Prop := imageReadsRow.holds Try.pinned (OpenSpec.ofChange imageReadsSpec)

/-- ITS FALSE NEIGHBOUR: 'it returns false'. Refute it at one input. -/
def imageReadsWrong : ChangeSpec := { name := "imageReads", fn := fun _ => fun
  | [d1, d2] => { results := [.lit (.bool false)], args := [d1, d2] }
  | _ => none }
def ImageReadsWrongFalsely : Prop := imageReadsRow.holds Try.pinned (OpenSpec.ofChange imageReadsWrong)

/-- 'ploverlaw14.ImageOnly': WHATEVER THE INPUT: true; the input reads as it did. -/
def imageOnlySpec : ChangeSpec := { name := "imageOnly", fn := fun _ => fun
  | [d1, d2] => { results := [.lit (.bool true)], args := [d1, d2] }
  | _ => none }
def imageOnlyRow : OpenClaim := { program := "ytbbjlijdodnjaaa", sum := "896cba1b8b4bd13d43c3d1d00f0808f26b8e502c29c750905ec6369f39664905", func := "plover/ploverlaw14.ImageOnly", spec := "imageOnly", apart := false }
def ImageOnlySaid : Prop := imageOnlyRow.holds Try.pinned (OpenSpec.ofChange imageOnlySpec)

/-- ITS FALSE NEIGHBOUR: 'it returns false'. Refute it at one input. -/
def imageOnlyWrong : ChangeSpec := { name := "imageOnly", fn := fun _ => fun
  | [d1, d2] => { results := [.lit (.bool false)], args := [d1, d2] }
  | _ => none }
def ImageOnlyWrongFalsely : Prop := imageOnlyRow.holds Try.pinned (OpenSpec.ofChange imageOnlyWrong)

/-- 'ploverlaw14.ImageBack': WHATEVER THE INPUT: true; the input reads as it did. -/
def imageBackSpec : ChangeSpec := { name := "imageBack", fn := fun _ => fun
  | [d1, d2, d3] => { results := [.lit (.bool true)], args := [d1, d2, d3] }
  | _ => none }
def imageBackRow : OpenClaim := { program := "ytbbjlijdodnjaaa", sum := "896cba1b8b4bd13d43c3d1d00f0808f26b8e502c29c750905ec6369f39664905", func := "plover/ploverlaw14.ImageBack", spec := "imageBack", apart := false }
def ImageBackSaid : Prop := imageBackRow.holds Try.pinned (OpenSpec.ofChange imageBackSpec)

/-- ITS FALSE NEIGHBOUR: 'it returns false'. Refute it at one input. -/
def imageBackWrong : ChangeSpec := { name := "imageBack", fn := fun _ => fun
  | [d1, d2, d3] => { results := [.lit (.bool false)], args := [d1, d2, d3] }
  | _ => none }
def ImageBackWrongFalsely : Prop := imageBackRow.holds Try.pinned (OpenSpec.ofChange imageBackWrong)

/- THE SECOND FORM. 'bulk': how many values and letters a reading holds, each counted each time it is reached (what is shared counts as often as it is met; a slice's spare places count too). A statement '..UptoSaid' is the law's where the arguments, and the package variables that the reading takes, are together of bulk at most 1048576: NARROWER than '..Said'. Prove '..Said' where nothing that the law and all that it calls make is longer than what came in: it says more and counts as full. Else prove '..UptoSaid'. A law counts once. -/
mutual
def uptoBulk {H : Type} : DataW H → Nat
  | .lit (.string bytes) => bytes.length + 1
  | .lit _ => 1
  | .nil => 1
  | .ptr d => uptoBulk d + 1
  | .slice elems spare => uptoBulkAll elems + uptoBulkAll spare + 1
  | .agg parts => uptoBulkAll parts + 1
  | .iface _ d => uptoBulk d + 1
  | .map entries => uptoBulkEntries entries + 1
  | .held _ => 1
def uptoBulkAll {H : Type} : List (DataW H) → Nat
  | [] => 0
  | d :: r => uptoBulk d + uptoBulkAll r
def uptoBulkEntries {H : Type} : List (Lit × DataW H) → Nat
  | [] => 0
  | x :: r => uptoBulkEntry x + uptoBulkEntries r
def uptoBulkEntry {H : Type} : Lit × DataW H → Nat
  | (.string bytes, d) => bytes.length + uptoBulk d + 1
  | (_, d) => uptoBulk d + 1
 end
def uptoSmall : (H : Type) → List (DataW H) → Bool := fun _ ds => decide (uptoBulkAll ds ≤ 1048576)
def OpenSpec.upto (s : _root_.Go.ChangeSpec) : _root_.Go.OpenSpec := { _root_.Go.OpenSpec.ofChange s with cond := some uptoSmall }

/-- 'ploverlaw14.ImageAnywhere', WHERE WHAT IT READS IS OF BULK AT MOST 1048576: true; the input reads as it did. -/
def imageAnywhereUptoRow : OpenClaim := { program := "ytbbjlijdodnjaaa", sum := "896cba1b8b4bd13d43c3d1d00f0808f26b8e502c29c750905ec6369f39664905", func := "plover/ploverlaw14.ImageAnywhere", spec := "imageAnywhere", apart := false, narrowed := true }
def ImageAnywhereUptoSaid : Prop := imageAnywhereUptoRow.holds Try.pinned (OpenSpec.upto imageAnywhereSpec)

/-- 'ploverlaw14.ImageMakes', WHERE WHAT IT READS IS OF BULK AT MOST 1048576: true; the input reads as it did. -/
def imageMakesUptoRow : OpenClaim := { program := "ytbbjlijdodnjaaa", sum := "896cba1b8b4bd13d43c3d1d00f0808f26b8e502c29c750905ec6369f39664905", func := "plover/ploverlaw14.ImageMakes", spec := "imageMakes", apart := false, narrowed := true }
def ImageMakesUptoSaid : Prop := imageMakesUptoRow.holds Try.pinned (OpenSpec.upto imageMakesSpec)

/-- 'ploverlaw14.ImageReads', WHERE WHAT IT READS IS OF BULK AT MOST 1048576: true; the input reads as it did. -/
def imageReadsUptoRow : OpenClaim := { program := "ytbbjlijdodnjaaa", sum := "896cba1b8b4bd13d43c3d1d00f0808f26b8e502c29c750905ec6369f39664905", func := "plover/ploverlaw14.ImageReads", spec := "imageReads", apart := false, narrowed := true }
def ImageReadsUptoSaid : Prop := imageReadsUptoRow.holds Try.pinned (OpenSpec.upto imageReadsSpec)

/-- 'ploverlaw14.ImageOnly', WHERE WHAT IT READS IS OF BULK AT MOST 1048576: true; the input reads as it did. -/
def imageOnlyUptoRow : OpenClaim := { program := "ytbbjlijdodnjaaa", sum := "896cba1b8b4bd13d43c3d1d00f0808f26b8e502c29c750905ec6369f39664905", func := "plover/ploverlaw14.ImageOnly", spec := "imageOnly", apart := false, narrowed := true }
def ImageOnlyUptoSaid : Prop := imageOnlyUptoRow.holds Try.pinned (OpenSpec.upto imageOnlySpec)

/-- 'ploverlaw14.ImageBack', WHERE WHAT IT READS IS OF BULK AT MOST 1048576: true; the input reads as it did. -/
def imageBackUptoRow : OpenClaim := { program := "ytbbjlijdodnjaaa", sum := "896cba1b8b4bd13d43c3d1d00f0808f26b8e502c29c750905ec6369f39664905", func := "plover/ploverlaw14.ImageBack", spec := "imageBack", apart := false, narrowed := true }
def ImageBackUptoSaid : Prop := imageBackUptoRow.holds Try.pinned (OpenSpec.upto imageBackSpec)

end Rows
end Go.Proofs.Ytbbjlijdodnjaaa
