/-
  NARROWER THAN 'FOR EVERY INPUT', by the rows' own cells (each row's printed sentence says how): FoldClass: laid · FoldFolds: laid · FoldOnce: laid · FoldFew: laid · FoldPlain: laid.
  DERIVED. THE GIVEN ROWS OF THIS SEAT. 5 by the template 'for every input the law returns true; each argument reads behind the call as it read before'; 0 by the template 'total and deterministic' (their statements: YtcdjoijgnglicaaDoorTotals.lean).
  GIVEN WITH THE SEED: the statements are not yours to turn. If you find one false, say at which input.
  Laid BY PROGRAM, IN A SANDBOX (cutbox-rows.mjs): the forced cells as the released guide's own fill.sh prints them over the translation 411256bc46a81fe0… (all of the seat's roots in one cut). By AI agents, Wed Nov 11 2026. No macro, syntax, notation, axiom, sorry.
-/
import Derived.Test.YtcdjoijgnglicaaDoorChecked
import GoSem.Claim
import GoSem.ClaimJoined
import GoSem.ClaimMapViews
import Derived.JoinedTies
import Derived.KernelRfl
namespace Go.Proofs.YtcdjoijgnglicaaDoor
/- THE CELL 'sum', in the pinned program and in every row, IS THE sha256 OF THE DUMP (.gsa) THAT YtcdjoijgnglicaaDoorProg.lean LOADS. Nothing in Lean hashes anything: it is a label: what it is worth is what the hold of that sum in a sandbox is worth. -/
noncomputable def Tryd.pinned : Pinned := { name := "ytcdjoijgnglicaadoor", sum := "411256bc46a81fe017edeaec7939641145603171d1658bfa811461acc8221f9f", checked := Tryd.checked }
namespace Rows
def none {H : Type} : Left H := { results := [], args := [] }

/- WHAT THE LISTED PACKAGE-LEVEL VARIABLES READ AS WHEN THE CALL BEGINS. Each datum BY PROGRAM (the guide's laid-datum.mjs) off the statement by which the dump's own 'gosem.cut.vars' lays the variable. In a bare row this is a premise. The card (YtcdjoijgnglicaaDoorCards.lean) ties it to the program's text. -/
def laid_plover_fold_letters {H : Type} : DataW H := .agg [.agg [.lit (.int .i32 65), .lit (.int .i32 90)], .agg [.lit (.int .i32 97), .lit (.int .i32 122)], .agg [.lit (.int .i32 192), .lit (.int .i32 214)], .agg [.lit (.int .i32 216), .lit (.int .i32 246)], .agg [.lit (.int .i32 248), .lit (.int .i32 591)], .agg [.lit (.int .i32 902), .lit (.int .i32 902)], .agg [.lit (.int .i32 904), .lit (.int .i32 906)], .agg [.lit (.int .i32 908), .lit (.int .i32 908)], .agg [.lit (.int .i32 910), .lit (.int .i32 929)], .agg [.lit (.int .i32 931), .lit (.int .i32 974)], .agg [.lit (.int .i32 1024), .lit (.int .i32 1153)], .agg [.lit (.int .i32 1162), .lit (.int .i32 1327)], .agg [.lit (.int .i32 1488), .lit (.int .i32 1514)]]
def laid_plover_fold_high {H : Type} : DataW H := .agg [.agg [.lit (.int .i32 19968), .lit (.int .i32 40959)], .agg [.lit (.int .i32 44032), .lit (.int .i32 55203)]]
def laid_plover_fold_moves {H : Type} : DataW H := .agg [.agg [.agg [.lit (.int .i32 65), .lit (.int .i32 90)], .lit (.int .i64 1), .lit (.int .i32 32)], .agg [.agg [.lit (.int .i32 192), .lit (.int .i32 214)], .lit (.int .i64 1), .lit (.int .i32 32)], .agg [.agg [.lit (.int .i32 216), .lit (.int .i32 222)], .lit (.int .i64 1), .lit (.int .i32 32)], .agg [.agg [.lit (.int .i32 256), .lit (.int .i32 311)], .lit (.int .i64 2), .lit (.int .i32 1)], .agg [.agg [.lit (.int .i32 313), .lit (.int .i32 328)], .lit (.int .i64 3), .lit (.int .i32 1)], .agg [.agg [.lit (.int .i32 330), .lit (.int .i32 375)], .lit (.int .i64 2), .lit (.int .i32 1)], .agg [.agg [.lit (.int .i32 376), .lit (.int .i32 376)], .lit (.int .i64 1), .lit (.int .i32 (-121))], .agg [.agg [.lit (.int .i32 377), .lit (.int .i32 382)], .lit (.int .i64 3), .lit (.int .i32 1)], .agg [.agg [.lit (.int .i32 383), .lit (.int .i32 383)], .lit (.int .i64 1), .lit (.int .i32 (-268))], .agg [.agg [.lit (.int .i32 902), .lit (.int .i32 902)], .lit (.int .i64 1), .lit (.int .i32 38)], .agg [.agg [.lit (.int .i32 904), .lit (.int .i32 906)], .lit (.int .i64 1), .lit (.int .i32 37)], .agg [.agg [.lit (.int .i32 908), .lit (.int .i32 908)], .lit (.int .i64 1), .lit (.int .i32 64)], .agg [.agg [.lit (.int .i32 910), .lit (.int .i32 911)], .lit (.int .i64 1), .lit (.int .i32 63)], .agg [.agg [.lit (.int .i32 913), .lit (.int .i32 929)], .lit (.int .i64 1), .lit (.int .i32 32)], .agg [.agg [.lit (.int .i32 931), .lit (.int .i32 939)], .lit (.int .i64 1), .lit (.int .i32 32)], .agg [.agg [.lit (.int .i32 962), .lit (.int .i32 962)], .lit (.int .i64 1), .lit (.int .i32 1)], .agg [.agg [.lit (.int .i32 1024), .lit (.int .i32 1039)], .lit (.int .i64 1), .lit (.int .i32 80)], .agg [.agg [.lit (.int .i32 1040), .lit (.int .i32 1071)], .lit (.int .i64 1), .lit (.int .i32 32)], .agg [.agg [.lit (.int .i32 1120), .lit (.int .i32 1153)], .lit (.int .i64 2), .lit (.int .i32 1)], .agg [.agg [.lit (.int .i32 1162), .lit (.int .i32 1215)], .lit (.int .i64 2), .lit (.int .i32 1)], .agg [.agg [.lit (.int .i32 1232), .lit (.int .i32 1327)], .lit (.int .i64 2), .lit (.int .i32 1)], .agg [.agg [.lit (.int .i32 1632), .lit (.int .i32 1641)], .lit (.int .i64 1), .lit (.int .i32 (-1584))], .agg [.agg [.lit (.int .i32 0), .lit (.int .i32 0)], .lit (.int .i64 0), .lit (.int .i32 0)], .agg [.agg [.lit (.int .i32 0), .lit (.int .i32 0)], .lit (.int .i64 0), .lit (.int .i32 0)]]

/-- 'ploverlaw05.FoldClass': WHATEVER THE INPUT: true; the input reads as it did. -/
def foldClassSpec : ChangeSpec := { name := "foldClass", fn := fun _ => fun
  | [d] => { results := [.lit (.bool true)], args := [d] }
  | _ => none }
def foldClassRow : OpenClaim := { program := "ytcdjoijgnglicaadoor", sum := "411256bc46a81fe017edeaec7939641145603171d1658bfa811461acc8221f9f", func := "plover/ploverlaw05.FoldClass", spec := "foldClass", named := ["plover/fold.moves", "plover/fold.high", "plover/fold.letters"], apart := false, laid := [("plover/fold.letters", laid_plover_fold_letters), ("plover/fold.high", laid_plover_fold_high), ("plover/fold.moves", laid_plover_fold_moves)] }
def FoldClassSaid : Prop := foldClassRow.holds Tryd.pinned (OpenSpec.ofChange foldClassSpec)

/-- ITS FALSE NEIGHBOUR: 'it returns false'. Refute it at one input. -/
def foldClassWrong : ChangeSpec := { name := "foldClass", fn := fun _ => fun
  | [d] => { results := [.lit (.bool false)], args := [d] }
  | _ => none }
def FoldClassWrongFalsely : Prop := foldClassRow.holds Tryd.pinned (OpenSpec.ofChange foldClassWrong)

/-- 'ploverlaw05.FoldFolds': WHATEVER THE INPUT: true; the input reads as it did. -/
def foldFoldsSpec : ChangeSpec := { name := "foldFolds", fn := fun _ => fun
  | [d] => { results := [.lit (.bool true)], args := [d] }
  | _ => none }
def foldFoldsRow : OpenClaim := { program := "ytcdjoijgnglicaadoor", sum := "411256bc46a81fe017edeaec7939641145603171d1658bfa811461acc8221f9f", func := "plover/ploverlaw05.FoldFolds", spec := "foldFolds", named := ["plover/fold.moves", "plover/fold.high", "plover/fold.letters"], apart := false, laid := [("plover/fold.letters", laid_plover_fold_letters), ("plover/fold.high", laid_plover_fold_high), ("plover/fold.moves", laid_plover_fold_moves)] }
def FoldFoldsSaid : Prop := foldFoldsRow.holds Tryd.pinned (OpenSpec.ofChange foldFoldsSpec)

/-- ITS FALSE NEIGHBOUR: 'it returns false'. Refute it at one input. -/
def foldFoldsWrong : ChangeSpec := { name := "foldFolds", fn := fun _ => fun
  | [d] => { results := [.lit (.bool false)], args := [d] }
  | _ => none }
def FoldFoldsWrongFalsely : Prop := foldFoldsRow.holds Tryd.pinned (OpenSpec.ofChange foldFoldsWrong)

/-- 'ploverlaw05.FoldOnce': WHATEVER THE INPUT: true; the input reads as it did. -/
def foldOnceSpec : ChangeSpec := { name := "foldOnce", fn := fun _ => fun
  | [d] => { results := [.lit (.bool true)], args := [d] }
  | _ => none }
def foldOnceRow : OpenClaim := { program := "ytcdjoijgnglicaadoor", sum := "411256bc46a81fe017edeaec7939641145603171d1658bfa811461acc8221f9f", func := "plover/ploverlaw05.FoldOnce", spec := "foldOnce", named := ["plover/fold.moves", "plover/fold.high", "plover/fold.letters"], apart := false, laid := [("plover/fold.letters", laid_plover_fold_letters), ("plover/fold.high", laid_plover_fold_high), ("plover/fold.moves", laid_plover_fold_moves)] }
def FoldOnceSaid : Prop := foldOnceRow.holds Tryd.pinned (OpenSpec.ofChange foldOnceSpec)

/-- ITS FALSE NEIGHBOUR: 'it returns false'. Refute it at one input. -/
def foldOnceWrong : ChangeSpec := { name := "foldOnce", fn := fun _ => fun
  | [d] => { results := [.lit (.bool false)], args := [d] }
  | _ => none }
def FoldOnceWrongFalsely : Prop := foldOnceRow.holds Tryd.pinned (OpenSpec.ofChange foldOnceWrong)

/-- 'ploverlaw05.FoldFew': WHATEVER THE INPUT: true; the input reads as it did. -/
def foldFewSpec : ChangeSpec := { name := "foldFew", fn := fun _ => fun
  | [d1, d2, d3, d4] => { results := [.lit (.bool true)], args := [d1, d2, d3, d4] }
  | _ => none }
def foldFewRow : OpenClaim := { program := "ytcdjoijgnglicaadoor", sum := "411256bc46a81fe017edeaec7939641145603171d1658bfa811461acc8221f9f", func := "plover/ploverlaw05.FoldFew", spec := "foldFew", named := ["plover/fold.moves", "plover/fold.high", "plover/fold.letters"], apart := false, laid := [("plover/fold.letters", laid_plover_fold_letters), ("plover/fold.high", laid_plover_fold_high), ("plover/fold.moves", laid_plover_fold_moves)] }
def FoldFewSaid : Prop := foldFewRow.holds Tryd.pinned (OpenSpec.ofChange foldFewSpec)

/-- ITS FALSE NEIGHBOUR: 'it returns false'. Refute it at one input. -/
def foldFewWrong : ChangeSpec := { name := "foldFew", fn := fun _ => fun
  | [d1, d2, d3, d4] => { results := [.lit (.bool false)], args := [d1, d2, d3, d4] }
  | _ => none }
def FoldFewWrongFalsely : Prop := foldFewRow.holds Tryd.pinned (OpenSpec.ofChange foldFewWrong)

/-- 'ploverlaw05.FoldPlain': WHATEVER THE INPUT: true; the input reads as it did. -/
def foldPlainSpec : ChangeSpec := { name := "foldPlain", fn := fun _ => fun
  | [d] => { results := [.lit (.bool true)], args := [d] }
  | _ => none }
def foldPlainRow : OpenClaim := { program := "ytcdjoijgnglicaadoor", sum := "411256bc46a81fe017edeaec7939641145603171d1658bfa811461acc8221f9f", func := "plover/ploverlaw05.FoldPlain", spec := "foldPlain", named := ["plover/fold.moves", "plover/fold.high", "plover/fold.letters"], apart := false, laid := [("plover/fold.letters", laid_plover_fold_letters), ("plover/fold.high", laid_plover_fold_high), ("plover/fold.moves", laid_plover_fold_moves)] }
def FoldPlainSaid : Prop := foldPlainRow.holds Tryd.pinned (OpenSpec.ofChange foldPlainSpec)

/-- ITS FALSE NEIGHBOUR: 'it returns false'. Refute it at one input. -/
def foldPlainWrong : ChangeSpec := { name := "foldPlain", fn := fun _ => fun
  | [d] => { results := [.lit (.bool false)], args := [d] }
  | _ => none }
def FoldPlainWrongFalsely : Prop := foldPlainRow.holds Tryd.pinned (OpenSpec.ofChange foldPlainWrong)

/- THE SECOND FORM. 'bulk': how many values and letters a reading holds, each counted each time it is reached (what is shared counts as often as it is met; a slice's spare places count too). A statement '..UptoSaid' is the law's where the arguments, and the package variables that the reading takes, are together of bulk at most 1048576: NARROWER than '..Said'. Prove '..Said' where nothing that the law and all that it calls make is longer than what came in: it says more and counts as full. Else prove '..UptoSaid'. A law counts once. -/
mutual
def uptoBulk {H : Type} : DataW H → Nat
  | .lit (.string bytes) => bytes.length + 1
  | .lit _ => 1
  | .nil => 1
  | .ptr d => uptoBulk d + 1
  | .slice elems spare => uptoBulkAll elems + uptoBulkAll spare + 1
  | .agg parts => uptoBulkAll parts + 1
  | .iface _ d => uptoBulk d + 1
  | .map entries => uptoBulkEntries entries + 1
  | .held _ => 1
def uptoBulkAll {H : Type} : List (DataW H) → Nat
  | [] => 0
  | d :: r => uptoBulk d + uptoBulkAll r
def uptoBulkEntries {H : Type} : List (Lit × DataW H) → Nat
  | [] => 0
  | x :: r => uptoBulkEntry x + uptoBulkEntries r
def uptoBulkEntry {H : Type} : Lit × DataW H → Nat
  | (.string bytes, d) => bytes.length + uptoBulk d + 1
  | (_, d) => uptoBulk d + 1
 end
def uptoSmall : (H : Type) → List (DataW H) → Bool := fun _ ds => decide (uptoBulkAll ds ≤ 1048576)
def OpenSpec.upto (s : _root_.Go.ChangeSpec) : _root_.Go.OpenSpec := { _root_.Go.OpenSpec.ofChange s with cond := some uptoSmall }

/-- 'ploverlaw05.FoldClass', WHERE WHAT IT READS IS OF BULK AT MOST 1048576: true; the input reads as it did. -/
def foldClassUptoRow : OpenClaim := { program := "ytcdjoijgnglicaadoor", sum := "411256bc46a81fe017edeaec7939641145603171d1658bfa811461acc8221f9f", func := "plover/ploverlaw05.FoldClass", spec := "foldClass", named := ["plover/fold.moves", "plover/fold.high", "plover/fold.letters"], apart := false, laid := [("plover/fold.letters", laid_plover_fold_letters), ("plover/fold.high", laid_plover_fold_high), ("plover/fold.moves", laid_plover_fold_moves)], narrowed := true }
def FoldClassUptoSaid : Prop := foldClassUptoRow.holds Tryd.pinned (OpenSpec.upto foldClassSpec)

/-- 'ploverlaw05.FoldFolds', WHERE WHAT IT READS IS OF BULK AT MOST 1048576: true; the input reads as it did. -/
def foldFoldsUptoRow : OpenClaim := { program := "ytcdjoijgnglicaadoor", sum := "411256bc46a81fe017edeaec7939641145603171d1658bfa811461acc8221f9f", func := "plover/ploverlaw05.FoldFolds", spec := "foldFolds", named := ["plover/fold.moves", "plover/fold.high", "plover/fold.letters"], apart := false, laid := [("plover/fold.letters", laid_plover_fold_letters), ("plover/fold.high", laid_plover_fold_high), ("plover/fold.moves", laid_plover_fold_moves)], narrowed := true }
def FoldFoldsUptoSaid : Prop := foldFoldsUptoRow.holds Tryd.pinned (OpenSpec.upto foldFoldsSpec)

/-- 'ploverlaw05.FoldOnce', WHERE WHAT IT READS IS OF BULK AT MOST 1048576: true; the input reads as it did. -/
def foldOnceUptoRow : OpenClaim := { program := "ytcdjoijgnglicaadoor", sum := "411256bc46a81fe017edeaec7939641145603171d1658bfa811461acc8221f9f", func := "plover/ploverlaw05.FoldOnce", spec := "foldOnce", named := ["plover/fold.moves", "plover/fold.high", "plover/fold.letters"], apart := false, laid := [("plover/fold.letters", laid_plover_fold_letters), ("plover/fold.high", laid_plover_fold_high), ("plover/fold.moves", laid_plover_fold_moves)], narrowed := true }
def FoldOnceUptoSaid : Prop := foldOnceUptoRow.holds Tryd.pinned (OpenSpec.upto foldOnceSpec)

/-- 'ploverlaw05.FoldFew', WHERE WHAT IT READS IS OF BULK AT MOST 1048576: true; the input reads as it did. -/
def foldFewUptoRow : OpenClaim := { program := "ytcdjoijgnglicaadoor", sum := "411256bc46a81fe017edeaec7939641145603171d1658bfa811461acc8221f9f", func := "plover/ploverlaw05.FoldFew", spec := "foldFew", named := ["plover/fold.moves", "plover/fold.high", "plover/fold.letters"], apart := false, laid := [("plover/fold.letters", laid_plover_fold_letters), ("plover/fold.high", laid_plover_fold_high), ("plover/fold.moves", laid_plover_fold_moves)], narrowed := true }
def FoldFewUptoSaid : Prop := foldFewUptoRow.holds Tryd.pinned (OpenSpec.upto foldFewSpec)

/-- 'ploverlaw05.FoldPlain', WHERE WHAT IT READS IS OF BULK AT MOST 1048576: true; the input reads as it did. -/
def foldPlainUptoRow : OpenClaim := { program := "ytcdjoijgnglicaadoor", sum := "411256bc46a81fe017edeaec7939641145603171d1658bfa811461acc8221f9f", func := "plover/ploverlaw05.FoldPlain", spec := "foldPlain", named := ["plover/fold.moves", "plover/fold.high", "plover/fold.letters"], apart := false, laid := [("plover/fold.letters", laid_plover_fold_letters), ("plover/fold.high", laid_plover_fold_high), ("plover/fold.moves", laid_plover_fold_moves)], narrowed := true }
def FoldPlainUptoSaid : Prop := foldPlainUptoRow.holds Tryd.pinned (OpenSpec.upto foldPlainSpec)

end Rows
end Go.Proofs.YtcdjoijgnglicaaDoor
