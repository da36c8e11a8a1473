/-
  NARROWER THAN 'FOR EVERY INPUT', by the rows' own cells (each row's printed sentence says how): TokenWords: laid · TokenDocs: laid · TokenMany: laid · TokenCase: laid · TokenBehind: laid · TokenTerms: laid.
  DERIVED. THE GIVEN ROWS OF THIS SEAT. 6 by the template 'for every input the law returns true; each argument reads behind the call as it read before'; 0 by the template 'total and deterministic' (their statements: YtmofhpebcbpccaaDoorTotals.lean).
  GIVEN WITH THE SEED: the statements are not yours to turn. If you find one false, say at which input.
  Laid BY PROGRAM, IN A SANDBOX (cutbox-rows.mjs): the forced cells as the released guide's own fill.sh prints them over the translation 7c369b4ff9f0e184… (all of the seat's roots in one cut). By AI agents, Wed Nov 11 2026. No macro, syntax, notation, axiom, sorry.
-/
import Derived.Test.YtmofhpebcbpccaaDoorChecked
import GoSem.Claim
import GoSem.ClaimJoined
import GoSem.ClaimMapViews
import Derived.JoinedTies
import Derived.KernelRfl
namespace Go.Proofs.YtmofhpebcbpccaaDoor
/- THE CELL 'sum', in the pinned program and in every row, IS THE sha256 OF THE DUMP (.gsa) THAT YtmofhpebcbpccaaDoorProg.lean LOADS. Nothing in Lean hashes anything: it is a label: what it is worth is what the hold of that sum in a sandbox is worth. -/
noncomputable def Tryd.pinned : Pinned := { name := "ytmofhpebcbpccaadoor", sum := "7c369b4ff9f0e184b012448376611a158212238d896248ec7886b356cf04af7f", checked := Tryd.checked }
namespace Rows
def none {H : Type} : Left H := { results := [], args := [] }

/- WHAT THE LISTED PACKAGE-LEVEL VARIABLES READ AS WHEN THE CALL BEGINS. Each datum BY PROGRAM (the guide's laid-datum.mjs) off the statement by which the dump's own 'gosem.cut.vars' lays the variable. In a bare row this is a premise. The card (YtmofhpebcbpccaaDoorCards.lean) ties it to the program's text. -/
def laid_plover_fold_letters {H : Type} : DataW H := .agg [.agg [.lit (.int .i32 65), .lit (.int .i32 90)], .agg [.lit (.int .i32 97), .lit (.int .i32 122)], .agg [.lit (.int .i32 192), .lit (.int .i32 214)], .agg [.lit (.int .i32 216), .lit (.int .i32 246)], .agg [.lit (.int .i32 248), .lit (.int .i32 591)], .agg [.lit (.int .i32 902), .lit (.int .i32 902)], .agg [.lit (.int .i32 904), .lit (.int .i32 906)], .agg [.lit (.int .i32 908), .lit (.int .i32 908)], .agg [.lit (.int .i32 910), .lit (.int .i32 929)], .agg [.lit (.int .i32 931), .lit (.int .i32 974)], .agg [.lit (.int .i32 1024), .lit (.int .i32 1153)], .agg [.lit (.int .i32 1162), .lit (.int .i32 1327)], .agg [.lit (.int .i32 1488), .lit (.int .i32 1514)]]
def laid_plover_fold_high {H : Type} : DataW H := .agg [.agg [.lit (.int .i32 19968), .lit (.int .i32 40959)], .agg [.lit (.int .i32 44032), .lit (.int .i32 55203)]]
def laid_plover_fold_moves {H : Type} : DataW H := .agg [.agg [.agg [.lit (.int .i32 65), .lit (.int .i32 90)], .lit (.int .i64 1), .lit (.int .i32 32)], .agg [.agg [.lit (.int .i32 192), .lit (.int .i32 214)], .lit (.int .i64 1), .lit (.int .i32 32)], .agg [.agg [.lit (.int .i32 216), .lit (.int .i32 222)], .lit (.int .i64 1), .lit (.int .i32 32)], .agg [.agg [.lit (.int .i32 256), .lit (.int .i32 311)], .lit (.int .i64 2), .lit (.int .i32 1)], .agg [.agg [.lit (.int .i32 313), .lit (.int .i32 328)], .lit (.int .i64 3), .lit (.int .i32 1)], .agg [.agg [.lit (.int .i32 330), .lit (.int .i32 375)], .lit (.int .i64 2), .lit (.int .i32 1)], .agg [.agg [.lit (.int .i32 376), .lit (.int .i32 376)], .lit (.int .i64 1), .lit (.int .i32 (-121))], .agg [.agg [.lit (.int .i32 377), .lit (.int .i32 382)], .lit (.int .i64 3), .lit (.int .i32 1)], .agg [.agg [.lit (.int .i32 383), .lit (.int .i32 383)], .lit (.int .i64 1), .lit (.int .i32 (-268))], .agg [.agg [.lit (.int .i32 902), .lit (.int .i32 902)], .lit (.int .i64 1), .lit (.int .i32 38)], .agg [.agg [.lit (.int .i32 904), .lit (.int .i32 906)], .lit (.int .i64 1), .lit (.int .i32 37)], .agg [.agg [.lit (.int .i32 908), .lit (.int .i32 908)], .lit (.int .i64 1), .lit (.int .i32 64)], .agg [.agg [.lit (.int .i32 910), .lit (.int .i32 911)], .lit (.int .i64 1), .lit (.int .i32 63)], .agg [.agg [.lit (.int .i32 913), .lit (.int .i32 929)], .lit (.int .i64 1), .lit (.int .i32 32)], .agg [.agg [.lit (.int .i32 931), .lit (.int .i32 939)], .lit (.int .i64 1), .lit (.int .i32 32)], .agg [.agg [.lit (.int .i32 962), .lit (.int .i32 962)], .lit (.int .i64 1), .lit (.int .i32 1)], .agg [.agg [.lit (.int .i32 1024), .lit (.int .i32 1039)], .lit (.int .i64 1), .lit (.int .i32 80)], .agg [.agg [.lit (.int .i32 1040), .lit (.int .i32 1071)], .lit (.int .i64 1), .lit (.int .i32 32)], .agg [.agg [.lit (.int .i32 1120), .lit (.int .i32 1153)], .lit (.int .i64 2), .lit (.int .i32 1)], .agg [.agg [.lit (.int .i32 1162), .lit (.int .i32 1215)], .lit (.int .i64 2), .lit (.int .i32 1)], .agg [.agg [.lit (.int .i32 1232), .lit (.int .i32 1327)], .lit (.int .i64 2), .lit (.int .i32 1)], .agg [.agg [.lit (.int .i32 1632), .lit (.int .i32 1641)], .lit (.int .i64 1), .lit (.int .i32 (-1584))], .agg [.agg [.lit (.int .i32 0), .lit (.int .i32 0)], .lit (.int .i64 0), .lit (.int .i32 0)], .agg [.agg [.lit (.int .i32 0), .lit (.int .i32 0)], .lit (.int .i64 0), .lit (.int .i32 0)]]

/-- 'ploverlaw06.TokenWords': WHATEVER THE INPUT: true; the input reads as it did. -/
def tokenWordsSpec : ChangeSpec := { name := "tokenWords", fn := fun _ => fun
  | [d] => { results := [.lit (.bool true)], args := [d] }
  | _ => none }
def tokenWordsRow : OpenClaim := { program := "ytmofhpebcbpccaadoor", sum := "7c369b4ff9f0e184b012448376611a158212238d896248ec7886b356cf04af7f", func := "plover/ploverlaw06.TokenWords", spec := "tokenWords", named := ["plover/fold.high", "plover/fold.letters", "plover/fold.moves"], apart := false, laid := [("plover/fold.letters", laid_plover_fold_letters), ("plover/fold.high", laid_plover_fold_high), ("plover/fold.moves", laid_plover_fold_moves)] }
def TokenWordsSaid : Prop := tokenWordsRow.holds Tryd.pinned (OpenSpec.ofChange tokenWordsSpec)

/-- ITS FALSE NEIGHBOUR: 'it returns false'. Refute it at one input. -/
def tokenWordsWrong : ChangeSpec := { name := "tokenWords", fn := fun _ => fun
  | [d] => { results := [.lit (.bool false)], args := [d] }
  | _ => none }
def TokenWordsWrongFalsely : Prop := tokenWordsRow.holds Tryd.pinned (OpenSpec.ofChange tokenWordsWrong)

/-- 'ploverlaw06.TokenDocs': WHATEVER THE INPUT: true; the input reads as it did. -/
def tokenDocsSpec : ChangeSpec := { name := "tokenDocs", fn := fun _ => fun
  | [d] => { results := [.lit (.bool true)], args := [d] }
  | _ => none }
def tokenDocsRow : OpenClaim := { program := "ytmofhpebcbpccaadoor", sum := "7c369b4ff9f0e184b012448376611a158212238d896248ec7886b356cf04af7f", func := "plover/ploverlaw06.TokenDocs", spec := "tokenDocs", named := ["plover/fold.high", "plover/fold.letters", "plover/fold.moves"], apart := false, laid := [("plover/fold.letters", laid_plover_fold_letters), ("plover/fold.high", laid_plover_fold_high), ("plover/fold.moves", laid_plover_fold_moves)] }
def TokenDocsSaid : Prop := tokenDocsRow.holds Tryd.pinned (OpenSpec.ofChange tokenDocsSpec)

/-- ITS FALSE NEIGHBOUR: 'it returns false'. Refute it at one input. -/
def tokenDocsWrong : ChangeSpec := { name := "tokenDocs", fn := fun _ => fun
  | [d] => { results := [.lit (.bool false)], args := [d] }
  | _ => none }
def TokenDocsWrongFalsely : Prop := tokenDocsRow.holds Tryd.pinned (OpenSpec.ofChange tokenDocsWrong)

/-- 'ploverlaw06.TokenMany': WHATEVER THE INPUT: true; the input reads as it did. -/
def tokenManySpec : ChangeSpec := { name := "tokenMany", fn := fun _ => fun
  | [d1, d2] => { results := [.lit (.bool true)], args := [d1, d2] }
  | _ => none }
def tokenManyRow : OpenClaim := { program := "ytmofhpebcbpccaadoor", sum := "7c369b4ff9f0e184b012448376611a158212238d896248ec7886b356cf04af7f", func := "plover/ploverlaw06.TokenMany", spec := "tokenMany", named := ["plover/fold.high", "plover/fold.letters", "plover/fold.moves"], apart := false, laid := [("plover/fold.letters", laid_plover_fold_letters), ("plover/fold.high", laid_plover_fold_high), ("plover/fold.moves", laid_plover_fold_moves)] }
def TokenManySaid : Prop := tokenManyRow.holds Tryd.pinned (OpenSpec.ofChange tokenManySpec)

/-- ITS FALSE NEIGHBOUR: 'it returns false'. Refute it at one input. -/
def tokenManyWrong : ChangeSpec := { name := "tokenMany", fn := fun _ => fun
  | [d1, d2] => { results := [.lit (.bool false)], args := [d1, d2] }
  | _ => none }
def TokenManyWrongFalsely : Prop := tokenManyRow.holds Tryd.pinned (OpenSpec.ofChange tokenManyWrong)

/-- 'ploverlaw06.TokenCase': WHATEVER THE INPUT: true; the input reads as it did. -/
def tokenCaseSpec : ChangeSpec := { name := "tokenCase", fn := fun _ => fun
  | [d] => { results := [.lit (.bool true)], args := [d] }
  | _ => none }
def tokenCaseRow : OpenClaim := { program := "ytmofhpebcbpccaadoor", sum := "7c369b4ff9f0e184b012448376611a158212238d896248ec7886b356cf04af7f", func := "plover/ploverlaw06.TokenCase", spec := "tokenCase", named := ["plover/fold.high", "plover/fold.letters", "plover/fold.moves"], apart := false, laid := [("plover/fold.letters", laid_plover_fold_letters), ("plover/fold.high", laid_plover_fold_high), ("plover/fold.moves", laid_plover_fold_moves)] }
def TokenCaseSaid : Prop := tokenCaseRow.holds Tryd.pinned (OpenSpec.ofChange tokenCaseSpec)

/-- ITS FALSE NEIGHBOUR: 'it returns false'. Refute it at one input. -/
def tokenCaseWrong : ChangeSpec := { name := "tokenCase", fn := fun _ => fun
  | [d] => { results := [.lit (.bool false)], args := [d] }
  | _ => none }
def TokenCaseWrongFalsely : Prop := tokenCaseRow.holds Tryd.pinned (OpenSpec.ofChange tokenCaseWrong)

/-- 'ploverlaw06.TokenBehind': WHATEVER THE INPUT: true; the input reads as it did. -/
def tokenBehindSpec : ChangeSpec := { name := "tokenBehind", fn := fun _ => fun
  | [d1, d2] => { results := [.lit (.bool true)], args := [d1, d2] }
  | _ => none }
def tokenBehindRow : OpenClaim := { program := "ytmofhpebcbpccaadoor", sum := "7c369b4ff9f0e184b012448376611a158212238d896248ec7886b356cf04af7f", func := "plover/ploverlaw06.TokenBehind", spec := "tokenBehind", named := ["plover/fold.high", "plover/fold.letters", "plover/fold.moves"], apart := false, laid := [("plover/fold.letters", laid_plover_fold_letters), ("plover/fold.high", laid_plover_fold_high), ("plover/fold.moves", laid_plover_fold_moves)] }
def TokenBehindSaid : Prop := tokenBehindRow.holds Tryd.pinned (OpenSpec.ofChange tokenBehindSpec)

/-- ITS FALSE NEIGHBOUR: 'it returns false'. Refute it at one input. -/
def tokenBehindWrong : ChangeSpec := { name := "tokenBehind", fn := fun _ => fun
  | [d1, d2] => { results := [.lit (.bool false)], args := [d1, d2] }
  | _ => none }
def TokenBehindWrongFalsely : Prop := tokenBehindRow.holds Tryd.pinned (OpenSpec.ofChange tokenBehindWrong)

/-- 'ploverlaw06.TokenTerms': WHATEVER THE INPUT: true; the input reads as it did. -/
def tokenTermsSpec : ChangeSpec := { name := "tokenTerms", fn := fun _ => fun
  | [d] => { results := [.lit (.bool true)], args := [d] }
  | _ => none }
def tokenTermsRow : OpenClaim := { program := "ytmofhpebcbpccaadoor", sum := "7c369b4ff9f0e184b012448376611a158212238d896248ec7886b356cf04af7f", func := "plover/ploverlaw06.TokenTerms", spec := "tokenTerms", named := ["plover/fold.high", "plover/fold.letters", "plover/fold.moves"], apart := false, laid := [("plover/fold.letters", laid_plover_fold_letters), ("plover/fold.high", laid_plover_fold_high), ("plover/fold.moves", laid_plover_fold_moves)] }
def TokenTermsSaid : Prop := tokenTermsRow.holds Tryd.pinned (OpenSpec.ofChange tokenTermsSpec)

/-- ITS FALSE NEIGHBOUR: 'it returns false'. Refute it at one input. -/
def tokenTermsWrong : ChangeSpec := { name := "tokenTerms", fn := fun _ => fun
  | [d] => { results := [.lit (.bool false)], args := [d] }
  | _ => none }
def TokenTermsWrongFalsely : Prop := tokenTermsRow.holds Tryd.pinned (OpenSpec.ofChange tokenTermsWrong)

/- THE SECOND FORM. 'bulk': how many values and letters a reading holds, each counted each time it is reached (what is shared counts as often as it is met; a slice's spare places count too). A statement '..UptoSaid' is the law's where the arguments, and the package variables that the reading takes, are together of bulk at most 1048576: NARROWER than '..Said'. Prove '..Said' where nothing that the law and all that it calls make is longer than what came in: it says more and counts as full. Else prove '..UptoSaid'. A law counts once. -/
mutual
def uptoBulk {H : Type} : DataW H → Nat
  | .lit (.string bytes) => bytes.length + 1
  | .lit _ => 1
  | .nil => 1
  | .ptr d => uptoBulk d + 1
  | .slice elems spare => uptoBulkAll elems + uptoBulkAll spare + 1
  | .agg parts => uptoBulkAll parts + 1
  | .iface _ d => uptoBulk d + 1
  | .map entries => uptoBulkEntries entries + 1
  | .held _ => 1
def uptoBulkAll {H : Type} : List (DataW H) → Nat
  | [] => 0
  | d :: r => uptoBulk d + uptoBulkAll r
def uptoBulkEntries {H : Type} : List (Lit × DataW H) → Nat
  | [] => 0
  | x :: r => uptoBulkEntry x + uptoBulkEntries r
def uptoBulkEntry {H : Type} : Lit × DataW H → Nat
  | (.string bytes, d) => bytes.length + uptoBulk d + 1
  | (_, d) => uptoBulk d + 1
 end
def uptoSmall : (H : Type) → List (DataW H) → Bool := fun _ ds => decide (uptoBulkAll ds ≤ 1048576)
def OpenSpec.upto (s : _root_.Go.ChangeSpec) : _root_.Go.OpenSpec := { _root_.Go.OpenSpec.ofChange s with cond := some uptoSmall }

/-- 'ploverlaw06.TokenWords', WHERE WHAT IT READS IS OF BULK AT MOST 1048576: true; the input reads as it did. -/
def tokenWordsUptoRow : OpenClaim := { program := "ytmofhpebcbpccaadoor", sum := "7c369b4ff9f0e184b012448376611a158212238d896248ec7886b356cf04af7f", func := "plover/ploverlaw06.TokenWords", spec := "tokenWords", named := ["plover/fold.high", "plover/fold.letters", "plover/fold.moves"], apart := false, laid := [("plover/fold.letters", laid_plover_fold_letters), ("plover/fold.high", laid_plover_fold_high), ("plover/fold.moves", laid_plover_fold_moves)], narrowed := true }
def TokenWordsUptoSaid : Prop := tokenWordsUptoRow.holds Tryd.pinned (OpenSpec.upto tokenWordsSpec)

/-- 'ploverlaw06.TokenDocs', WHERE WHAT IT READS IS OF BULK AT MOST 1048576: true; the input reads as it did. -/
def tokenDocsUptoRow : OpenClaim := { program := "ytmofhpebcbpccaadoor", sum := "7c369b4ff9f0e184b012448376611a158212238d896248ec7886b356cf04af7f", func := "plover/ploverlaw06.TokenDocs", spec := "tokenDocs", named := ["plover/fold.high", "plover/fold.letters", "plover/fold.moves"], apart := false, laid := [("plover/fold.letters", laid_plover_fold_letters), ("plover/fold.high", laid_plover_fold_high), ("plover/fold.moves", laid_plover_fold_moves)], narrowed := true }
def TokenDocsUptoSaid : Prop := tokenDocsUptoRow.holds Tryd.pinned (OpenSpec.upto tokenDocsSpec)

/-- 'ploverlaw06.TokenMany', WHERE WHAT IT READS IS OF BULK AT MOST 1048576: true; the input reads as it did. -/
def tokenManyUptoRow : OpenClaim := { program := "ytmofhpebcbpccaadoor", sum := "7c369b4ff9f0e184b012448376611a158212238d896248ec7886b356cf04af7f", func := "plover/ploverlaw06.TokenMany", spec := "tokenMany", named := ["plover/fold.high", "plover/fold.letters", "plover/fold.moves"], apart := false, laid := [("plover/fold.letters", laid_plover_fold_letters), ("plover/fold.high", laid_plover_fold_high), ("plover/fold.moves", laid_plover_fold_moves)], narrowed := true }
def TokenManyUptoSaid : Prop := tokenManyUptoRow.holds Tryd.pinned (OpenSpec.upto tokenManySpec)

/-- 'ploverlaw06.TokenCase', WHERE WHAT IT READS IS OF BULK AT MOST 1048576: true; the input reads as it did. -/
def tokenCaseUptoRow : OpenClaim := { program := "ytmofhpebcbpccaadoor", sum := "7c369b4ff9f0e184b012448376611a158212238d896248ec7886b356cf04af7f", func := "plover/ploverlaw06.TokenCase", spec := "tokenCase", named := ["plover/fold.high", "plover/fold.letters", "plover/fold.moves"], apart := false, laid := [("plover/fold.letters", laid_plover_fold_letters), ("plover/fold.high", laid_plover_fold_high), ("plover/fold.moves", laid_plover_fold_moves)], narrowed := true }
def TokenCaseUptoSaid : Prop := tokenCaseUptoRow.holds Tryd.pinned (OpenSpec.upto tokenCaseSpec)

/-- 'ploverlaw06.TokenBehind', WHERE WHAT IT READS IS OF BULK AT MOST 1048576: true; the input reads as it did. -/
def tokenBehindUptoRow : OpenClaim := { program := "ytmofhpebcbpccaadoor", sum := "7c369b4ff9f0e184b012448376611a158212238d896248ec7886b356cf04af7f", func := "plover/ploverlaw06.TokenBehind", spec := "tokenBehind", named := ["plover/fold.high", "plover/fold.letters", "plover/fold.moves"], apart := false, laid := [("plover/fold.letters", laid_plover_fold_letters), ("plover/fold.high", laid_plover_fold_high), ("plover/fold.moves", laid_plover_fold_moves)], narrowed := true }
def TokenBehindUptoSaid : Prop := tokenBehindUptoRow.holds Tryd.pinned (OpenSpec.upto tokenBehindSpec)

/-- 'ploverlaw06.TokenTerms', WHERE WHAT IT READS IS OF BULK AT MOST 1048576: true; the input reads as it did. -/
def tokenTermsUptoRow : OpenClaim := { program := "ytmofhpebcbpccaadoor", sum := "7c369b4ff9f0e184b012448376611a158212238d896248ec7886b356cf04af7f", func := "plover/ploverlaw06.TokenTerms", spec := "tokenTerms", named := ["plover/fold.high", "plover/fold.letters", "plover/fold.moves"], apart := false, laid := [("plover/fold.letters", laid_plover_fold_letters), ("plover/fold.high", laid_plover_fold_high), ("plover/fold.moves", laid_plover_fold_moves)], narrowed := true }
def TokenTermsUptoSaid : Prop := tokenTermsUptoRow.holds Tryd.pinned (OpenSpec.upto tokenTermsSpec)

end Rows
end Go.Proofs.YtmofhpebcbpccaaDoor
