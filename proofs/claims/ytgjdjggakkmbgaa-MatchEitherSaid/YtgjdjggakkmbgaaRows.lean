/-
  NARROWER THAN 'FOR EVERY INPUT', by the rows' own cells (each row's printed sentence says how): MatchNots: loops · MatchEither: loops.
  DERIVED. THE GIVEN ROWS OF THIS SEAT. 5 by the template 'for every input the law returns true; each argument reads behind the call as it read before'; 0 by the template 'total and deterministic' (their statements: YtgjdjggakkmbgaaTotals.lean).
  GIVEN WITH THE SEED: the statements are not yours to turn. If you find one false, say at which input.
  Laid BY PROGRAM, IN A SANDBOX (cutbox-rows.mjs): the forced cells as the released guide's own fill.sh prints them over the translation 44532ca883c45777… (all of the seat's roots in one cut). By AI agents, Wed Nov 11 2026. No macro, syntax, notation, axiom, sorry.
-/
import Derived.Test.YtgjdjggakkmbgaaChecked
import GoSem.Claim
import GoSem.ClaimJoined
import GoSem.ClaimMapViews
import Derived.JoinedTies
import Derived.KernelRfl
namespace Go.Proofs.Ytgjdjggakkmbgaa
/- THE CELL 'sum', in the pinned program and in every row, IS THE sha256 OF THE DUMP (.gsa) THAT YtgjdjggakkmbgaaProg.lean LOADS. Nothing in Lean hashes anything: it is a label: what it is worth is what the hold of that sum in a sandbox is worth. -/
noncomputable def Try.pinned : Pinned := { name := "ytgjdjggakkmbgaa", sum := "44532ca883c457776e75f9437ebe6cd3113fbfbeeb012d646482cb6fec9303c7", checked := Try.checked }
namespace Rows
def none {H : Type} : Left H := { results := [], args := [] }

/-- 'ploverlaw18.MatchPhrases': WHATEVER THE INPUT: true; the input reads as it did. -/
def matchPhrasesSpec : ChangeSpec := { name := "matchPhrases", fn := fun _ => fun
  | [d1, d2] => { results := [.lit (.bool true)], args := [d1, d2] }
  | _ => none }
def matchPhrasesRow : OpenClaim := { program := "ytgjdjggakkmbgaa", sum := "44532ca883c457776e75f9437ebe6cd3113fbfbeeb012d646482cb6fec9303c7", func := "plover/ploverlaw18.MatchPhrases", spec := "matchPhrases", unfollowed := true, recurses := true, apart := false }
def MatchPhrasesSaid : Prop := matchPhrasesRow.holds Try.pinned (OpenSpec.ofChange matchPhrasesSpec)

/-- ITS FALSE NEIGHBOUR: 'it returns false'. Refute it at one input. -/
def matchPhrasesWrong : ChangeSpec := { name := "matchPhrases", fn := fun _ => fun
  | [d1, d2] => { results := [.lit (.bool false)], args := [d1, d2] }
  | _ => none }
def MatchPhrasesWrongFalsely : Prop := matchPhrasesRow.holds Try.pinned (OpenSpec.ofChange matchPhrasesWrong)

/-- 'ploverlaw18.MatchNots': WHATEVER THE INPUT: true; the input reads as it did. -/
def matchNotsSpec : ChangeSpec := { name := "matchNots", fn := fun _ => fun
  | [d1, d2, d3] => { results := [.lit (.bool true)], args := [d1, d2, d3] }
  | _ => none }
def matchNotsRow : OpenClaim := { program := "ytgjdjggakkmbgaa", sum := "44532ca883c457776e75f9437ebe6cd3113fbfbeeb012d646482cb6fec9303c7", func := "plover/ploverlaw18.MatchNots", spec := "matchNots", unfollowed := true, recurses := true, loops := true, apart := false }
def MatchNotsSaid : Prop := matchNotsRow.holds Try.pinned (OpenSpec.ofChange matchNotsSpec)

/-- ITS FALSE NEIGHBOUR: 'it returns false'. Refute it at one input. -/
def matchNotsWrong : ChangeSpec := { name := "matchNots", fn := fun _ => fun
  | [d1, d2, d3] => { results := [.lit (.bool false)], args := [d1, d2, d3] }
  | _ => none }
def MatchNotsWrongFalsely : Prop := matchNotsRow.holds Try.pinned (OpenSpec.ofChange matchNotsWrong)

/-- 'ploverlaw18.MatchEither': WHATEVER THE INPUT: true; the input reads as it did. -/
def matchEitherSpec : ChangeSpec := { name := "matchEither", fn := fun _ => fun
  | [d1, d2, d3] => { results := [.lit (.bool true)], args := [d1, d2, d3] }
  | _ => none }
def matchEitherRow : OpenClaim := { program := "ytgjdjggakkmbgaa", sum := "44532ca883c457776e75f9437ebe6cd3113fbfbeeb012d646482cb6fec9303c7", func := "plover/ploverlaw18.MatchEither", spec := "matchEither", unfollowed := true, recurses := true, loops := true, apart := false }
def MatchEitherSaid : Prop := matchEitherRow.holds Try.pinned (OpenSpec.ofChange matchEitherSpec)

/-- ITS FALSE NEIGHBOUR: 'it returns false'. Refute it at one input. -/
def matchEitherWrong : ChangeSpec := { name := "matchEither", fn := fun _ => fun
  | [d1, d2, d3] => { results := [.lit (.bool false)], args := [d1, d2, d3] }
  | _ => none }
def MatchEitherWrongFalsely : Prop := matchEitherRow.holds Try.pinned (OpenSpec.ofChange matchEitherWrong)

/-- 'ploverlaw18.MatchWords': WHATEVER THE INPUT: true; the input reads as it did. -/
def matchWordsSpec : ChangeSpec := { name := "matchWords", fn := fun _ => fun
  | [d1, d2] => { results := [.lit (.bool true)], args := [d1, d2] }
  | _ => none }
def matchWordsRow : OpenClaim := { program := "ytgjdjggakkmbgaa", sum := "44532ca883c457776e75f9437ebe6cd3113fbfbeeb012d646482cb6fec9303c7", func := "plover/ploverlaw18.MatchWords", spec := "matchWords", unfollowed := true, recurses := true, apart := false }
def MatchWordsSaid : Prop := matchWordsRow.holds Try.pinned (OpenSpec.ofChange matchWordsSpec)

/-- ITS FALSE NEIGHBOUR: 'it returns false'. Refute it at one input. -/
def matchWordsWrong : ChangeSpec := { name := "matchWords", fn := fun _ => fun
  | [d1, d2] => { results := [.lit (.bool false)], args := [d1, d2] }
  | _ => none }
def MatchWordsWrongFalsely : Prop := matchWordsRow.holds Try.pinned (OpenSpec.ofChange matchWordsWrong)

/-- 'ploverlaw18.MatchLeast': WHATEVER THE INPUT: true; the input reads as it did. -/
def matchLeastSpec : ChangeSpec := { name := "matchLeast", fn := fun _ => fun
  | [d1, d2] => { results := [.lit (.bool true)], args := [d1, d2] }
  | _ => none }
def matchLeastRow : OpenClaim := { program := "ytgjdjggakkmbgaa", sum := "44532ca883c457776e75f9437ebe6cd3113fbfbeeb012d646482cb6fec9303c7", func := "plover/ploverlaw18.MatchLeast", spec := "matchLeast", unfollowed := true, recurses := true, apart := false }
def MatchLeastSaid : Prop := matchLeastRow.holds Try.pinned (OpenSpec.ofChange matchLeastSpec)

/-- ITS FALSE NEIGHBOUR: 'it returns false'. Refute it at one input. -/
def matchLeastWrong : ChangeSpec := { name := "matchLeast", fn := fun _ => fun
  | [d1, d2] => { results := [.lit (.bool false)], args := [d1, d2] }
  | _ => none }
def MatchLeastWrongFalsely : Prop := matchLeastRow.holds Try.pinned (OpenSpec.ofChange matchLeastWrong)

/- THE SECOND FORM. 'bulk': how many values and letters a reading holds, each counted each time it is reached (what is shared counts as often as it is met; a slice's spare places count too). A statement '..UptoSaid' is the law's where the arguments, and the package variables that the reading takes, are together of bulk at most 1048576: NARROWER than '..Said'. Prove '..Said' where nothing that the law and all that it calls make is longer than what came in: it says more and counts as full. Else prove '..UptoSaid'. A law counts once. -/
mutual
def uptoBulk {H : Type} : DataW H → Nat
  | .lit (.string bytes) => bytes.length + 1
  | .lit _ => 1
  | .nil => 1
  | .ptr d => uptoBulk d + 1
  | .slice elems spare => uptoBulkAll elems + uptoBulkAll spare + 1
  | .agg parts => uptoBulkAll parts + 1
  | .iface _ d => uptoBulk d + 1
  | .map entries => uptoBulkEntries entries + 1
  | .held _ => 1
def uptoBulkAll {H : Type} : List (DataW H) → Nat
  | [] => 0
  | d :: r => uptoBulk d + uptoBulkAll r
def uptoBulkEntries {H : Type} : List (Lit × DataW H) → Nat
  | [] => 0
  | x :: r => uptoBulkEntry x + uptoBulkEntries r
def uptoBulkEntry {H : Type} : Lit × DataW H → Nat
  | (.string bytes, d) => bytes.length + uptoBulk d + 1
  | (_, d) => uptoBulk d + 1
 end
def uptoSmall : (H : Type) → List (DataW H) → Bool := fun _ ds => decide (uptoBulkAll ds ≤ 1048576)
def OpenSpec.upto (s : _root_.Go.ChangeSpec) : _root_.Go.OpenSpec := { _root_.Go.OpenSpec.ofChange s with cond := some uptoSmall }

/-- 'ploverlaw18.MatchPhrases', WHERE WHAT IT READS IS OF BULK AT MOST 1048576: true; the input reads as it did. -/
def matchPhrasesUptoRow : OpenClaim := { program := "ytgjdjggakkmbgaa", sum := "44532ca883c457776e75f9437ebe6cd3113fbfbeeb012d646482cb6fec9303c7", func := "plover/ploverlaw18.MatchPhrases", spec := "matchPhrases", unfollowed := true, recurses := true, apart := false, narrowed := true }
def MatchPhrasesUptoSaid : Prop := matchPhrasesUptoRow.holds Try.pinned (OpenSpec.upto matchPhrasesSpec)

/-- 'ploverlaw18.MatchNots', WHERE WHAT IT READS IS OF BULK AT MOST 1048576: true; the input reads as it did. -/
def matchNotsUptoRow : OpenClaim := { program := "ytgjdjggakkmbgaa", sum := "44532ca883c457776e75f9437ebe6cd3113fbfbeeb012d646482cb6fec9303c7", func := "plover/ploverlaw18.MatchNots", spec := "matchNots", unfollowed := true, recurses := true, loops := true, apart := false, narrowed := true }
def MatchNotsUptoSaid : Prop := matchNotsUptoRow.holds Try.pinned (OpenSpec.upto matchNotsSpec)

/-- 'ploverlaw18.MatchEither', WHERE WHAT IT READS IS OF BULK AT MOST 1048576: true; the input reads as it did. -/
def matchEitherUptoRow : OpenClaim := { program := "ytgjdjggakkmbgaa", sum := "44532ca883c457776e75f9437ebe6cd3113fbfbeeb012d646482cb6fec9303c7", func := "plover/ploverlaw18.MatchEither", spec := "matchEither", unfollowed := true, recurses := true, loops := true, apart := false, narrowed := true }
def MatchEitherUptoSaid : Prop := matchEitherUptoRow.holds Try.pinned (OpenSpec.upto matchEitherSpec)

/-- 'ploverlaw18.MatchWords', WHERE WHAT IT READS IS OF BULK AT MOST 1048576: true; the input reads as it did. -/
def matchWordsUptoRow : OpenClaim := { program := "ytgjdjggakkmbgaa", sum := "44532ca883c457776e75f9437ebe6cd3113fbfbeeb012d646482cb6fec9303c7", func := "plover/ploverlaw18.MatchWords", spec := "matchWords", unfollowed := true, recurses := true, apart := false, narrowed := true }
def MatchWordsUptoSaid : Prop := matchWordsUptoRow.holds Try.pinned (OpenSpec.upto matchWordsSpec)

/-- 'ploverlaw18.MatchLeast', WHERE WHAT IT READS IS OF BULK AT MOST 1048576: true; the input reads as it did. -/
def matchLeastUptoRow : OpenClaim := { program := "ytgjdjggakkmbgaa", sum := "44532ca883c457776e75f9437ebe6cd3113fbfbeeb012d646482cb6fec9303c7", func := "plover/ploverlaw18.MatchLeast", spec := "matchLeast", unfollowed := true, recurses := true, apart := false, narrowed := true }
def MatchLeastUptoSaid : Prop := matchLeastUptoRow.holds Try.pinned (OpenSpec.upto matchLeastSpec)

end Rows
end Go.Proofs.Ytgjdjggakkmbgaa
