/-
  No cell of these rows narrows 'for every input' (looked for: loops, veiled, ifaces, maps, wideKeys, modest, calm, conditions, laid).
  DERIVED. THE GIVEN ROWS OF THIS SEAT. 5 by the template 'for every input the law returns true; each argument reads behind the call as it read before'; 0 by the template 'total and deterministic' (their statements: YtdkbiimhdbnplaaTotals.lean).
  GIVEN WITH THE SEED: the statements are not yours to turn. If you find one false, say at which input.
  Laid BY PROGRAM, IN A SANDBOX (cutbox-rows.mjs): the forced cells as the released guide's own fill.sh prints them over the translation ecd8440dd1852afd… (all of the seat's roots in one cut). By AI agents, Wed Nov 11 2026. No macro, syntax, notation, axiom, sorry.
-/
import Derived.Test.YtdkbiimhdbnplaaChecked
import GoSem.Claim
import GoSem.ClaimJoined
import GoSem.ClaimMapViews
import Derived.JoinedTies
import Derived.KernelRfl
namespace Go.Proofs.Ytdkbiimhdbnplaa
/- THE CELL 'sum', in the pinned program and in every row, IS THE sha256 OF THE DUMP (.gsa) THAT YtdkbiimhdbnplaaProg.lean LOADS. Nothing in Lean hashes anything: it is a label: what it is worth is what the hold of that sum in a sandbox is worth. -/
noncomputable def Try.pinned : Pinned := { name := "ytdkbiimhdbnplaa", sum := "ecd8440dd1852afd8cce88c9972b10a924db41202daa4377b0e6d648f9754699", checked := Try.checked }
namespace Rows
def none {H : Type} : Left H := { results := [], args := [] }

/-- 'ploverlaw20.RankBest': WHATEVER THE INPUT: true; the input reads as it did. -/
def rankBestSpec : ChangeSpec := { name := "rankBest", fn := fun _ => fun
  | [d1, d2, d3] => { results := [.lit (.bool true)], args := [d1, d2, d3] }
  | _ => none }
def rankBestRow : OpenClaim := { program := "ytdkbiimhdbnplaa", sum := "ecd8440dd1852afd8cce88c9972b10a924db41202daa4377b0e6d648f9754699", func := "plover/ploverlaw20.RankBest", spec := "rankBest", inPlace := ["math.Float64frombits", "slices.overlaps[plover/api.Scored]"], apart := false }
def RankBestSaid : Prop := rankBestRow.holds Try.pinned (OpenSpec.ofChange rankBestSpec)

/-- ITS FALSE NEIGHBOUR: 'it returns false'. Refute it at one input. -/
def rankBestWrong : ChangeSpec := { name := "rankBest", fn := fun _ => fun
  | [d1, d2, d3] => { results := [.lit (.bool false)], args := [d1, d2, d3] }
  | _ => none }
def RankBestWrongFalsely : Prop := rankBestRow.holds Try.pinned (OpenSpec.ofChange rankBestWrong)

/-- 'ploverlaw20.RankBetter': WHATEVER THE INPUT: true; the input reads as it did. -/
def rankBetterSpec : ChangeSpec := { name := "rankBetter", fn := fun _ => fun
  | [d1, d2, d3] => { results := [.lit (.bool true)], args := [d1, d2, d3] }
  | _ => none }
def rankBetterRow : OpenClaim := { program := "ytdkbiimhdbnplaa", sum := "ecd8440dd1852afd8cce88c9972b10a924db41202daa4377b0e6d648f9754699", func := "plover/ploverlaw20.RankBetter", spec := "rankBetter", inPlace := ["math.Float64frombits", "slices.overlaps[plover/api.Scored]", "math.Float64bits"], apart := false }
def RankBetterSaid : Prop := rankBetterRow.holds Try.pinned (OpenSpec.ofChange rankBetterSpec)

/-- ITS FALSE NEIGHBOUR: 'it returns false'. Refute it at one input. -/
def rankBetterWrong : ChangeSpec := { name := "rankBetter", fn := fun _ => fun
  | [d1, d2, d3] => { results := [.lit (.bool false)], args := [d1, d2, d3] }
  | _ => none }
def RankBetterWrongFalsely : Prop := rankBetterRow.holds Try.pinned (OpenSpec.ofChange rankBetterWrong)

/-- 'ploverlaw20.RankTops': WHATEVER THE INPUT: true; the input reads as it did. -/
def rankTopsSpec : ChangeSpec := { name := "rankTops", fn := fun _ => fun
  | [d1, d2, d3] => { results := [.lit (.bool true)], args := [d1, d2, d3] }
  | _ => none }
def rankTopsRow : OpenClaim := { program := "ytdkbiimhdbnplaa", sum := "ecd8440dd1852afd8cce88c9972b10a924db41202daa4377b0e6d648f9754699", func := "plover/ploverlaw20.RankTops", spec := "rankTops", inPlace := ["math.Float64frombits", "slices.overlaps[plover/api.Scored]", "math.Float64bits"], apart := false }
def RankTopsSaid : Prop := rankTopsRow.holds Try.pinned (OpenSpec.ofChange rankTopsSpec)

/-- ITS FALSE NEIGHBOUR: 'it returns false'. Refute it at one input. -/
def rankTopsWrong : ChangeSpec := { name := "rankTops", fn := fun _ => fun
  | [d1, d2, d3] => { results := [.lit (.bool false)], args := [d1, d2, d3] }
  | _ => none }
def RankTopsWrongFalsely : Prop := rankTopsRow.holds Try.pinned (OpenSpec.ofChange rankTopsWrong)

/-- 'ploverlaw20.RankLimits': WHATEVER THE INPUT: true; the input reads as it did. -/
def rankLimitsSpec : ChangeSpec := { name := "rankLimits", fn := fun _ => fun
  | [d1, d2, d3, d4] => { results := [.lit (.bool true)], args := [d1, d2, d3, d4] }
  | _ => none }
def rankLimitsRow : OpenClaim := { program := "ytdkbiimhdbnplaa", sum := "ecd8440dd1852afd8cce88c9972b10a924db41202daa4377b0e6d648f9754699", func := "plover/ploverlaw20.RankLimits", spec := "rankLimits", inPlace := ["math.Float64frombits", "slices.overlaps[plover/api.Scored]", "math.Float64bits"], apart := false }
def RankLimitsSaid : Prop := rankLimitsRow.holds Try.pinned (OpenSpec.ofChange rankLimitsSpec)

/-- ITS FALSE NEIGHBOUR: 'it returns false'. Refute it at one input. -/
def rankLimitsWrong : ChangeSpec := { name := "rankLimits", fn := fun _ => fun
  | [d1, d2, d3, d4] => { results := [.lit (.bool false)], args := [d1, d2, d3, d4] }
  | _ => none }
def RankLimitsWrongFalsely : Prop := rankLimitsRow.holds Try.pinned (OpenSpec.ofChange rankLimitsWrong)

/-- 'ploverlaw20.RankTurned': WHATEVER THE INPUT: true; the input reads as it did. -/
def rankTurnedSpec : ChangeSpec := { name := "rankTurned", fn := fun _ => fun
  | [d1, d2, d3, d4] => { results := [.lit (.bool true)], args := [d1, d2, d3, d4] }
  | _ => none }
def rankTurnedRow : OpenClaim := { program := "ytdkbiimhdbnplaa", sum := "ecd8440dd1852afd8cce88c9972b10a924db41202daa4377b0e6d648f9754699", func := "plover/ploverlaw20.RankTurned", spec := "rankTurned", inPlace := ["math.Float64frombits", "slices.overlaps[plover/api.Scored]", "math.Float64bits"], apart := false }
def RankTurnedSaid : Prop := rankTurnedRow.holds Try.pinned (OpenSpec.ofChange rankTurnedSpec)

/-- ITS FALSE NEIGHBOUR: 'it returns false'. Refute it at one input. -/
def rankTurnedWrong : ChangeSpec := { name := "rankTurned", fn := fun _ => fun
  | [d1, d2, d3, d4] => { results := [.lit (.bool false)], args := [d1, d2, d3, d4] }
  | _ => none }
def RankTurnedWrongFalsely : Prop := rankTurnedRow.holds Try.pinned (OpenSpec.ofChange rankTurnedWrong)

/- THE SECOND FORM. 'bulk': how many values and letters a reading holds, each counted each time it is reached (what is shared counts as often as it is met; a slice's spare places count too). A statement '..UptoSaid' is the law's where the arguments, and the package variables that the reading takes, are together of bulk at most 1048576: NARROWER than '..Said'. Prove '..Said' where nothing that the law and all that it calls make is longer than what came in: it says more and counts as full. Else prove '..UptoSaid'. A law counts once. -/
mutual
def uptoBulk {H : Type} : DataW H → Nat
  | .lit (.string bytes) => bytes.length + 1
  | .lit _ => 1
  | .nil => 1
  | .ptr d => uptoBulk d + 1
  | .slice elems spare => uptoBulkAll elems + uptoBulkAll spare + 1
  | .agg parts => uptoBulkAll parts + 1
  | .iface _ d => uptoBulk d + 1
  | .map entries => uptoBulkEntries entries + 1
  | .held _ => 1
def uptoBulkAll {H : Type} : List (DataW H) → Nat
  | [] => 0
  | d :: r => uptoBulk d + uptoBulkAll r
def uptoBulkEntries {H : Type} : List (Lit × DataW H) → Nat
  | [] => 0
  | x :: r => uptoBulkEntry x + uptoBulkEntries r
def uptoBulkEntry {H : Type} : Lit × DataW H → Nat
  | (.string bytes, d) => bytes.length + uptoBulk d + 1
  | (_, d) => uptoBulk d + 1
 end
def uptoSmall : (H : Type) → List (DataW H) → Bool := fun _ ds => decide (uptoBulkAll ds ≤ 1048576)
def OpenSpec.upto (s : _root_.Go.ChangeSpec) : _root_.Go.OpenSpec := { _root_.Go.OpenSpec.ofChange s with cond := some uptoSmall }

/-- 'ploverlaw20.RankBest', WHERE WHAT IT READS IS OF BULK AT MOST 1048576: true; the input reads as it did. -/
def rankBestUptoRow : OpenClaim := { program := "ytdkbiimhdbnplaa", sum := "ecd8440dd1852afd8cce88c9972b10a924db41202daa4377b0e6d648f9754699", func := "plover/ploverlaw20.RankBest", spec := "rankBest", inPlace := ["math.Float64frombits", "slices.overlaps[plover/api.Scored]"], apart := false, narrowed := true }
def RankBestUptoSaid : Prop := rankBestUptoRow.holds Try.pinned (OpenSpec.upto rankBestSpec)

/-- 'ploverlaw20.RankBetter', WHERE WHAT IT READS IS OF BULK AT MOST 1048576: true; the input reads as it did. -/
def rankBetterUptoRow : OpenClaim := { program := "ytdkbiimhdbnplaa", sum := "ecd8440dd1852afd8cce88c9972b10a924db41202daa4377b0e6d648f9754699", func := "plover/ploverlaw20.RankBetter", spec := "rankBetter", inPlace := ["math.Float64frombits", "slices.overlaps[plover/api.Scored]", "math.Float64bits"], apart := false, narrowed := true }
def RankBetterUptoSaid : Prop := rankBetterUptoRow.holds Try.pinned (OpenSpec.upto rankBetterSpec)

/-- 'ploverlaw20.RankTops', WHERE WHAT IT READS IS OF BULK AT MOST 1048576: true; the input reads as it did. -/
def rankTopsUptoRow : OpenClaim := { program := "ytdkbiimhdbnplaa", sum := "ecd8440dd1852afd8cce88c9972b10a924db41202daa4377b0e6d648f9754699", func := "plover/ploverlaw20.RankTops", spec := "rankTops", inPlace := ["math.Float64frombits", "slices.overlaps[plover/api.Scored]", "math.Float64bits"], apart := false, narrowed := true }
def RankTopsUptoSaid : Prop := rankTopsUptoRow.holds Try.pinned (OpenSpec.upto rankTopsSpec)

/-- 'ploverlaw20.RankLimits', WHERE WHAT IT READS IS OF BULK AT MOST 1048576: true; the input reads as it did. -/
def rankLimitsUptoRow : OpenClaim := { program := "ytdkbiimhdbnplaa", sum := "ecd8440dd1852afd8cce88c9972b10a924db41202daa4377b0e6d648f9754699", func := "plover/ploverlaw20.RankLimits", spec := "rankLimits", inPlace := ["math.Float64frombits", "slices.overlaps[plover/api.Scored]", "math.Float64bits"], apart := false, narrowed := true }
def RankLimitsUptoSaid : Prop := rankLimitsUptoRow.holds Try.pinned (OpenSpec.upto rankLimitsSpec)

/-- 'ploverlaw20.RankTurned', WHERE WHAT IT READS IS OF BULK AT MOST 1048576: true; the input reads as it did. -/
def rankTurnedUptoRow : OpenClaim := { program := "ytdkbiimhdbnplaa", sum := "ecd8440dd1852afd8cce88c9972b10a924db41202daa4377b0e6d648f9754699", func := "plover/ploverlaw20.RankTurned", spec := "rankTurned", inPlace := ["math.Float64frombits", "slices.overlaps[plover/api.Scored]", "math.Float64bits"], apart := false, narrowed := true }
def RankTurnedUptoSaid : Prop := rankTurnedUptoRow.holds Try.pinned (OpenSpec.upto rankTurnedSpec)

end Rows
end Go.Proofs.Ytdkbiimhdbnplaa
