/-
  DERIVED. GIVEN WITH THE SEED: THE CARDS: each row of YtcdjoijgnglicaaDoorRows.lean that lists a variable, with what it lists TIED to the program's text (the seventh form; the later family's looks); each row that meets fmt, with fmt's text TOLD by the authors' own Lean function (tested against real Go, not proved from fmt's source: count such statements apart). THE CARD IS WHAT COUNTS. Prove the row's statement (the work); the ties are given (YtcdjoijgnglicaaDoorTie.lean); close each card by the builder's one call (the guide's Derived/Test/ToyasCard.lean, 'card_holds'). Laid BY PROGRAM, IN A SANDBOX (cutbox-door.mjs). By AI agents, Wed Nov 11 2026. No macro, syntax, notation, axiom, sorry.
-/
import Derived.Test.YtcdjoijgnglicaaDoorRows
import GoSem.ClaimSeven
namespace Go.Proofs.YtcdjoijgnglicaaDoor
namespace Rows

/-- THE TIED CARD OF 'ploverlaw05.FoldClass'. -/
def foldClassCard : Claim7 := { stood := { row := foldClassRow, standIns := [], harness := (true, "d83a398e3c66ada824e523c8a0f9ba201880a8f60cf0177d68233efd023bf4a8"), looks := false }, kinds := [], alts := [], laidByText := true, laidKinds := [.data, .data, .data], laidTests := true, laidLooks := .later }
def FoldClassCardSaid : Prop := Claim7.holds Tryd.pinned (.plain (OpenSpec.ofChange foldClassSpec)) foldClassCard

/-- THE TIED CARD OF 'ploverlaw05.FoldFolds'. -/
def foldFoldsCard : Claim7 := { stood := { row := foldFoldsRow, standIns := [], harness := (true, "d83a398e3c66ada824e523c8a0f9ba201880a8f60cf0177d68233efd023bf4a8"), looks := false }, kinds := [], alts := [], laidByText := true, laidKinds := [.data, .data, .data], laidTests := true, laidLooks := .later }
def FoldFoldsCardSaid : Prop := Claim7.holds Tryd.pinned (.plain (OpenSpec.ofChange foldFoldsSpec)) foldFoldsCard

/-- THE TIED CARD OF 'ploverlaw05.FoldOnce'. -/
def foldOnceCard : Claim7 := { stood := { row := foldOnceRow, standIns := [], harness := (true, "d83a398e3c66ada824e523c8a0f9ba201880a8f60cf0177d68233efd023bf4a8"), looks := false }, kinds := [], alts := [], laidByText := true, laidKinds := [.data, .data, .data], laidTests := true, laidLooks := .later }
def FoldOnceCardSaid : Prop := Claim7.holds Tryd.pinned (.plain (OpenSpec.ofChange foldOnceSpec)) foldOnceCard

/-- THE TIED CARD OF 'ploverlaw05.FoldFew'. -/
def foldFewCard : Claim7 := { stood := { row := foldFewRow, standIns := [], harness := (true, "d83a398e3c66ada824e523c8a0f9ba201880a8f60cf0177d68233efd023bf4a8"), looks := false }, kinds := [], alts := [], laidByText := true, laidKinds := [.data, .data, .data], laidTests := true, laidLooks := .later }
def FoldFewCardSaid : Prop := Claim7.holds Tryd.pinned (.plain (OpenSpec.ofChange foldFewSpec)) foldFewCard

/-- THE TIED CARD OF 'ploverlaw05.FoldPlain'. -/
def foldPlainCard : Claim7 := { stood := { row := foldPlainRow, standIns := [], harness := (true, "d83a398e3c66ada824e523c8a0f9ba201880a8f60cf0177d68233efd023bf4a8"), looks := false }, kinds := [], alts := [], laidByText := true, laidKinds := [.data, .data, .data], laidTests := true, laidLooks := .later }
def FoldPlainCardSaid : Prop := Claim7.holds Tryd.pinned (.plain (OpenSpec.ofChange foldPlainSpec)) foldPlainCard

/-- THE SECOND FORM's CARD OF 'ploverlaw05.FoldClass'. -/
def foldClassUptoCard : Claim7 := { stood := { row := foldClassUptoRow, standIns := [], harness := (true, "d83a398e3c66ada824e523c8a0f9ba201880a8f60cf0177d68233efd023bf4a8"), looks := false }, kinds := [], alts := [], laidByText := true, laidKinds := [.data, .data, .data], laidTests := true, laidLooks := .later }
def FoldClassUptoCardSaid : Prop := Claim7.holds Tryd.pinned (.plain (OpenSpec.upto foldClassSpec)) foldClassUptoCard

/-- THE SECOND FORM's CARD OF 'ploverlaw05.FoldFolds'. -/
def foldFoldsUptoCard : Claim7 := { stood := { row := foldFoldsUptoRow, standIns := [], harness := (true, "d83a398e3c66ada824e523c8a0f9ba201880a8f60cf0177d68233efd023bf4a8"), looks := false }, kinds := [], alts := [], laidByText := true, laidKinds := [.data, .data, .data], laidTests := true, laidLooks := .later }
def FoldFoldsUptoCardSaid : Prop := Claim7.holds Tryd.pinned (.plain (OpenSpec.upto foldFoldsSpec)) foldFoldsUptoCard

/-- THE SECOND FORM's CARD OF 'ploverlaw05.FoldOnce'. -/
def foldOnceUptoCard : Claim7 := { stood := { row := foldOnceUptoRow, standIns := [], harness := (true, "d83a398e3c66ada824e523c8a0f9ba201880a8f60cf0177d68233efd023bf4a8"), looks := false }, kinds := [], alts := [], laidByText := true, laidKinds := [.data, .data, .data], laidTests := true, laidLooks := .later }
def FoldOnceUptoCardSaid : Prop := Claim7.holds Tryd.pinned (.plain (OpenSpec.upto foldOnceSpec)) foldOnceUptoCard

/-- THE SECOND FORM's CARD OF 'ploverlaw05.FoldFew'. -/
def foldFewUptoCard : Claim7 := { stood := { row := foldFewUptoRow, standIns := [], harness := (true, "d83a398e3c66ada824e523c8a0f9ba201880a8f60cf0177d68233efd023bf4a8"), looks := false }, kinds := [], alts := [], laidByText := true, laidKinds := [.data, .data, .data], laidTests := true, laidLooks := .later }
def FoldFewUptoCardSaid : Prop := Claim7.holds Tryd.pinned (.plain (OpenSpec.upto foldFewSpec)) foldFewUptoCard

/-- THE SECOND FORM's CARD OF 'ploverlaw05.FoldPlain'. -/
def foldPlainUptoCard : Claim7 := { stood := { row := foldPlainUptoRow, standIns := [], harness := (true, "d83a398e3c66ada824e523c8a0f9ba201880a8f60cf0177d68233efd023bf4a8"), looks := false }, kinds := [], alts := [], laidByText := true, laidKinds := [.data, .data, .data], laidTests := true, laidLooks := .later }
def FoldPlainUptoCardSaid : Prop := Claim7.holds Tryd.pinned (.plain (OpenSpec.upto foldPlainSpec)) foldPlainUptoCard
end Rows
end Go.Proofs.YtcdjoijgnglicaaDoor
