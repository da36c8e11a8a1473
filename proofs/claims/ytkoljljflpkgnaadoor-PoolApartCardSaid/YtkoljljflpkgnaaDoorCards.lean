/-
  DERIVED. GIVEN WITH THE SEED: THE CARDS: each row of YtkoljljflpkgnaaDoorRows.lean that lists a variable, with what it lists TIED to the program's text (the seventh form; the later family's looks); each row that meets fmt, with fmt's text TOLD by the authors' own Lean function (tested against real Go, not proved from fmt's source: count such statements apart). THE CARD IS WHAT COUNTS. Prove the row's statement (the work); the ties are given (YtkoljljflpkgnaaDoorTie.lean); close each card by the builder's one call (the guide's Derived/Test/ToyasCard.lean, 'card_holds'). Laid BY PROGRAM, IN A SANDBOX (cutbox-door.mjs). By AI agents, Wed Nov 11 2026. No macro, syntax, notation, axiom, sorry.
-/
import Derived.Test.YtkoljljflpkgnaaDoorRows
import GoSem.ClaimSeven
namespace Go.Proofs.YtkoljljflpkgnaaDoor
namespace Rows

/-- THE TIED CARD OF 'ploverlaw02.PoolLays'. -/
def poolLaysCard : Claim7 := { stood := { row := poolLaysRow, standIns := [], harness := (true, "2c99225b794a5ce2f51142102df59808c302559fa6d1944265c9d6b8f400f860"), looks := false }, kinds := [], alts := [], laidByText := true, laidKinds := [.data], laidTests := true, laidLooks := .later }
def PoolLaysCardSaid : Prop := Claim7.holds Tryd.pinned (.plain (OpenSpec.ofChange poolLaysSpec)) poolLaysCard

/-- THE TIED CARD OF 'ploverlaw02.PoolApart'. -/
def poolApartCard : Claim7 := { stood := { row := poolApartRow, standIns := [], harness := (true, "2c99225b794a5ce2f51142102df59808c302559fa6d1944265c9d6b8f400f860"), looks := false }, kinds := [], alts := [], laidByText := true, laidKinds := [.data], laidTests := true, laidLooks := .later }
def PoolApartCardSaid : Prop := Claim7.holds Tryd.pinned (.plain (OpenSpec.ofChange poolApartSpec)) poolApartCard

/-- THE TIED CARD OF 'ploverlaw02.PoolShifts'. -/
def poolShiftsCard : Claim7 := { stood := { row := poolShiftsRow, standIns := [], harness := (true, "2c99225b794a5ce2f51142102df59808c302559fa6d1944265c9d6b8f400f860"), looks := false }, kinds := [], alts := [], laidByText := true, laidKinds := [.data], laidTests := true, laidLooks := .later }
def PoolShiftsCardSaid : Prop := Claim7.holds Tryd.pinned (.plain (OpenSpec.ofChange poolShiftsSpec)) poolShiftsCard

/-- THE TIED CARD OF 'ploverlaw02.PoolTakes'. -/
def poolTakesCard : Claim7 := { stood := { row := poolTakesRow, standIns := [], harness := (true, "2c99225b794a5ce2f51142102df59808c302559fa6d1944265c9d6b8f400f860"), looks := false }, kinds := [], alts := [], laidByText := true, laidKinds := [.data], laidTests := true, laidLooks := .later }
def PoolTakesCardSaid : Prop := Claim7.holds Tryd.pinned (.plain (OpenSpec.ofChange poolTakesSpec)) poolTakesCard

/-- THE TIED CARD OF 'ploverlaw02.PoolRoom'. -/
def poolRoomCard : Claim7 := { stood := { row := poolRoomRow, standIns := [], harness := (true, "2c99225b794a5ce2f51142102df59808c302559fa6d1944265c9d6b8f400f860"), looks := false }, kinds := [], alts := [], laidByText := true, laidKinds := [.data], laidTests := true, laidLooks := .later }
def PoolRoomCardSaid : Prop := Claim7.holds Tryd.pinned (.plain (OpenSpec.ofChange poolRoomSpec)) poolRoomCard

/-- THE TIED CARD OF 'ploverlaw02.PoolClass'. -/
def poolClassCard : Claim7 := { stood := { row := poolClassRow, standIns := [], harness := (true, "2c99225b794a5ce2f51142102df59808c302559fa6d1944265c9d6b8f400f860"), looks := false }, kinds := [], alts := [], laidByText := true, laidKinds := [.data], laidTests := true, laidLooks := .later }
def PoolClassCardSaid : Prop := Claim7.holds Tryd.pinned (.plain (OpenSpec.ofChange poolClassSpec)) poolClassCard

/-- THE SECOND FORM's CARD OF 'ploverlaw02.PoolLays'. -/
def poolLaysUptoCard : Claim7 := { stood := { row := poolLaysUptoRow, standIns := [], harness := (true, "2c99225b794a5ce2f51142102df59808c302559fa6d1944265c9d6b8f400f860"), looks := false }, kinds := [], alts := [], laidByText := true, laidKinds := [.data], laidTests := true, laidLooks := .later }
def PoolLaysUptoCardSaid : Prop := Claim7.holds Tryd.pinned (.plain (OpenSpec.upto poolLaysSpec)) poolLaysUptoCard

/-- THE SECOND FORM's CARD OF 'ploverlaw02.PoolApart'. -/
def poolApartUptoCard : Claim7 := { stood := { row := poolApartUptoRow, standIns := [], harness := (true, "2c99225b794a5ce2f51142102df59808c302559fa6d1944265c9d6b8f400f860"), looks := false }, kinds := [], alts := [], laidByText := true, laidKinds := [.data], laidTests := true, laidLooks := .later }
def PoolApartUptoCardSaid : Prop := Claim7.holds Tryd.pinned (.plain (OpenSpec.upto poolApartSpec)) poolApartUptoCard

/-- THE SECOND FORM's CARD OF 'ploverlaw02.PoolShifts'. -/
def poolShiftsUptoCard : Claim7 := { stood := { row := poolShiftsUptoRow, standIns := [], harness := (true, "2c99225b794a5ce2f51142102df59808c302559fa6d1944265c9d6b8f400f860"), looks := false }, kinds := [], alts := [], laidByText := true, laidKinds := [.data], laidTests := true, laidLooks := .later }
def PoolShiftsUptoCardSaid : Prop := Claim7.holds Tryd.pinned (.plain (OpenSpec.upto poolShiftsSpec)) poolShiftsUptoCard

/-- THE SECOND FORM's CARD OF 'ploverlaw02.PoolTakes'. -/
def poolTakesUptoCard : Claim7 := { stood := { row := poolTakesUptoRow, standIns := [], harness := (true, "2c99225b794a5ce2f51142102df59808c302559fa6d1944265c9d6b8f400f860"), looks := false }, kinds := [], alts := [], laidByText := true, laidKinds := [.data], laidTests := true, laidLooks := .later }
def PoolTakesUptoCardSaid : Prop := Claim7.holds Tryd.pinned (.plain (OpenSpec.upto poolTakesSpec)) poolTakesUptoCard

/-- THE SECOND FORM's CARD OF 'ploverlaw02.PoolRoom'. -/
def poolRoomUptoCard : Claim7 := { stood := { row := poolRoomUptoRow, standIns := [], harness := (true, "2c99225b794a5ce2f51142102df59808c302559fa6d1944265c9d6b8f400f860"), looks := false }, kinds := [], alts := [], laidByText := true, laidKinds := [.data], laidTests := true, laidLooks := .later }
def PoolRoomUptoCardSaid : Prop := Claim7.holds Tryd.pinned (.plain (OpenSpec.upto poolRoomSpec)) poolRoomUptoCard

/-- THE SECOND FORM's CARD OF 'ploverlaw02.PoolClass'. -/
def poolClassUptoCard : Claim7 := { stood := { row := poolClassUptoRow, standIns := [], harness := (true, "2c99225b794a5ce2f51142102df59808c302559fa6d1944265c9d6b8f400f860"), looks := false }, kinds := [], alts := [], laidByText := true, laidKinds := [.data], laidTests := true, laidLooks := .later }
def PoolClassUptoCardSaid : Prop := Claim7.holds Tryd.pinned (.plain (OpenSpec.upto poolClassSpec)) poolClassUptoCard
end Rows
end Go.Proofs.YtkoljljflpkgnaaDoor
