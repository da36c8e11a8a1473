/-
  DERIVED. GIVEN WITH THE SEED: THE CARDS: each row of YtmofhpebcbpccaaDoorRows.lean that lists a variable, with what it lists TIED to the program's text (the seventh form; the later family's looks); each row that meets fmt, with fmt's text TOLD by the authors' own Lean function (tested against real Go, not proved from fmt's source: count such statements apart). THE CARD IS WHAT COUNTS. Prove the row's statement (the work); the ties are given (YtmofhpebcbpccaaDoorTie.lean); close each card by the builder's one call (the guide's Derived/Test/ToyasCard.lean, 'card_holds'). Laid BY PROGRAM, IN A SANDBOX (cutbox-door.mjs). By AI agents, Wed Nov 11 2026. No macro, syntax, notation, axiom, sorry.
-/
import Derived.Test.YtmofhpebcbpccaaDoorRows
import GoSem.ClaimSeven
namespace Go.Proofs.YtmofhpebcbpccaaDoor
namespace Rows

/-- THE TIED CARD OF 'ploverlaw06.TokenWords'. -/
def tokenWordsCard : Claim7 := { stood := { row := tokenWordsRow, standIns := [], harness := (true, "ecca71761094b19e5b8d8faf67cf53c345c0eee258e2aec858135322e9b3a78b"), looks := false }, kinds := [], alts := [], laidByText := true, laidKinds := [.data, .data, .data], laidTests := true, laidLooks := .later }
def TokenWordsCardSaid : Prop := Claim7.holds Tryd.pinned (.plain (OpenSpec.ofChange tokenWordsSpec)) tokenWordsCard

/-- THE TIED CARD OF 'ploverlaw06.TokenDocs'. -/
def tokenDocsCard : Claim7 := { stood := { row := tokenDocsRow, standIns := [], harness := (true, "ecca71761094b19e5b8d8faf67cf53c345c0eee258e2aec858135322e9b3a78b"), looks := false }, kinds := [], alts := [], laidByText := true, laidKinds := [.data, .data, .data], laidTests := true, laidLooks := .later }
def TokenDocsCardSaid : Prop := Claim7.holds Tryd.pinned (.plain (OpenSpec.ofChange tokenDocsSpec)) tokenDocsCard

/-- THE TIED CARD OF 'ploverlaw06.TokenMany'. -/
def tokenManyCard : Claim7 := { stood := { row := tokenManyRow, standIns := [], harness := (true, "ecca71761094b19e5b8d8faf67cf53c345c0eee258e2aec858135322e9b3a78b"), looks := false }, kinds := [], alts := [], laidByText := true, laidKinds := [.data, .data, .data], laidTests := true, laidLooks := .later }
def TokenManyCardSaid : Prop := Claim7.holds Tryd.pinned (.plain (OpenSpec.ofChange tokenManySpec)) tokenManyCard

/-- THE TIED CARD OF 'ploverlaw06.TokenCase'. -/
def tokenCaseCard : Claim7 := { stood := { row := tokenCaseRow, standIns := [], harness := (true, "ecca71761094b19e5b8d8faf67cf53c345c0eee258e2aec858135322e9b3a78b"), looks := false }, kinds := [], alts := [], laidByText := true, laidKinds := [.data, .data, .data], laidTests := true, laidLooks := .later }
def TokenCaseCardSaid : Prop := Claim7.holds Tryd.pinned (.plain (OpenSpec.ofChange tokenCaseSpec)) tokenCaseCard

/-- THE TIED CARD OF 'ploverlaw06.TokenBehind'. -/
def tokenBehindCard : Claim7 := { stood := { row := tokenBehindRow, standIns := [], harness := (true, "ecca71761094b19e5b8d8faf67cf53c345c0eee258e2aec858135322e9b3a78b"), looks := false }, kinds := [], alts := [], laidByText := true, laidKinds := [.data, .data, .data], laidTests := true, laidLooks := .later }
def TokenBehindCardSaid : Prop := Claim7.holds Tryd.pinned (.plain (OpenSpec.ofChange tokenBehindSpec)) tokenBehindCard

/-- THE TIED CARD OF 'ploverlaw06.TokenTerms'. -/
def tokenTermsCard : Claim7 := { stood := { row := tokenTermsRow, standIns := [], harness := (true, "ecca71761094b19e5b8d8faf67cf53c345c0eee258e2aec858135322e9b3a78b"), looks := false }, kinds := [], alts := [], laidByText := true, laidKinds := [.data, .data, .data], laidTests := true, laidLooks := .later }
def TokenTermsCardSaid : Prop := Claim7.holds Tryd.pinned (.plain (OpenSpec.ofChange tokenTermsSpec)) tokenTermsCard

/-- THE SECOND FORM's CARD OF 'ploverlaw06.TokenWords'. -/
def tokenWordsUptoCard : Claim7 := { stood := { row := tokenWordsUptoRow, standIns := [], harness := (true, "ecca71761094b19e5b8d8faf67cf53c345c0eee258e2aec858135322e9b3a78b"), looks := false }, kinds := [], alts := [], laidByText := true, laidKinds := [.data, .data, .data], laidTests := true, laidLooks := .later }
def TokenWordsUptoCardSaid : Prop := Claim7.holds Tryd.pinned (.plain (OpenSpec.upto tokenWordsSpec)) tokenWordsUptoCard

/-- THE SECOND FORM's CARD OF 'ploverlaw06.TokenDocs'. -/
def tokenDocsUptoCard : Claim7 := { stood := { row := tokenDocsUptoRow, standIns := [], harness := (true, "ecca71761094b19e5b8d8faf67cf53c345c0eee258e2aec858135322e9b3a78b"), looks := false }, kinds := [], alts := [], laidByText := true, laidKinds := [.data, .data, .data], laidTests := true, laidLooks := .later }
def TokenDocsUptoCardSaid : Prop := Claim7.holds Tryd.pinned (.plain (OpenSpec.upto tokenDocsSpec)) tokenDocsUptoCard

/-- THE SECOND FORM's CARD OF 'ploverlaw06.TokenMany'. -/
def tokenManyUptoCard : Claim7 := { stood := { row := tokenManyUptoRow, standIns := [], harness := (true, "ecca71761094b19e5b8d8faf67cf53c345c0eee258e2aec858135322e9b3a78b"), looks := false }, kinds := [], alts := [], laidByText := true, laidKinds := [.data, .data, .data], laidTests := true, laidLooks := .later }
def TokenManyUptoCardSaid : Prop := Claim7.holds Tryd.pinned (.plain (OpenSpec.upto tokenManySpec)) tokenManyUptoCard

/-- THE SECOND FORM's CARD OF 'ploverlaw06.TokenCase'. -/
def tokenCaseUptoCard : Claim7 := { stood := { row := tokenCaseUptoRow, standIns := [], harness := (true, "ecca71761094b19e5b8d8faf67cf53c345c0eee258e2aec858135322e9b3a78b"), looks := false }, kinds := [], alts := [], laidByText := true, laidKinds := [.data, .data, .data], laidTests := true, laidLooks := .later }
def TokenCaseUptoCardSaid : Prop := Claim7.holds Tryd.pinned (.plain (OpenSpec.upto tokenCaseSpec)) tokenCaseUptoCard

/-- THE SECOND FORM's CARD OF 'ploverlaw06.TokenBehind'. -/
def tokenBehindUptoCard : Claim7 := { stood := { row := tokenBehindUptoRow, standIns := [], harness := (true, "ecca71761094b19e5b8d8faf67cf53c345c0eee258e2aec858135322e9b3a78b"), looks := false }, kinds := [], alts := [], laidByText := true, laidKinds := [.data, .data, .data], laidTests := true, laidLooks := .later }
def TokenBehindUptoCardSaid : Prop := Claim7.holds Tryd.pinned (.plain (OpenSpec.upto tokenBehindSpec)) tokenBehindUptoCard

/-- THE SECOND FORM's CARD OF 'ploverlaw06.TokenTerms'. -/
def tokenTermsUptoCard : Claim7 := { stood := { row := tokenTermsUptoRow, standIns := [], harness := (true, "ecca71761094b19e5b8d8faf67cf53c345c0eee258e2aec858135322e9b3a78b"), looks := false }, kinds := [], alts := [], laidByText := true, laidKinds := [.data, .data, .data], laidTests := true, laidLooks := .later }
def TokenTermsUptoCardSaid : Prop := Claim7.holds Tryd.pinned (.plain (OpenSpec.upto tokenTermsSpec)) tokenTermsUptoCard
end Rows
end Go.Proofs.YtmofhpebcbpccaaDoor
