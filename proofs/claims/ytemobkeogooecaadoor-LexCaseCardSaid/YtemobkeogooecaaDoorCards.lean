/-
  DERIVED. GIVEN WITH THE SEED: THE CARDS: each row of YtemobkeogooecaaDoorRows.lean that lists a variable, with what it lists TIED to the program's text (the seventh form; the later family's looks); each row that meets fmt, with fmt's text TOLD by the authors' own Lean function (tested against real Go, not proved from fmt's source: count such statements apart). THE CARD IS WHAT COUNTS. Prove the row's statement (the work); the ties are given (YtemobkeogooecaaDoorTie.lean); close each card by the builder's one call (the guide's Derived/Test/ToyasCard.lean, 'card_holds'). Laid BY PROGRAM, IN A SANDBOX (cutbox-door.mjs). By AI agents, Wed Nov 11 2026. No macro, syntax, notation, axiom, sorry.
-/
import Derived.Test.YtemobkeogooecaaDoorRows
import GoSem.ClaimSeven
namespace Go.Proofs.YtemobkeogooecaaDoor
namespace Rows

/-- THE TIED CARD OF 'pleachlaw18.LexTexts'. -/
def lexTextsCard : Claim7 := { stood := { row := lexTextsRow, standIns := [], harness := (true, "e74a9b45e17a6f902f0fdc5d39992eed1f954cb9b967105193af1a7580c155b5"), looks := true }, kinds := [], alts := [], laidByText := true, laidKinds := [.data, .data, .data, .data, .sentinel, .sentinel, .pinned, .pinned], laidTests := true, laidLooks := .later }
def LexTextsCardSaid : Prop := Claim7.holds Tryd.pinned (.plain (OpenSpec.ofChange lexTextsSpec)) lexTextsCard

/-- THE TIED CARD OF 'pleachlaw18.LexJoins'. -/
def lexJoinsCard : Claim7 := { stood := { row := lexJoinsRow, standIns := [], harness := (true, "e74a9b45e17a6f902f0fdc5d39992eed1f954cb9b967105193af1a7580c155b5"), looks := true }, kinds := [], alts := [], laidByText := true, laidKinds := [.data, .data, .data, .data, .sentinel, .sentinel, .pinned, .pinned], laidTests := true, laidLooks := .later }
def LexJoinsCardSaid : Prop := Claim7.holds Tryd.pinned (.plain (OpenSpec.ofChange lexJoinsSpec)) lexJoinsCard

/-- THE TIED CARD OF 'pleachlaw18.LexCase'. -/
def lexCaseCard : Claim7 := { stood := { row := lexCaseRow, standIns := [], harness := (true, "e74a9b45e17a6f902f0fdc5d39992eed1f954cb9b967105193af1a7580c155b5"), looks := true }, kinds := [], alts := [], laidByText := true, laidKinds := [.data, .data, .data, .data, .sentinel, .sentinel, .pinned, .pinned], laidTests := true, laidLooks := .later }
def LexCaseCardSaid : Prop := Claim7.holds Tryd.pinned (.plain (OpenSpec.ofChange lexCaseSpec)) lexCaseCard

/-- THE SECOND FORM's CARD OF 'pleachlaw18.LexTexts'. -/
def lexTextsUptoCard : Claim7 := { stood := { row := lexTextsUptoRow, standIns := [], harness := (true, "e74a9b45e17a6f902f0fdc5d39992eed1f954cb9b967105193af1a7580c155b5"), looks := true }, kinds := [], alts := [], laidByText := true, laidKinds := [.data, .data, .data, .data, .sentinel, .sentinel, .pinned, .pinned], laidTests := true, laidLooks := .later }
def LexTextsUptoCardSaid : Prop := Claim7.holds Tryd.pinned (.plain (OpenSpec.upto lexTextsSpec)) lexTextsUptoCard

/-- THE SECOND FORM's CARD OF 'pleachlaw18.LexJoins'. -/
def lexJoinsUptoCard : Claim7 := { stood := { row := lexJoinsUptoRow, standIns := [], harness := (true, "e74a9b45e17a6f902f0fdc5d39992eed1f954cb9b967105193af1a7580c155b5"), looks := true }, kinds := [], alts := [], laidByText := true, laidKinds := [.data, .data, .data, .data, .sentinel, .sentinel, .pinned, .pinned], laidTests := true, laidLooks := .later }
def LexJoinsUptoCardSaid : Prop := Claim7.holds Tryd.pinned (.plain (OpenSpec.upto lexJoinsSpec)) lexJoinsUptoCard

/-- THE SECOND FORM's CARD OF 'pleachlaw18.LexCase'. -/
def lexCaseUptoCard : Claim7 := { stood := { row := lexCaseUptoRow, standIns := [], harness := (true, "e74a9b45e17a6f902f0fdc5d39992eed1f954cb9b967105193af1a7580c155b5"), looks := true }, kinds := [], alts := [], laidByText := true, laidKinds := [.data, .data, .data, .data, .sentinel, .sentinel, .pinned, .pinned], laidTests := true, laidLooks := .later }
def LexCaseUptoCardSaid : Prop := Claim7.holds Tryd.pinned (.plain (OpenSpec.upto lexCaseSpec)) lexCaseUptoCard
end Rows
end Go.Proofs.YtemobkeogooecaaDoor
