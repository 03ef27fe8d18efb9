/-
  DERIVED. GIVEN WITH THE SEED: THE CARDS: each row of YtimdkjbmeogpoaaGreatDoorRows.lean that lists a variable, with what it lists TIED to the program's text (the seventh form; the later family's looks); each row that meets fmt, with fmt's text TOLD by the authors' own Lean function (tested against real Go, not proved from fmt's source: count such statements apart). THE CARD IS WHAT COUNTS. Prove the row's statement (the work); the ties are given (YtimdkjbmeogpoaaGreatDoorTie.lean); close each card by the builder's one call (the guide's Derived/Test/ToyasCard.lean, 'card_holds'). Laid BY PROGRAM, IN A SANDBOX (cutbox-door.mjs). By AI agents, Wed Nov 11 2026. No macro, syntax, notation, axiom, sorry.
-/
import Derived.Test.YtimdkjbmeogpoaaGreatDoorRows
import GoSem.ClaimSeven
namespace Go.Proofs.YtimdkjbmeogpoaaGreatDoor
namespace Rows

/-- THE TIED CARD OF 'fourfoldlaw03.AlgebraSplits'. -/
def algebraSplitsCard : Claim7 := { stood := { row := algebraSplitsRow, standIns := [], harness := (true, "634471de2bc04a1289d2d11e4207e3f9d698f91f30bfdc8b948ccab577f3682b"), looks := true }, kinds := [], alts := [], laidByText := true, laidKinds := [.data, .data, .data], laidTests := true, laidLooks := .later }
def AlgebraSplitsCardSaid : Prop := Claim7.holds Tryz.pinned (.plain (OpenSpec.ofChange algebraSplitsSpec)) algebraSplitsCard

/-- THE TIED CARD OF 'fourfoldlaw03.AlgebraDivisors'. -/
def algebraDivisorsCard : Claim7 := { stood := { row := algebraDivisorsRow, standIns := [], harness := (true, "634471de2bc04a1289d2d11e4207e3f9d698f91f30bfdc8b948ccab577f3682b"), looks := true }, kinds := [], alts := [], laidByText := true, laidKinds := [.data, .data, .data], laidTests := true, laidLooks := .later }
def AlgebraDivisorsCardSaid : Prop := Claim7.holds Tryz.pinned (.plain (OpenSpec.ofChange algebraDivisorsSpec)) algebraDivisorsCard

/-- THE TIED CARD OF 'fourfoldlaw03.AlgebraTexts'. -/
def algebraTextsCard : Claim7 := { stood := { row := algebraTextsRow, standIns := [], harness := (true, "634471de2bc04a1289d2d11e4207e3f9d698f91f30bfdc8b948ccab577f3682b"), looks := true }, kinds := [], alts := [], laidByText := true, laidKinds := [.data, .data, .data, .sentinel, .sentinel], laidTests := true, laidLooks := .later }
def AlgebraTextsCardSaid : Prop := Claim7.holds Tryz.pinned (.plain (OpenSpec.ofChange algebraTextsSpec)) algebraTextsCard

/-- THE SECOND FORM's CARD OF 'fourfoldlaw03.AlgebraSplits'. -/
def algebraSplitsUptoCard : Claim7 := { stood := { row := algebraSplitsUptoRow, standIns := [], harness := (true, "634471de2bc04a1289d2d11e4207e3f9d698f91f30bfdc8b948ccab577f3682b"), looks := true }, kinds := [], alts := [], laidByText := true, laidKinds := [.data, .data, .data], laidTests := true, laidLooks := .later }
def AlgebraSplitsUptoCardSaid : Prop := Claim7.holds Tryz.pinned (.plain (OpenSpec.upto algebraSplitsSpec)) algebraSplitsUptoCard

/-- THE SECOND FORM's CARD OF 'fourfoldlaw03.AlgebraDivisors'. -/
def algebraDivisorsUptoCard : Claim7 := { stood := { row := algebraDivisorsUptoRow, standIns := [], harness := (true, "634471de2bc04a1289d2d11e4207e3f9d698f91f30bfdc8b948ccab577f3682b"), looks := true }, kinds := [], alts := [], laidByText := true, laidKinds := [.data, .data, .data], laidTests := true, laidLooks := .later }
def AlgebraDivisorsUptoCardSaid : Prop := Claim7.holds Tryz.pinned (.plain (OpenSpec.upto algebraDivisorsSpec)) algebraDivisorsUptoCard

/-- THE SECOND FORM's CARD OF 'fourfoldlaw03.AlgebraTexts'. -/
def algebraTextsUptoCard : Claim7 := { stood := { row := algebraTextsUptoRow, standIns := [], harness := (true, "634471de2bc04a1289d2d11e4207e3f9d698f91f30bfdc8b948ccab577f3682b"), looks := true }, kinds := [], alts := [], laidByText := true, laidKinds := [.data, .data, .data, .sentinel, .sentinel], laidTests := true, laidLooks := .later }
def AlgebraTextsUptoCardSaid : Prop := Claim7.holds Tryz.pinned (.plain (OpenSpec.upto algebraTextsSpec)) algebraTextsUptoCard
end Rows
end Go.Proofs.YtimdkjbmeogpoaaGreatDoor
