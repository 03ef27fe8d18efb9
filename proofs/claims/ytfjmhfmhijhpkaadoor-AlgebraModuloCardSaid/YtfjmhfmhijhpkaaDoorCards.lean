/-
  DERIVED. GIVEN WITH THE SEED: THE CARDS: each row of YtfjmhfmhijhpkaaDoorRows.lean that lists a variable, with what it lists TIED to the program's text (the seventh form; the later family's looks); each row that meets fmt, with fmt's text TOLD by the authors' own Lean function (tested against real Go, not proved from fmt's source: count such statements apart). THE CARD IS WHAT COUNTS. Prove the row's statement (the work); the ties are given (YtfjmhfmhijhpkaaDoorTie.lean); close each card by the builder's one call (the guide's Derived/Test/ToyasCard.lean, 'card_holds'). Laid BY PROGRAM, IN A SANDBOX (cutbox-door.mjs). By AI agents, Wed Nov 11 2026. No macro, syntax, notation, axiom, sorry.
-/
import Derived.Test.YtfjmhfmhijhpkaaDoorRows
import GoSem.ClaimSeven
namespace Go.Proofs.YtfjmhfmhijhpkaaDoor
namespace Rows

/-- THE TIED CARD OF 'fourfoldlaw03.AlgebraModulo'. -/
def algebraModuloCard : Claim7 := { stood := { row := algebraModuloRow, standIns := [], harness := (true, "ecaf361e81541c4b5a4d9529f400488c4454f1dbc1c0c61401a1862f884f311b"), looks := false }, kinds := [], alts := [], laidByText := true, laidKinds := [.data, .data, .data], laidTests := true, laidLooks := .later }
def AlgebraModuloCardSaid : Prop := Claim7.holds Tryd.pinned (.plain (OpenSpec.ofChange algebraModuloSpec)) algebraModuloCard

/-- THE TIED CARD OF 'fourfoldlaw03.AlgebraProofs'. -/
def algebraProofsCard : Claim7 := { stood := { row := algebraProofsRow, standIns := [], harness := (true, "ecaf361e81541c4b5a4d9529f400488c4454f1dbc1c0c61401a1862f884f311b"), looks := false }, kinds := [], alts := [], laidByText := true, laidKinds := [.data, .data, .data], laidTests := true, laidLooks := .later }
def AlgebraProofsCardSaid : Prop := Claim7.holds Tryd.pinned (.plain (OpenSpec.ofChange algebraProofsSpec)) algebraProofsCard

/-- THE SECOND FORM's CARD OF 'fourfoldlaw03.AlgebraModulo'. -/
def algebraModuloUptoCard : Claim7 := { stood := { row := algebraModuloUptoRow, standIns := [], harness := (true, "ecaf361e81541c4b5a4d9529f400488c4454f1dbc1c0c61401a1862f884f311b"), looks := false }, kinds := [], alts := [], laidByText := true, laidKinds := [.data, .data, .data], laidTests := true, laidLooks := .later }
def AlgebraModuloUptoCardSaid : Prop := Claim7.holds Tryd.pinned (.plain (OpenSpec.upto algebraModuloSpec)) algebraModuloUptoCard

/-- THE SECOND FORM's CARD OF 'fourfoldlaw03.AlgebraProofs'. -/
def algebraProofsUptoCard : Claim7 := { stood := { row := algebraProofsUptoRow, standIns := [], harness := (true, "ecaf361e81541c4b5a4d9529f400488c4454f1dbc1c0c61401a1862f884f311b"), looks := false }, kinds := [], alts := [], laidByText := true, laidKinds := [.data, .data, .data], laidTests := true, laidLooks := .later }
def AlgebraProofsUptoCardSaid : Prop := Claim7.holds Tryd.pinned (.plain (OpenSpec.upto algebraProofsSpec)) algebraProofsUptoCard
end Rows
end Go.Proofs.YtfjmhfmhijhpkaaDoor
