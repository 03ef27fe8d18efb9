/-
  DERIVED. GIVEN WITH THE SEED: THE CARDS: each row of YthkklilhjnpedaaGreatDoorRows.lean that lists a variable, with what it lists TIED to the program's text (the seventh form; the later family's looks); each row that meets fmt, with fmt's text TOLD by the authors' own Lean function (tested against real Go, not proved from fmt's source: count such statements apart). THE CARD IS WHAT COUNTS. Prove the row's statement (the work); the ties are given (YthkklilhjnpedaaGreatDoorTie.lean); close each card by the builder's one call (the guide's Derived/Test/ToyasCard.lean, 'card_holds'). Laid BY PROGRAM, IN A SANDBOX (cutbox-door.mjs). By AI agents, Wed Nov 11 2026. No macro, syntax, notation, axiom, sorry.
-/
import Derived.Test.YthkklilhjnpedaaGreatDoorRows
import GoSem.ClaimSeven
namespace Go.Proofs.YthkklilhjnpedaaGreatDoor
namespace Rows

/-- THE TIED CARD OF 'fourfoldtop.TopCayleyWalks'. -/
def topCayleyWalksCard : Claim7 := { stood := { row := topCayleyWalksRow, standIns := [], harness := (true, "b99b6c7bee07090bf24eeb096998843a5113f877faea24690778914030f8bba5"), looks := false }, kinds := [], alts := [], laidByText := true, laidKinds := [.data, .data, .data], laidTests := true, laidLooks := .later }
def TopCayleyWalksCardSaid : Prop := Claim7.holds Tryz.pinned (.plain (OpenSpec.ofChange topCayleyWalksSpec)) topCayleyWalksCard

/-- THE SECOND FORM's CARD OF 'fourfoldtop.TopCayleyWalks'. -/
def topCayleyWalksUptoCard : Claim7 := { stood := { row := topCayleyWalksUptoRow, standIns := [], harness := (true, "b99b6c7bee07090bf24eeb096998843a5113f877faea24690778914030f8bba5"), looks := false }, kinds := [], alts := [], laidByText := true, laidKinds := [.data, .data, .data], laidTests := true, laidLooks := .later }
def TopCayleyWalksUptoCardSaid : Prop := Claim7.holds Tryz.pinned (.plain (OpenSpec.upto topCayleyWalksSpec)) topCayleyWalksUptoCard
end Rows
end Go.Proofs.YthkklilhjnpedaaGreatDoor
