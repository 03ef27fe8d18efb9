/-
  DERIVED. GIVEN WITH THE SEED: THE CARDS: each row of YtekkbdpggghcjaaDoorRows.lean that lists a variable, with what it lists TIED to the program's text (the seventh form; the later family's looks); each row that meets fmt, with fmt's text TOLD by the authors' own Lean function (tested against real Go, not proved from fmt's source: count such statements apart). THE CARD IS WHAT COUNTS. Prove the row's statement (the work); the ties are given (YtekkbdpggghcjaaDoorTie.lean); close each card by the builder's one call (the guide's Derived/Test/ToyasCard.lean, 'card_holds'). Laid BY PROGRAM, IN A SANDBOX (cutbox-door.mjs). By AI agents, Wed Nov 11 2026. No macro, syntax, notation, axiom, sorry.
-/
import Derived.Test.YtekkbdpggghcjaaDoorRows
import GoSem.ClaimSeven
namespace Go.Proofs.YtekkbdpggghcjaaDoor
namespace Rows

/-- THE TIED CARD OF 'fourfoldlaw03.AlgebraChecks'. -/
def algebraChecksCard : Claim7 := { stood := { row := algebraChecksRow, standIns := [], harness := (true, "8570d81b6c98f89f0edb1197e46762c78c7ba83d89e70a1efa5522d02912666d"), looks := false }, kinds := [], alts := [], laidByText := true, laidKinds := [.data, .data, .data], laidTests := true, laidLooks := .later }
def AlgebraChecksCardSaid : Prop := Claim7.holds Tryd.pinned (.plain (OpenSpec.ofChange algebraChecksSpec)) algebraChecksCard

/-- THE TIED CARD OF 'fourfoldlaw03.AlgebraInverses'. -/
def algebraInversesCard : Claim7 := { stood := { row := algebraInversesRow, standIns := [], harness := (true, "8570d81b6c98f89f0edb1197e46762c78c7ba83d89e70a1efa5522d02912666d"), looks := false }, kinds := [], alts := [], laidByText := true, laidKinds := [.data, .data, .data], laidTests := true, laidLooks := .later }
def AlgebraInversesCardSaid : Prop := Claim7.holds Tryd.pinned (.plain (OpenSpec.ofChange algebraInversesSpec)) algebraInversesCard

/-- THE TIED CARD OF 'fourfoldlaw03.AlgebraProducts'. -/
def algebraProductsCard : Claim7 := { stood := { row := algebraProductsRow, standIns := [], harness := (true, "8570d81b6c98f89f0edb1197e46762c78c7ba83d89e70a1efa5522d02912666d"), looks := false }, kinds := [], alts := [], laidByText := true, laidKinds := [.data, .data, .data], laidTests := true, laidLooks := .later }
def AlgebraProductsCardSaid : Prop := Claim7.holds Tryd.pinned (.plain (OpenSpec.ofChange algebraProductsSpec)) algebraProductsCard

/-- THE TIED CARD OF 'fourfoldlaw03.AlgebraRamified'. -/
def algebraRamifiedCard : Claim7 := { stood := { row := algebraRamifiedRow, standIns := [], harness := (true, "8570d81b6c98f89f0edb1197e46762c78c7ba83d89e70a1efa5522d02912666d"), looks := false }, kinds := [], alts := [], laidByText := true, laidKinds := [.data, .data, .data], laidTests := true, laidLooks := .later }
def AlgebraRamifiedCardSaid : Prop := Claim7.holds Tryd.pinned (.plain (OpenSpec.ofChange algebraRamifiedSpec)) algebraRamifiedCard

/-- THE TIED CARD OF 'fourfoldlaw03.AlgebraMultiplies'. -/
def algebraMultipliesCard : Claim7 := { stood := { row := algebraMultipliesRow, standIns := [], harness := (true, "8570d81b6c98f89f0edb1197e46762c78c7ba83d89e70a1efa5522d02912666d"), looks := false }, kinds := [], alts := [], laidByText := true, laidKinds := [.data, .data, .data], laidTests := true, laidLooks := .later }
def AlgebraMultipliesCardSaid : Prop := Claim7.holds Tryd.pinned (.plain (OpenSpec.ofChange algebraMultipliesSpec)) algebraMultipliesCard

/-- THE TIED CARD OF 'fourfoldlaw03.AlgebraModulo'. -/
def algebraModuloCard : Claim7 := { stood := { row := algebraModuloRow, standIns := [], harness := (true, "8570d81b6c98f89f0edb1197e46762c78c7ba83d89e70a1efa5522d02912666d"), looks := false }, kinds := [], alts := [], laidByText := true, laidKinds := [.data, .data, .data], laidTests := true, laidLooks := .later }
def AlgebraModuloCardSaid : Prop := Claim7.holds Tryd.pinned (.plain (OpenSpec.ofChange algebraModuloSpec)) algebraModuloCard

/-- THE TIED CARD OF 'fourfoldlaw03.AlgebraProofs'. -/
def algebraProofsCard : Claim7 := { stood := { row := algebraProofsRow, standIns := [], harness := (true, "8570d81b6c98f89f0edb1197e46762c78c7ba83d89e70a1efa5522d02912666d"), looks := false }, kinds := [], alts := [], laidByText := true, laidKinds := [.data, .data, .data], laidTests := true, laidLooks := .later }
def AlgebraProofsCardSaid : Prop := Claim7.holds Tryd.pinned (.plain (OpenSpec.ofChange algebraProofsSpec)) algebraProofsCard

/-- THE TIED CARD OF 'fourfoldlaw03.AlgebraSums'. -/
def algebraSumsCard : Claim7 := { stood := { row := algebraSumsRow, standIns := [], harness := (true, "8570d81b6c98f89f0edb1197e46762c78c7ba83d89e70a1efa5522d02912666d"), looks := false }, kinds := [], alts := [], laidByText := true, laidKinds := [.data, .data, .data], laidTests := true, laidLooks := .later }
def AlgebraSumsCardSaid : Prop := Claim7.holds Tryd.pinned (.plain (OpenSpec.ofChange algebraSumsSpec)) algebraSumsCard

/-- THE TIED CARD OF 'fourfoldlaw03.AlgebraRing'. -/
def algebraRingCard : Claim7 := { stood := { row := algebraRingRow, standIns := [], harness := (true, "8570d81b6c98f89f0edb1197e46762c78c7ba83d89e70a1efa5522d02912666d"), looks := false }, kinds := [], alts := [], laidByText := true, laidKinds := [.data, .data, .data], laidTests := true, laidLooks := .later }
def AlgebraRingCardSaid : Prop := Claim7.holds Tryd.pinned (.plain (OpenSpec.ofChange algebraRingSpec)) algebraRingCard

/-- THE SECOND FORM's CARD OF 'fourfoldlaw03.AlgebraChecks'. -/
def algebraChecksUptoCard : Claim7 := { stood := { row := algebraChecksUptoRow, standIns := [], harness := (true, "8570d81b6c98f89f0edb1197e46762c78c7ba83d89e70a1efa5522d02912666d"), looks := false }, kinds := [], alts := [], laidByText := true, laidKinds := [.data, .data, .data], laidTests := true, laidLooks := .later }
def AlgebraChecksUptoCardSaid : Prop := Claim7.holds Tryd.pinned (.plain (OpenSpec.upto algebraChecksSpec)) algebraChecksUptoCard

/-- THE SECOND FORM's CARD OF 'fourfoldlaw03.AlgebraInverses'. -/
def algebraInversesUptoCard : Claim7 := { stood := { row := algebraInversesUptoRow, standIns := [], harness := (true, "8570d81b6c98f89f0edb1197e46762c78c7ba83d89e70a1efa5522d02912666d"), looks := false }, kinds := [], alts := [], laidByText := true, laidKinds := [.data, .data, .data], laidTests := true, laidLooks := .later }
def AlgebraInversesUptoCardSaid : Prop := Claim7.holds Tryd.pinned (.plain (OpenSpec.upto algebraInversesSpec)) algebraInversesUptoCard

/-- THE SECOND FORM's CARD OF 'fourfoldlaw03.AlgebraProducts'. -/
def algebraProductsUptoCard : Claim7 := { stood := { row := algebraProductsUptoRow, standIns := [], harness := (true, "8570d81b6c98f89f0edb1197e46762c78c7ba83d89e70a1efa5522d02912666d"), looks := false }, kinds := [], alts := [], laidByText := true, laidKinds := [.data, .data, .data], laidTests := true, laidLooks := .later }
def AlgebraProductsUptoCardSaid : Prop := Claim7.holds Tryd.pinned (.plain (OpenSpec.upto algebraProductsSpec)) algebraProductsUptoCard

/-- THE SECOND FORM's CARD OF 'fourfoldlaw03.AlgebraRamified'. -/
def algebraRamifiedUptoCard : Claim7 := { stood := { row := algebraRamifiedUptoRow, standIns := [], harness := (true, "8570d81b6c98f89f0edb1197e46762c78c7ba83d89e70a1efa5522d02912666d"), looks := false }, kinds := [], alts := [], laidByText := true, laidKinds := [.data, .data, .data], laidTests := true, laidLooks := .later }
def AlgebraRamifiedUptoCardSaid : Prop := Claim7.holds Tryd.pinned (.plain (OpenSpec.upto algebraRamifiedSpec)) algebraRamifiedUptoCard

/-- THE SECOND FORM's CARD OF 'fourfoldlaw03.AlgebraMultiplies'. -/
def algebraMultipliesUptoCard : Claim7 := { stood := { row := algebraMultipliesUptoRow, standIns := [], harness := (true, "8570d81b6c98f89f0edb1197e46762c78c7ba83d89e70a1efa5522d02912666d"), looks := false }, kinds := [], alts := [], laidByText := true, laidKinds := [.data, .data, .data], laidTests := true, laidLooks := .later }
def AlgebraMultipliesUptoCardSaid : Prop := Claim7.holds Tryd.pinned (.plain (OpenSpec.upto algebraMultipliesSpec)) algebraMultipliesUptoCard

/-- THE SECOND FORM's CARD OF 'fourfoldlaw03.AlgebraModulo'. -/
def algebraModuloUptoCard : Claim7 := { stood := { row := algebraModuloUptoRow, standIns := [], harness := (true, "8570d81b6c98f89f0edb1197e46762c78c7ba83d89e70a1efa5522d02912666d"), looks := false }, kinds := [], alts := [], laidByText := true, laidKinds := [.data, .data, .data], laidTests := true, laidLooks := .later }
def AlgebraModuloUptoCardSaid : Prop := Claim7.holds Tryd.pinned (.plain (OpenSpec.upto algebraModuloSpec)) algebraModuloUptoCard

/-- THE SECOND FORM's CARD OF 'fourfoldlaw03.AlgebraProofs'. -/
def algebraProofsUptoCard : Claim7 := { stood := { row := algebraProofsUptoRow, standIns := [], harness := (true, "8570d81b6c98f89f0edb1197e46762c78c7ba83d89e70a1efa5522d02912666d"), looks := false }, kinds := [], alts := [], laidByText := true, laidKinds := [.data, .data, .data], laidTests := true, laidLooks := .later }
def AlgebraProofsUptoCardSaid : Prop := Claim7.holds Tryd.pinned (.plain (OpenSpec.upto algebraProofsSpec)) algebraProofsUptoCard

/-- THE SECOND FORM's CARD OF 'fourfoldlaw03.AlgebraSums'. -/
def algebraSumsUptoCard : Claim7 := { stood := { row := algebraSumsUptoRow, standIns := [], harness := (true, "8570d81b6c98f89f0edb1197e46762c78c7ba83d89e70a1efa5522d02912666d"), looks := false }, kinds := [], alts := [], laidByText := true, laidKinds := [.data, .data, .data], laidTests := true, laidLooks := .later }
def AlgebraSumsUptoCardSaid : Prop := Claim7.holds Tryd.pinned (.plain (OpenSpec.upto algebraSumsSpec)) algebraSumsUptoCard

/-- THE SECOND FORM's CARD OF 'fourfoldlaw03.AlgebraRing'. -/
def algebraRingUptoCard : Claim7 := { stood := { row := algebraRingUptoRow, standIns := [], harness := (true, "8570d81b6c98f89f0edb1197e46762c78c7ba83d89e70a1efa5522d02912666d"), looks := false }, kinds := [], alts := [], laidByText := true, laidKinds := [.data, .data, .data], laidTests := true, laidLooks := .later }
def AlgebraRingUptoCardSaid : Prop := Claim7.holds Tryd.pinned (.plain (OpenSpec.upto algebraRingSpec)) algebraRingUptoCard
end Rows
end Go.Proofs.YtekkbdpggghcjaaDoor
