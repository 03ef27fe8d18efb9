/- What the rows of this seat have in common: the heap in which the door's own run ends meets the condition on the listed variables. -/
import Derived.Test.YtfjmhfmhijhpkaaGreatDoorOpen4
import Derived.LaidMore
import Derived.Stop.Joined
namespace Go.Proofs.YtfjmhfmhijhpkaaGreatDoor
open Go.RowKit Go.WideShapes Go.ChangeShapes Go.ChangeAt FF
theorem door_met (os : Os) (args : Array Value) : laidMetH Tryz.prog Rows.algebraIsomorphismsRow.laid ((World.doorLaid Tryz.prog 400 os).forCall (fun _ _ => 0) ⟨#[], args, []⟩).memory :=
  laidMetH_of_parts3 (fuel := 65) (laidMet_of_run' 65 (by kernel_rfl) (by kernel_rfl)) (by kernel_rfl) (by kernel_rfl)
end Go.Proofs.YtfjmhfmhijhpkaaGreatDoor
