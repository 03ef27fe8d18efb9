/- The table of the powers of ten, out of a row's condition. -/
import Derived.Test.YtimdkjbmeogpoaaGreatDoorTOpen4
import Derived.LaidMore
import Derived.Stop.Joined
import Derived.LaidSub
import Derived.ChangeMaps5
import Derived.Lib.AppendIntMem
namespace Go.Proofs.YtimdkjbmeogpoaaGreatDoor
open Go.RowKit FF
theorem tab_of {w : World} {l : List (String × DataW Unit)} (hl : (l.filter fun x => x.1 == "internal/strconv.uint64pow10") = [("internal/strconv.uint64pow10", Lib.tabData .u64 Lib.pow10Tab)]) (h : laidMetH Tryz.prog l w) : Lib.TabBelow Tryz.prog w.heap.size w "internal/strconv.uint64pow10" .u64 Lib.pow10Tab := by
  have h1 := h.filter fun x => x.1 == "internal/strconv.uint64pow10"
  rw [hl] at h1
  have h2 := (laidMetH_iff.1 h1).1
  exact Lib.tabBelow_of_tabIs (Lib.tabIs_of_head (g := 3) (t := 212) (e := 163) (n := 20) (by kernel_rfl) (by kernel_rfl) (by kernel_rfl) (by kernel_rfl) (by kernel_rfl) (by kernel_rfl) h2)
end Go.Proofs.YtimdkjbmeogpoaaGreatDoor
