/- The law AlgebraDivisors answers true at all algebras. -/
import Derived.Test.YtimdkjbmeogpoaaGreatDoorUDvl
namespace Go.Proofs.YtimdkjbmeogpoaaGreatDoor
open Go.RowKit FF
theorem AlgebraDivisors_law (a b : Int) (w : World) (_ : I64 a) (_ : I64 b) :
  Calls Tryz.prog 4 #[.agg #[.int .i64 a, .int .i64 b]] w fun e w' => e = .returned (.bool true) ∧ Below w.heap.size w w' := by
 by_cases h : aE a b = 0
 ·by_cases hr : ramL a b 999 = []
  ·exact dv_good a b w h hr
  ·exact dv_none a b w h hr
 ·exact dv_bad a b w h
end Go.Proofs.YtimdkjbmeogpoaaGreatDoor
