/- The law IntegerSymbols answers true at all numbers. -/
import Derived.Test.YtmlkiddkgikdhaaIntegerHilbert
import Derived.Test.YtmlkiddkgikdhaaSym2
namespace Go.Proofs.Ytmlkiddkgikdhaa
open Go.RowKit FF
attribute [local go_sem ↓] Go.wp_at_zero Go.wp_at_succ
set_option maxHeartbeats 4000000 in
theorem IntegerSymbols_law (a p n : Int) (w : World) (ha : I64 a) (_hp : I64 p) (_hn : I64 n) :
    Calls Try.prog 10 #[.int .i64 a, .int .i64 p, .int .i64 n] w fun e w' => e = .returned (.bool true) ∧ Below w.heap.size w w' := by
  have hA := Lib.hid awake_any
  have h1 := Lib.hid (fun w => Valuation_any a p w ha)
  have h2 := Lib.hid (fun w => rValuation_any a p w ha)
  have h3 := Lib.hid (fun w => Legendre_any a p w ha)
  have h4 := Lib.hid (fun w => rLegendre2_any a p w ha)
  have h5 := Lib.hid (fun w => Jacobi_any a n w ha)
  have h6 := Lib.hid (fun w => rJacobi_any a n w ha)
  clear ha
  have d1 := beq_self' (valV a p)
  have d2 := beq_self' (valE a p)
  have d3 := beq_self' (legV a p)
  have d4 := beq_self' (legE p)
  have d5 := beq_self' (jacV a n)
  have d6 := beq_self' (jacE n)
  generalize valV a p = V1 at *
  generalize valE a p = E1 at *
  generalize legV a p = V2 at *
  generalize legE p = E2 at *
  generalize jacV a n = V3 at *
  generalize jacE n = E3 at *
  go_enter Try.func10, Try.ntmps10
  go_wp2_with fail
  refine (h1.out _).mono ?_
  rintro e w' ⟨rfl, n1, rfl⟩
  go_wp2_with fail
  refine (h2.out _).mono ?_
  rintro e w' ⟨rfl, n2, rfl⟩
  go_wp2_with fail
  refine (h3.out _).mono ?_
  rintro e w' ⟨rfl, n3, rfl⟩
  go_wp2_with fail
  refine (h4.out _).mono ?_
  rintro e w' ⟨rfl, n4, rfl⟩
  go_wp2_with fail
  refine (h5.out _).mono ?_
  rintro e w' ⟨rfl, n5, rfl⟩
  go_wp2_with fail
  refine (h6.out _).mono ?_
  rintro e w1 ⟨rfl, hb1⟩
  have B1 := Lib.hid (below_draws hb1)
  clear hb1
  go_wp2_with fail
  refine (hA.out _).mono ?_
  rintro e w' ⟨rfl, hb⟩
  go_wp2_with fail
  go_ret
  exact ⟨rfl, B1.out.trans (hb.mono B1.out.size)⟩
end Go.Proofs.Ytmlkiddkgikdhaa
