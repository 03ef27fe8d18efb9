/- the verifier's examples of chapter 1: the plain values -/
import Derived.Test.YtmlkiddkgikdhaaAw1
import Derived.Test.YtmlkiddkgikdhaaBez
import Derived.Test.YtmlkiddkgikdhaaIntF
import Derived.Test.YtmlkiddkgikdhaaWord10
import Derived.Test.YtmlkiddkgikdhaaROf2
namespace Go.Proofs.Ytmlkiddkgikdhaa
open Go.RowKit FF

theorem inv23 : invM 2 3 = 2 := by decide
theorem bez_ex : bezV 12 (-18) = .tuple #[.int .i64 6, .int .i64 2, .int .i64 1, .int .i64 0] := by
  have e : bezE 12 (-18) = 0 := by unfold bezE; rw [if_neg (by omega), if_neg (by omega)]
  have x : bezX 12 (-18) = 2 := by
    unfold bezX; rw [if_neg (by omega)]; exact inv23
  have y : bezY 12 (-18) = 1 := by
    unfold bezY; rw [if_neg (by omega), x]; decide
  unfold bezV; rw [e, x, y]; rfl
theorem isPB2 : isPB 2 = true := isPB_iff.2 ⟨isP_two, by omega⟩
theorem vpm1 : vp 2 (-1) = 0 ∧ rest 2 (-1) = -1 := by have := vp_unique (p := 2) (by decide) (k := 0) (r := -1) (by decide); simpa using this
theorem hil_ex : hilV (-1) (-1) 2 = -1 ∧ hilE (-1) (-1) 2 = 0 := by
  have e : hilE (-1) (-1) 2 = 0 := by
    unfold hilE; rw [if_neg (by omega), if_neg (by decide), if_neg (by rw [isPB2]; simp)]
  refine ⟨?_, e⟩
  unfold hilV; rw [e, if_pos rfl]
  unfold Hil; rw [vpm1.1, vpm1.2]; decide
end Go.Proofs.Ytmlkiddkgikdhaa
