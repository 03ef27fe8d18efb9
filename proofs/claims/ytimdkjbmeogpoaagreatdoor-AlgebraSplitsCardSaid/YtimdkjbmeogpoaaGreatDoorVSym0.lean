/- Contracts of the reference's functions on machine integers, part A. Contracts of the reference's functions on machine integers, part B: the Hilbert symbol. Contracts of the reference's functions on machine integers, part C: the reference's Hilbert symbol. Small functions of the verifier's base: Mod, Within, Abs. Bezout of the program. Inverse of the program and of the reference; Bezout of the reference; small functions of the verifier. Jacobi, Legendre, Valuation of the program; Gcd of the verifier's base. -/
import Derived.Test.YtimdkjbmeogpoaaGreatDoorVIntF
import Derived.Test.YtimdkjbmeogpoaaGreatDoorVIntA
namespace Go.Proofs.YtimdkjbmeogpoaaGreatDoor
open Go.RowKit FF
def winB (n lo hi : Int) : Bool := decide (lo ≤ n) && decide (n ≤ hi)
end Go.Proofs.YtimdkjbmeogpoaaGreatDoor
namespace Go.Proofs.YtimdkjbmeogpoaaGreatDoor
open Go.RowKit FF
set_option maxHeartbeats 400000 in
theorem bWithin_any (n lo hi : Int) (w : World) :
    Calls Tryz.prog 29 #[.int .i64 n, .int .i64 lo, .int .i64 hi] w (Ret w (.bool (winB n lo hi))) := by
  have hF := Lib.hid (show (decide (lo ≤ n) && decide (n ≤ hi)) = winB n lo hi from rfl)
  go_enter Tryz.func29, Tryz.ntmps29
  by_cases h1 : lo ≤ n
  · have hF2 := Lib.hid (show decide (n ≤ hi) = winB n lo hi by rw [← hF.out, decide_eq_true h1]; rfl)
    clear hF
    go_wp2
    go_ret
    exact Ret.eq0 (ret_bool hF2.out)
  · have hF2 := Lib.hid (show false = winB n lo hi by rw [← hF.out, decide_eq_false h1]; rfl)
    clear hF
    go_wp2
    go_ret
    exact Ret.eq0 (ret_bool hF2.out)
end Go.Proofs.YtimdkjbmeogpoaaGreatDoor
namespace Go.Proofs.YtimdkjbmeogpoaaGreatDoor
open Go.RowKit FF
theorem Eu.gcd {a m r x y : Int} (h : Eu a m r 0 x y) : r = Int.gcd a m := by
  have hg := h.g
  rw [Int.gcd_zero_right] at hg
  have := h.r0
  omega
end Go.Proofs.YtimdkjbmeogpoaaGreatDoor
