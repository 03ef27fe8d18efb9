/- Contracts of the reference's functions on machine integers, part A. Contracts of the reference's functions on machine integers, part B: the Hilbert symbol. Contracts of the reference's functions on machine integers, part C: the reference's Hilbert symbol. Small functions of the verifier's base: Mod, Within, Abs. Bezout of the program. Inverse of the program and of the reference; Bezout of the reference; small functions of the verifier. Jacobi, Legendre, Valuation of the program; Gcd of the verifier's base. -/
import Derived.Test.YtimdkjbmeogpoaaGreatDoorTIntF
import Derived.Test.YtimdkjbmeogpoaaGreatDoorTIntA
namespace Go.Proofs.YtimdkjbmeogpoaaGreatDoor
open Go.RowKit FF
def winB (n lo hi : Int) : Bool := decide (lo ≤ n) && decide (n ≤ hi)
end Go.Proofs.YtimdkjbmeogpoaaGreatDoor
namespace Go.Proofs.YtimdkjbmeogpoaaGreatDoor
open Go.RowKit FF
set_option maxHeartbeats 400000 in
theorem bWithin_any (n lo hi : Int) (w : World) :
    Calls Tryz.prog 29 #[.int .i64 n, .int .i64 lo, .int .i64 hi] w (Ret w (.bool (winB n lo hi))) := by
  have hF := Lib.hid (show (decide (lo ≤ n) && decide (n ≤ hi)) = winB n lo hi from rfl)
  go_enter Tryz.func29, Tryz.ntmps29
  by_cases h1 : lo ≤ n
  · have hF2 := Lib.hid (show decide (n ≤ hi) = winB n lo hi by rw [← hF.out, decide_eq_true h1]; rfl)
    clear hF
    go_wp2
    go_ret
    exact Ret.eq0 (ret_bool hF2.out)
  · have hF2 := Lib.hid (show false = winB n lo hi by rw [← hF.out, decide_eq_false h1]; rfl)
    clear hF
    go_wp2
    go_ret
    exact Ret.eq0 (ret_bool hF2.out)
set_option maxHeartbeats 400000 in
theorem bAbs_any (n : Int) (w : World) (h1 : -9223372036854775807 ≤ n) (h2 : n ≤ 9223372036854775807) :
    Calls Tryz.prog 86 #[.int .i64 n] w (Ret w (.int .i64 n.natAbs)) := by
  by_cases h : n < 0
  · have hN := Lib.hid (show (n.natAbs : Int) = -n by omega)
    go_enter Tryz.func86, Tryz.ntmps86
    go_wp2
    go_ret
    exact Ret.eq0 (ret_int hN.out.symm)
  · have hN := Lib.hid (show (n.natAbs : Int) = n by omega)
    go_enter Tryz.func86, Tryz.ntmps86
    go_wp2
    go_ret
    exact Ret.eq0 (ret_int hN.out.symm)
end Go.Proofs.YtimdkjbmeogpoaaGreatDoor
namespace Go.Proofs.YtimdkjbmeogpoaaGreatDoor
open Go.RowKit FF
set_option maxHeartbeats 400000 in
theorem bGcd_any (a b : Int) (w : World) (ha : a.natAbs ≤ 4611686018427387904) (hb : b.natAbs ≤ 4611686018427387904) :
    Calls Tryz.prog 44 #[.int .i64 a, .int .i64 b] w (Ret w (.int .i64 (Int.gcd a b))) := by
  have hAb := Lib.hid (fun (n : Int) (w : World) (h : n.natAbs ≤ 4611686018427387904) => bAbs_any n w (by omega) (by omega))
  go_enter Tryz.func44, Tryz.ntmps44
  go_wp2
  go_loopw [0, 1] (fun s t wr => ∃ x y : Int, s = .int .i64 x ∧ t = .int .i64 y ∧ x.natAbs ≤ 4611686018427387904 ∧ y.natAbs ≤ 4611686018427387904 ∧ Int.gcd x y = Int.gcd a b ∧ ∃ n, wr = w.drewN n) (fun _ t _ => (intOf t).natAbs)
  case atStart => exact ⟨a, b, rfl, rfl, ha, hb, rfl, 0, rfl⟩
  case round =>
    obtain ⟨x, y, rfl, rfl, hx, hy, hg, n, rfl⟩ := hrel
    have hG := Lib.hid hg; clear hg
    have hxl : -4611686018427387904 ≤ x := by omega
    have hxu : x ≤ 4611686018427387904 := by omega
    by_cases hy0 : y = 0
    · subst hy0
      have hx1 := Lib.hid (show ((Int.gcd x 0 : Nat) : Int) = x.natAbs by rw [Int.gcd_zero_right])
      go_wp2_with fail
      refine (hAb.out _ _ hx).mono ?_
      rintro e w' ⟨rfl, n2, rfl⟩
      go_wp2_with fail
      go_ret
      exact Ret.eq _ (ret_int (by rw [← hG.out, hx1.out]))
    · have h1 := Int.natAbs_tmod x y
      have h2 : x.natAbs % y.natAbs < y.natAbs := Nat.mod_lt _ (by omega)
      have h3 : x.natAbs % y.natAbs ≤ x.natAbs := Nat.mod_le _ _
      rw [← h1] at h2 h3
      clear h1
      have hyl : -4611686018427387904 ≤ y := by omega
      have hyu : y ≤ 4611686018427387904 := by omega
      have hz1 : -4611686018427387904 ≤ x.tmod y := by omega
      have hz2 : x.tmod y ≤ 4611686018427387904 := by omega
      have hb : (!(y == 0)) = true := by simp [hy0]
      go_wp2
      go_quiet (fail)
      go_wp2
      exact ⟨⟨y, x.tmod y, rfl, rfl, hy, by omega, by rw [gcd_tmod]; exact hG.out, n + nq, by rw [World.drewN_drewN]⟩, h2⟩
end Go.Proofs.YtimdkjbmeogpoaaGreatDoor
