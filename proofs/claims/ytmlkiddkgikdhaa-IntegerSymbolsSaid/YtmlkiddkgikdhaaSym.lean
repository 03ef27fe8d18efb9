/- Jacobi, Legendre, Valuation of the program; Gcd of the verifier's base. -/
import Derived.Test.YtmlkiddkgikdhaaVb
import Derived.Test.YtmlkiddkgikdhaaIntF
namespace Go.Proofs.Ytmlkiddkgikdhaa
open Go.RowKit FF

/-- the error of a Jacobi symbol -/
def jacE (n : Int) : Int := if modB n = false then 2 else if n % 2 = 0 then 3 else 0
/-- the Jacobi symbol, or 0 -/
def jacV (a n : Int) : Int := if jacE n = 0 then Jac a n.toNat else 0

set_option maxHeartbeats 400000 in
theorem Jacobi_any (a n : Int) (w : World) (ha : I64 a) :
    Calls Try.prog 33 #[.int .i64 a, .int .i64 n] w (Ret w (.tuple #[.int .i64 (jacV a n), .int .i64 (jacE n)])) := by
  have hM := Lib.hid (fun w => modulus_any n w)
  cases h : modB n
  · have E := Lib.hid (show jacE n = 2 from if_pos h)
    have V := Lib.hid (show jacV a n = 0 by unfold jacV; rw [E.out]; rfl)
    rw [h] at hM
    clear h
    go_enter Try.func33, Try.ntmps33
    go_wp2_with fail
    refine (hM.out _).mono ?_
    rintro e w' ⟨rfl, n1, rfl⟩
    go_wp2_with fail
    go_ret2
    exact Ret.eq _ (ret_two V.out.symm E.out.symm)
  · obtain ⟨m1, m2⟩ := modB_true.1 h
    by_cases ho : n % 2 = 0
    · have E := Lib.hid (show jacE n = 3 by unfold jacE; rw [h, if_neg (by simp), if_pos ho])
      have V := Lib.hid (show jacV a n = 0 by unfold jacV; rw [E.out]; rfl)
      rw [h] at hM
      clear h
      have d := t_beq ho
      clear ho
      go_enter Try.func33, Try.ntmps33
      go_wp2_with fail
      refine (hM.out _).mono ?_
      rintro e w' ⟨rfl, n1, rfl⟩
      go_wp2_with fail
      go_ret2
      exact Ret.eq _ (ret_two V.out.symm E.out.symm)
    · have E := Lib.hid (show jacE n = 0 by unfold jacE; rw [h, if_neg (by simp), if_neg ho])
      have V := Lib.hid (show jacV a n = Jac a n.toNat by unfold jacV; rw [E.out]; rfl)
      have hJ := Lib.hid (fun w => jacobi_any a n w ha m1 m2 (by omega))
      rw [h] at hM
      clear h
      have d := f_beq ho
      go_enter Try.func33, Try.ntmps33
      go_wp2_with fail
      refine (hM.out _).mono ?_
      rintro e w' ⟨rfl, n1, rfl⟩
      go_wp2_with fail
      refine (hJ.out _).mono ?_
      rintro e w' ⟨rfl, n2, rfl⟩
      go_wp2_with fail
      go_ret2
      exact Ret.eq _ (ret_two V.out.symm E.out.symm)

set_option maxHeartbeats 400000 in
theorem bGcd_any (a b : Int) (w : World) (ha : a.natAbs ≤ 4611686018427387904) (hb : b.natAbs ≤ 4611686018427387904) :
    Calls Try.prog 34 #[.int .i64 a, .int .i64 b] w (Ret w (.int .i64 (Int.gcd a b))) := by
  have hAb := Lib.hid (fun (n : Int) (w : World) (h : n.natAbs ≤ 4611686018427387904) => bAbs_any n w (by omega) (by omega))
  go_enter Try.func34, Try.ntmps34
  go_wp2
  go_loopw [0, 1] (fun s t wr => ∃ x y : Int, s = .int .i64 x ∧ t = .int .i64 y ∧ x.natAbs ≤ 4611686018427387904 ∧ y.natAbs ≤ 4611686018427387904 ∧ Int.gcd x y = Int.gcd a b ∧ ∃ n, wr = w.drewN n) (fun _ t _ => (intOf t).natAbs)
  case atStart => exact ⟨a, b, rfl, rfl, ha, hb, rfl, 0, rfl⟩
  case round =>
    obtain ⟨x, y, rfl, rfl, hx, hy, hg, n, rfl⟩ := hrel
    have hG := Lib.hid hg; clear hg
    have hxl : -4611686018427387904 ≤ x := by omega
    have hxu : x ≤ 4611686018427387904 := by omega
    by_cases hy0 : y = 0
    · subst hy0
      have hx1 := Lib.hid (show ((Int.gcd x 0 : Nat) : Int) = x.natAbs by rw [Int.gcd_zero_right])
      go_wp2_with fail
      refine (hAb.out _ _ hx).mono ?_
      rintro e w' ⟨rfl, n2, rfl⟩
      go_wp2_with fail
      go_ret
      exact Ret.eq _ (ret_int (by rw [← hG.out, hx1.out]))
    · have h1 := Int.natAbs_tmod x y
      have h2 : x.natAbs % y.natAbs < y.natAbs := Nat.mod_lt _ (by omega)
      have h3 : x.natAbs % y.natAbs ≤ x.natAbs := Nat.mod_le _ _
      rw [← h1] at h2 h3
      clear h1
      have hyl : -4611686018427387904 ≤ y := by omega
      have hyu : y ≤ 4611686018427387904 := by omega
      have hz1 : -4611686018427387904 ≤ x.tmod y := by omega
      have hz2 : x.tmod y ≤ 4611686018427387904 := by omega
      have hb : (!(y == 0)) = true := by simp [hy0]
      go_wp2
      go_quiet (fail)
      go_wp2
      exact ⟨⟨y, x.tmod y, rfl, rfl, hy, by omega, by rw [gcd_tmod]; exact hG.out, n + nq, by rw [World.drewN_drewN]⟩, h2⟩
end Go.Proofs.Ytmlkiddkgikdhaa
