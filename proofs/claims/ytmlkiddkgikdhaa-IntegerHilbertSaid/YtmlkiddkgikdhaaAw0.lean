/- the example roots of the verifier -/
import Derived.Test.YtmlkiddkgikdhaaPp
import Derived.Test.YtmlkiddkgikdhaaRefA
namespace Go.Proofs.Ytmlkiddkgikdhaa
open Go.RowKit FF

theorem vp26 : vp 2 6 = 1 ∧ rest 2 6 = 3 := vp_unique (p := 2) (by decide) (k := 1) (r := 3) (by decide)
theorem inv849 : invM 8 49 = 43 := (invM_unique (by decide) (by decide) (by decide) (by decide) ⟨7, by decide⟩).symm
theorem jac27 : Jac 2 7 = 1 := by decide
theorem jac37 : Jac 3 7 = -1 := by decide
theorem vp22 : vp 7 2 = 0 ∧ rest 7 2 = 2 := vp_unique (p := 7) (by decide) (k := 0) (r := 2) (by decide)
theorem isPB7 : isPB 7 = true := isPB_of_trial (by decide) (by decide) (d := 3) (by decide) (by decide) (fun e h1 h2 => by obtain rfl : e = 2 := by omega
                                                                                                                           decide)
theorem pp72 : ppV 7 2 = 49 ∧ ppE 7 2 = 0 := by
  have : ppE 7 2 = 0 := by unfold ppE; rw [isPB7]; decide
  exact ⟨by unfold ppV; rw [this]; decide, this⟩

set_option maxHeartbeats 1000000 in
theorem rootModulo_ex (w : World) : Calls Try.prog 135 #[.int .i64 2, .int .i64 7] w (Ret w (.int .i64 4)) := by
  have c1 := fun w => valuation_any 6 2 w ⟨by decide, by decide⟩ (by decide) (by decide) (by decide)
  rw [vp26.1, vp26.2] at c1
  have c2 := fun w => jacobi_any 2 7 w ⟨by decide, by decide⟩ (by decide) (by decide) (by decide)
  rw [show (7 : Int).toNat = 7 from rfl, jac27] at c2
  have c3 := fun w => jacobi_any 3 7 w ⟨by decide, by decide⟩ (by decide) (by decide) (by decide)
  rw [show (7 : Int).toNat = 7 from rfl, jac37] at c3
  have c4 := fun w => power_any 3 3 7 w ⟨by decide, by decide⟩ (by decide) ⟨by decide, by decide⟩ (by decide) (by decide)
  have c5 := fun w => power_any 2 2 7 w ⟨by decide, by decide⟩ (by decide) ⟨by decide, by decide⟩ (by decide) (by decide)
  have c6 := fun w => power_any 2 3 7 w ⟨by decide, by decide⟩ (by decide) ⟨by decide, by decide⟩ (by decide) (by decide)
  rw [show (3 : Int) ^ (3 : Int).toNat % 7 = 6 by decide] at c4
  rw [show (2 : Int) ^ (2 : Int).toNat % 7 = 4 by decide] at c5
  rw [show (2 : Int) ^ (3 : Int).toNat % 7 = 1 by decide] at c6
  have C1 := Lib.hid c1; have C2 := Lib.hid c2; have C3 := Lib.hid c3; have C4 := Lib.hid c4; have C5 := Lib.hid c5; have C6 := Lib.hid c6
  clear c1 c2 c3 c4 c5 c6
  go_enter Try.func135, Try.ntmps135
  go_wp2_with fail
  refine (C1.out _).mono ?_
  rintro e w' ⟨rfl, n1, rfl⟩
  go_wp2_with fail
  refine wp_loop_rounds 2 ?_
  rw [rounds_succ]
  go_wp2_with fail
  refine (C2.out _).mono ?_
  rintro e w' ⟨rfl, n2, rfl⟩
  go_wp2_with fail
  rw [rounds_succ]
  go_wp2_with fail
  refine (C3.out _).mono ?_
  rintro e w' ⟨rfl, n3, rfl⟩
  go_wp2_with fail
  refine (C4.out _).mono ?_
  rintro e w' ⟨rfl, n4, rfl⟩
  go_wp2_with fail
  refine (C5.out _).mono ?_
  rintro e w' ⟨rfl, n5, rfl⟩
  go_wp2_with fail
  refine (C6.out _).mono ?_
  rintro e w' ⟨rfl, n6, rfl⟩
  go_wp2_with fail
  refine wp_loop_rounds 1 ?_
  rw [rounds_succ]
  go_wp2_with fail
  go_ret
  exact ⟨rfl, _, rfl⟩

set_option maxHeartbeats 1000000 in
theorem lift_ex (w : World) : Calls Try.prog 103 #[.int .i64 2, .int .i64 7, .int .i64 49, .int .i64 4] w (Ret w (.int .i64 39)) := by
  have hM := Lib.hid (fun (a m : Int) (w : World) (h : I64 a ∧ 0 < m ∧ I64 m) => mod_any a m w h.1 h.2.1 h.2.2)
  have c := fun w => inverse_any 8 49 w ⟨by decide, by decide⟩ (by decide) (by decide) (by decide)
  rw [inv849] at c
  have C := Lib.hid c; clear c
  go_enter Try.func103, Try.ntmps103
  go_wp2_with fail
  refine (hM.out _ _ _ ⟨⟨by omega, by omega⟩, by omega, ⟨by omega, by omega⟩⟩).mono ?_
  rintro e w' ⟨rfl, n1, rfl⟩
  go_wp2_with fail
  refine wp_loop_rounds 2 ?_
  rw [rounds_succ]
  go_wp2_with fail
  refine (hM.out _ _ _ ⟨⟨by omega, by omega⟩, by omega, ⟨by omega, by omega⟩⟩).mono ?_
  rintro e w' ⟨rfl, n2, rfl⟩
  go_wp2_with fail
  refine (hM.out _ _ _ ⟨⟨by omega, by omega⟩, by omega, ⟨by omega, by omega⟩⟩).mono ?_
  rintro e w' ⟨rfl, n3, rfl⟩
  go_wp2_with fail
  refine (C.out _).mono ?_
  rintro e w' ⟨rfl, n4, rfl⟩
  go_wp2_with fail
  refine (hM.out _ _ _ ⟨⟨by omega, by omega⟩, by omega, ⟨by omega, by omega⟩⟩).mono ?_
  rintro e w' ⟨rfl, n5, rfl⟩
  go_wp2_with fail
  rw [rounds_succ]
  go_wp2_with fail
  go_ret
  exact ⟨rfl, _, rfl⟩
end Go.Proofs.Ytmlkiddkgikdhaa
