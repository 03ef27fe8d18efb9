/- Contracts, part E2: the Hilbert symbol at 2. -/
import Derived.Test.YtmlkiddkgikdhaaIntE
namespace Go.Proofs.Ytmlkiddkgikdhaa
open Go.RowKit FF

set_option maxHeartbeats 4000000 in
theorem hilbert_two (a b : Int) (w : World) (ha : I64 a) (hb : I64 b) (ha0 : a ≠ 0) (hb0 : b ≠ 0) :
    Calls Try.prog 84 #[.int .i64 a, .int .i64 b, .int .i64 2] w (Ret w (.int .i64 (Hil a b 2))) := by
  have hT := show Hil a b 2 = hil2 (three (rest 2 a)) (three (rest 2 b)) (oddB (vp 2 a)) (far (rest 2 b)) (oddB (vp 2 b)) (far (rest 2 a)) by
    unfold Hil; rw [if_neg (by omega), if_pos rfl]
  have hA := fun w => valuation_any a 2 w ha ha0 (by omega) (by omega)
  have hB := fun w => valuation_any b 2 w hb hb0 (by omega) (by omega)
  have u1 := rest_natAbs_le (p := 2) (by omega) ha0
  have v1 := rest_natAbs_le (p := 2) (by omega) hb0
  have u2 := odd_rest_two ha0
  have v2 := odd_rest_two hb0
  obtain ⟨a1, a2⟩ := ha
  obtain ⟨b1, b2⟩ := hb
  generalize vp 2 a = i at *
  generalize rest 2 a = u at *
  generalize vp 2 b = k at *
  generalize rest 2 b = v at *
  have t1 := fun w => three_any u w ⟨by omega, by omega⟩
  have t2 := fun w => three_any v w ⟨by omega, by omega⟩
  have t3 := fun w => far_any u w ⟨by omega, by omega⟩
  have t4 := fun w => far_any v w ⟨by omega, by omega⟩
  have o1 := show ((i : Int) % 2 == 1) = oddB i from rfl
  have o2 := show ((k : Int) % 2 == 1) = oddB k from rfl
  clear u1 v1 u2 v2 a1 a2 b1 b2
  generalize three v = tv at *
  generalize far u = fu at *
  generalize far v = fv at *
  generalize hr : Hil a b 2 = R at *
  clear hr
  have HA := Lib.hid hA; have HB := Lib.hid hB; clear hA hB
  rcases Bool.eq_false_or_eq_true (three u) with c1 | c1 <;> rcases Bool.eq_false_or_eq_true (oddB i) with c5 | c5 <;> rcases Bool.eq_false_or_eq_true (oddB k) with c6 | c6
  · skip
    rw [c1] at t1 hT; rw [c5] at o1 hT; rw [c6] at o2 hT
    clear c1 c5 c6
    have T1 := Lib.hid t1; have T2 := Lib.hid t2; have T3 := Lib.hid t3; have T4 := Lib.hid t4; have HT := Lib.hid hT
    clear t1 t2 t3 t4 hT
    go_enter Try.func84, Try.ntmps84
    go_wp2_with fail
    refine (HA.out _).mono ?_
    rintro e w' ⟨rfl, n1, rfl⟩
    go_wp2_with fail
    refine (HB.out _).mono ?_
    rintro e w' ⟨rfl, n2, rfl⟩
    go_wp2_with fail
    refine (T1.out _).mono ?_
    rintro e w' ⟨rfl, n3, rfl⟩
    go_wp2_with fail
    refine (T2.out _).mono ?_
    rintro e w' ⟨rfl, n4, rfl⟩
    go_wp2_with fail
    refine (T4.out _).mono ?_
    rintro e w' ⟨rfl, n5, rfl⟩
    go_wp2_with fail
    refine (T3.out _).mono ?_
    rintro e w' ⟨rfl, n6, rfl⟩
    go_wp2
    all_goals
      go_ret
      exact Ret.eq _ (ret_int (by rw [HT.out]; cases tv <;> cases fv <;> cases fu <;> first | rfl | contradiction))
  · skip
    rw [c1] at t1 hT; rw [c5] at o1 hT; rw [c6] at o2 hT
    clear c1 c5 c6
    have T1 := Lib.hid t1; have T2 := Lib.hid t2; have T3 := Lib.hid t3; have T4 := Lib.hid t4; have HT := Lib.hid hT
    clear t1 t2 t3 t4 hT
    go_enter Try.func84, Try.ntmps84
    go_wp2_with fail
    refine (HA.out _).mono ?_
    rintro e w' ⟨rfl, n1, rfl⟩
    go_wp2_with fail
    refine (HB.out _).mono ?_
    rintro e w' ⟨rfl, n2, rfl⟩
    go_wp2_with fail
    refine (T1.out _).mono ?_
    rintro e w' ⟨rfl, n3, rfl⟩
    go_wp2_with fail
    refine (T2.out _).mono ?_
    rintro e w' ⟨rfl, n4, rfl⟩
    go_wp2_with fail
    refine (T4.out _).mono ?_
    rintro e w' ⟨rfl, n5, rfl⟩
    go_wp2
    all_goals
      go_ret
      exact Ret.eq _ (ret_int (by rw [HT.out]; cases tv <;> cases fv <;> cases fu <;> first | rfl | contradiction))
  · skip
    rw [c1] at t1 hT; rw [c5] at o1 hT; rw [c6] at o2 hT
    clear c1 c5 c6
    have T1 := Lib.hid t1; have T2 := Lib.hid t2; have T3 := Lib.hid t3; have T4 := Lib.hid t4; have HT := Lib.hid hT
    clear t1 t2 t3 t4 hT
    go_enter Try.func84, Try.ntmps84
    go_wp2_with fail
    refine (HA.out _).mono ?_
    rintro e w' ⟨rfl, n1, rfl⟩
    go_wp2_with fail
    refine (HB.out _).mono ?_
    rintro e w' ⟨rfl, n2, rfl⟩
    go_wp2_with fail
    refine (T1.out _).mono ?_
    rintro e w' ⟨rfl, n3, rfl⟩
    go_wp2_with fail
    refine (T2.out _).mono ?_
    rintro e w' ⟨rfl, n4, rfl⟩
    go_wp2_with fail
    refine (T3.out _).mono ?_
    rintro e w' ⟨rfl, n6, rfl⟩
    go_wp2
    all_goals
      go_ret
      exact Ret.eq _ (ret_int (by rw [HT.out]; cases tv <;> cases fv <;> cases fu <;> first | rfl | contradiction))
  · skip
    rw [c1] at t1 hT; rw [c5] at o1 hT; rw [c6] at o2 hT
    clear c1 c5 c6
    have T1 := Lib.hid t1; have T2 := Lib.hid t2; have T3 := Lib.hid t3; have T4 := Lib.hid t4; have HT := Lib.hid hT
    clear t1 t2 t3 t4 hT
    go_enter Try.func84, Try.ntmps84
    go_wp2_with fail
    refine (HA.out _).mono ?_
    rintro e w' ⟨rfl, n1, rfl⟩
    go_wp2_with fail
    refine (HB.out _).mono ?_
    rintro e w' ⟨rfl, n2, rfl⟩
    go_wp2_with fail
    refine (T1.out _).mono ?_
    rintro e w' ⟨rfl, n3, rfl⟩
    go_wp2_with fail
    refine (T2.out _).mono ?_
    rintro e w' ⟨rfl, n4, rfl⟩
    go_wp2
    all_goals
      go_ret
      exact Ret.eq _ (ret_int (by rw [HT.out]; cases tv <;> cases fv <;> cases fu <;> first | rfl | contradiction))
  · skip
    rw [c1] at t1 hT; rw [c5] at o1 hT; rw [c6] at o2 hT
    clear c1 c5 c6
    have T1 := Lib.hid t1; have T2 := Lib.hid t2; have T3 := Lib.hid t3; have T4 := Lib.hid t4; have HT := Lib.hid hT
    clear t1 t2 t3 t4 hT
    go_enter Try.func84, Try.ntmps84
    go_wp2_with fail
    refine (HA.out _).mono ?_
    rintro e w' ⟨rfl, n1, rfl⟩
    go_wp2_with fail
    refine (HB.out _).mono ?_
    rintro e w' ⟨rfl, n2, rfl⟩
    go_wp2_with fail
    refine (T1.out _).mono ?_
    rintro e w' ⟨rfl, n3, rfl⟩
    go_wp2_with fail
    refine (T4.out _).mono ?_
    rintro e w' ⟨rfl, n5, rfl⟩
    go_wp2_with fail
    refine (T3.out _).mono ?_
    rintro e w' ⟨rfl, n6, rfl⟩
    go_wp2
    all_goals
      go_ret
      exact Ret.eq _ (ret_int (by rw [HT.out]; cases tv <;> cases fv <;> cases fu <;> first | rfl | contradiction))
  · skip
    rw [c1] at t1 hT; rw [c5] at o1 hT; rw [c6] at o2 hT
    clear c1 c5 c6
    have T1 := Lib.hid t1; have T2 := Lib.hid t2; have T3 := Lib.hid t3; have T4 := Lib.hid t4; have HT := Lib.hid hT
    clear t1 t2 t3 t4 hT
    go_enter Try.func84, Try.ntmps84
    go_wp2_with fail
    refine (HA.out _).mono ?_
    rintro e w' ⟨rfl, n1, rfl⟩
    go_wp2_with fail
    refine (HB.out _).mono ?_
    rintro e w' ⟨rfl, n2, rfl⟩
    go_wp2_with fail
    refine (T1.out _).mono ?_
    rintro e w' ⟨rfl, n3, rfl⟩
    go_wp2_with fail
    refine (T4.out _).mono ?_
    rintro e w' ⟨rfl, n5, rfl⟩
    go_wp2
    all_goals
      go_ret
      exact Ret.eq _ (ret_int (by rw [HT.out]; cases tv <;> cases fv <;> cases fu <;> first | rfl | contradiction))
  · skip
    rw [c1] at t1 hT; rw [c5] at o1 hT; rw [c6] at o2 hT
    clear c1 c5 c6
    have T1 := Lib.hid t1; have T2 := Lib.hid t2; have T3 := Lib.hid t3; have T4 := Lib.hid t4; have HT := Lib.hid hT
    clear t1 t2 t3 t4 hT
    go_enter Try.func84, Try.ntmps84
    go_wp2_with fail
    refine (HA.out _).mono ?_
    rintro e w' ⟨rfl, n1, rfl⟩
    go_wp2_with fail
    refine (HB.out _).mono ?_
    rintro e w' ⟨rfl, n2, rfl⟩
    go_wp2_with fail
    refine (T1.out _).mono ?_
    rintro e w' ⟨rfl, n3, rfl⟩
    go_wp2_with fail
    refine (T3.out _).mono ?_
    rintro e w' ⟨rfl, n6, rfl⟩
    go_wp2
    all_goals
      go_ret
      exact Ret.eq _ (ret_int (by rw [HT.out]; cases tv <;> cases fv <;> cases fu <;> first | rfl | contradiction))
  · skip
    rw [c1] at t1 hT; rw [c5] at o1 hT; rw [c6] at o2 hT
    clear c1 c5 c6
    have T1 := Lib.hid t1; have T2 := Lib.hid t2; have T3 := Lib.hid t3; have T4 := Lib.hid t4; have HT := Lib.hid hT
    clear t1 t2 t3 t4 hT
    go_enter Try.func84, Try.ntmps84
    go_wp2_with fail
    refine (HA.out _).mono ?_
    rintro e w' ⟨rfl, n1, rfl⟩
    go_wp2_with fail
    refine (HB.out _).mono ?_
    rintro e w' ⟨rfl, n2, rfl⟩
    go_wp2_with fail
    refine (T1.out _).mono ?_
    rintro e w' ⟨rfl, n3, rfl⟩
    go_wp2
    all_goals
      go_ret
      exact Ret.eq _ (ret_int (by rw [HT.out]; cases tv <;> cases fv <;> cases fu <;> first | rfl | contradiction))
end Go.Proofs.Ytmlkiddkgikdhaa
