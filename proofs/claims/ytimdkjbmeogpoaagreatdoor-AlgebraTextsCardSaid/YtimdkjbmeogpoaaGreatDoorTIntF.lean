/- Contracts of the integer package's functions on machine integers, part E: the Hilbert symbol. Contracts, part E2: the Hilbert symbol at 2. Contracts, part F: the Hilbert symbol at an odd prime; Hilbert. -/
import Derived.Test.YtimdkjbmeogpoaaGreatDoorTIntA
import Derived.Test.YtimdkjbmeogpoaaGreatDoorTNt
import Derived.Test.YtimdkjbmeogpoaaGreatDoorTSp
import Derived.Deep.RegionWith
namespace Go.Proofs.YtimdkjbmeogpoaaGreatDoor
open Go.RowKit FF
theorem isPrime_any (n : Int) (w : World) :
    Calls Tryz.prog 146 #[.int .i64 n] w (Ret w (.bool (isPB n))) := isPrime_raw n w
set_option maxHeartbeats 400000 in
theorem three_any (n : Int) (w : World) (hn : I64 n) :
    Calls Tryz.prog 180 #[.int .i64 n] w (Ret w (.bool (three n))) := by
  have hM := Lib.hid (fun w => mod_any n 4 w hn (by omega) ⟨by omega, by omega⟩)
  have hT := Lib.hid (show (n % 4 == 3) = three n from rfl)
  go_enter Tryz.func180, Tryz.ntmps180
  go_wp2_with fail
  refine (hM.out _).mono ?_
  rintro e w' ⟨rfl, n1, rfl⟩
  go_wp2
  go_ret
  exact Ret.eq _ (ret_bool hT.out)
set_option maxHeartbeats 400000 in
theorem far_any (n : Int) (w : World) (hn : I64 n) :
    Calls Tryz.prog 182 #[.int .i64 n] w (Ret w (.bool (far n))) := by
  have hM := Lib.hid (fun w => mod_any n 8 w hn (by omega) ⟨by omega, by omega⟩)
  have hT := Lib.hid (show (n % 8 == 3 || n % 8 == 5) = far n from rfl)
  go_enter Tryz.func182, Tryz.ntmps182
  rcases Bool.eq_false_or_eq_true (n % 8 == 3) with d | d
  · have hF := Lib.hid (show far n = true by rw [← hT.out, d]; rfl)
    go_wp2_with fail
    refine (hM.out _).mono ?_
    rintro e w' ⟨rfl, n1, rfl⟩
    go_wp2
    go_ret
    exact Ret.eq _ (ret_bool hF.out.symm)
  · have hF := Lib.hid (show (n % 8 == 5) = far n by rw [← hT.out, d]; rfl)
    go_wp2_with fail
    refine (hM.out _).mono ?_
    rintro e w' ⟨rfl, n1, rfl⟩
    go_wp2_with fail
    refine (hM.out _).mono ?_
    rintro e w' ⟨rfl, n2, rfl⟩
    go_wp2
    go_ret
    exact Ret.eq _ (ret_bool hF.out)
set_option maxHeartbeats 400000 in
theorem hilbert_zero (a b : Int) (w : World) :
    Calls Tryz.prog 147 #[.int .i64 a, .int .i64 b, .int .i64 0] w (Ret w (.int .i64 (Hil a b 0))) := by
  have hT := Lib.hid (show Hil a b 0 = if a < 0 ∧ b < 0 then -1 else 1 from if_pos rfl)
  go_enter Tryz.func147, Tryz.ntmps147
  by_cases h1 : a < 0
  · by_cases h2 : b < 0
    · go_wp2
      go_ret
      exact Ret.eq0 (ret_int (by rw [hT.out, if_pos ⟨h1, h2⟩]))
    · go_wp2
      go_ret
      exact Ret.eq0 (ret_int (by rw [hT.out, if_neg (fun h => absurd h.2 (by omega))]))
  · go_wp2
    go_ret
    exact Ret.eq0 (ret_int (by rw [hT.out, if_neg (fun h => absurd h.1 (by omega))]))
end Go.Proofs.YtimdkjbmeogpoaaGreatDoor
namespace Go.Proofs.YtimdkjbmeogpoaaGreatDoor
open Go.RowKit FF
set_option maxHeartbeats 4000000 in
theorem hilbert_two (a b : Int) (w : World) (ha : I64 a) (hb : I64 b) (ha0 : a ≠ 0) (hb0 : b ≠ 0) :
    Calls Tryz.prog 147 #[.int .i64 a, .int .i64 b, .int .i64 2] w (Ret w (.int .i64 (Hil a b 2))) := by
  have hT := show Hil a b 2 = hil2 (three (rest 2 a)) (three (rest 2 b)) (oddB (vp 2 a)) (far (rest 2 b)) (oddB (vp 2 b)) (far (rest 2 a)) by
    unfold Hil; rw [if_neg (by omega), if_pos rfl]
  have hA := fun w => valuation_any a 2 w ha ha0 (by omega) (by omega)
  have hB := fun w => valuation_any b 2 w hb hb0 (by omega) (by omega)
  have u1 := rest_natAbs_le (p := 2) (by omega) ha0
  have v1 := rest_natAbs_le (p := 2) (by omega) hb0
  have u2 := odd_rest_two ha0
  have v2 := odd_rest_two hb0
  obtain ⟨a1, a2⟩ := ha
  obtain ⟨b1, b2⟩ := hb
  generalize vp 2 a = i at *
  generalize rest 2 a = u at *
  generalize vp 2 b = k at *
  generalize rest 2 b = v at *
  have t1 := fun w => three_any u w ⟨by omega, by omega⟩
  have t2 := fun w => three_any v w ⟨by omega, by omega⟩
  have t3 := fun w => far_any u w ⟨by omega, by omega⟩
  have t4 := fun w => far_any v w ⟨by omega, by omega⟩
  have o1 := show ((i : Int) % 2 == 1) = oddB i from rfl
  have o2 := show ((k : Int) % 2 == 1) = oddB k from rfl
  clear u1 v1 u2 v2 a1 a2 b1 b2
  generalize three v = tv at *
  generalize far u = fu at *
  generalize far v = fv at *
  generalize hr : Hil a b 2 = R at *
  clear hr
  have HA := Lib.hid hA; have HB := Lib.hid hB; clear hA hB
  rcases Bool.eq_false_or_eq_true (three u) with c1 | c1 <;> rcases Bool.eq_false_or_eq_true (oddB i) with c5 | c5 <;> rcases Bool.eq_false_or_eq_true (oddB k) with c6 | c6
  · skip
    rw [c1] at t1 hT; rw [c5] at o1 hT; rw [c6] at o2 hT
    clear c1 c5 c6
    have T1 := Lib.hid t1; have T2 := Lib.hid t2; have T3 := Lib.hid t3; have T4 := Lib.hid t4; have HT := Lib.hid hT
    clear t1 t2 t3 t4 hT
    go_enter Tryz.func147, Tryz.ntmps147
    go_wp2_with fail
    refine (HA.out _).mono ?_
    rintro e w' ⟨rfl, n1, rfl⟩
    go_wp2_with fail
    refine (HB.out _).mono ?_
    rintro e w' ⟨rfl, n2, rfl⟩
    go_wp2_with fail
    refine (T1.out _).mono ?_
    rintro e w' ⟨rfl, n3, rfl⟩
    go_wp2_with fail
    refine (T2.out _).mono ?_
    rintro e w' ⟨rfl, n4, rfl⟩
    go_wp2_with fail
    refine (T4.out _).mono ?_
    rintro e w' ⟨rfl, n5, rfl⟩
    go_wp2_with fail
    refine (T3.out _).mono ?_
    rintro e w' ⟨rfl, n6, rfl⟩
    go_wp2
    all_goals
      go_ret
      exact Ret.eq _ (ret_int (by rw [HT.out]; cases tv <;> cases fv <;> cases fu <;> first | rfl | contradiction))
  · skip
    rw [c1] at t1 hT; rw [c5] at o1 hT; rw [c6] at o2 hT
    clear c1 c5 c6
    have T1 := Lib.hid t1; have T2 := Lib.hid t2; have T3 := Lib.hid t3; have T4 := Lib.hid t4; have HT := Lib.hid hT
    clear t1 t2 t3 t4 hT
    go_enter Tryz.func147, Tryz.ntmps147
    go_wp2_with fail
    refine (HA.out _).mono ?_
    rintro e w' ⟨rfl, n1, rfl⟩
    go_wp2_with fail
    refine (HB.out _).mono ?_
    rintro e w' ⟨rfl, n2, rfl⟩
    go_wp2_with fail
    refine (T1.out _).mono ?_
    rintro e w' ⟨rfl, n3, rfl⟩
    go_wp2_with fail
    refine (T2.out _).mono ?_
    rintro e w' ⟨rfl, n4, rfl⟩
    go_wp2_with fail
    refine (T4.out _).mono ?_
    rintro e w' ⟨rfl, n5, rfl⟩
    go_wp2
    all_goals
      go_ret
      exact Ret.eq _ (ret_int (by rw [HT.out]; cases tv <;> cases fv <;> cases fu <;> first | rfl | contradiction))
  · skip
    rw [c1] at t1 hT; rw [c5] at o1 hT; rw [c6] at o2 hT
    clear c1 c5 c6
    have T1 := Lib.hid t1; have T2 := Lib.hid t2; have T3 := Lib.hid t3; have T4 := Lib.hid t4; have HT := Lib.hid hT
    clear t1 t2 t3 t4 hT
    go_enter Tryz.func147, Tryz.ntmps147
    go_wp2_with fail
    refine (HA.out _).mono ?_
    rintro e w' ⟨rfl, n1, rfl⟩
    go_wp2_with fail
    refine (HB.out _).mono ?_
    rintro e w' ⟨rfl, n2, rfl⟩
    go_wp2_with fail
    refine (T1.out _).mono ?_
    rintro e w' ⟨rfl, n3, rfl⟩
    go_wp2_with fail
    refine (T2.out _).mono ?_
    rintro e w' ⟨rfl, n4, rfl⟩
    go_wp2_with fail
    refine (T3.out _).mono ?_
    rintro e w' ⟨rfl, n6, rfl⟩
    go_wp2
    all_goals
      go_ret
      exact Ret.eq _ (ret_int (by rw [HT.out]; cases tv <;> cases fv <;> cases fu <;> first | rfl | contradiction))
  · skip
    rw [c1] at t1 hT; rw [c5] at o1 hT; rw [c6] at o2 hT
    clear c1 c5 c6
    have T1 := Lib.hid t1; have T2 := Lib.hid t2; have T3 := Lib.hid t3; have T4 := Lib.hid t4; have HT := Lib.hid hT
    clear t1 t2 t3 t4 hT
    go_enter Tryz.func147, Tryz.ntmps147
    go_wp2_with fail
    refine (HA.out _).mono ?_
    rintro e w' ⟨rfl, n1, rfl⟩
    go_wp2_with fail
    refine (HB.out _).mono ?_
    rintro e w' ⟨rfl, n2, rfl⟩
    go_wp2_with fail
    refine (T1.out _).mono ?_
    rintro e w' ⟨rfl, n3, rfl⟩
    go_wp2_with fail
    refine (T2.out _).mono ?_
    rintro e w' ⟨rfl, n4, rfl⟩
    go_wp2
    all_goals
      go_ret
      exact Ret.eq _ (ret_int (by rw [HT.out]; cases tv <;> cases fv <;> cases fu <;> first | rfl | contradiction))
  · skip
    rw [c1] at t1 hT; rw [c5] at o1 hT; rw [c6] at o2 hT
    clear c1 c5 c6
    have T1 := Lib.hid t1; have T2 := Lib.hid t2; have T3 := Lib.hid t3; have T4 := Lib.hid t4; have HT := Lib.hid hT
    clear t1 t2 t3 t4 hT
    go_enter Tryz.func147, Tryz.ntmps147
    go_wp2_with fail
    refine (HA.out _).mono ?_
    rintro e w' ⟨rfl, n1, rfl⟩
    go_wp2_with fail
    refine (HB.out _).mono ?_
    rintro e w' ⟨rfl, n2, rfl⟩
    go_wp2_with fail
    refine (T1.out _).mono ?_
    rintro e w' ⟨rfl, n3, rfl⟩
    go_wp2_with fail
    refine (T4.out _).mono ?_
    rintro e w' ⟨rfl, n5, rfl⟩
    go_wp2_with fail
    refine (T3.out _).mono ?_
    rintro e w' ⟨rfl, n6, rfl⟩
    go_wp2
    all_goals
      go_ret
      exact Ret.eq _ (ret_int (by rw [HT.out]; cases tv <;> cases fv <;> cases fu <;> first | rfl | contradiction))
  · skip
    rw [c1] at t1 hT; rw [c5] at o1 hT; rw [c6] at o2 hT
    clear c1 c5 c6
    have T1 := Lib.hid t1; have T2 := Lib.hid t2; have T3 := Lib.hid t3; have T4 := Lib.hid t4; have HT := Lib.hid hT
    clear t1 t2 t3 t4 hT
    go_enter Tryz.func147, Tryz.ntmps147
    go_wp2_with fail
    refine (HA.out _).mono ?_
    rintro e w' ⟨rfl, n1, rfl⟩
    go_wp2_with fail
    refine (HB.out _).mono ?_
    rintro e w' ⟨rfl, n2, rfl⟩
    go_wp2_with fail
    refine (T1.out _).mono ?_
    rintro e w' ⟨rfl, n3, rfl⟩
    go_wp2_with fail
    refine (T4.out _).mono ?_
    rintro e w' ⟨rfl, n5, rfl⟩
    go_wp2
    all_goals
      go_ret
      exact Ret.eq _ (ret_int (by rw [HT.out]; cases tv <;> cases fv <;> cases fu <;> first | rfl | contradiction))
  · skip
    rw [c1] at t1 hT; rw [c5] at o1 hT; rw [c6] at o2 hT
    clear c1 c5 c6
    have T1 := Lib.hid t1; have T2 := Lib.hid t2; have T3 := Lib.hid t3; have T4 := Lib.hid t4; have HT := Lib.hid hT
    clear t1 t2 t3 t4 hT
    go_enter Tryz.func147, Tryz.ntmps147
    go_wp2_with fail
    refine (HA.out _).mono ?_
    rintro e w' ⟨rfl, n1, rfl⟩
    go_wp2_with fail
    refine (HB.out _).mono ?_
    rintro e w' ⟨rfl, n2, rfl⟩
    go_wp2_with fail
    refine (T1.out _).mono ?_
    rintro e w' ⟨rfl, n3, rfl⟩
    go_wp2_with fail
    refine (T3.out _).mono ?_
    rintro e w' ⟨rfl, n6, rfl⟩
    go_wp2
    all_goals
      go_ret
      exact Ret.eq _ (ret_int (by rw [HT.out]; cases tv <;> cases fv <;> cases fu <;> first | rfl | contradiction))
  · skip
    rw [c1] at t1 hT; rw [c5] at o1 hT; rw [c6] at o2 hT
    clear c1 c5 c6
    have T1 := Lib.hid t1; have T2 := Lib.hid t2; have T3 := Lib.hid t3; have T4 := Lib.hid t4; have HT := Lib.hid hT
    clear t1 t2 t3 t4 hT
    go_enter Tryz.func147, Tryz.ntmps147
    go_wp2_with fail
    refine (HA.out _).mono ?_
    rintro e w' ⟨rfl, n1, rfl⟩
    go_wp2_with fail
    refine (HB.out _).mono ?_
    rintro e w' ⟨rfl, n2, rfl⟩
    go_wp2_with fail
    refine (T1.out _).mono ?_
    rintro e w' ⟨rfl, n3, rfl⟩
    go_wp2
    all_goals
      go_ret
      exact Ret.eq _ (ret_int (by rw [HT.out]; cases tv <;> cases fv <;> cases fu <;> first | rfl | contradiction))
end Go.Proofs.YtimdkjbmeogpoaaGreatDoor
namespace Go.Proofs.YtimdkjbmeogpoaaGreatDoor
open Go.RowKit FF
theorem mul_bound {x y : Int} (hx : -1 ≤ x ∧ x ≤ 1) (hy : -1 ≤ y ∧ y ≤ 1) : -1 ≤ x * y ∧ x * y ≤ 1 := by
  have h1 : x = -1 ∨ x = 0 ∨ x = 1 := by omega
  rcases h1 with rfl | rfl | rfl <;> omega
set_option maxHeartbeats 4000000 in
theorem hilbert_p (a b p : Int) (w : World) (ha : I64 a) (hb : I64 b) (ha0 : a ≠ 0) (hb0 : b ≠ 0) (hp : IsP p.toNat) (hp2 : 2 < p) (hpl : p ≤ 1000000000) :
    Calls Tryz.prog 147 #[.int .i64 a, .int .i64 b, .int .i64 p] w (Ret w (.int .i64 (Hil a b p))) := by
  have hT := show Hil a b p = hilp (oddB (vp p a)) (oddB (vp p b)) (three p) (leg (rest p a) p.toNat) (leg (rest p b) p.toNat) by
    unfold Hil; rw [if_neg (by omega), if_neg (by omega)]
  have hodd : p % 2 = 1 := by have := hp.odd (by omega); omega
  have hA := fun w => valuation_any a p w ha ha0 (by omega) (by omega)
  have hB := fun w => valuation_any b p w hb hb0 (by omega) (by omega)
  have u1 := rest_natAbs_le (p := p) (by omega) ha0
  have v1 := rest_natAbs_le (p := p) (by omega) hb0
  obtain ⟨a1, a2⟩ := ha
  obtain ⟨b1, b2⟩ := hb
  have u2 : I64 (rest p a) ∨ rest p a = 9223372036854775808 := by unfold I64; omega
  have v2 : I64 (rest p b) ∨ rest p b = 9223372036854775808 := by unfold I64; omega
  have hu : I64 (rest p a) := rest_i64 (by omega) ha0 a1 a2
  have hv : I64 (rest p b) := rest_i64 (by omega) hb0 b1 b2
  have jU := fun w => jacobi_any (rest p a) p w hu (by omega) hpl hodd
  have jV := fun w => jacobi_any (rest p b) p w hv (by omega) hpl hodd
  rw [jac_prime hp] at jU jV
  have bu := leg_bound (rest p a) p.toNat
  have bv := leg_bound (rest p b) p.toNat
  have buv := mul_bound bu bv
  have buv' := mul_bound (x := -leg (rest p a) p.toNat) (by omega) bv
  generalize leg (rest p a) p.toNat = ju at *
  generalize leg (rest p b) p.toNat = jv at *
  obtain ⟨bu1, bu2⟩ := bu
  obtain ⟨bv1, bv2⟩ := bv
  obtain ⟨buv1, buv2⟩ := buv
  obtain ⟨buv3, buv4⟩ := buv'
  clear u1 v1 u2 v2 hu hv hp hodd hpl a1 a2 b1 b2
  generalize vp p a = i at *
  generalize rest p a = u at *
  generalize vp p b = k at *
  generalize rest p b = v at *
  have o1 := show ((i : Int) % 2 == 1) = oddB i from rfl
  have o2 := show ((k : Int) % 2 == 1) = oddB k from rfl
  have t3 := show (p % 4 == 3) = three p from rfl
  generalize hr : Hil a b p = R at *
  clear hr
  have HA := Lib.hid hA; have HB := Lib.hid hB; have JU := Lib.hid jU; have JV := Lib.hid jV; clear hA hB jU jV
  rcases Bool.eq_false_or_eq_true (oddB i) with c5 | c5 <;> rcases Bool.eq_false_or_eq_true (oddB k) with c6 | c6
  · skip
    rw [c5] at o1 hT; rw [c6] at o2 hT
    clear c5 c6
    have HT := Lib.hid hT
    clear hT
    rcases Bool.eq_false_or_eq_true (p % 4 == 3) with c7 | c7
    all_goals
      have T3 := Lib.hid (t3.symm.trans c7)
      clear t3
      go_enter Tryz.func147, Tryz.ntmps147
      go_wp2_with fail
      refine (HA.out _).mono ?_
      rintro e w' ⟨rfl, n1, rfl⟩
      go_wp2_with fail
      refine (HB.out _).mono ?_
      rintro e w' ⟨rfl, n2, rfl⟩
      go_wp2_with fail
      refine (JU.out _).mono ?_
      rintro e w' ⟨rfl, n3, rfl⟩
      go_wp2_with fail
      refine (JV.out _).mono ?_
      rintro e w' ⟨rfl, n4, rfl⟩
      go_wp2
      go_ret
      exact Ret.eq _ (ret_int (by rw [HT.out, T3.out]; unfold hilp; simp))
  · skip
    rw [c5] at o1 hT; rw [c6] at o2 hT
    clear c5 c6
    have HT := Lib.hid hT
    clear hT
    clear t3
    go_enter Tryz.func147, Tryz.ntmps147
    go_wp2_with fail
    refine (HA.out _).mono ?_
    rintro e w' ⟨rfl, n1, rfl⟩
    go_wp2_with fail
    refine (HB.out _).mono ?_
    rintro e w' ⟨rfl, n2, rfl⟩
    go_wp2_with fail
    refine (JV.out _).mono ?_
    rintro e w' ⟨rfl, n4, rfl⟩
    go_wp2
    go_ret
    exact Ret.eq _ (ret_int (by rw [HT.out]; unfold hilp; simp))
  · skip
    rw [c5] at o1 hT; rw [c6] at o2 hT
    clear c5 c6
    have HT := Lib.hid hT
    clear hT
    clear t3
    go_enter Tryz.func147, Tryz.ntmps147
    go_wp2_with fail
    refine (HA.out _).mono ?_
    rintro e w' ⟨rfl, n1, rfl⟩
    go_wp2_with fail
    refine (HB.out _).mono ?_
    rintro e w' ⟨rfl, n2, rfl⟩
    go_wp2_with fail
    refine (JU.out _).mono ?_
    rintro e w' ⟨rfl, n3, rfl⟩
    go_wp2
    go_ret
    exact Ret.eq _ (ret_int (by rw [HT.out]; unfold hilp; simp))
  · skip
    rw [c5] at o1 hT; rw [c6] at o2 hT
    clear c5 c6
    have HT := Lib.hid hT
    clear hT
    clear t3
    go_enter Tryz.func147, Tryz.ntmps147
    go_wp2_with fail
    refine (HA.out _).mono ?_
    rintro e w' ⟨rfl, n1, rfl⟩
    go_wp2_with fail
    refine (HB.out _).mono ?_
    rintro e w' ⟨rfl, n2, rfl⟩
    go_wp2
    go_ret
    exact Ret.eq _ (ret_int (by rw [HT.out]; unfold hilp; simp))
theorem hilbert_any (a b p : Int) (w : World) (ha : I64 a) (hb : I64 b) (ha0 : a ≠ 0) (hb0 : b ≠ 0) (hp : p = 0 ∨ isPB p = true) :
    Calls Tryz.prog 147 #[.int .i64 a, .int .i64 b, .int .i64 p] w (Ret w (.int .i64 (Hil a b p))) := by
  by_cases h0 : p = 0
  · subst h0; exact hilbert_zero a b w
  · have hpp : IsP p.toNat ∧ p ≤ 1000000000 := by
      rcases hp with h | h
      · exact absurd h h0
      · exact isPB_iff.1 h
    have := hpp.1.1
    by_cases h2 : p = 2
    · subst h2; exact hilbert_two a b w ha hb ha0 hb0
    · exact hilbert_p a b p w ha hb ha0 hb0 hpp.1 (by omega) hpp.2
def inB (n : Int) : Bool := decide (-1000000000 ≤ n) && decide (n ≤ 1000000000)
theorem inB_iff {n : Int} : inB n = true ↔ -1000000000 ≤ n ∧ n ≤ 1000000000 := by unfold inB; simp
set_option maxHeartbeats 400000 in
theorem inside_any (n : Int) (w : World) :
    Calls Tryz.prog 145 #[.int .i64 n] w (Ret w (.bool (inB n))) := by
  have hF := Lib.hid (show (decide (-1000000000 ≤ n) && decide (n ≤ 1000000000)) = inB n from rfl)
  go_enter Tryz.func145, Tryz.ntmps145
  by_cases h1 : -1000000000 ≤ n
  · have hF2 := Lib.hid (show decide (n ≤ 1000000000) = inB n by rw [← hF.out, decide_eq_true h1]; rfl)
    clear hF
    go_wp2
    go_ret
    exact Ret.eq0 (ret_bool hF2.out)
  · have hF2 := Lib.hid (show false = inB n by rw [← hF.out, decide_eq_false h1]; rfl)
    clear hF
    go_wp2
    go_ret
    exact Ret.eq0 (ret_bool hF2.out)
def hilE (a b p : Int) : Int := if a = 0 ∨ b = 0 then 10 else if inB a = false ∨ inB b = false then 2 else if p ≠ 0 ∧ isPB p = false then 11 else 0
def hilV (a b p : Int) : Int := if hilE a b p = 0 then Hil a b p else 0
set_option maxHeartbeats 1000000 in
theorem Hilbert_any (a b p : Int) (w : World) :
    Calls Tryz.prog 111 #[.int .i64 a, .int .i64 b, .int .i64 p] w (Ret w (.tuple #[.int .i64 (hilV a b p), .int .i64 (hilE a b p)])) := by
  by_cases ha : a = 0
  · have hF := Lib.hid (show hilE a b p = 10 by unfold hilE; rw [if_pos (Or.inl ha)])
    have hG := Lib.hid (show hilV a b p = 0 by unfold hilV; rw [hF.out]; rfl)
    subst ha
    go_enter Tryz.func111, Tryz.ntmps111
    go_wp2
    go_ret2
    exact Ret.eq0 (ret_two hG.out.symm hF.out.symm)
  by_cases hb : b = 0
  · have hF := Lib.hid (show hilE a b p = 10 by unfold hilE; rw [if_pos (Or.inr hb)])
    have hG := Lib.hid (show hilV a b p = 0 by unfold hilV; rw [hF.out]; rfl)
    subst hb
    have d1 := f_beq ha
    go_enter Tryz.func111, Tryz.ntmps111
    go_wp2
    go_ret2
    exact Ret.eq0 (ret_two hG.out.symm hF.out.symm)
  have d1 := f_beq ha
  have d2 := f_beq hb
  have iA := fun w => inside_any a w
  have iB := fun w => inside_any b w
  cases ca : inB a
  · have hF := Lib.hid (show hilE a b p = 2 by unfold hilE; rw [if_neg (by rintro (h | h); exact ha h; exact hb h), if_pos (Or.inl ca)])
    have hG := Lib.hid (show hilV a b p = 0 by unfold hilV; rw [hF.out]; rfl)
    rw [ca] at iA
    have IA := Lib.hid iA
    clear iA iB ca ha hb
    go_enter Tryz.func111, Tryz.ntmps111
    go_wp2_with fail
    refine (IA.out _).mono ?_
    rintro e w' ⟨rfl, n1, rfl⟩
    go_wp2
    go_ret2
    exact Ret.eq _ (ret_two hG.out.symm hF.out.symm)
  cases cb : inB b
  · have hF := Lib.hid (show hilE a b p = 2 by unfold hilE; rw [if_neg (by rintro (h | h); exact ha h; exact hb h), if_pos (Or.inr cb)])
    have hG := Lib.hid (show hilV a b p = 0 by unfold hilV; rw [hF.out]; rfl)
    rw [ca] at iA
    rw [cb] at iB
    have IA := Lib.hid iA
    have IB := Lib.hid iB
    clear iA iB ca cb ha hb
    go_enter Tryz.func111, Tryz.ntmps111
    go_wp2_with fail
    refine (IA.out _).mono ?_
    rintro e w' ⟨rfl, n1, rfl⟩
    go_wp2_with fail
    refine (IB.out _).mono ?_
    rintro e w' ⟨rfl, n2, rfl⟩
    go_wp2
    go_ret2
    exact Ret.eq _ (ret_two hG.out.symm hF.out.symm)
  have hE := Lib.hid (show hilE a b p = if p ≠ 0 ∧ isPB p = false then 11 else 0 by
    unfold hilE; rw [if_neg (by rintro (h | h); exact ha h; exact hb h), if_neg (by rw [ca, cb]; simp)])
  have ra := inB_iff.1 ca
  have rb := inB_iff.1 cb
  rw [ca] at iA
  rw [cb] at iB
  have IA := Lib.hid iA
  have IB := Lib.hid iB
  have iP := fun w => isPrime_any p w
  by_cases hp : p = 0
  · have hF := Lib.hid (show hilE a b p = 0 by rw [hE.out, if_neg (fun h => h.1 hp)])
    have hG := Lib.hid (show hilV a b p = Hil a b p by unfold hilV; rw [hF.out]; rfl)
    have HH := Lib.hid (fun w => hilbert_any a b p w ⟨by omega, by omega⟩ ⟨by omega, by omega⟩ ha hb (Or.inl hp))
    clear hE iA iB ca cb ha hb iP ra rb
    generalize Hil a b p = R at *
    subst hp
    go_enter Tryz.func111, Tryz.ntmps111
    go_wp2_with fail
    refine (IA.out _).mono ?_
    rintro e w' ⟨rfl, n1, rfl⟩
    go_wp2_with fail
    refine (IB.out _).mono ?_
    rintro e w' ⟨rfl, n2, rfl⟩
    go_wp2_with fail
    refine (HH.out _).mono ?_
    rintro e w' ⟨rfl, n3, rfl⟩
    go_wp2
    go_ret2
    exact Ret.eq _ (ret_two hG.out.symm hF.out.symm)
  have d3 : (p != 0) = true := bne_iff_ne.2 hp
  cases cp : isPB p
  · have hF := Lib.hid (show hilE a b p = 11 by rw [hE.out, if_pos ⟨hp, cp⟩])
    have hG := Lib.hid (show hilV a b p = 0 by unfold hilV; rw [hF.out]; rfl)
    rw [cp] at iP
    have IP := Lib.hid iP
    clear hE iA iB ca cb ha hb iP cp hp
    go_enter Tryz.func111, Tryz.ntmps111
    go_wp2_with fail
    refine (IA.out _).mono ?_
    rintro e w' ⟨rfl, n1, rfl⟩
    go_wp2_with fail
    refine (IB.out _).mono ?_
    rintro e w' ⟨rfl, n2, rfl⟩
    go_wp2_with fail
    refine (IP.out _).mono ?_
    rintro e w' ⟨rfl, n3, rfl⟩
    go_wp2
    go_ret2
    exact Ret.eq _ (ret_two hG.out.symm hF.out.symm)
  · have hF := Lib.hid (show hilE a b p = 0 by rw [hE.out, if_neg (fun h => by rw [cp] at h; exact absurd h.2 (by simp))])
    have hG := Lib.hid (show hilV a b p = Hil a b p by unfold hilV; rw [hF.out]; rfl)
    have HH := Lib.hid (fun w => hilbert_any a b p w ⟨by omega, by omega⟩ ⟨by omega, by omega⟩ ha hb (Or.inr cp))
    rw [cp] at iP
    have IP := Lib.hid iP
    clear hE iA iB ca cb ha hb iP cp hp ra rb
    generalize Hil a b p = R at *
    go_enter Tryz.func111, Tryz.ntmps111
    go_wp2_with fail
    refine (IA.out _).mono ?_
    rintro e w' ⟨rfl, n1, rfl⟩
    go_wp2_with fail
    refine (IB.out _).mono ?_
    rintro e w' ⟨rfl, n2, rfl⟩
    go_wp2_with fail
    refine (IP.out _).mono ?_
    rintro e w' ⟨rfl, n3, rfl⟩
    go_wp2_with fail
    refine (HH.out _).mono ?_
    rintro e w' ⟨rfl, n4, rfl⟩
    go_wp2
    go_ret2
    exact Ret.eq _ (ret_two hG.out.symm hF.out.symm)
end Go.Proofs.YtimdkjbmeogpoaaGreatDoor
