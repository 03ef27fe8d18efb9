/- Valuation, Legendre, Jacobi of both sides. -/
import Derived.Test.YtmlkiddkgikdhaaSym
import Derived.Test.YtmlkiddkgikdhaaFacs
import Derived.Test.YtmlkiddkgikdhaaRefA
namespace Go.Proofs.Ytmlkiddkgikdhaa
open Go.RowKit FF

theorem flatP_get {l : List (Int × Nat)} {i : Nat} (h : i < l.length) : (flatP l).getD (2 * i) 0 = (l.getD i (0, 0)).1 ∧ (flatP l).getD (2 * i + 1) 0 = ((l.getD i (0, 0)).2 : Int) := by
  induction l generalizing i with
  | nil => simp at h
  | cons x l ih =>
    cases i with
    | zero => exact ⟨rfl, rfl⟩
    | succ i =>
      have := ih (i := i) (by simpa using h)
      rw [show 2 * (i + 1) = 2 * i + 1 + 1 by omega]
      exact this
theorem flatP_len (l : List (Int × Nat)) : (flatP l).length = 2 * l.length := by
  induction l with
  | nil => rfl
  | cons x l ih => show (flatP l).length + 1 + 1 = _; rw [ih, List.length_cons]; omega
theorem pow_bound {x : Int} (h : -1 ≤ x ∧ x ≤ 1) (k : Nat) : -1 ≤ x ^ k ∧ x ^ k ≤ 1 := by
  induction k with
  | zero => simp
  | succ k ih => rw [Int.pow_succ]; exact mul_bound ih h
theorem jacL_append (a : Int) (l m : List (Int × Nat)) : jacL a (l ++ m) = jacL a l * jacL a m := by
  induction l with
  | nil => simp [jacL]
  | cons x l ih => show leg a x.1.toNat ^ x.2 * jacL a (l ++ m) = _; rw [ih, ← Int.mul_assoc]; rfl
theorem jacL_bound (a : Int) (l : List (Int × Nat)) : -1 ≤ jacL a l ∧ jacL a l ≤ 1 := by
  induction l with
  | nil => simp [jacL]
  | cons x l ih => exact mul_bound (pow_bound (leg_bound _ _) _) ih
theorem jacL_take (a : Int) {l : List (Int × Nat)} {i : Nat} (h : i < l.length) : jacL a (l.take (i + 1)) = jacL a (l.take i) * leg a (l.getD i (0, 0)).1.toNat ^ (l.getD i (0, 0)).2 := by
  rw [take_snoc (0, 0) h, jacL_append]
  show _ * (_ * 1) = _
  rw [Int.mul_one]
theorem odd_prime {n : Int} (h1 : 1 ≤ n) (ho : n % 2 = 1) {x : Int × Nat} (hx : x ∈ facs n) : IsP x.1.toNat ∧ 2 < x.1 ∧ x.1 ≤ n ∧ 1 ≤ x.2 ∧ x.2 ≤ n := by
  have ok := facs_ok h1
  obtain ⟨p1, p2, p3, p4⟩ := ok.prime x hx
  have hd : ∀ l : List (Int × Nat), x ∈ l → x.1 ^ x.2 ∣ prodF l := by
    intro l
    induction l with
    | nil => intro h; cases h
    | cons y l ih =>
      intro h
      rcases List.mem_cons.1 h with rfl | h
      · exact ⟨_, rfl⟩
      · exact Int.dvd_trans (ih h) ⟨y.1 ^ y.2, by rw [Int.mul_comm]; rfl⟩
  have hd2 := hd _ hx
  rw [ok.prod] at hd2
  have hne : x.1 ≠ 2 := by
    intro e
    rw [e] at hd2
    have h2 : (2 : Int) ∣ n := Int.dvd_trans (by obtain ⟨k, hk⟩ : ∃ k, x.2 = k + 1 := ⟨x.2 - 1, by omega⟩
                                                 rw [hk, Int.pow_succ, Int.mul_comm]; exact ⟨_, rfl⟩) hd2
    have := Int.emod_eq_zero_of_dvd h2
    omega
  refine ⟨p1, by omega, p4, p2, ?_⟩
  have h3 := Int.le_of_dvd (by omega) hd2
  have h4 : (x.2 : Int) < x.1 ^ x.2 := by
    have h5 : x.2 < 2 ^ x.2 := Nat.lt_two_pow_self
    have h6 : (2 : Int) ^ x.2 ≤ x.1 ^ x.2 := by
      have : ∀ k : Nat, (2 : Int) ^ k ≤ x.1 ^ k := fun k => by
        induction k with
        | zero => simp
        | succ k ih => rw [Int.pow_succ, Int.pow_succ]; exact Int.mul_le_mul ih (by omega) (by omega) (Int.le_of_lt (Int.pow_pos (by omega)))
      exact this _
    have h7 : ((x.2 : Nat) : Int) < ((2 ^ x.2 : Nat) : Int) := by omega
    push_cast at h7
    omega
  omega

set_option maxHeartbeats 2000000 in
set_option maxRecDepth 100000 in
theorem rJacobi_any (a n : Int) (w : World) (ha : I64 a) :
    Calls Try.prog 53 #[.int .i64 a, .int .i64 n] w fun e w' => e = .returned (.tuple #[.int .i64 (jacV a n), .int .i64 (jacE n)]) ∧ Below w.heap.size w w' := by
  have hM := Lib.hid (fun w => rIsModulus_any n w)
  cases h : modB n
  · have E := Lib.hid (show jacE n = 2 from if_pos h)
    have V := Lib.hid (show jacV a n = 0 by unfold jacV; rw [E.out]; rfl)
    rw [h] at hM
    clear h
    go_enter Try.func53, Try.ntmps53
    go_wp2_with fail
    refine (hM.out _).mono ?_
    rintro e w' ⟨rfl, n1, rfl⟩
    go_wp2_with fail
    go_ret2
    exact ⟨ret_two V.out.symm E.out.symm, below_drewN (Below.refl _ _) _⟩
  · obtain ⟨m1, m2⟩ := modB_true.1 h
    by_cases ho : n % 2 = 0
    · have E := Lib.hid (show jacE n = 3 by unfold jacE; rw [h, if_neg (by simp), if_pos ho])
      have V := Lib.hid (show jacV a n = 0 by unfold jacV; rw [E.out]; rfl)
      rw [h] at hM
      clear h
      have d := t_beq ho
      clear ho
      go_enter Try.func53, Try.ntmps53
      go_wp2_with fail
      refine (hM.out _).mono ?_
      rintro e w' ⟨rfl, n1, rfl⟩
      go_wp2_with fail
      go_ret2
      exact ⟨ret_two V.out.symm E.out.symm, below_drewN (Below.refl _ _) _⟩
    · have E := Lib.hid (show jacE n = 0 by unfold jacE; rw [h, if_neg (by simp), if_neg ho])
      have V := Lib.hid (show jacV a n = jacL a (facs n) by unfold jacV; rw [E.out, if_pos rfl]; exact ((facs_ok m1).jac a).symm)
      have hF := Lib.hid (fun w => rFactors_any n w m1 m2)
      have hP := Lib.hid (fun i (hi : i < (facs n).length) => odd_prime m1 (show n % 2 = 1 by omega) (show (facs n).getD i (0, 0) ∈ facs n by rw [List.getD_eq_getElem?_getD, List.getElem?_eq_getElem hi]; exact List.getElem_mem hi))
      have hL := facs_len m1 m2
      rw [h] at hM
      clear h
      have d := f_beq ho
      clear ho
      go_enter Try.func53, Try.ntmps53
      go_wp2_with fail
      refine (hM.out _).mono ?_
      rintro e w' ⟨rfl, n1, rfl⟩
      go_wp2_with fail
      refine (hF.out _).mono ?_
      rintro e w1 ⟨v, rfl, hG⟩
      obtain ⟨A, c, rfl, hs, hc1, hc2, _⟩ := hG.shows
      have HB := Lib.hid ((below_drewN (Below.refl w.heap.size w) n1).trans hG.2)
      have HS := Lib.hid hs
      clear hG hs
      generalize hl : facs n = l at *
      clear hl
      unfold maxLen at hc2
      go_wp2_with fail
      go_loopw [6, 8, 9] (fun s6 s8 _ wr => ∃ i : Nat, s8 = .int .i64 i ∧ i ≤ l.length ∧ s6 = .int .i64 (jacL a (l.take i)) ∧ ∃ m, wr = w1.drewN m) (fun _ s8 _ _ => l.length - (intOf s8).toNat)
      case atStart => exact ⟨0, rfl, Nat.zero_le _, rfl, 0, rfl⟩
      case round =>
        obtain ⟨i, rfl, hi, rfl, m, rfl⟩ := hrel
        by_cases hlt : i < l.length
        · obtain ⟨b, o, rfl, hbk, hcell⟩ := HS.out (by rw [flatP_len]; omega)
          have hc0 := hcell (2 * i) (by rw [flatP_len]; omega)
          have hc1' := hcell (2 * i + 1) (by rw [flatP_len]; omega)
          rw [(flatP_get hlt).1] at hc0
          rw [(flatP_get hlt).2] at hc1'
          clear hcell
          obtain ⟨q1, q2, q3, q4, q5⟩ := hP.out i hlt
          have hLg := Lib.hid (fun w => rLegendre_any a (l.getD i (0, 0)).1 w ha q1 q2 (by omega))
          have hJT := Lib.hid (jacL_take a hlt)
          have hJb := jacL_bound a (l.take i)
          have hLb := leg_bound a (l.getD i (0, 0)).1.toNat
          clear q1
          generalize jacL a (l.take i) = J at *
          generalize leg a (l.getD i (0, 0)).1.toNat = L at *
          generalize (l.getD i (0, 0)).1 = q at *
          generalize (l.getD i (0, 0)).2 = K at *
          rw [Nat.mul_comm 2 i] at hc0 hc1'
          rw [← Nat.add_assoc] at hc1'
          clear hP HS
          generalize l.length = nl at *
          go_wp2_with fail
          go_loopw [6, 9] (fun s6 s9 wr => ∃ k : Nat, s9 = .int .i64 k ∧ k ≤ K ∧ s6 = .int .i64 (J * L ^ k) ∧ ∃ m, wr = w1.drewN m) (fun _ s9 _ => K - (intOf s9).toNat)
          case atStart => exact ⟨0, rfl, Nat.zero_le _, by simp, _, rfl⟩
          case round =>
            obtain ⟨k, rfl, hk, rfl, m2, rfl⟩ := hrel
            by_cases hkl : k < K
            · have hb1 := mul_bound hJb (pow_bound hLb k)
              have hb2 := mul_bound hJb (pow_bound hLb (k + 1))
              have hpp := Lib.hid (show J * L ^ (k + 1) = J * L ^ k * L by rw [Int.pow_succ, Int.mul_assoc])
              rw [hpp.out] at hb2
              clear hJT hJb hLb
              generalize J * L ^ k = X at *
              obtain ⟨hb1, hb1'⟩ := hb1
              obtain ⟨hb2, hb2'⟩ := hb2
              go_wp2_with fail
              refine (hLg.out _).mono ?_
              rintro e w' ⟨rfl, n3, rfl⟩
              go_wp2_with fail
              exact ⟨⟨k + 1, by go_num, by omega, by rw [hpp.out], _, rfl⟩, by simp [intOf]; omega⟩
            · obtain rfl : k = K := by omega
              rw [← hJT.out]
              clear hJT hJb hLb hLg
              go_wp2_with fail
              exact ⟨⟨i + 1, by go_num, by omega, rfl, _, rfl⟩, by simp [intOf]; omega⟩
        · obtain rfl : i = l.length := by omega
          rw [List.take_length, ← V.out]
          clear V HS hP hF
          go_wp2_with fail
          go_ret2
          exact ⟨ret_two rfl E.out.symm, below_drewN HB.out _⟩
end Go.Proofs.Ytmlkiddkgikdhaa
namespace Go.Proofs.Ytmlkiddkgikdhaa
open Go.RowKit FF
/-- the error of a valuation -/
def valE (n p : Int) : Int := if isPB p = false then 11 else if n = 0 then 10 else 0
/-- the exponent, or 0 -/
def valV (n p : Int) : Int := if valE n p = 0 then (vp p n : Int) else 0
theorem isPB_range {p : Int} (h : isPB p = true) : 2 ≤ p ∧ p ≤ 1000000000 ∧ IsP p.toNat := by
  obtain ⟨h1, h2⟩ := isPB_iff.1 h
  have := h1.1
  exact ⟨by omega, h2, h1⟩

set_option maxHeartbeats 400000 in
theorem Valuation_any (n p : Int) (w : World) (hn : I64 n) :
    Calls Try.prog 49 #[.int .i64 n, .int .i64 p] w (Ret w (.tuple #[.int .i64 (valV n p), .int .i64 (valE n p)])) := by
  have hP := Lib.hid (fun w => isPrime_any p w)
  cases h : isPB p
  · have E := Lib.hid (show valE n p = 11 from if_pos h)
    have V := Lib.hid (show valV n p = 0 by unfold valV; rw [E.out]; rfl)
    rw [h] at hP
    clear h
    go_enter Try.func49, Try.ntmps49
    go_wp2_with fail
    refine (hP.out _).mono ?_
    rintro e w' ⟨rfl, n1, rfl⟩
    go_wp2_with fail
    go_ret2
    exact Ret.eq _ (ret_two V.out.symm E.out.symm)
  · by_cases h0 : n = 0
    · have E := Lib.hid (show valE n p = 10 by unfold valE; rw [h, if_neg (by simp), if_pos h0])
      have V := Lib.hid (show valV n p = 0 by unfold valV; rw [E.out]; rfl)
      rw [h] at hP
      clear h
      subst h0
      go_enter Try.func49, Try.ntmps49
      go_wp2_with fail
      refine (hP.out _).mono ?_
      rintro e w' ⟨rfl, n1, rfl⟩
      go_wp2_with fail
      go_ret2
      exact Ret.eq _ (ret_two V.out.symm E.out.symm)
    · obtain ⟨p1, p2, _⟩ := isPB_range h
      have E := Lib.hid (show valE n p = 0 by unfold valE; rw [h, if_neg (by simp), if_neg h0])
      have V := Lib.hid (show valV n p = (vp p n : Int) by unfold valV; rw [E.out]; rfl)
      have hV := Lib.hid (fun w => valuation_any n p w hn h0 p1 (by omega))
      rw [h] at hP
      clear h
      have d := f_beq h0
      go_enter Try.func49, Try.ntmps49
      go_wp2_with fail
      refine (hP.out _).mono ?_
      rintro e w' ⟨rfl, n1, rfl⟩
      go_wp2_with fail
      refine (hV.out _).mono ?_
      rintro e w' ⟨rfl, n2, rfl⟩
      go_wp2_with fail
      go_ret2
      exact Ret.eq _ (ret_two V.out.symm E.out.symm)

set_option maxHeartbeats 400000 in
theorem rValuation_any (n p : Int) (w : World) (hn : I64 n) :
    Calls Try.prog 50 #[.int .i64 n, .int .i64 p] w (Ret w (.tuple #[.int .i64 (valV n p), .int .i64 (valE n p)])) := by
  have hP := Lib.hid (fun w => rIsPrime_any p w)
  cases h : isPB p
  · have E := Lib.hid (show valE n p = 11 from if_pos h)
    have V := Lib.hid (show valV n p = 0 by unfold valV; rw [E.out]; rfl)
    rw [h] at hP
    clear h
    go_enter Try.func50, Try.ntmps50
    go_wp2_with fail
    refine (hP.out _).mono ?_
    rintro e w' ⟨rfl, n1, rfl⟩
    go_wp2_with fail
    go_ret2
    exact Ret.eq _ (ret_two V.out.symm E.out.symm)
  · by_cases h0 : n = 0
    · have E := Lib.hid (show valE n p = 10 by unfold valE; rw [h, if_neg (by simp), if_pos h0])
      have V := Lib.hid (show valV n p = 0 by unfold valV; rw [E.out]; rfl)
      rw [h] at hP
      clear h
      subst h0
      go_enter Try.func50, Try.ntmps50
      go_wp2_with fail
      refine (hP.out _).mono ?_
      rintro e w' ⟨rfl, n1, rfl⟩
      go_wp2_with fail
      go_ret2
      exact Ret.eq _ (ret_two V.out.symm E.out.symm)
    · obtain ⟨p1, p2, _⟩ := isPB_range h
      have E := Lib.hid (show valE n p = 0 by unfold valE; rw [h, if_neg (by simp), if_neg h0])
      have V := Lib.hid (show valV n p = (vp p n : Int) by unfold valV; rw [E.out]; rfl)
      have hN := Lib.hid h0
      rw [h] at hP
      clear h
      have d := f_beq h0
      clear h0
      obtain ⟨l1, l2⟩ := hn
      go_enter Try.func50, Try.ntmps50
      go_wp2_with fail
      refine (hP.out _).mono ?_
      rintro e w' ⟨rfl, n1, rfl⟩
      go_wp2_with fail
      go_loop [0, 6] (fun t u => ∃ (x : Int) (k : Nat), t = .int .i64 x ∧ u = .int .i64 k ∧ x ≠ 0 ∧ -9223372036854775808 ≤ x ∧ x ≤ 9223372036854775807 ∧ k + vp p x = vp p n ∧ rest p x = rest p n) (fun t _ => (intOf t).natAbs)
      case atStart => exact ⟨n, 0, rfl, rfl, hN.out, l1, l2, by omega, rfl⟩
      case round =>
        obtain ⟨x, k, rfl, rfl, hx0, hxl, hxu, hk, hr⟩ := hrel
        have hkb : k < 64 := by
          have h3 := vp_lt p1 hN.out
          have h4 : n.natAbs < 2 ^ 64 := by omega
          have := (Nat.pow_lt_pow_iff_right (by omega)).1 (Nat.lt_of_le_of_lt h3 h4)
          omega
        by_cases hd : p ∣ x
        · have ht : (x.tmod p == 0) = true := by rw [beq_iff_eq]; exact Int.tmod_eq_zero_of_dvd hd
          have hq := Lib.hid (Int.tdiv_eq_ediv_of_dvd hd)
          have hlt := natAbs_div_lt p1 hx0 hd
          rw [← hq.out] at hlt
          have hv := Lib.hid (vp_dvd p1 hx0 hd)
          have hr2 := Lib.hid (rest_dvd p1 hx0 hd)
          have hk2 := Lib.hid hk; have hr3 := Lib.hid hr
          clear hk hr hd
          go_wp2
          exact ⟨⟨x.tdiv p, k + 1, rfl, by go_num, hlt.2, by omega, by omega, by rw [← hk2.out, hv.out, hq.out]; omega, by rw [← hr3.out, hr2.out, hq.out]⟩, hlt.1⟩
        · have ht : (x.tmod p == 0) = false := by rw [beq_eq_false_iff_ne]; exact fun e => hd (Int.dvd_of_tmod_eq_zero e)
          have hv := Lib.hid (vp_not hd)
          have hk2 := Lib.hid hk
          clear hk hr hd
          go_wp2
          go_ret2
          exact Ret.eq _ (ret_two (by rw [V.out, ← hk2.out, hv.out]; omega) E.out.symm)

/-- the error of a Legendre symbol -/
def legE (p : Int) : Int := if p = 2 ∨ isPB p = false then 11 else 0
/-- the Legendre symbol, or 0 -/
def legV (a p : Int) : Int := if legE p = 0 then leg a p.toNat else 0

set_option maxHeartbeats 400000 in
theorem Legendre_any (a p : Int) (w : World) (ha : I64 a) :
    Calls Try.prog 51 #[.int .i64 a, .int .i64 p] w (Ret w (.tuple #[.int .i64 (legV a p), .int .i64 (legE p)])) := by
  have hP := Lib.hid (fun w => isPrime_any p w)
  by_cases h2 : p = 2
  · have E := Lib.hid (show legE p = 11 from if_pos (Or.inl h2))
    have V := Lib.hid (show legV a p = 0 by unfold legV; rw [E.out]; rfl)
    subst h2
    go_enter Try.func51, Try.ntmps51
    go_wp2_with fail
    go_ret2
    exact Ret.eq0 (ret_two V.out.symm E.out.symm)
  have d := f_beq h2
  cases h : isPB p
  · have E := Lib.hid (show legE p = 11 from if_pos (Or.inr h))
    have V := Lib.hid (show legV a p = 0 by unfold legV; rw [E.out]; rfl)
    rw [h] at hP
    clear h
    go_enter Try.func51, Try.ntmps51
    go_wp2_with fail
    refine (hP.out _).mono ?_
    rintro e w' ⟨rfl, n1, rfl⟩
    go_wp2_with fail
    go_ret2
    exact Ret.eq _ (ret_two V.out.symm E.out.symm)
  · obtain ⟨p1, p2, p3⟩ := isPB_range h
    have E := Lib.hid (show legE p = 0 from if_neg (by rintro (g | g); exact h2 g; rw [h] at g; exact absurd g (by simp)))
    have V := Lib.hid (show legV a p = Jac a p.toNat by unfold legV; rw [E.out, if_pos rfl]; exact (jac_prime p3 a).symm)
    have ho : p % 2 = 1 := by have := p3.odd (by omega); omega
    have hJ := Lib.hid (fun w => jacobi_any a p w ha (by omega) p2 ho)
    rw [h] at hP
    clear h
    go_enter Try.func51, Try.ntmps51
    go_wp2_with fail
    refine (hP.out _).mono ?_
    rintro e w' ⟨rfl, n1, rfl⟩
    go_wp2_with fail
    refine (hJ.out _).mono ?_
    rintro e w' ⟨rfl, n2, rfl⟩
    go_wp2_with fail
    go_ret2
    exact Ret.eq _ (ret_two V.out.symm E.out.symm)

set_option maxHeartbeats 400000 in
theorem rLegendre2_any (a p : Int) (w : World) (ha : I64 a) :
    Calls Try.prog 52 #[.int .i64 a, .int .i64 p] w (Ret w (.tuple #[.int .i64 (legV a p), .int .i64 (legE p)])) := by
  have hP := Lib.hid (fun w => rIsPrime_any p w)
  cases h : isPB p
  · have E := Lib.hid (show legE p = 11 from if_pos (Or.inr h))
    have V := Lib.hid (show legV a p = 0 by unfold legV; rw [E.out]; rfl)
    rw [h] at hP
    clear h
    go_enter Try.func52, Try.ntmps52
    go_wp2_with fail
    refine (hP.out _).mono ?_
    rintro e w' ⟨rfl, n1, rfl⟩
    go_wp2_with fail
    go_ret2
    exact Ret.eq _ (ret_two V.out.symm E.out.symm)
  by_cases h2 : p = 2
  · have E := Lib.hid (show legE p = 11 from if_pos (Or.inl h2))
    have V := Lib.hid (show legV a p = 0 by unfold legV; rw [E.out]; rfl)
    rw [h] at hP
    clear h
    subst h2
    go_enter Try.func52, Try.ntmps52
    go_wp2_with fail
    refine (hP.out _).mono ?_
    rintro e w' ⟨rfl, n1, rfl⟩
    go_wp2_with fail
    go_ret2
    exact Ret.eq _ (ret_two V.out.symm E.out.symm)
  · have d := f_beq h2
    obtain ⟨p1, p2, p3⟩ := isPB_range h
    have E := Lib.hid (show legE p = 0 from if_neg (by rintro (g | g); exact h2 g; rw [h] at g; exact absurd g (by simp)))
    have V := Lib.hid (show legV a p = leg a p.toNat by unfold legV; rw [E.out, if_pos rfl])
    have hJ := Lib.hid (fun w => rLegendre_any a p w ha p3 (by omega) p2)
    rw [h] at hP
    clear h
    go_enter Try.func52, Try.ntmps52
    go_wp2_with fail
    refine (hP.out _).mono ?_
    rintro e w' ⟨rfl, n1, rfl⟩
    go_wp2_with fail
    refine (hJ.out _).mono ?_
    rintro e w' ⟨rfl, n2, rfl⟩
    go_wp2_with fail
    go_ret2
    exact Ret.eq _ (ret_two V.out.symm E.out.symm)
end Go.Proofs.Ytmlkiddkgikdhaa
