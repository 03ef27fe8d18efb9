/- Inverse of the program and of the reference; Bezout of the reference; small functions of the verifier. -/
import Derived.Test.YtmlkiddkgikdhaaBez
import Derived.Test.YtmlkiddkgikdhaaRefA
namespace Go.Proofs.Ytmlkiddkgikdhaa
open Go.RowKit FF

/-- the error of an inverse -/
def invE (a m : Int) : Int := if modB m = false then 2 else if Int.gcd a m = 1 then 0 else 12
/-- the inverse, or 0 -/
def invV (a m : Int) : Int := if invE a m = 0 then invM a m else 0
theorem inv_bad {a m : Int} (h : modB m = false) : invE a m = 2 ∧ invV a m = 0 := by
  have e : invE a m = 2 := if_pos h
  exact ⟨e, by unfold invV; rw [e]; rfl⟩
theorem inv_none {a m : Int} (h : modB m = true) (g : Int.gcd a m ≠ 1) : invE a m = 12 ∧ invV a m = 0 := by
  have e : invE a m = 12 := by unfold invE; rw [h, if_neg (by simp), if_neg g]
  exact ⟨e, by unfold invV; rw [e]; rfl⟩
theorem inv_good {a m : Int} (h : modB m = true) (g : Int.gcd a m = 1) : invE a m = 0 ∧ invV a m = invM a m := by
  have e : invE a m = 0 := by unfold invE; rw [h, if_neg (by simp), if_pos g]
  exact ⟨e, by unfold invV; rw [e]; rfl⟩

set_option maxHeartbeats 400000 in
theorem Inverse_any (a m : Int) (w : World) (ha : I64 a) :
    Calls Try.prog 30 #[.int .i64 a, .int .i64 m] w (Ret w (.tuple #[.int .i64 (invV a m), .int .i64 (invE a m)])) := by
  have hM := Lib.hid (fun w => modulus_any m w)
  cases h : modB m
  · obtain ⟨e1, e2⟩ := inv_bad (a := a) h
    have E1 := Lib.hid e1; have E2 := Lib.hid e2; clear e1 e2
    rw [h] at hM
    clear h
    go_enter Try.func30, Try.ntmps30
    go_wp2_with fail
    refine (hM.out _).mono ?_
    rintro e w' ⟨rfl, n1, rfl⟩
    go_wp2_with fail
    go_ret2
    exact Ret.eq _ (ret_two E2.out.symm E1.out.symm)
  · obtain ⟨m1, m2⟩ := modB_true.1 h
    have hD := Lib.hid (fun w => mod_any a m w ha (by omega) ⟨by omega, by omega⟩)
    have r0 := Int.emod_nonneg a (b := m) (by omega)
    have r1 := Int.emod_lt_of_pos a (b := m) (by omega)
    have hG := Lib.hid (fun w => gcd_any (a % m) m w (by omega) (by omega))
    rw [gcd_emod_left] at hG
    by_cases g : Int.gcd a m = 1
    · obtain ⟨e1, e2⟩ := inv_good h g
      have E1 := Lib.hid e1; have E2 := Lib.hid e2; clear e1 e2
      have hI := Lib.hid (fun w => inverse_any a m w ha m1 m2 g)
      rw [g] at hG
      rw [h] at hM
      clear h g ha
      go_enter Try.func30, Try.ntmps30
      go_wp2_with fail
      refine (hM.out _).mono ?_
      rintro e w' ⟨rfl, n1, rfl⟩
      go_wp2_with fail
      refine (hD.out _).mono ?_
      rintro e w' ⟨rfl, n2, rfl⟩
      go_wp2_with fail
      refine (hG.out _).mono ?_
      rintro e w' ⟨rfl, n3, rfl⟩
      go_wp2_with fail
      refine (hI.out _).mono ?_
      rintro e w' ⟨rfl, n4, rfl⟩
      go_wp2_with fail
      go_ret2
      exact Ret.eq _ (ret_two E2.out.symm E1.out.symm)
    · obtain ⟨e1, e2⟩ := inv_none h g
      have E1 := Lib.hid e1; have E2 := Lib.hid e2; clear e1 e2
      have d : (((Int.gcd a m : Nat) : Int) != 1) = true := bne_iff_ne.2 (by omega)
      generalize ((Int.gcd a m : Nat) : Int) = G at *
      rw [h] at hM
      clear h g ha
      go_enter Try.func30, Try.ntmps30
      go_wp2_with fail
      refine (hM.out _).mono ?_
      rintro e w' ⟨rfl, n1, rfl⟩
      go_wp2_with fail
      refine (hD.out _).mono ?_
      rintro e w' ⟨rfl, n2, rfl⟩
      go_wp2_with fail
      refine (hG.out _).mono ?_
      rintro e w' ⟨rfl, n3, rfl⟩
      go_wp2_with fail
      go_ret2
      exact Ret.eq _ (ret_two E2.out.symm E1.out.symm)

theorem Eu.gcd {a m r x y : Int} (h : Eu a m r 0 x y) : r = Int.gcd a m := by
  have hg := h.g
  rw [Int.gcd_zero_right] at hg
  have := h.r0
  omega

set_option maxHeartbeats 1000000 in
theorem rInverse_any (a m : Int) (w : World) (ha : I64 a) :
    Calls Try.prog 31 #[.int .i64 a, .int .i64 m] w (Ret w (.tuple #[.int .i64 (invV a m), .int .i64 (invE a m)])) := by
  have hM := Lib.hid (fun w => rIsModulus_any m w)
  cases h : modB m
  · obtain ⟨e1, e2⟩ := inv_bad (a := a) h
    have E1 := Lib.hid e1; have E2 := Lib.hid e2; clear e1 e2
    rw [h] at hM
    clear h
    go_enter Try.func31, Try.ntmps31
    go_wp2_with fail
    refine (hM.out _).mono ?_
    rintro e w' ⟨rfl, n1, rfl⟩
    go_wp2_with fail
    go_ret2
    exact Ret.eq _ (ret_two E2.out.symm E1.out.symm)
  · obtain ⟨m1, m2⟩ := modB_true.1 h
    have hmm : I64 m := ⟨by omega, by omega⟩
    have hD := Lib.hid (fun (a : Int) (w : World) (ha : I64 a) => rMod_any a m w ha (by omega) hmm)
    have hInv := Lib.hid (fun (r x y : Int) (hE : Eu a m r 0 x y) (hr : r = 1) => (show invE a m = 0 ∧ invV a m = x % m from by
      have hg : Int.gcd a m = 1 := by have := Eu.gcd hE; omega
      rw [hE.done m1 hg]; exact inv_good h hg))
    have hNo := Lib.hid (fun (r x y : Int) (hE : Eu a m r 0 x y) (hr : r ≠ 1) => inv_none (a := a) h (by have := Eu.gcd hE; omega))
    rw [h] at hM
    clear h hmm
    go_enter Try.func31, Try.ntmps31
    go_wp2_with fail
    refine (hM.out _).mono ?_
    rintro e w' ⟨rfl, n1, rfl⟩
    go_wp2_with fail
    refine (hD.out _ _ ha).mono ?_
    rintro e w' ⟨rfl, n2, rfl⟩
    clear ha
    go_wp2_with fail
    go_loopw [6, 7, 8, 9, 10] (fun sr ss sx sy _ wr => ∃ x y r s : Int, sx = .int .i64 x ∧ sy = .int .i64 y ∧ sr = .int .i64 r ∧ ss = .int .i64 s ∧ Eu a m r s x y ∧ ∃ n, wr = w.drewN n) (fun _ s _ _ _ _ => (intOf s).toNat)
    case atStart => exact ⟨1, 0, a % m, m, rfl, rfl, rfl, rfl, Eu.start m1, _, rfl⟩
    case round =>
      obtain ⟨x, y, r, s, rfl, rfl, rfl, rfl, hE, n2, rfl⟩ := hrel
      obtain ⟨b1, b2, b3, b4, b5, b6, b7, b8⟩ := hE.bounds
      by_cases hs : s = 0
      · subst hs
        have hx : I64 x := ⟨by omega, by omega⟩
        by_cases hr : r = 1
        · obtain ⟨e1, e2⟩ := hInv.out r x y hE hr
          have E1 := Lib.hid e1; have E2 := Lib.hid e2; clear e1 e2 hE hInv hNo
          subst hr
          go_wp2_with fail
          refine (hD.out _ _ hx).mono ?_
          rintro e w' ⟨rfl, n3, rfl⟩
          go_wp2_with fail
          go_ret2
          exact Ret.eq _ (ret_two E2.out.symm E1.out.symm)
        · obtain ⟨e1, e2⟩ := hNo.out r x y hE hr
          have E1 := Lib.hid e1; have E2 := Lib.hid e2; clear e1 e2 hE hInv hNo
          have d : (r != 1) = true := bne_iff_ne.2 hr
          go_wp2_with fail
          go_ret2
          exact Ret.eq _ (ret_two E2.out.symm E1.out.symm)
      · obtain ⟨hE', c1, c2, c3, c4, c5, c6⟩ := hE.step hs
        have hH := Lib.hid hE'
        obtain ⟨d1, d2, d3, d4, d5, d6, d7, d8⟩ := hE'.bounds
        clear hE hE' hInv hNo
        have c3a : -m ≤ r / s * y := by omega
        have c3b : r / s * y ≤ m := by omega
        have hb : 0 < s := by omega
        go_wp2
        exact ⟨⟨y, x - r / s * y, s, r - r / s * s, rfl, rfl, rfl, rfl, hH.out, _, rfl⟩, by show (r - r / s * s).toNat < s.toNat; omega⟩

set_option maxHeartbeats 400000 in
theorem rAbs_any (n : Int) (w : World) (h1 : -9223372036854775807 ≤ n) (h2 : n ≤ 9223372036854775807) :
    Calls Try.prog 101 #[.int .i64 n] w (Ret w (.int .i64 n.natAbs)) := by
  by_cases h : n < 0
  · have hN := Lib.hid (show (n.natAbs : Int) = -n by omega)
    go_enter Try.func101, Try.ntmps101
    go_wp2
    go_ret
    exact Ret.eq0 (ret_int hN.out.symm)
  · have hN := Lib.hid (show (n.natAbs : Int) = n by omega)
    go_enter Try.func101, Try.ntmps101
    go_wp2
    go_ret
    exact Ret.eq0 (ret_int hN.out.symm)

set_option maxHeartbeats 400000 in
theorem rGcd_any (a b : Int) (w : World) (ha : 0 ≤ a) (hb : 0 ≤ b) (ha2 : a ≤ 9223372036854775807) (hb2 : b ≤ 9223372036854775807) :
    Calls Try.prog 100 #[.int .i64 a, .int .i64 b] w (Ret w (.int .i64 (Int.gcd a b))) := by
  go_enter Try.func100, Try.ntmps100
  go_wp2
  go_loopw [0, 1] (fun s t wr => ∃ x y : Int, s = .int .i64 x ∧ t = .int .i64 y ∧ 0 ≤ x ∧ 0 ≤ y ∧ x ≤ 9223372036854775807 ∧ y ≤ 9223372036854775807 ∧ Int.gcd x y = Int.gcd a b ∧ ∃ n, wr = w.drewN n) (fun _ t _ => (intOf t).natAbs)
  case atStart => exact ⟨a, b, rfl, rfl, ha, hb, ha2, hb2, rfl, 0, rfl⟩
  case round =>
    obtain ⟨x, y, rfl, rfl, hx, hy, hx2, hy2, hg, n, rfl⟩ := hrel
    have hG := Lib.hid hg; clear hg
    by_cases hy0 : y = 0
    · subst hy0
      have hx1 := Lib.hid (show ((Int.gcd x 0 : Nat) : Int) = x by rw [Int.gcd_zero_right]; omega)
      go_wp2
      go_ret
      exact Ret.eq n (ret_int (by rw [← hG.out, hx1.out]))
    · have h2 := Int.emod_lt_of_pos x (b := y) (by omega)
      have h3 := Int.emod_nonneg x (b := y) (by omega)
      have hT := Lib.hid (show Int.gcd y (x % y) = Int.gcd x y from by
        have := gcd_tmod x y; rwa [Int.tmod_eq_emod_of_nonneg hx] at this)
      have hyp : 0 < y := by omega
      go_wp2
      go_quiet (fail)
      go_wp2
      exact ⟨⟨y, x % y, rfl, rfl, hy, h3, hy2, by omega, by rw [hT.out]; exact hG.out, _, by rw [World.drewN_drewN]⟩, by show (x % y).natAbs < y.natAbs; omega⟩
end Go.Proofs.Ytmlkiddkgikdhaa
namespace Go.Proofs.Ytmlkiddkgikdhaa
open Go.RowKit FF
theorem inv_bez {a b : Int} (h3 : -1000000000 ≤ b) (h4 : b ≤ 1000000000) (hb0 : b ≠ 0) :
    invV (a.tdiv (Int.gcd a b)) ((b.natAbs : Int) / Int.gcd a b) = bezX a b ∧ ((b.natAbs : Int) / Int.gcd a b ≤ 1 → bezX a b = 0) ∧ 1 ≤ (b.natAbs : Int) / Int.gcd a b := by
  obtain ⟨f1, f2, f3, f4, f5, f6⟩ := bez_facts hb0 (a := a)
  have hT1 : a.tdiv (Int.gcd a b) = a / Int.gcd a b := Int.tdiv_eq_ediv_of_dvd (Int.gcd_dvd_left ..)
  have hX : bezX a b = invM (a / Int.gcd a b) ((b.natAbs : Int) / Int.gcd a b) := if_neg hb0
  refine ⟨by rw [hT1, hX]; exact (inv_good (modB_true.2 ⟨f2, by omega⟩) f1).2, fun h => ?_, f2⟩
  have := invM_spec (a := a / Int.gcd a b) (by omega) f1
  rw [← hX] at this
  omega
theorem gcd_abs (a b : Int) : Int.gcd (a.natAbs : Int) (b.natAbs : Int) = Int.gcd a b := by unfold Int.gcd; simp

set_option maxHeartbeats 4000000 in
/-- Bezout of the reference -/
theorem rBezout_any (a b : Int) (w : World) :
    Calls Try.prog 29 #[.int .i64 a, .int .i64 b] w (Ret w (bezV a b)) := by
  have hW := Lib.hid (fun n w => rWithin_any n (-1000000000) 1000000000 w)
  cases ca : winB a (-1000000000) 1000000000
  · have hV := Lib.hid (bezE_bad (a := a) (b := b) (by have := winB_false.1 ca; omega))
    have HA := Lib.hid (fun w => ca ▸ hW.out a w)
    clear hW ca
    go_enter Try.func29, Try.ntmps29
    go_wp2_with fail
    refine (HA.out _).mono ?_
    rintro e w' ⟨rfl, n, rfl⟩
    go_wp2_with fail
    refine bodyPost_ret (results_tmp4 rfl _ _ _) rfl ?_
    exact ⟨by rw [hV.out]; rfl, _, rfl⟩
  have HA := Lib.hid (fun w => ca ▸ hW.out a w)
  obtain ⟨h1, h2⟩ := winB_iff.1 ca
  cases cb : winB b (-1000000000) 1000000000
  · have hV := Lib.hid (bezE_bad (a := a) (b := b) (by have := winB_false.1 cb; omega))
    have HB := Lib.hid (fun w => cb ▸ hW.out b w)
    clear hW ca cb
    go_enter Try.func29, Try.ntmps29
    go_wp2_with fail
    refine (HA.out _).mono ?_
    rintro e w' ⟨rfl, n, rfl⟩
    go_wp2_with fail
    refine (HB.out _).mono ?_
    rintro e w' ⟨rfl, n2, rfl⟩
    go_wp2_with fail
    refine bodyPost_ret (results_tmp4 rfl _ _ _) rfl ?_
    exact ⟨by rw [hV.out]; rfl, _, rfl⟩
  have HB := Lib.hid (fun w => cb ▸ hW.out b w)
  obtain ⟨h3, h4⟩ := winB_iff.1 cb
  clear hW ca cb
  by_cases hb0 : b = 0
  · subst hb0
    by_cases ha0 : a = 0
    · subst ha0
      have hV := Lib.hid (show bezV 0 0 = .tuple #[.int .i64 0, .int .i64 0, .int .i64 0, .int .i64 10] from rfl)
      go_enter Try.func29, Try.ntmps29
      go_wp2_with fail
      refine (HA.out _).mono ?_
      rintro e w' ⟨rfl, n, rfl⟩
      go_wp2_with fail
      refine (HB.out _).mono ?_
      rintro e w' ⟨rfl, n2, rfl⟩
      go_wp2_with fail
      refine bodyPost_ret (results_tmp4 rfl _ _ _) rfl ?_
      exact ⟨by rw [hV.out]; rfl, _, rfl⟩
    · have hg0 : 0 < (Int.gcd a 0 : Int) := by have := gcd_pos' (a := a) (b := 0) (fun h => ha0 h.1); omega
      have hT : a.tdiv (Int.gcd a 0 : Int) = a / (Int.gcd a 0 : Int) := Int.tdiv_eq_ediv_of_dvd (Int.gcd_dvd_left ..)
      obtain ⟨d1, d2⟩ := bez_tdiv (a := a) (g := Int.gcd a 0) (by omega)
      have hV := Lib.hid (show bezV a 0 = .tuple #[.int .i64 (Int.gcd a 0), .int .i64 (a.tdiv (Int.gcd a 0 : Int)), .int .i64 0, .int .i64 0] by
        have e : bezE a 0 = 0 := by unfold bezE; rw [if_neg (by omega), if_neg (by omega)]
        unfold bezV; rw [e, hT]; rfl)
      have hAa := Lib.hid (fun w => rAbs_any a w (by omega) (by omega))
      have hA0 := Lib.hid (fun w => rAbs_any 0 w (by omega) (by omega))
      have hG := Lib.hid (fun w => gcd_abs a 0 ▸ rGcd_any a.natAbs ((0 : Int).natAbs : Nat) w (by omega) (by omega) (by omega) (by omega))
      clear hT
      generalize (Int.gcd a 0 : Int) = g at *
      have hgz := f_beq (a := g) (b := 0) (by omega)
      have hda := f_beq ha0
      go_enter Try.func29, Try.ntmps29
      go_wp2_with fail
      refine (HA.out _).mono ?_
      rintro e w' ⟨rfl, n, rfl⟩
      go_wp2_with fail
      refine (HB.out _).mono ?_
      rintro e w' ⟨rfl, n2, rfl⟩
      go_wp2_with fail
      refine (hAa.out _).mono ?_
      rintro e w' ⟨rfl, n3, rfl⟩
      go_wp2_with fail
      refine (hA0.out _).mono ?_
      rintro e w' ⟨rfl, n4, rfl⟩
      go_wp2_with fail
      refine (hG.out _).mono ?_
      rintro e w' ⟨rfl, n5, rfl⟩
      go_wp2_with fail
      go_big_quiet (fail)
      go_wp2_with fail
      refine bodyPost_ret (results_tmp4 rfl _ _ _) rfl ?_
      exact ⟨by rw [hV.out]; rfl, _, by rw [World.drewN_drewN]⟩
  · have hV := Lib.hid (show bezV a b = .tuple #[.int .i64 (Int.gcd a b), .int .i64 (bezX a b), .int .i64 (bezY a b), .int .i64 0] by
      have e : bezE a b = 0 := by unfold bezE; rw [if_neg (by omega), if_neg (by omega)]
      unfold bezV; rw [e]; rfl)
    obtain ⟨f1, f2, f3, f4, f5, f6⟩ := bez_facts hb0 (a := a)
    have hg0 : 0 < (Int.gcd a b : Int) := by have := gcd_pos' (a := a) (fun h => hb0 h.2); omega
    have hgb : (Int.gcd a b : Int) ≤ b.natAbs := by have := Int.gcd_le_natAbs_right a (b := b) (by omega); omega
    obtain ⟨i1, i2, i3⟩ := inv_bez (a := a) h3 h4 hb0
    have hY := Lib.hid (show ((Int.gcd a b : Int) - a * bezX a b).tdiv b = bezY a b by unfold bezY; rw [if_neg hb0]; exact Int.tdiv_eq_ediv_of_dvd f4)
    obtain ⟨d1, d2⟩ := bez_tdiv (a := a) (g := Int.gcd a b) (by omega)
    have hI := Lib.hid (fun w => i1 ▸ rInverse_any (a.tdiv (Int.gcd a b)) ((b.natAbs : Int) / Int.gcd a b) w ⟨by omega, by omega⟩)
    obtain ⟨p1, p2⟩ := bez_prod h1 h2 f5 (by omega)
    obtain ⟨d5, d6⟩ := bez_tdiv2 (z := (Int.gcd a b : Int) - a * bezX a b) (b := b) (by omega)
    have hAa := Lib.hid (fun w => rAbs_any a w (by omega) (by omega))
    have hAb := Lib.hid (fun w => rAbs_any b w (by omega) (by omega))
    have hG := Lib.hid (fun w => gcd_abs a b ▸ rGcd_any a.natAbs b.natAbs w (by omega) (by omega) (by omega) (by omega))
    have I2 := Lib.hid i2
    have hdb := f_beq hb0
    clear f1 f2 f4 i1 i2
    generalize hX : bezX a b = X at *
    generalize bezY a b = Y at *
    generalize (Int.gcd a b : Int) = g at *
    have hgz := f_beq (a := g) (b := 0) (by omega)
    have hB0 : (0 : Int) ≤ b.natAbs := by omega
    have hB1 : (b.natAbs : Int) ≤ 1000000000 := by omega
    generalize ((b.natAbs : Nat) : Int) = B at *
    have hM2 : B / g ≤ 1000000000 := Int.le_trans (Int.ediv_le_self g hB0) hB1
    clear hX
    generalize ((a.natAbs : Nat) : Int) = Aa at *
    have hcase : (1 < B / g) ∨ (¬ 1 < B / g ∧ Hid (X = 0)) := by
      by_cases h : 1 < B / g
      · exact .inl h
      · exact .inr ⟨h, Lib.hid (I2.out (by omega))⟩
    clear I2
    rcases hcase with hM1 | ⟨hM1, I3⟩
    rotate_left
    have I4 := I3.out
    subst I4
    rotate_left
    all_goals
      have hda0 : (a = 0) ∨ ((a == 0) = false) := by
        by_cases h : a = 0
        · exact .inl h
        · exact .inr (f_beq h)
      rcases hda0 with rfl | hda
    all_goals
      try simp only [Int.zero_mul, Int.mul_zero, Int.sub_zero] at hY d5 d6
      try simp only [Int.zero_tdiv] at hI
      go_enter Try.func29, Try.ntmps29
      go_wp2_with fail
      refine (HA.out _).mono ?_
      rintro e w' ⟨rfl, n, rfl⟩
      go_wp2_with fail
      refine (HB.out _).mono ?_
      rintro e w' ⟨rfl, n2, rfl⟩
      go_wp2_with fail
      refine (hAa.out _).mono ?_
      rintro e w' ⟨rfl, n3, rfl⟩
      go_wp2_with fail
      refine (hAb.out _).mono ?_
      rintro e w' ⟨rfl, n4, rfl⟩
      go_wp2_with fail
      refine (hG.out _).mono ?_
      rintro e w' ⟨rfl, n5, rfl⟩
      go_wp2_with fail
      refine (hAb.out _).mono ?_
      rintro e w' ⟨rfl, n6, rfl⟩
      go_wp2_with fail
    all_goals
      first
      | refine (hI.out _).mono ?_
        rintro e w' ⟨rfl, n7, rfl⟩
        go_wp2_with fail
      | skip
    all_goals
      go_big_quiet (fail)
      go_wp2_with fail
      refine bodyPost_ret (results_tmp4 rfl _ _ _) rfl ?_
      exact ⟨by rw [hV.out, ← hY.out]; rfl, _, by rw [World.drewN_drewN]⟩
end Go.Proofs.Ytmlkiddkgikdhaa
