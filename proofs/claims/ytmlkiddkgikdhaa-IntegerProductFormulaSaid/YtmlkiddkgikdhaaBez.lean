/- Bezout of the program. -/
import Derived.Test.YtmlkiddkgikdhaaIntA
namespace Go.Proofs.Ytmlkiddkgikdhaa
open Go.RowKit FF

theorem results_tmp4 {fn : Func} {t u v x : Tmp} (h : fn.results = #[.tmp t, .tmp u, .tmp v, .tmp x]) (tmps : Array Value) (P : Program) (w : World) :
    (results fn tmps).run P w = .ok (.tuple #[tmps.getD t undef, tmps.getD u undef, tmps.getD v undef, tmps.getD x undef]) w := by
  simp [results, h]

/-- the first coefficient -/
def bezX (a b : Int) : Int := if b = 0 then a / Int.gcd a b else invM (a / Int.gcd a b) (b.natAbs / Int.gcd a b)
/-- the second -/
def bezY (a b : Int) : Int := if b = 0 then 0 else ((Int.gcd a b : Int) - a * bezX a b) / b

theorem gcd_pos' {a b : Int} (h : ¬ (a = 0 ∧ b = 0)) : 0 < Int.gcd a b := by
  have := Int.gcd_eq_zero_iff (a := a) (b := b)
  omega

theorem bez_facts {a b : Int} (hb : b ≠ 0) :
    Int.gcd (a / Int.gcd a b) ((b.natAbs : Int) / Int.gcd a b) = 1 ∧ 1 ≤ (b.natAbs : Int) / Int.gcd a b ∧ (b.natAbs : Int) / Int.gcd a b ≤ b.natAbs ∧ b ∣ (Int.gcd a b : Int) - a * bezX a b ∧ 0 ≤ bezX a b ∧ bezX a b < b.natAbs := by
  have hg0 : 0 < Int.gcd a b := gcd_pos' (fun h => hb h.2)
  obtain ⟨u, hu⟩ := Int.gcd_dvd_left (a := a) (b := b)
  obtain ⟨v, hv⟩ := Int.gcd_dvd_right (a := a) (b := b)
  have hgu : a / Int.gcd a b = u := by
    conv => lhs; lhs; rw [hu]
    exact Int.mul_ediv_cancel_left _ (by omega)
  have hbn : (b.natAbs : Int) = Int.gcd a b * v.natAbs := by
    conv => lhs; rw [hv]
    rw [Int.natAbs_mul]; push_cast; simp
  have hgv : (b.natAbs : Int) / Int.gcd a b = v.natAbs := by
    rw [hbn]; exact Int.mul_ediv_cancel_left _ (by omega)
  have hco : Int.gcd u v = 1 := by
    have h1 : Int.gcd a b = Int.gcd (Int.gcd a b * u) (Int.gcd a b * v) := by rw [← hu, ← hv]
    rw [Int.gcd_mul_left] at h1
    simp at h1
    have h2 : Int.gcd a b * 1 = Int.gcd a b * Int.gcd u v := by omega
    exact (Nat.eq_of_mul_eq_mul_left hg0 h2).symm
  have hv0 : v ≠ 0 := by rintro rfl; simp at hv; exact hb hv
  have hco' : Int.gcd u v.natAbs = 1 := by unfold Int.gcd at hco ⊢; simpa using hco
  have hX : bezX a b = invM u v.natAbs := by unfold bezX; rw [if_neg hb, hgu, hgv]
  obtain ⟨i0, i1, i2⟩ := invM_spec (a := u) (m := v.natAbs) (by omega) hco'
  have hvb : (v.natAbs : Int) ≤ b.natAbs := by
    rw [hbn]
    have : 1 * (v.natAbs : Int) ≤ Int.gcd a b * v.natAbs := Int.mul_le_mul_of_nonneg_right (by omega) (by omega)
    omega
  refine ⟨by rw [hgu, hgv]; exact hco', by rw [hgv]; omega, by rw [hgv]; exact hvb, ?_, by rw [hX]; exact i0, by rw [hX]; omega⟩
  rw [hX]
  obtain ⟨k, hk⟩ := i2
  generalize hG : (Int.gcd a b : Int) = G at *
  have h3 : G - a * invM u v.natAbs = -(G * v.natAbs * k) := by
    conv => lhs; rw [hu]
    grind
  rw [h3]
  rw [← hbn]
  exact Int.dvd_neg.2 (Int.dvd_trans (Int.dvd_natAbs_self) (Int.dvd_mul_right _ _))

/-- what Bezout returns -/
def bezE (a b : Int) : Int := if a < -1000000000 ∨ 1000000000 < a ∨ b < -1000000000 ∨ 1000000000 < b then 2 else if a = 0 ∧ b = 0 then 10 else 0
def bezV (a b : Int) : Value := if bezE a b = 0 then .tuple #[.int .i64 (Int.gcd a b), .int .i64 (bezX a b), .int .i64 (bezY a b), .int .i64 0] else .tuple #[.int .i64 0, .int .i64 0, .int .i64 0, .int .i64 (bezE a b)]

theorem modB_t {m : Int} (h1 : 1 ≤ m) (h2 : m ≤ 1000000000) : modB m = true := modB_true.2 ⟨h1, h2⟩
theorem modB_f {m : Int} (h : m < 1 ∨ 1000000000 < m) : modB m = false := modB_false.2 h

theorem bezE_bad {a b : Int} (h : a < -1000000000 ∨ 1000000000 < a ∨ b < -1000000000 ∨ 1000000000 < b) : bezV a b = .tuple #[.int .i64 0, .int .i64 0, .int .i64 0, .int .i64 2] := by
  have e : bezE a b = 2 := if_pos h
  unfold bezV; rw [e]; rfl

set_option maxHeartbeats 400000 in
theorem Bezout_badA (a b : Int) (w : World) (ha : I64 a) (hna : -9223372036854775807 ≤ a) (hr : a < -1000000000 ∨ 1000000000 < a) :
    Calls Try.prog 28 #[.int .i64 a, .int .i64 b] w (Ret w (bezV a b)) := by
  have hV := Lib.hid (bezE_bad (a := a) (b := b) (by omega))
  obtain ⟨a1, a2⟩ := ha
  have hM := Lib.hid (fun m w => modulus_any m w)
  rcases hr with h | h
  · have ca : a < -a := by omega
    have ka := modB_f (m := -a) (by omega)
    go_enter Try.func28, Try.ntmps28
    go_wp2_with fail
    refine (hM.out _ _).mono ?_
    rintro e w' ⟨rfl, n, rfl⟩
    go_wp2_with fail
    refine bodyPost_ret (results_tmp4 rfl _ _ _) rfl ?_
    exact ⟨by rw [hV.out]; rfl, n, rfl⟩
  · have ca : ¬ a < -a := by omega
    have ka := modB_f (m := a) (by omega)
    go_enter Try.func28, Try.ntmps28
    go_wp2_with fail
    refine (hM.out _ _).mono ?_
    rintro e w' ⟨rfl, n, rfl⟩
    go_wp2_with fail
    refine bodyPost_ret (results_tmp4 rfl _ _ _) rfl ?_
    exact ⟨by rw [hV.out]; rfl, n, rfl⟩

/-- the program's guard of one argument, as the walk meets it -/
theorem absG {a : Int} (h1 : -1000000000 ≤ a) (h2 : a ≤ 1000000000) : (a < 0 ∧ modB (-a) = true) ∨ (a = 0 ∧ modB 1 = true) ∨ (0 < a ∧ modB a = true) := by
  rcases Int.lt_trichotomy a 0 with h | h | h
  · exact .inl ⟨h, modB_t (by omega) (by omega)⟩
  · exact .inr (.inl ⟨h, modB_t (by omega) (by omega)⟩)
  · exact .inr (.inr ⟨h, modB_t (by omega) (by omega)⟩)

set_option maxHeartbeats 4000000 in
theorem Bezout_badB (a b : Int) (w : World) (hb : I64 b) (h1 : -1000000000 ≤ a) (h2 : a ≤ 1000000000) (hnb : -9223372036854775807 ≤ b) (hr : b < -1000000000 ∨ 1000000000 < b) :
    Calls Try.prog 28 #[.int .i64 a, .int .i64 b] w (Ret w (bezV a b)) := by
  have hV := Lib.hid (bezE_bad (a := a) (b := b) (by omega))
  obtain ⟨b1, b2⟩ := hb
  have hM := Lib.hid (fun m w => modulus_any m w)
  rcases absG h1 h2 with ⟨h, k⟩ | ⟨rfl, k⟩ | ⟨h, k⟩ <;> rcases hr with g | g
  all_goals
    first
      | have l := modB_f (m := -b) (by omega)
        go_enter Try.func28, Try.ntmps28
        go_wp2_with fail
        refine (hM.out _ _).mono ?_
        rintro e w' ⟨rfl, n, rfl⟩
        go_wp2_with fail
        refine (hM.out _ _).mono ?_
        rintro e w' ⟨rfl, n2, rfl⟩
        go_wp2_with fail
        refine bodyPost_ret (results_tmp4 rfl _ _ _) rfl ?_
        exact ⟨by rw [hV.out]; rfl, _, rfl⟩
      | have l := modB_f (m := b) (by omega)
        go_enter Try.func28, Try.ntmps28
        go_wp2_with fail
        refine (hM.out _ _).mono ?_
        rintro e w' ⟨rfl, n, rfl⟩
        go_wp2_with fail
        refine (hM.out _ _).mono ?_
        rintro e w' ⟨rfl, n2, rfl⟩
        go_wp2_with fail
        refine bodyPost_ret (results_tmp4 rfl _ _ _) rfl ?_
        exact ⟨by rw [hV.out]; rfl, _, rfl⟩

set_option maxHeartbeats 4000000 in
theorem Bezout_minA (b : Int) (w : World) (hb : I64 b) :
    Calls Try.prog 28 #[.int .i64 (-9223372036854775808), .int .i64 b] w (Ret w (bezV (-9223372036854775808) b)) := by
  have hV := Lib.hid (bezE_bad (a := -9223372036854775808) (b := b) (by omega))
  obtain ⟨b1, b2⟩ := hb
  have hM := Lib.hid (fun m w => modulus_any m w)
  have k := modB_t (m := 1) (by omega) (by omega)
  have hw : wrap64 9223372036854775808 = -9223372036854775808 := by unfold wrap64; omega
  by_cases hm : b = -9223372036854775808
  · subst hm
    go_enter Try.func28, Try.ntmps28
    go_wp2_with fail
    refine (hM.out _ _).mono ?_
    rintro e w' ⟨rfl, n, rfl⟩
    go_wp2_with fail
    refine (hM.out _ _).mono ?_
    rintro e w' ⟨rfl, n2, rfl⟩
    go_wp2_with fail
    refine bodyPost_ret (results_tmp4 rfl _ _ _) rfl ?_
    exact ⟨by rw [hV.out]; rfl, _, rfl⟩
  by_cases hbad : b < -1000000000 ∨ 1000000000 < b
  · rcases hbad with g | g
    · have l := modB_f (m := -b) (by omega)
      go_enter Try.func28, Try.ntmps28
      go_wp2_with fail
      refine (hM.out _ _).mono ?_
      rintro e w' ⟨rfl, n, rfl⟩
      go_wp2_with fail
      refine (hM.out _ _).mono ?_
      rintro e w' ⟨rfl, n2, rfl⟩
      go_wp2_with fail
      refine bodyPost_ret (results_tmp4 rfl _ _ _) rfl ?_
      exact ⟨by rw [hV.out]; rfl, _, rfl⟩
    · have l := modB_f (m := b) (by omega)
      go_enter Try.func28, Try.ntmps28
      go_wp2_with fail
      refine (hM.out _ _).mono ?_
      rintro e w' ⟨rfl, n, rfl⟩
      go_wp2_with fail
      refine (hM.out _ _).mono ?_
      rintro e w' ⟨rfl, n2, rfl⟩
      go_wp2_with fail
      refine bodyPost_ret (results_tmp4 rfl _ _ _) rfl ?_
      exact ⟨by rw [hV.out]; rfl, _, rfl⟩
  rcases absG (a := b) (by omega) (by omega) with ⟨h, l⟩ | ⟨rfl, l⟩ | ⟨h, l⟩
  all_goals
    go_enter Try.func28, Try.ntmps28
    go_wp2_with fail
    refine (hM.out _ _).mono ?_
    rintro e w' ⟨rfl, n, rfl⟩
    go_wp2_with fail
    refine (hM.out _ _).mono ?_
    rintro e w' ⟨rfl, n2, rfl⟩
    go_wp2_with fail
    refine bodyPost_ret (results_tmp4 rfl _ _ _) rfl ?_
    exact ⟨by rw [hV.out]; rfl, _, rfl⟩

set_option maxHeartbeats 4000000 in
theorem Bezout_minB (a : Int) (w : World) (h1 : -1000000000 ≤ a) (h2 : a ≤ 1000000000) :
    Calls Try.prog 28 #[.int .i64 a, .int .i64 (-9223372036854775808)] w (Ret w (bezV a (-9223372036854775808))) := by
  have hV := Lib.hid (bezE_bad (a := a) (b := -9223372036854775808) (by omega))
  have hM := Lib.hid (fun m w => modulus_any m w)
  have l := modB_t (m := 1) (by omega) (by omega)
  have hw : wrap64 9223372036854775808 = -9223372036854775808 := by unfold wrap64; omega
  rcases absG (a := a) (by omega) (by omega) with ⟨h, k⟩ | ⟨rfl, k⟩ | ⟨h, k⟩
  all_goals
    go_enter Try.func28, Try.ntmps28
    go_wp2_with fail
    refine (hM.out _ _).mono ?_
    rintro e w' ⟨rfl, n, rfl⟩
    go_wp2_with fail
    refine (hM.out _ _).mono ?_
    rintro e w' ⟨rfl, n2, rfl⟩
    go_wp2_with fail
    refine bodyPost_ret (results_tmp4 rfl _ _ _) rfl ?_
    exact ⟨by rw [hV.out]; rfl, _, rfl⟩
theorem bez_inv (a b : Int) (h1 : -1000000000 ≤ a) (h2 : a ≤ 1000000000) (h3 : -1000000000 ≤ b) (h4 : b ≤ 1000000000) (hb0 : b ≠ 0) (w : World) :
    Calls Try.prog 98 #[.int .i64 (a.tdiv (Int.gcd a b)), .int .i64 (((b.natAbs : Nat) : Int).tdiv (Int.gcd a b))] w (Ret w (.int .i64 (bezX a b))) := by
  obtain ⟨f1, f2, f3, f4, f5, f6⟩ := bez_facts hb0 (a := a)
  have hT1 : a.tdiv (Int.gcd a b) = a / Int.gcd a b := Int.tdiv_eq_ediv_of_dvd (Int.gcd_dvd_left ..)
  have hT2 : ((b.natAbs : Nat) : Int).tdiv (Int.gcd a b) = b.natAbs / Int.gcd a b := Int.tdiv_eq_ediv_of_nonneg (by omega)
  have hb := Int.natAbs_tdiv_le_natAbs a (Int.gcd a b)
  rw [hT1] at hb
  rw [hT1, hT2, show bezX a b = invM (a / Int.gcd a b) ((b.natAbs : Int) / Int.gcd a b) from if_neg hb0]
  exact inverse_any _ _ _ ⟨by omega, by omega⟩ f2 (by omega) f1

theorem bez_tdiv {a g : Int} (ha : a.natAbs ≤ 1000000000) : -1000000000 ≤ a.tdiv g ∧ a.tdiv g ≤ 1000000000 := by
  have hb := Int.natAbs_tdiv_le_natAbs a g
  omega

theorem bez_tdiv2 {z b : Int} (hz : z.natAbs ≤ 2000000000000000000) : -2000000000000000000 ≤ z.tdiv b ∧ z.tdiv b ≤ 2000000000000000000 := by
  have hb := Int.natAbs_tdiv_le_natAbs z b
  omega

theorem bez_prod {a X : Int} (h1 : -1000000000 ≤ a) (h2 : a ≤ 1000000000) (h3 : 0 ≤ X) (h4 : X ≤ 1000000000) : -1000000000000000000 ≤ a * X ∧ a * X ≤ 1000000000000000000 := by
  have h5 : a * X ≤ 1000000000 * X := Int.mul_le_mul_of_nonneg_right h2 h3
  have h6 : -1000000000 * X ≤ a * X := Int.mul_le_mul_of_nonneg_right h1 h3
  omega

theorem quiet_off {P : Program} {f : FuncId} {args : Array Value} {w : World} {N a : Nat} {v : Value}
    (h : Calls P f args (w.drewN (N + a)) (Ret (w.drewN (N + a)) v)) : Calls P f args (w.drewN (N + a)) fun e w'' => e = .returned v ∧ ∃ m, w'' = w.drewN (N + m) :=
  h.mono fun _ _ ⟨he, m, hm⟩ => ⟨he, a + m, by rw [hm, World.drewN_drewN, Nat.add_assoc]⟩

set_option maxHeartbeats 4000000 in
theorem Bezout_good (a b : Int) (w : World) (h1 : -1000000000 ≤ a) (h2 : a ≤ 1000000000) (h3 : -1000000000 ≤ b) (h4 : b ≤ 1000000000) (hb0 : b ≠ 0) :
    Calls Try.prog 28 #[.int .i64 a, .int .i64 b] w (Ret w (bezV a b)) := by
  have hV := Lib.hid (show bezV a b = .tuple #[.int .i64 (Int.gcd a b), .int .i64 (bezX a b), .int .i64 (bezY a b), .int .i64 0] by
    have e : bezE a b = 0 := by unfold bezE; rw [if_neg (by omega), if_neg (by omega)]
    unfold bezV; rw [e]; rfl)
  have hG := Lib.hid (fun w => gcd_any a b w (by omega) (by omega))
  obtain ⟨f1, f2, f3, f4, f5, f6⟩ := bez_facts hb0 (a := a)
  have hg0 : 0 < (Int.gcd a b : Int) := by have := gcd_pos' (a := a) (fun h => hb0 h.2); omega
  have hgb : (Int.gcd a b : Int) ≤ b.natAbs := by have := Int.gcd_le_natAbs_right a (b := b) (by omega); omega
  have hI := bez_inv a b h1 h2 h3 h4 hb0
  have hY := Lib.hid (show ((Int.gcd a b : Int) - a * bezX a b).tdiv b = bezY a b by unfold bezY; rw [if_neg hb0]; exact Int.tdiv_eq_ediv_of_dvd f4)
  obtain ⟨d1, d2⟩ := bez_tdiv (a := a) (g := Int.gcd a b) (by omega)
  obtain ⟨d3, d4⟩ := bez_tdiv (a := b.natAbs) (g := Int.gcd a b) (by omega)
  obtain ⟨p1, p2⟩ := bez_prod h1 h2 f5 (by omega)
  have d5 := bez_tdiv2 (z := (Int.gcd a b : Int) - a * bezX a b) (b := b) (by omega)
  obtain ⟨d5, d6⟩ := d5
  clear f1 f2 f3 f4
  generalize bezX a b = X at *
  generalize bezY a b = Y at *
  generalize (Int.gcd a b : Int) = g at *
  have hgz := f_beq (a := g) (b := 0) (by omega)
  have hM := Lib.hid (fun m w => modulus_any m w)
  rcases absG h1 h2 with ⟨h, k⟩ | ⟨rfl, k⟩ | ⟨h, k⟩ <;> rcases Int.lt_or_gt_of_ne hb0 with hs | hs
  all_goals
    have l := absG h3 h4
    rcases l with ⟨r, l⟩ | ⟨r, l⟩ | ⟨r, l⟩ <;> (try omega)
    try rw [show ((b.natAbs : Nat) : Int) = -b by omega, Int.neg_tdiv] at hI d3 d4
    try rw [show ((b.natAbs : Nat) : Int) = b by omega] at hI d3 d4
    try simp only [Int.zero_tdiv] at hI
    try simp only [Int.zero_mul, Int.sub_zero] at hY
    try simp only [Int.zero_mul, Int.sub_zero] at d5 d6
    replace hI := Lib.hid hI
    go_enter Try.func28, Try.ntmps28
    go_wp2_with fail
    refine (hM.out _ _).mono ?_
    rintro e w' ⟨rfl, n, rfl⟩
    go_wp2_with fail
    refine (hM.out _ _).mono ?_
    rintro e w' ⟨rfl, n2, rfl⟩
    go_wp2_with fail
    refine (hG.out _).mono ?_
    rintro e w' ⟨rfl, n3, rfl⟩
    go_wp2_with fail
    go_big_quiet ((go_at_call 98; exact quiet_off (hI.out _)))
    go_wp2_with fail
    go_big_quiet (fail)
    go_wp2_with fail
    refine bodyPost_ret (results_tmp4 rfl _ _ _) rfl ?_
    exact ⟨by rw [hV.out, ← hY.out]; rfl, _, by rw [World.drewN_drewN, World.drewN_drewN]⟩

set_option maxHeartbeats 4000000 in
theorem Bezout_b0 (a : Int) (w : World) (h1 : -1000000000 ≤ a) (h2 : a ≤ 1000000000) :
    Calls Try.prog 28 #[.int .i64 a, .int .i64 0] w (Ret w (bezV a 0)) := by
  have hG := Lib.hid (fun w => gcd_any a 0 w (by omega) (by omega))
  have hM := Lib.hid (fun m w => modulus_any m w)
  have l := modB_t (m := 1) (by omega) (by omega)
  by_cases h0 : a = 0
  · subst h0
    have hV := Lib.hid (show bezV 0 0 = .tuple #[.int .i64 0, .int .i64 0, .int .i64 0, .int .i64 10] from rfl)
    clear hG
    go_enter Try.func28, Try.ntmps28
    go_wp2_with fail
    refine (hM.out _ _).mono ?_
    rintro e w' ⟨rfl, n, rfl⟩
    go_wp2_with fail
    refine (hM.out _ _).mono ?_
    rintro e w' ⟨rfl, n2, rfl⟩
    go_wp2_with fail
    refine bodyPost_ret (results_tmp4 rfl _ _ _) rfl ?_
    exact ⟨by rw [hV.out]; rfl, _, rfl⟩
  have hg0 : 0 < (Int.gcd a 0 : Int) := by have := gcd_pos' (a := a) (b := 0) (fun h => h0 h.1); omega
  have hgb : (Int.gcd a 0 : Int) ≤ a.natAbs := by rw [Int.gcd_zero_right]; omega
  have hT : a.tdiv (Int.gcd a 0 : Int) = a / (Int.gcd a 0 : Int) := Int.tdiv_eq_ediv_of_dvd (Int.gcd_dvd_left ..)
  obtain ⟨d1, d2⟩ := bez_tdiv (a := a) (g := Int.gcd a 0) (by omega)
  have hV := Lib.hid (show bezV a 0 = .tuple #[.int .i64 (Int.gcd a 0), .int .i64 (a.tdiv (Int.gcd a 0 : Int)), .int .i64 0, .int .i64 0] by
    have e : bezE a 0 = 0 := by unfold bezE; rw [if_neg (by omega), if_neg (by omega)]
    unfold bezV; rw [e, hT]; rfl)
  clear hT
  generalize (Int.gcd a 0 : Int) = g at *
  have hgz := f_beq (a := g) (b := 0) (by omega)
  rcases absG h1 h2 with ⟨h, k⟩ | ⟨h, k⟩ | ⟨h, k⟩ <;> (try omega)
  all_goals
    go_enter Try.func28, Try.ntmps28
    go_wp2_with fail
    refine (hM.out _ _).mono ?_
    rintro e w' ⟨rfl, n, rfl⟩
    go_wp2_with fail
    refine (hM.out _ _).mono ?_
    rintro e w' ⟨rfl, n2, rfl⟩
    go_wp2_with fail
    refine (hG.out _).mono ?_
    rintro e w' ⟨rfl, n3, rfl⟩
    go_wp2_with fail
    go_big_quiet (fail)
    go_wp2_with fail
    refine bodyPost_ret (results_tmp4 rfl _ _ _) rfl ?_
    exact ⟨by rw [hV.out]; rfl, _, by rw [World.drewN_drewN]⟩

/-- Bezout, for all numbers -/
theorem Bezout_any (a b : Int) (w : World) (ha : I64 a) (hb : I64 b) :
    Calls Try.prog 28 #[.int .i64 a, .int .i64 b] w (Ret w (bezV a b)) := by
  by_cases m1 : a = -9223372036854775808
  · subst m1; exact Bezout_minA b w hb
  by_cases r1 : a < -1000000000 ∨ 1000000000 < a
  · exact Bezout_badA a b w ha (by have := ha.1; omega) r1
  by_cases m2 : b = -9223372036854775808
  · subst m2; exact Bezout_minB a w (by omega) (by omega)
  by_cases r2 : b < -1000000000 ∨ 1000000000 < b
  · exact Bezout_badB a b w hb (by omega) (by omega) (by have := hb.1; omega) r2
  by_cases h0 : b = 0
  · subst h0; exact Bezout_b0 a w (by omega) (by omega)
  · exact Bezout_good a b w (by omega) (by omega) (by omega) (by omega) h0
end Go.Proofs.Ytmlkiddkgikdhaa
