/- Contracts of the reference's functions on machine integers, part C: the reference's Hilbert symbol. -/
import Derived.Test.YtmlkiddkgikdhaaRefB
namespace Go.Proofs.Ytmlkiddkgikdhaa
open Go.RowKit FF

theorem mul_le {x y a b : Int} (hx : 0 ≤ x) (hx' : x ≤ a) (hy : 0 ≤ y) (hy' : y ≤ b) : 0 ≤ x * y ∧ x * y ≤ a * b :=
  ⟨Int.mul_nonneg hx hy, Int.mul_le_mul hx' hy' hy (by omega)⟩

set_option maxHeartbeats 4000000 in
theorem rHilbert_pos (a b p : Int) (w : World) (h0 : hilE a b p = 0) (h2 : 2 ≤ p) (hpl : p ≤ 1000000000) (hpp : IsP p.toNat)
    (ha0 : a ≠ 0) (hb0 : b ≠ 0) (a1 : -1000000000 ≤ a) (a2 : a ≤ 1000000000) (b1 : -1000000000 ≤ b) (b2 : b ≤ 1000000000) :
    Calls Try.prog 19 #[.int .i64 a, .int .i64 b, .int .i64 p] w (Ret w (.tuple #[.int .i64 (Hil a b p), .int .i64 0])) := by
  have hC := fun w => rCheckHilbert_any a b p w
  rw [h0] at hC
  have HC := Lib.hid hC; clear hC h0
  have f2 := Lib.hid (fun h : p = 2 => (show Hil a b p = if ((rest p a % 8 - 1) / 2 * ((rest p b % 8 - 1) / 2) + (vp p a : Int) * ((rest p b % 8 * (rest p b % 8) - 1) / 8) + (vp p b : Int) * ((rest p a % 8 * (rest p a % 8) - 1) / 8)) % 2 = 1 then -1 else 1 by subst h; exact hil_at2 a b ha0 hb0))
  have fp := Lib.hid (fun h : 2 < p => hil_atp ha0 hb0 hpp h)
  have jU := Lib.hid (fun (h : 2 < p) w => rLegendre_any (rest p a) p w (rest_i64 h2 ha0 (by omega) (by omega)) hpp h hpl)
  have jV := Lib.hid (fun (h : 2 < p) w => rLegendre_any (rest p b) p w (rest_i64 h2 hb0 (by omega) (by omega)) hpp h hpl)
  have bu := leg_bound (rest p a) p.toNat
  have bv := leg_bound (rest p b) p.toNat
  have oU := Lib.hid (fun h : p = 2 => (show rest p a % 2 = 1 by rw [h]; exact odd_rest_two ha0))
  have oV := Lib.hid (fun h : p = 2 => (show rest p b % 2 = 1 by rw [h]; exact odd_rest_two hb0))
  have ui := rest_i64 h2 ha0 (by omega) (by omega)
  have vi := rest_i64 h2 hb0 (by omega) (by omega)
  have hvp : ∀ n : Int, n ≠ 0 → -1000000000 ≤ n → n ≤ 1000000000 → vp p n < 31 := by
    intro n hn g1 g2
    have h3 := vp_lt h2 hn
    have h4 : n.natAbs < 2 ^ 31 := by omega
    exact (Nat.pow_lt_pow_iff_right (by omega)).1 (Nat.lt_of_le_of_lt h3 h4)
  have hi := hvp a ha0 a1 a2
  have hk := hvp b hb0 b1 b2
  clear hvp
  generalize hR : Hil a b p = R at *
  have hA0 := Lib.hid ha0; have hB0 := Lib.hid hb0; clear ha0 hb0 hR hpp
  generalize hii : vp p a = i at *
  generalize huu : rest p a = u at *
  generalize hkk : vp p b = k at *
  generalize hvv : rest p b = v at *
  generalize leg u p.toNat = ju at *
  generalize leg v p.toNat = jv at *
  have HI := Lib.hid hii; have HU := Lib.hid huu; have HK := Lib.hid hkk; have HV := Lib.hid hvv
  clear hii huu hkk hvv
  have hp0 : (p == 0) = false := f_beq (by omega)
  go_enter Try.func19, Try.ntmps19
  go_wp2_with fail
  refine (HC.out _).mono ?_
  rintro e w' ⟨rfl, n0, rfl⟩
  clear HC
  go_wp2_with fail
  go_loop [0, 9] (fun t s => ∃ (x : Int) (kk : Nat), t = .int .i64 x ∧ s = .int .i64 kk ∧ x ≠ 0 ∧ -1000000000 ≤ x ∧ x ≤ 1000000000 ∧ kk + vp p x = i ∧ rest p x = u) (fun t _ => (intOf t).natAbs)
  case atStart => exact ⟨a, 0, rfl, rfl, hA0.out, a1, a2, by rw [HI.out]; omega, HU.out⟩
  case round =>
    clear HI HU hA0 a1 a2
    obtain ⟨x, kk, rfl, rfl, hx0, hxl, hxu, hk, hr⟩ := hrel
    have hkb : kk ≤ i := by omega
    by_cases hd : p ∣ x
    · have ht : (x.tmod p == 0) = true := by rw [beq_iff_eq]; exact Int.tmod_eq_zero_of_dvd hd
      have hq := Lib.hid (Int.tdiv_eq_ediv_of_dvd hd)
      have hlt := natAbs_div_lt h2 hx0 hd
      rw [← hq.out] at hlt
      have hv := Lib.hid (vp_dvd h2 hx0 hd)
      have hr2 := Lib.hid (rest_dvd h2 hx0 hd)
      have hk2 := Lib.hid hk; have hr3 := Lib.hid hr
      clear hk hr hd
      go_wp2
      exact ⟨⟨x.tdiv p, kk + 1, rfl, by go_num, hlt.2, by omega, by omega, by rw [← hk2.out, hv.out, hq.out]; omega, by rw [← hr3.out, hr2.out, hq.out]⟩, hlt.1⟩
    · have ht : (x.tmod p == 0) = false := by rw [beq_eq_false_iff_ne]; exact fun e => hd (Int.dvd_of_tmod_eq_zero e)
      have e1 := vp_not hd
      have e2 := rest_not hd
      obtain rfl : u = x := by rw [← hr, e2]
      obtain rfl : i = kk := by omega
      clear hk hr hd e1 e2 hx0 hxl hxu hkb
      go_wp2_with fail
      clear ht
      go_loop [1, 10] (fun t s => ∃ (y : Int) (kk : Nat), t = .int .i64 y ∧ s = .int .i64 kk ∧ y ≠ 0 ∧ -1000000000 ≤ y ∧ y ≤ 1000000000 ∧ kk + vp p y = k ∧ rest p y = v) (fun t _ => (intOf t).natAbs)
      case atStart => exact ⟨b, 0, rfl, rfl, hB0.out, b1, b2, by rw [HK.out]; omega, HV.out⟩
      case round =>
        clear HK HV hB0 b1 b2
        obtain ⟨y, kk, rfl, rfl, hy0, hyl, hyu, hkk, hr⟩ := hrel
        have hkb : kk ≤ k := by omega
        by_cases hd : p ∣ y
        · have ht : (y.tmod p == 0) = true := by rw [beq_iff_eq]; exact Int.tmod_eq_zero_of_dvd hd
          have hq := Lib.hid (Int.tdiv_eq_ediv_of_dvd hd)
          have hlt := natAbs_div_lt h2 hy0 hd
          rw [← hq.out] at hlt
          have hv := Lib.hid (vp_dvd h2 hy0 hd)
          have hr2 := Lib.hid (rest_dvd h2 hy0 hd)
          have hk2 := Lib.hid hkk; have hr3 := Lib.hid hr
          clear hkk hr hd
          go_wp2
          exact ⟨⟨y.tdiv p, kk + 1, rfl, by go_num, hlt.2, by omega, by omega, by rw [← hk2.out, hv.out, hq.out]; omega, by rw [← hr3.out, hr2.out, hq.out]⟩, hlt.1⟩
        · have ht : (y.tmod p == 0) = false := by rw [beq_eq_false_iff_ne]; exact fun e => hd (Int.dvd_of_tmod_eq_zero e)
          have e1 := vp_not hd
          have e2 := rest_not hd
          obtain rfl : v = y := by rw [← hr, e2]
          obtain rfl : k = kk := by omega
          clear hkk hr hd e1 e2 hy0 hyl hyu hkb
          by_cases hp2 : p = 2
          · have hH := f2.out hp2
            have mu := fun w => rMod_any u 8 w ui (by omega) ⟨by omega, by omega⟩
            have mv := fun w => rMod_any v 8 w vi (by omega) ⟨by omega, by omega⟩
            have u0 := oU.out hp2
            have v0 := oV.out hp2
            have u1 : u % 8 = 1 ∨ u % 8 = 3 ∨ u % 8 = 5 ∨ u % 8 = 7 := by omega
            have v1 : v % 8 = 1 ∨ v % 8 = 3 ∨ v % 8 = 5 ∨ v % 8 = 7 := by omega
            clear f2 fp jU jV oU oV u0 v0 ui vi
            generalize u % 8 = u8 at *
            generalize v % 8 = v8 at *
            have MU := Lib.hid mu; have MV := Lib.hid mv; clear mu mv
            have p1 : 0 ≤ (u8 - 1) / 2 * ((v8 - 1) / 2) ∧ (u8 - 1) / 2 * ((v8 - 1) / 2) ≤ 3 * 3 := mul_le (by omega) (by omega) (by omega) (by omega)
            have p2 : 0 ≤ u8 * u8 ∧ u8 * u8 ≤ 7 * 7 := mul_le (by omega) (by omega) (by omega) (by omega)
            have p3 : 0 ≤ v8 * v8 ∧ v8 * v8 ≤ 7 * 7 := mul_le (by omega) (by omega) (by omega) (by omega)
            have q2 : 1 ≤ u8 * u8 := by rcases u1 with h | h | h | h <;> rw [h] <;> omega
            have q3 : 1 ≤ v8 * v8 := by rcases v1 with h | h | h | h <;> rw [h] <;> omega
            have p4 : 0 ≤ (i : Int) * ((v8 * v8 - 1) / 8) ∧ (i : Int) * ((v8 * v8 - 1) / 8) ≤ 31 * 6 := mul_le (by omega) (by omega) (by omega) (by omega)
            have p5 : 0 ≤ (k : Int) * ((u8 * u8 - 1) / 8) ∧ (k : Int) * ((u8 * u8 - 1) / 8) ≤ 31 * 6 := mul_le (by omega) (by omega) (by omega) (by omega)
            obtain ⟨p1a, p1b⟩ := p1
            obtain ⟨p2a, p2b⟩ := p2
            obtain ⟨p3a, p3b⟩ := p3
            obtain ⟨p4a, p4b⟩ := p4
            obtain ⟨p5a, p5b⟩ := p5
            have u8l : 1 ≤ u8 := by omega
            have u8u : u8 ≤ 7 := by omega
            have v8l : 1 ≤ v8 := by omega
            have v8u : v8 ≤ 7 := by omega
            clear u1 v1
            subst hp2
            rcases Bool.eq_false_or_eq_true (((u8 - 1) / 2 * ((v8 - 1) / 2) + (i : Int) * ((v8 * v8 - 1) / 8) + (k : Int) * ((u8 * u8 - 1) / 8)) % 2 == 1) with d | d
            · have hY := Lib.hid (hH.trans (if_pos (beq_t d)))
              clear hH
              go_wp2_with fail
              refine (MU.out _).mono ?_
              rintro e w' ⟨rfl, n3, rfl⟩
              go_wp2_with fail
              refine (MV.out _).mono ?_
              rintro e w' ⟨rfl, n4, rfl⟩
              go_wp2
              go_ret2
              exact Ret.eq _ (ret_two hY.out.symm rfl)
            · have hY := Lib.hid (hH.trans (if_neg (beq_f d)))
              clear hH
              go_wp2_with fail
              refine (MU.out _).mono ?_
              rintro e w' ⟨rfl, n3, rfl⟩
              go_wp2_with fail
              refine (MV.out _).mono ?_
              rintro e w' ⟨rfl, n4, rfl⟩
              go_wp2
              go_ret2
              exact Ret.eq _ (ret_two hY.out.symm rfl)
          · have hp3 : 2 < p := by omega
            have hH := fp.out hp3
            have JU := Lib.hid (jU.out hp3)
            have JV := Lib.hid (jV.out hp3)
            clear f2 fp jU jV oU oV
            have d2 : (p == 2) = false := f_beq hp2
            obtain ⟨bu1, bu2⟩ := bu
            obtain ⟨bv1, bv2⟩ := bv
            have p1 : 0 ≤ (i : Int) * (k : Int) ∧ (i : Int) * (k : Int) ≤ 31 * 31 := mul_le (by omega) (by omega) (by omega) (by omega)
            have p2 : 0 ≤ (i : Int) * (k : Int) * ((p - 1) / 2) ∧ (i : Int) * (k : Int) * ((p - 1) / 2) ≤ 31 * 31 * 500000000 := mul_le p1.1 p1.2 (by omega) (by omega)
            obtain ⟨p1a, p1b⟩ := p1
            obtain ⟨p2a, p2b⟩ := p2
            clear hp2
            by_cases c1 : ju < 0 <;> by_cases c2 : jv < 0
            · have hX : R = if ((i : Int) * (k : Int) * ((p - 1) / 2) + (k : Int) + (i : Int)) % 2 = 1 then -1 else 1 := by rw [hH, if_pos c1, if_pos c2]
              clear hH
              rcases Bool.eq_false_or_eq_true (((i : Int) * (k : Int) * ((p - 1) / 2) + (k : Int) + (i : Int)) % 2 == 1) with d | d
              · have hY := Lib.hid (hX.trans (if_pos (beq_t d)))
                clear hX
                go_wp2_with fail
                refine (JU.out _).mono ?_
                rintro e w' ⟨rfl, n3, rfl⟩
                go_wp2_with fail
                refine (JV.out _).mono ?_
                rintro e w' ⟨rfl, n4, rfl⟩
                go_wp2
                go_ret2
                exact Ret.eq _ (ret_two hY.out.symm rfl)
              · have hY := Lib.hid (hX.trans (if_neg (beq_f d)))
                clear hX
                go_wp2_with fail
                refine (JU.out _).mono ?_
                rintro e w' ⟨rfl, n3, rfl⟩
                go_wp2_with fail
                refine (JV.out _).mono ?_
                rintro e w' ⟨rfl, n4, rfl⟩
                go_wp2
                go_ret2
                exact Ret.eq _ (ret_two hY.out.symm rfl)
            · have hX : R = if ((i : Int) * (k : Int) * ((p - 1) / 2) + (k : Int)) % 2 = 1 then -1 else 1 := by rw [hH, if_pos c1, if_neg c2]; congr 2; omega
              clear hH
              rcases Bool.eq_false_or_eq_true (((i : Int) * (k : Int) * ((p - 1) / 2) + (k : Int)) % 2 == 1) with d | d
              · have hY := Lib.hid (hX.trans (if_pos (beq_t d)))
                clear hX
                go_wp2_with fail
                refine (JU.out _).mono ?_
                rintro e w' ⟨rfl, n3, rfl⟩
                go_wp2_with fail
                refine (JV.out _).mono ?_
                rintro e w' ⟨rfl, n4, rfl⟩
                go_wp2
                go_ret2
                exact Ret.eq _ (ret_two hY.out.symm rfl)
              · have hY := Lib.hid (hX.trans (if_neg (beq_f d)))
                clear hX
                go_wp2_with fail
                refine (JU.out _).mono ?_
                rintro e w' ⟨rfl, n3, rfl⟩
                go_wp2_with fail
                refine (JV.out _).mono ?_
                rintro e w' ⟨rfl, n4, rfl⟩
                go_wp2
                go_ret2
                exact Ret.eq _ (ret_two hY.out.symm rfl)
            · have hX : R = if ((i : Int) * (k : Int) * ((p - 1) / 2) + (i : Int)) % 2 = 1 then -1 else 1 := by rw [hH, if_neg c1, if_pos c2]; congr 2; omega
              clear hH
              rcases Bool.eq_false_or_eq_true (((i : Int) * (k : Int) * ((p - 1) / 2) + (i : Int)) % 2 == 1) with d | d
              · have hY := Lib.hid (hX.trans (if_pos (beq_t d)))
                clear hX
                go_wp2_with fail
                refine (JU.out _).mono ?_
                rintro e w' ⟨rfl, n3, rfl⟩
                go_wp2_with fail
                refine (JV.out _).mono ?_
                rintro e w' ⟨rfl, n4, rfl⟩
                go_wp2
                go_ret2
                exact Ret.eq _ (ret_two hY.out.symm rfl)
              · have hY := Lib.hid (hX.trans (if_neg (beq_f d)))
                clear hX
                go_wp2_with fail
                refine (JU.out _).mono ?_
                rintro e w' ⟨rfl, n3, rfl⟩
                go_wp2_with fail
                refine (JV.out _).mono ?_
                rintro e w' ⟨rfl, n4, rfl⟩
                go_wp2
                go_ret2
                exact Ret.eq _ (ret_two hY.out.symm rfl)
            · have hX : R = if ((i : Int) * (k : Int) * ((p - 1) / 2)) % 2 = 1 then -1 else 1 := by rw [hH, if_neg c1, if_neg c2]; congr 2; omega
              clear hH
              rcases Bool.eq_false_or_eq_true (((i : Int) * (k : Int) * ((p - 1) / 2)) % 2 == 1) with d | d
              · have hY := Lib.hid (hX.trans (if_pos (beq_t d)))
                clear hX
                go_wp2_with fail
                refine (JU.out _).mono ?_
                rintro e w' ⟨rfl, n3, rfl⟩
                go_wp2_with fail
                refine (JV.out _).mono ?_
                rintro e w' ⟨rfl, n4, rfl⟩
                go_wp2
                go_ret2
                exact Ret.eq _ (ret_two hY.out.symm rfl)
              · have hY := Lib.hid (hX.trans (if_neg (beq_f d)))
                clear hX
                go_wp2_with fail
                refine (JU.out _).mono ?_
                rintro e w' ⟨rfl, n3, rfl⟩
                go_wp2_with fail
                refine (JV.out _).mono ?_
                rintro e w' ⟨rfl, n4, rfl⟩
                go_wp2
                go_ret2
                exact Ret.eq _ (ret_two hY.out.symm rfl)

set_option maxHeartbeats 400000 in
theorem rHilbert_any (a b p : Int) (w : World) :
    Calls Try.prog 19 #[.int .i64 a, .int .i64 b, .int .i64 p] w (Ret w (.tuple #[.int .i64 (hilV a b p), .int .i64 (hilE a b p)])) := by
  by_cases h : hilE a b p = 0
  · have hV : hilV a b p = Hil a b p := by unfold hilV; rw [if_pos h]
    rw [hV]
    have hh := h
    unfold hilE at hh
    by_cases c1 : a = 0 ∨ b = 0
    · rw [if_pos c1] at hh; exact absurd hh (by omega)
    rw [if_neg c1] at hh
    by_cases c2 : inB a = false ∨ inB b = false
    · rw [if_pos c2] at hh; exact absurd hh (by omega)
    rw [if_neg c2] at hh
    have ra : inB a = true := by cases hx : inB a; exact absurd (Or.inl hx) c2; rfl
    have rb : inB b = true := by cases hx : inB b; exact absurd (Or.inr hx) c2; rfl
    rw [inB_iff] at ra rb
    have hE0 : hilE a b p = 0 := h
    rw [hE0]
    by_cases c3 : p = 0
    · have hC := fun w => rCheckHilbert_any a b p w
      rw [h] at hC
      have HC := Lib.hid hC
      have HT := Lib.hid (show Hil a b p = if a < 0 ∧ b < 0 then -1 else 1 by unfold Hil; rw [if_pos c3])
      generalize Hil a b p = R at *
      clear hC hh h hV hE0 c1 c2
      subst c3
      go_enter Try.func19, Try.ntmps19
      by_cases h1 : a < 0
      · by_cases h2 : b < 0
        · have hF := Lib.hid (HT.out.trans (if_pos ⟨h1, h2⟩))
          go_wp2_with fail
          refine (HC.out _).mono ?_
          rintro e w' ⟨rfl, n0, rfl⟩
          go_wp2
          go_ret2
          exact Ret.eq _ (ret_two hF.out.symm rfl)
        · have hF := Lib.hid (HT.out.trans (if_neg (fun h => absurd h.2 (by omega))))
          go_wp2_with fail
          refine (HC.out _).mono ?_
          rintro e w' ⟨rfl, n0, rfl⟩
          go_wp2
          go_ret2
          exact Ret.eq _ (ret_two hF.out.symm rfl)
      · have hF := Lib.hid (HT.out.trans (if_neg (fun h => absurd h.1 (by omega))))
        go_wp2_with fail
        refine (HC.out _).mono ?_
        rintro e w' ⟨rfl, n0, rfl⟩
        go_wp2
        go_ret2
        exact Ret.eq _ (ret_two hF.out.symm rfl)
    · by_cases c4 : p ≠ 0 ∧ isPB p = false
      · rw [if_pos c4] at hh; exact absurd hh (by omega)
      have hp : isPB p = true := by cases hx : isPB p; exact absurd ⟨c3, hx⟩ c4; rfl
      obtain ⟨h5, h6⟩ := isPB_iff.1 hp
      have := h5.1
      exact rHilbert_pos a b p w h (by omega) h6 h5 (fun h => c1 (Or.inl h)) (fun h => c1 (Or.inr h)) ra.1 ra.2 rb.1 rb.2
  · have hV : hilV a b p = 0 := by unfold hilV; rw [if_neg h]
    rw [hV]
    have hC := Lib.hid (fun w => rCheckHilbert_any a b p w)
    clear hV
    generalize hilE a b p = E at *
    have d : (E != 0) = true := bne_iff_ne.2 h
    clear h
    go_enter Try.func19, Try.ntmps19
    go_wp2_with fail
    refine (hC.out _).mono ?_
    rintro e w' ⟨rfl, n0, rfl⟩
    go_wp2
    go_ret2
    exact Ret.eq _ rfl
end Go.Proofs.Ytmlkiddkgikdhaa
