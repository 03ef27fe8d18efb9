/- The law IntegerBezout answers true at all numbers. -/
import Derived.Test.YtmlkiddkgikdhaaIntegerHilbert
import Derived.Test.YtmlkiddkgikdhaaVb
namespace Go.Proofs.Ytmlkiddkgikdhaa
open Go.RowKit FF
attribute [local go_sem ↓] Go.wp_at_zero Go.wp_at_succ

theorem bez_law (a b : Int) : ∃ G X Y : Int, bezV a b = .tuple #[.int .i64 G, .int .i64 X, .int .i64 Y, .int .i64 (bezE a b)] ∧
    (bezE a b = 0 → (a * X + b * Y == G) = true ∧ (a.tmod G == 0) = true ∧ (b.tmod G == 0) = true ∧ -1000000000000000000 ≤ a * X ∧ a * X ≤ 1000000000000000000 ∧ -2000000000000000000 ≤ b * Y ∧ b * Y ≤ 2000000000000000000 ∧ 0 < G ∧ G ≤ 1000000000) := by
  by_cases hE : bezE a b = 0
  · have hE2 := hE
    unfold bezE at hE2
    by_cases c1 : a < -1000000000 ∨ 1000000000 < a ∨ b < -1000000000 ∨ 1000000000 < b
    · rw [if_pos c1] at hE2; exact absurd hE2 (by omega)
    rw [if_neg c1] at hE2
    by_cases c2 : a = 0 ∧ b = 0
    · rw [if_pos c2] at hE2; exact absurd hE2 (by omega)
    have hg0 : 0 < (Int.gcd a b : Int) := by have := gcd_pos' (a := a) (b := b) c2; omega
    have hga : (Int.gcd a b : Int) ∣ a := Int.gcd_dvd_left ..
    have hgb : (Int.gcd a b : Int) ∣ b := Int.gcd_dvd_right ..
    have hgl : (Int.gcd a b : Int) ≤ 1000000000 := by
      by_cases hb : b = 0
      · subst hb
        rw [Int.gcd_zero_right]; omega
      · have := Int.gcd_le_natAbs_right a (b := b) (by omega); omega
    refine ⟨Int.gcd a b, bezX a b, bezY a b, by unfold bezV; rw [if_pos hE, hE], fun _ => ?_⟩
    have key : a * bezX a b + b * bezY a b = Int.gcd a b ∧ (a * bezX a b).natAbs ≤ 1000000000000000000 := by
      by_cases hb : b = 0
      · subst hb
        have hx : bezX a 0 = a / Int.gcd a 0 := if_pos rfl
        rw [Int.zero_mul, Int.add_zero, hx]
        obtain ⟨k, hk⟩ := hga
        have h1 : (Int.gcd a 0 : Int) = a.natAbs := by rw [Int.gcd_zero_right]
        have h2 : a / (Int.gcd a 0 : Int) = k := by
          conv => lhs; lhs; rw [hk]
          exact Int.mul_ediv_cancel_left _ (by omega)
        rw [h2]
        have h3 : a * k = Int.gcd a 0 := by
          rw [h1] at hk hg0 ⊢
          rcases Int.lt_or_gt_of_ne (show a ≠ 0 by omega) with ha | ha
          · have : (a.natAbs : Int) = -a := by omega
            rw [this] at hk ⊢
            have : k = -1 := by
              have h5 : a * (k + 1) = 0 := by rw [Int.mul_add, Int.mul_one]; rw [Int.neg_mul] at hk; omega
              rcases Int.mul_eq_zero.1 h5 with h6 | h6 <;> omega
            rw [this]; omega
          · have : (a.natAbs : Int) = a := by omega
            rw [this] at hk ⊢
            exact hk.symm ▸ by
              have : k = 1 := by
                have h5 : a * (k - 1) = 0 := by rw [Int.mul_sub, Int.mul_one]; omega
                rcases Int.mul_eq_zero.1 h5 with h6 | h6 <;> omega
              rw [this]; omega
        exact ⟨h3, by rw [h3]; omega⟩
      · obtain ⟨f1, f2, f3, f4, f5, f6⟩ := bez_facts hb (a := a)
        have hy : bezY a b = ((Int.gcd a b : Int) - a * bezX a b) / b := if_neg hb
        obtain ⟨k, hk⟩ := f4
        have hy2 : bezY a b = k := by
          rw [hy]
          conv => lhs; lhs; rw [hk]
          exact Int.mul_ediv_cancel_left _ hb
        obtain ⟨p1, p2⟩ := bez_prod (a := a) (X := bezX a b) (by omega) (by omega) f5 (by omega)
        exact ⟨by rw [hy2]; omega, by omega⟩
    obtain ⟨key, key2⟩ := key
    exact ⟨beq_iff_eq.2 key, beq_iff_eq.2 (Int.tmod_eq_zero_of_dvd hga), beq_iff_eq.2 (Int.tmod_eq_zero_of_dvd hgb), by omega, by omega, by omega, by omega, hg0, hgl⟩
  · exact ⟨0, 0, 0, by unfold bezV; rw [if_neg hE], fun h => absurd h hE⟩

theorem inv_law {a m : Int} (h : invE a m = 0) : 1 ≤ m ∧ m ≤ 1000000000 ∧ 0 ≤ a % m * invV a m ∧ a % m * invV a m ≤ 1000000000000000000 ∧ (((a % m) * invV a m - 1) % m == 0) = true := by
  unfold invE at h
  cases c1 : modB m
  · rw [c1, if_pos rfl] at h; exact absurd h (by omega)
  rw [c1, if_neg (by simp)] at h
  by_cases c2 : Int.gcd a m = 1
  · obtain ⟨m1, m2⟩ := modB_true.1 c1
    obtain ⟨e1, e2⟩ := inv_good c1 c2
    obtain ⟨s1, s2, s3⟩ := invM_spec (a := a) (m := m) (by omega) c2
    rw [e2]
    obtain ⟨b1, b2⟩ := mul_le_sq (Int.emod_nonneg a (b := m) (by omega)) (Int.emod_lt_of_pos a (b := m) (by omega)) s1 s2 m2
    refine ⟨m1, m2, b1, b2, beq_iff_eq.2 ?_⟩
    have h1 : Cg m (a % m * invM a m) 1 := ((Cg.emod m a).mul_right _).trans s3
    exact Int.emod_eq_zero_of_dvd h1
  · rw [if_neg c2] at h; exact absurd h (by omega)

set_option maxHeartbeats 4000000 in
theorem IntegerBezout_law (a b m : Int) (w : World) (ha : I64 a) (hb : I64 b) (_hm : I64 m) :
    Calls Try.prog 6 #[.int .i64 a, .int .i64 b, .int .i64 m] w fun e w' => e = .returned (.bool true) ∧ Below w.heap.size w w' := by
  have hA := Lib.hid awake_any
  have hI := Lib.hid (fun w => Inverse_any a m w ha)
  have hJ := Lib.hid (fun w => rInverse_any a m w ha)
  obtain ⟨G, X, Y, hV, hP⟩ := bez_law a b
  have hB := Lib.hid (fun w => hV ▸ Bezout_any a b w ha hb)
  have hC := Lib.hid (fun w => hV ▸ rBezout_any a b w)
  have hM := Lib.hid (fun (n : Int) (w : World) (h1 : I64 n) (h2 : 1 ≤ m) (h3 : m ≤ 1000000000) => bMod_any n m w h1 (by omega) ⟨by omega, by omega⟩)
  have d1 := bne_self' G
  have d2 := bne_self' X
  have d3 := bne_self' Y
  have d4 := bne_self' (bezE a b)
  have d5 := bne_self' (invV a m)
  have d6 := bne_self' (invE a m)
  have hQ0 := inv_law (a := a) (m := m)
  clear hV _hm
  generalize bezE a b = E at *
  generalize invE a m = F at *
  generalize invV a m = I at *
  by_cases hE : E = 0
  · obtain ⟨p1, p2, p3, p4, p5, p6, p7, p8, p9⟩ := hP hE
    clear hP
    subst hE
    by_cases hF : F = 0
    · obtain ⟨q1, q2, q3, q4, q5⟩ := hQ0 hF
      clear hQ0
      subst hF
      go_enter Try.func6, Try.ntmps6
      go_wp2_with fail
      refine (hB.out _).mono ?_
      rintro e w' ⟨rfl, n1, rfl⟩
      go_wp2_with fail
      refine (hC.out _).mono ?_
      rintro e w' ⟨rfl, n2, rfl⟩
      go_wp2_with fail
      refine (hI.out _).mono ?_
      rintro e w' ⟨rfl, n3, rfl⟩
      go_wp2_with fail
      refine (hJ.out _).mono ?_
      rintro e w' ⟨rfl, n4, rfl⟩
      go_wp2_with fail
      refine (hM.out _ _ ha q1 q2).mono ?_
      rintro e w' ⟨rfl, n5, rfl⟩
      go_wp2_with fail
      refine (hM.out _ _ ⟨by omega, by omega⟩ q1 q2).mono ?_
      rintro e w' ⟨rfl, n6, rfl⟩
      go_wp2_with fail
      refine (hA.out _).mono ?_
      rintro e w' ⟨rfl, hb⟩
      go_wp2_with fail
      go_ret
      exact ⟨rfl, below_draws hb⟩
    · have d7 : (F != 0) = true := bne_iff_ne.2 hF
      clear hQ0
      go_enter Try.func6, Try.ntmps6
      go_wp2_with fail
      refine (hB.out _).mono ?_
      rintro e w' ⟨rfl, n1, rfl⟩
      go_wp2_with fail
      refine (hC.out _).mono ?_
      rintro e w' ⟨rfl, n2, rfl⟩
      go_wp2_with fail
      refine (hI.out _).mono ?_
      rintro e w' ⟨rfl, n3, rfl⟩
      go_wp2_with fail
      refine (hJ.out _).mono ?_
      rintro e w' ⟨rfl, n4, rfl⟩
      go_wp2_with fail
      refine (hA.out _).mono ?_
      rintro e w' ⟨rfl, hb⟩
      go_wp2_with fail
      go_ret
      exact ⟨rfl, below_draws hb⟩
  · have d8 : (E != 0) = true := bne_iff_ne.2 hE
    clear hP
    by_cases hF : F = 0
    · obtain ⟨q1, q2, q3, q4, q5⟩ := hQ0 hF
      clear hQ0
      subst hF
      go_enter Try.func6, Try.ntmps6
      go_wp2_with fail
      refine (hB.out _).mono ?_
      rintro e w' ⟨rfl, n1, rfl⟩
      go_wp2_with fail
      refine (hC.out _).mono ?_
      rintro e w' ⟨rfl, n2, rfl⟩
      go_wp2_with fail
      refine (hI.out _).mono ?_
      rintro e w' ⟨rfl, n3, rfl⟩
      go_wp2_with fail
      refine (hJ.out _).mono ?_
      rintro e w' ⟨rfl, n4, rfl⟩
      go_wp2_with fail
      refine (hM.out _ _ ha q1 q2).mono ?_
      rintro e w' ⟨rfl, n5, rfl⟩
      go_wp2_with fail
      refine (hM.out _ _ ⟨by omega, by omega⟩ q1 q2).mono ?_
      rintro e w' ⟨rfl, n6, rfl⟩
      go_wp2_with fail
      refine (hA.out _).mono ?_
      rintro e w' ⟨rfl, hb⟩
      go_wp2_with fail
      go_ret
      exact ⟨rfl, below_draws hb⟩
    · have d7 : (F != 0) = true := bne_iff_ne.2 hF
      clear hQ0
      go_enter Try.func6, Try.ntmps6
      go_wp2_with fail
      refine (hB.out _).mono ?_
      rintro e w' ⟨rfl, n1, rfl⟩
      go_wp2_with fail
      refine (hC.out _).mono ?_
      rintro e w' ⟨rfl, n2, rfl⟩
      go_wp2_with fail
      refine (hI.out _).mono ?_
      rintro e w' ⟨rfl, n3, rfl⟩
      go_wp2_with fail
      refine (hJ.out _).mono ?_
      rintro e w' ⟨rfl, n4, rfl⟩
      go_wp2_with fail
      refine (hA.out _).mono ?_
      rintro e w' ⟨rfl, hb⟩
      go_wp2_with fail
      go_ret
      exact ⟨rfl, below_draws hb⟩
end Go.Proofs.Ytmlkiddkgikdhaa
