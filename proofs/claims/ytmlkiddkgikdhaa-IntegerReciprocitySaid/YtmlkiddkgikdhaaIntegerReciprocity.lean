/- The law IntegerReciprocity answers true at all numbers. -/
import Derived.Test.YtmlkiddkgikdhaaIntegerHilbert
import Derived.Test.YtmlkiddkgikdhaaSym
namespace Go.Proofs.Ytmlkiddkgikdhaa
open Go.RowKit FF
attribute [local go_sem ↓] Go.wp_at_zero Go.wp_at_succ

theorem jac_good {n : Int} (h1 : 1 ≤ n) (h2 : n ≤ 1000000000) (ho : n % 2 = 1) (a : Int) : jacE n = 0 ∧ jacV a n = Jac a n.toNat := by
  have e : jacE n = 0 := by unfold jacE; rw [modB_t h1 h2, if_neg (by simp), if_neg (by omega)]
  exact ⟨e, by unfold jacV; rw [if_pos e]⟩
theorem mulOdd {m n : Int} (hm : m % 2 = 1) (hn : n % 2 = 1) : m * n % 2 = 1 := by rw [Int.mul_emod, hm, hn]; rfl
/-- the plain law -/
theorem rec_law {a m n : Int} (hm1 : 1 ≤ m) (hm2 : m ≤ 30000) (hn1 : 1 ≤ n) (hn2 : n ≤ 30000) (hm : m % 2 = 1) (hn : n % 2 = 1) :
    jacE n = 0 ∧ jacE m = 0 ∧ jacE (m * n) = 0 ∧ jacV (a * m) n = jacV a n * jacV m n ∧ jacV a (m * n) = jacV a m * jacV a n ∧
    (∀ x y : Int, x = m ∧ y = n ∨ x = n ∧ y = m → Int.gcd m n ≠ 1 → jacV x y = 0) ∧ (Int.gcd m n = 1 → jacV m n * jacV n m = if m % 4 = 3 ∧ n % 4 = 3 then -1 else 1) ∧
    (∀ x : Int, -1 ≤ jacV x n ∧ jacV x n ≤ 1) ∧ (∀ x : Int, -1 ≤ jacV x m ∧ jacV x m ≤ 1) ∧ 1 ≤ m * n ∧ m * n ≤ 900000000 := by
  obtain ⟨b1, b2⟩ := mul_le (by omega : (0 : Int) ≤ m) hm2 (by omega : (0 : Int) ≤ n) hn2
  have b3 : 1 ≤ m * n := by have := Int.mul_pos (by omega : (0 : Int) < m) (by omega : (0 : Int) < n); omega
  have jn := fun a => jac_good hn1 (by omega) hn a
  have jm := fun a => jac_good hm1 (by omega) hm a
  have jmn := fun a => jac_good b3 (by omega) (mulOdd hm hn) a
  obtain ⟨M, rfl⟩ : ∃ M : Nat, m = M := ⟨m.toNat, by omega⟩
  obtain ⟨N, rfl⟩ : ∃ N : Nat, n = N := ⟨n.toNat, by omega⟩
  have hM : M % 2 = 1 := by omega
  have hN : N % 2 = 1 := by omega
  have ht : ((M : Int) * N).toNat = M * N := by rw [← Int.natCast_mul]; rfl
  simp only [ht, Int.toNat_natCast] at jn jm jmn
  refine ⟨(jn 0).1, (jm 0).1, (jmn 0).1, ?_, ?_, ?_, ?_, fun x => ?_, fun x => ?_, b3, by omega⟩
  · rw [(jn _).2, (jn _).2, (jn _).2]; exact jac_mul_left hN _ _
  · rw [(jmn _).2, (jm _).2, (jn _).2]; exact jac_mul_right a M M N (Nat.le_refl _) (by omega) (by omega)
  · rintro x y (⟨rfl, rfl⟩ | ⟨rfl, rfl⟩) hg
    · rw [(jn _).2]; exact jac_zero_of hN hg
    · rw [(jm _).2]; exact jac_zero_of hM (by rw [Int.gcd_comm]; exact hg)
  · intro hg
    rw [(jn _).2, (jm _).2, jac_reciprocity hM hN (by simpa using hg)]
    by_cases hc : (M : Int) % 4 = 3 ∧ (N : Int) % 4 = 3
    · rw [if_pos hc]; exact sg_odd (by rw [Nat.mul_mod, show (M - 1) / 2 % 2 = 1 by omega, show (N - 1) / 2 % 2 = 1 by omega])
    · rw [if_neg hc]
      refine sg_even ?_
      rw [Nat.mul_mod]
      by_cases h1 : (M - 1) / 2 % 2 = 0
      · rw [h1]; simp
      · by_cases h2 : (N - 1) / 2 % 2 = 0
        · rw [h2]; simp
        · omega
  · rw [(jn _).2]; exact jac_bound N hN x
  · rw [(jm _).2]; exact jac_bound M hM x

set_option maxHeartbeats 4000000 in
theorem IntegerReciprocity_law (a m n : Int) (w : World) (ha : I64 a) (_hm : I64 m) (_hn : I64 n) :
    Calls Try.prog 7 #[.int .i64 a, .int .i64 m, .int .i64 n] w fun e w' => e = .returned (.bool true) ∧ Below w.heap.size w w' := by
  have hA := Lib.hid awake_any
  have hW1 := Lib.hid (fun w => bWithin_any a (-30000) 30000 w)
  have hW2 := Lib.hid (fun w => bWithin_any m 1 30000 w)
  have hW3 := Lib.hid (fun w => bWithin_any n 1 30000 w)
  cases c1 : winB a (-30000) 30000
  · rw [c1] at hW1
    clear ha c1
    go_enter Try.func7, Try.ntmps7
    go_wp2_with fail
    refine (hW1.out _).mono ?_
    rintro e w' ⟨rfl, n1, rfl⟩
    go_wp2_with fail
    refine (hA.out _).mono ?_
    rintro e w' ⟨rfl, hb⟩
    go_wp2_with fail
    go_ret
    exact ⟨rfl, below_draws hb⟩
  cases c2 : winB m 1 30000
  · rw [c1] at hW1; rw [c2] at hW2
    clear ha c1 c2
    go_enter Try.func7, Try.ntmps7
    go_wp2_with fail
    refine (hW1.out _).mono ?_
    rintro e w' ⟨rfl, n1, rfl⟩
    go_wp2_with fail
    refine (hW2.out _).mono ?_
    rintro e w' ⟨rfl, n2, rfl⟩
    go_wp2_with fail
    refine (hA.out _).mono ?_
    rintro e w' ⟨rfl, hb⟩
    go_wp2_with fail
    go_ret
    exact ⟨rfl, below_draws hb⟩
  cases c3 : winB n 1 30000
  · rw [c1] at hW1; rw [c2] at hW2; rw [c3] at hW3
    clear ha c1 c2 c3
    go_enter Try.func7, Try.ntmps7
    go_wp2_with fail
    refine (hW1.out _).mono ?_
    rintro e w' ⟨rfl, n1, rfl⟩
    go_wp2_with fail
    refine (hW2.out _).mono ?_
    rintro e w' ⟨rfl, n2, rfl⟩
    go_wp2_with fail
    refine (hW3.out _).mono ?_
    rintro e w' ⟨rfl, n3, rfl⟩
    go_wp2_with fail
    refine (hA.out _).mono ?_
    rintro e w' ⟨rfl, hb⟩
    go_wp2_with fail
    go_ret
    exact ⟨rfl, below_draws hb⟩
  obtain ⟨a1, a2⟩ := winB_iff.1 c1
  obtain ⟨m1, m2⟩ := winB_iff.1 c2
  obtain ⟨n1, n2⟩ := winB_iff.1 c3
  rw [c1] at hW1; rw [c2] at hW2; rw [c3] at hW3
  clear c1 c2 c3
  by_cases o1 : m % 2 = 0
  · have d := t_beq o1
    clear o1
    go_enter Try.func7, Try.ntmps7
    go_wp2_with fail
    refine (hW1.out _).mono ?_
    rintro e w' ⟨rfl, n1, rfl⟩
    go_wp2_with fail
    refine (hW2.out _).mono ?_
    rintro e w' ⟨rfl, n2, rfl⟩
    go_wp2_with fail
    refine (hW3.out _).mono ?_
    rintro e w' ⟨rfl, n3, rfl⟩
    go_wp2_with fail
    refine (hA.out _).mono ?_
    rintro e w' ⟨rfl, hb⟩
    go_wp2_with fail
    go_ret
    exact ⟨rfl, below_draws hb⟩
  have d1 := f_beq o1
  by_cases o2 : n % 2 = 0
  · have d := t_beq o2
    clear o2
    go_enter Try.func7, Try.ntmps7
    go_wp2_with fail
    refine (hW1.out _).mono ?_
    rintro e w' ⟨rfl, n1, rfl⟩
    go_wp2_with fail
    refine (hW2.out _).mono ?_
    rintro e w' ⟨rfl, n2, rfl⟩
    go_wp2_with fail
    refine (hW3.out _).mono ?_
    rintro e w' ⟨rfl, n3, rfl⟩
    go_wp2_with fail
    refine (hA.out _).mono ?_
    rintro e w' ⟨rfl, hb⟩
    go_wp2_with fail
    go_ret
    exact ⟨rfl, below_draws hb⟩
  have d2 := f_beq o2
  obtain ⟨e1, e2, e3, e4, e5, e6, e7, e8, e9, b1, b2⟩ := rec_law (a := a) m1 m2 n1 n2 (show m % 2 = 1 by omega) (show n % 2 = 1 by omega)
  have hJ1 := Lib.hid (fun w => e1 ▸ Jacobi_any a n w ha)
  have hJ2 := Lib.hid (fun w => e1 ▸ Jacobi_any m n w ⟨by omega, by omega⟩)
  have hJ3 := Lib.hid (fun w => e2 ▸ Jacobi_any n m w ⟨by omega, by omega⟩)
  have p3 : -900000000 ≤ a * m ∧ a * m ≤ 900000000 := by
    have q1 : a * m ≤ 30000 * m := Int.mul_le_mul_of_nonneg_right a2 (by omega)
    have q2 : -30000 * m ≤ a * m := Int.mul_le_mul_of_nonneg_right a1 (by omega)
    omega
  obtain ⟨p3, p4⟩ := p3
  have hJ4 := Lib.hid (fun w => e4 ▸ e1 ▸ Jacobi_any (a * m) n w ⟨by omega, by omega⟩)
  have hJ5 := Lib.hid (fun w => e2 ▸ Jacobi_any a m w ha)
  have hJ6 := Lib.hid (fun w => e5 ▸ e3 ▸ Jacobi_any a (m * n) w ha)
  have hG := Lib.hid (fun w => bGcd_any m n w (by omega) (by omega))
  obtain ⟨u1, u2⟩ := mul_bound (e8 a) (e8 m)
  obtain ⟨u3, u4⟩ := mul_bound (e9 a) (e8 a)
  have z1 := e6 m n (.inl ⟨rfl, rfl⟩)
  have z2 := e6 n m (.inr ⟨rfl, rfl⟩)
  have u5 := (e8 m); have u6 := (e9 n)
  obtain ⟨u7, u8⟩ := mul_bound (e8 m) (e9 n)
  have t1 := bne_self' (jacV a n * jacV m n)
  have t2 := bne_self' (jacV a m * jacV a n)
  clear e1 e2 e3 e4 e5 e6 e8 e9 ha o1 o2
  generalize jacV a n = x1 at *
  generalize jacV m n = x2 at *
  generalize jacV n m = x3 at *
  generalize jacV a m = x5 at *
  obtain ⟨u5, u5'⟩ := u5
  obtain ⟨u6, u6'⟩ := u6
  by_cases hg : Int.gcd m n = 1
  · have ee := e7 hg
    have hgg : (((Int.gcd m n : Nat) : Int) != 1) = false := by rw [hg]; rfl
    clear z1 z2 e7 hg
    generalize ((Int.gcd m n : Nat) : Int) = G at *
    have hc : (m % 4 = 3 ∧ n % 4 = 3 ∧ x2 * x3 = -1) ∨ (m % 4 = 3 ∧ n % 4 ≠ 3 ∧ x2 * x3 = 1) ∨ (m % 4 ≠ 3 ∧ x2 * x3 = 1) := by
      by_cases c1 : m % 4 = 3
      · by_cases c2 : n % 4 = 3
        · exact .inl ⟨c1, c2, by rw [ee, if_pos ⟨c1, c2⟩]⟩
        · exact .inr (.inl ⟨c1, c2, by rw [ee, if_neg (fun h => c2 h.2)]⟩)
      · exact .inr (.inr ⟨c1, by rw [ee, if_neg (fun h => c1 h.1)]⟩)
    clear ee
    rcases hc with ⟨c1, c2, c3⟩ | ⟨c1, c2, c3⟩ | ⟨c1, c3⟩
    · have f1 := t_beq c1; have f2 := t_beq c2; have f3 : (x2 * x3 == -1) = true := t_beq c3
      clear c1 c2 c3
      go_enter Try.func7, Try.ntmps7
      go_wp2_with fail
      refine (hW1.out _).mono ?_
      rintro e w' ⟨rfl, k0, rfl⟩
      go_wp2_with fail
      refine (hW2.out _).mono ?_
      rintro e w' ⟨rfl, k1, rfl⟩
      go_wp2_with fail
      refine (hW3.out _).mono ?_
      rintro e w' ⟨rfl, k2, rfl⟩
      go_wp2_with fail
      refine (hJ1.out _).mono ?_
      rintro e w' ⟨rfl, k3, rfl⟩
      go_wp2_with fail
      refine (hJ2.out _).mono ?_
      rintro e w' ⟨rfl, k4, rfl⟩
      go_wp2_with fail
      refine (hJ3.out _).mono ?_
      rintro e w' ⟨rfl, k5, rfl⟩
      go_wp2_with fail
      refine (hJ4.out _).mono ?_
      rintro e w' ⟨rfl, k6, rfl⟩
      go_wp2_with fail
      refine (hJ5.out _).mono ?_
      rintro e w' ⟨rfl, k7, rfl⟩
      go_wp2_with fail
      refine (hJ6.out _).mono ?_
      rintro e w' ⟨rfl, k8, rfl⟩
      go_wp2_with fail
      refine (hG.out _).mono ?_
      rintro e w' ⟨rfl, k9, rfl⟩
      go_wp2_with fail
      refine (hA.out _).mono ?_
      rintro e w' ⟨rfl, hb⟩
      go_wp2_with fail
      go_ret
      exact ⟨rfl, below_draws hb⟩
    · have f1 := t_beq c1; have f2 := f_beq c2; have f3 : (x2 * x3 == 1) = true := t_beq c3
      clear c1 c2 c3
      go_enter Try.func7, Try.ntmps7
      go_wp2_with fail
      refine (hW1.out _).mono ?_
      rintro e w' ⟨rfl, k0, rfl⟩
      go_wp2_with fail
      refine (hW2.out _).mono ?_
      rintro e w' ⟨rfl, k1, rfl⟩
      go_wp2_with fail
      refine (hW3.out _).mono ?_
      rintro e w' ⟨rfl, k2, rfl⟩
      go_wp2_with fail
      refine (hJ1.out _).mono ?_
      rintro e w' ⟨rfl, k3, rfl⟩
      go_wp2_with fail
      refine (hJ2.out _).mono ?_
      rintro e w' ⟨rfl, k4, rfl⟩
      go_wp2_with fail
      refine (hJ3.out _).mono ?_
      rintro e w' ⟨rfl, k5, rfl⟩
      go_wp2_with fail
      refine (hJ4.out _).mono ?_
      rintro e w' ⟨rfl, k6, rfl⟩
      go_wp2_with fail
      refine (hJ5.out _).mono ?_
      rintro e w' ⟨rfl, k7, rfl⟩
      go_wp2_with fail
      refine (hJ6.out _).mono ?_
      rintro e w' ⟨rfl, k8, rfl⟩
      go_wp2_with fail
      refine (hG.out _).mono ?_
      rintro e w' ⟨rfl, k9, rfl⟩
      go_wp2_with fail
      refine (hA.out _).mono ?_
      rintro e w' ⟨rfl, hb⟩
      go_wp2_with fail
      go_ret
      exact ⟨rfl, below_draws hb⟩
    · have f1 := f_beq c1; have f3 : (x2 * x3 == 1) = true := t_beq c3
      clear c1 c3
      go_enter Try.func7, Try.ntmps7
      go_wp2_with fail
      refine (hW1.out _).mono ?_
      rintro e w' ⟨rfl, k0, rfl⟩
      go_wp2_with fail
      refine (hW2.out _).mono ?_
      rintro e w' ⟨rfl, k1, rfl⟩
      go_wp2_with fail
      refine (hW3.out _).mono ?_
      rintro e w' ⟨rfl, k2, rfl⟩
      go_wp2_with fail
      refine (hJ1.out _).mono ?_
      rintro e w' ⟨rfl, k3, rfl⟩
      go_wp2_with fail
      refine (hJ2.out _).mono ?_
      rintro e w' ⟨rfl, k4, rfl⟩
      go_wp2_with fail
      refine (hJ3.out _).mono ?_
      rintro e w' ⟨rfl, k5, rfl⟩
      go_wp2_with fail
      refine (hJ4.out _).mono ?_
      rintro e w' ⟨rfl, k6, rfl⟩
      go_wp2_with fail
      refine (hJ5.out _).mono ?_
      rintro e w' ⟨rfl, k7, rfl⟩
      go_wp2_with fail
      refine (hJ6.out _).mono ?_
      rintro e w' ⟨rfl, k8, rfl⟩
      go_wp2_with fail
      refine (hG.out _).mono ?_
      rintro e w' ⟨rfl, k9, rfl⟩
      go_wp2_with fail
      refine (hA.out _).mono ?_
      rintro e w' ⟨rfl, hb⟩
      go_wp2_with fail
      go_ret
      exact ⟨rfl, below_draws hb⟩
  · have hgg : (((Int.gcd m n : Nat) : Int) != 1) = true := bne_iff_ne.2 (by omega)
    have z1' := z1 hg
    have z2' := z2 hg
    clear z1 z2 e7 hg
    generalize ((Int.gcd m n : Nat) : Int) = G at *
    subst z1' z2'
    simp only [Int.mul_zero] at hJ4 t1
    go_enter Try.func7, Try.ntmps7
    go_wp2_with fail
    refine (hW1.out _).mono ?_
    rintro e w' ⟨rfl, k0, rfl⟩
    go_wp2_with fail
    refine (hW2.out _).mono ?_
    rintro e w' ⟨rfl, k1, rfl⟩
    go_wp2_with fail
    refine (hW3.out _).mono ?_
    rintro e w' ⟨rfl, k2, rfl⟩
    go_wp2_with fail
    refine (hJ1.out _).mono ?_
    rintro e w' ⟨rfl, k3, rfl⟩
    go_wp2_with fail
    refine (hJ2.out _).mono ?_
    rintro e w' ⟨rfl, k4, rfl⟩
    go_wp2_with fail
    refine (hJ3.out _).mono ?_
    rintro e w' ⟨rfl, k5, rfl⟩
    go_wp2_with fail
    refine (hJ4.out _).mono ?_
    rintro e w' ⟨rfl, k6, rfl⟩
    go_wp2_with fail
    refine (hJ5.out _).mono ?_
    rintro e w' ⟨rfl, k7, rfl⟩
    go_wp2_with fail
    refine (hJ6.out _).mono ?_
    rintro e w' ⟨rfl, k8, rfl⟩
    go_wp2_with fail
    refine (hG.out _).mono ?_
    rintro e w' ⟨rfl, k9, rfl⟩
    go_wp2_with fail
    refine (hA.out _).mono ?_
    rintro e w' ⟨rfl, hb⟩
    go_wp2_with fail
    go_ret
    exact ⟨rfl, below_draws hb⟩
end Go.Proofs.Ytmlkiddkgikdhaa
