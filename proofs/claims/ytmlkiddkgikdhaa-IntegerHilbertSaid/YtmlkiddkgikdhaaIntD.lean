/- Contracts of the integer package's functions on machine integers, part D: jacobi. -/
import Derived.Test.YtmlkiddkgikdhaaIntB
import Derived.Test.YtmlkiddkgikdhaaNtG
namespace Go.Proofs.Ytmlkiddkgikdhaa
open Go.RowKit FF

theorem sgn1 (o J : Int) : o * J = o * (1 * 1 * J) := by grind
theorem sgn2 (o J : Int) : -o * J = o * (-1 * 1 * J) := by grind
theorem sgn3 (o J : Int) : -o * J = o * (1 * -1 * J) := by grind
theorem sgn4 (o J : Int) : o * J = o * (-1 * -1 * J) := by grind
theorem sgn5 (o J : Int) : - -o * J = o * (-1 * -1 * J) := by grind

set_option maxHeartbeats 4000000 in
theorem jacobi_any (a n : Int) (w : World) (ha : I64 a) (h1 : 1 ≤ n) (h2 : n ≤ 1000000000) (ho : n % 2 = 1) :
    Calls Try.prog 102 #[.int .i64 a, .int .i64 n] w (Ret w (.int .i64 (Jac a n.toNat))) := by
  have hM := Lib.hid (fun w => mod_any a n w ha (by omega) ⟨by omega, by omega⟩)
  have x0 := Int.emod_nonneg a (b := n) (by omega)
  have x1 := Int.emod_lt_of_pos a (b := n) (by omega)
  have hst := Lib.hid (show 1 * Jac (a % n) n.toNat = Jac a n.toNat by
    rw [Int.one_mul]; exact jac_congr (by omega) (by rw [show ((n.toNat : Nat) : Int) = n by omega]; exact Cg.emod n a))
  have hO := Lib.hid ho; clear ho ha
  generalize hJ : Jac a n.toNat = J0 at *
  go_enter Try.func102, Try.ntmps102
  go_wp2_with fail
  refine (hM.out _).mono ?_
  rintro e w' ⟨rfl, n1, rfl⟩
  clear hM hJ
  go_wp2_with fail
  generalize a % n = b0 at *
  go_loopw [0, 1, 5, 6, 7] (fun s t u _ _ wr => ∃ x n o : Int, s = .int .i64 x ∧ t = .int .i64 n ∧ u = .int .i64 o ∧ 0 ≤ x ∧ x < n ∧ 1 ≤ n ∧ n ≤ 1000000000 ∧ n % 2 = 1 ∧ (o = 1 ∨ o = -1) ∧ o * Jac x n.toNat = J0 ∧ ∃ m, wr = w.drewN m) (fun s _ _ _ _ _ => (intOf s).toNat)
  case atStart => exact ⟨b0, n, 1, rfl, rfl, rfl, x0, x1, h1, h2, hO.out, Or.inl rfl, hst.out, n1, rfl⟩
  case round =>
    clear hst x0 x1 h1 h2 hO
    obtain ⟨x, n, o, rfl, rfl, rfl, x0, x1, h1, h2, ho, hoo, he, m, rfl⟩ := hrel
    have hE := Lib.hid he; clear he
    have hO := Lib.hid ho; clear ho
    have ol : -1 ≤ o := by omega
    have ou : o ≤ 1 := by omega
    have hOO := Lib.hid hoo; clear hoo
    by_cases hx : x = 0
    · subst hx
      have hz := Lib.hid (jac_zero_left (n := n.toNat) (by have := hO.out; omega))
      by_cases hn1 : n = 1
      · subst hn1
        go_wp2
        go_ret
        refine Ret.eq _ (ret_int ?_)
        rw [← hE.out, hz.out, if_pos (by rfl), Int.mul_one]
      · have d0 : (!(n == 1)) = true := by simp [hn1]
        go_wp2
        go_ret
        refine Ret.eq _ (ret_int ?_)
        rw [← hE.out, hz.out, if_neg (by omega), Int.mul_zero]
    · have hxp : 0 < x := by omega
      have hS := Lib.hid (jac_step hxp (by omega) hO.out)
      have hr := not_dvd_rest (p := 2) (n := x) (by omega) (by omega)
      have hr0 := rest_pos (p := 2) (n := x) (by omega) (by omega)
      have hr1 := rest_natAbs_le (p := 2) (n := x) (by omega) (by omega)
      have hk : vp 2 x < 64 := by
        have h3 := vp_lt (p := 2) (n := x) (by omega) (by omega)
        have h4 : x.natAbs < 2 ^ 64 := by omega
        exact (Nat.pow_lt_pow_iff_right (by omega)).1 (Nat.lt_of_le_of_lt h3 h4)
      have hC : ∀ w, Calls Try.prog 90 #[.int .i64 x, .int .i64 2] w (Ret w (.tuple #[.int .i64 (vp 2 x), .int .i64 (rest 2 x)])) := fun w => valuation_any x 2 w ⟨by omega, by omega⟩ (by omega) (by omega) (by omega)
      generalize vp 2 x = k at *
      generalize rest 2 x = r at *
      have hro : r % 2 = 1 := by omega
      have hrx : r ≤ x := by omega
      clear hr hr1
      have HC := Lib.hid hC; clear hC
      have m1 := Int.emod_nonneg n (b := r) (by omega)
      have m2 := Int.emod_lt_of_pos n hr0
      have hb : (!(x == 0)) = true := by simp [hx]
      clear hx
      rcases Bool.eq_false_or_eq_true ((k : Int) % 2 == 1) with d1 | d1
      · rcases Bool.eq_false_or_eq_true (n % 8 == 3) with d2 | d2
        · skip
          rcases Bool.eq_false_or_eq_true (r % 4 == 3) with d4 | d4
          · rcases Bool.eq_false_or_eq_true (n % 4 == 3) with d5 | d5
            · skip
              first
                | (exfalso; replace d1 := beq_t d1; replace d2 := beq_t d2; replace d4 := beq_t d4; replace d5 := beq_t d5; omega)
                | (go_wp2_with fail
                   refine (HC.out _).mono ?_
                   rintro e w' ⟨rfl, n3, rfl⟩
                   go_wp2
                   replace d1 := beq_t d1; replace d2 := beq_t d2; replace d4 := beq_t d4; replace d5 := beq_t d5
                   refine ⟨⟨_, _, _, rfl, rfl, rfl, m1, by omega, by omega, by omega, hro, ?_, ?_, _, rfl⟩, ?_⟩
                   · have hoo := hOO.out; omega
                   · rw [← hE.out, hS.out]
                     split <;> split <;> first | (exfalso; omega) | exact sgn1 .. | exact sgn2 .. | exact sgn3 .. | exact sgn4 .. | exact sgn5 ..
                   · show (n % r).toNat < x.toNat; omega)
            · skip
              first
                | (exfalso; replace d1 := beq_t d1; replace d2 := beq_t d2; replace d4 := beq_t d4; replace d5 := beq_f d5; omega)
                | (go_wp2_with fail
                   refine (HC.out _).mono ?_
                   rintro e w' ⟨rfl, n3, rfl⟩
                   go_wp2
                   replace d1 := beq_t d1; replace d2 := beq_t d2; replace d4 := beq_t d4; replace d5 := beq_f d5
                   refine ⟨⟨_, _, _, rfl, rfl, rfl, m1, by omega, by omega, by omega, hro, ?_, ?_, _, rfl⟩, ?_⟩
                   · have hoo := hOO.out; omega
                   · rw [← hE.out, hS.out]
                     split <;> split <;> first | (exfalso; omega) | exact sgn1 .. | exact sgn2 .. | exact sgn3 .. | exact sgn4 .. | exact sgn5 ..
                   · show (n % r).toNat < x.toNat; omega)
          · skip
            first
              | (exfalso; replace d1 := beq_t d1; replace d2 := beq_t d2; replace d4 := beq_f d4; omega)
              | (go_wp2_with fail
                 refine (HC.out _).mono ?_
                 rintro e w' ⟨rfl, n3, rfl⟩
                 go_wp2
                 replace d1 := beq_t d1; replace d2 := beq_t d2; replace d4 := beq_f d4
                 refine ⟨⟨_, _, _, rfl, rfl, rfl, m1, by omega, by omega, by omega, hro, ?_, ?_, _, rfl⟩, ?_⟩
                 · have hoo := hOO.out; omega
                 · rw [← hE.out, hS.out]
                   split <;> split <;> first | (exfalso; omega) | exact sgn1 .. | exact sgn2 .. | exact sgn3 .. | exact sgn4 .. | exact sgn5 ..
                 · show (n % r).toNat < x.toNat; omega)
        · rcases Bool.eq_false_or_eq_true (n % 8 == 5) with d3 | d3
          · skip
            rcases Bool.eq_false_or_eq_true (r % 4 == 3) with d4 | d4
            · rcases Bool.eq_false_or_eq_true (n % 4 == 3) with d5 | d5
              · skip
                first
                  | (exfalso; replace d1 := beq_t d1; replace d2 := beq_f d2; replace d3 := beq_t d3; replace d4 := beq_t d4; replace d5 := beq_t d5; omega)
                  | (go_wp2_with fail
                     refine (HC.out _).mono ?_
                     rintro e w' ⟨rfl, n3, rfl⟩
                     go_wp2
                     replace d1 := beq_t d1; replace d2 := beq_f d2; replace d3 := beq_t d3; replace d4 := beq_t d4; replace d5 := beq_t d5
                     refine ⟨⟨_, _, _, rfl, rfl, rfl, m1, by omega, by omega, by omega, hro, ?_, ?_, _, rfl⟩, ?_⟩
                     · have hoo := hOO.out; omega
                     · rw [← hE.out, hS.out]
                       split <;> split <;> first | (exfalso; omega) | exact sgn1 .. | exact sgn2 .. | exact sgn3 .. | exact sgn4 .. | exact sgn5 ..
                     · show (n % r).toNat < x.toNat; omega)
              · skip
                first
                  | (exfalso; replace d1 := beq_t d1; replace d2 := beq_f d2; replace d3 := beq_t d3; replace d4 := beq_t d4; replace d5 := beq_f d5; omega)
                  | (go_wp2_with fail
                     refine (HC.out _).mono ?_
                     rintro e w' ⟨rfl, n3, rfl⟩
                     go_wp2
                     replace d1 := beq_t d1; replace d2 := beq_f d2; replace d3 := beq_t d3; replace d4 := beq_t d4; replace d5 := beq_f d5
                     refine ⟨⟨_, _, _, rfl, rfl, rfl, m1, by omega, by omega, by omega, hro, ?_, ?_, _, rfl⟩, ?_⟩
                     · have hoo := hOO.out; omega
                     · rw [← hE.out, hS.out]
                       split <;> split <;> first | (exfalso; omega) | exact sgn1 .. | exact sgn2 .. | exact sgn3 .. | exact sgn4 .. | exact sgn5 ..
                     · show (n % r).toNat < x.toNat; omega)
            · skip
              first
                | (exfalso; replace d1 := beq_t d1; replace d2 := beq_f d2; replace d3 := beq_t d3; replace d4 := beq_f d4; omega)
                | (go_wp2_with fail
                   refine (HC.out _).mono ?_
                   rintro e w' ⟨rfl, n3, rfl⟩
                   go_wp2
                   replace d1 := beq_t d1; replace d2 := beq_f d2; replace d3 := beq_t d3; replace d4 := beq_f d4
                   refine ⟨⟨_, _, _, rfl, rfl, rfl, m1, by omega, by omega, by omega, hro, ?_, ?_, _, rfl⟩, ?_⟩
                   · have hoo := hOO.out; omega
                   · rw [← hE.out, hS.out]
                     split <;> split <;> first | (exfalso; omega) | exact sgn1 .. | exact sgn2 .. | exact sgn3 .. | exact sgn4 .. | exact sgn5 ..
                   · show (n % r).toNat < x.toNat; omega)
          · skip
            rcases Bool.eq_false_or_eq_true (r % 4 == 3) with d4 | d4
            · rcases Bool.eq_false_or_eq_true (n % 4 == 3) with d5 | d5
              · skip
                first
                  | (exfalso; replace d1 := beq_t d1; replace d2 := beq_f d2; replace d3 := beq_f d3; replace d4 := beq_t d4; replace d5 := beq_t d5; omega)
                  | (go_wp2_with fail
                     refine (HC.out _).mono ?_
                     rintro e w' ⟨rfl, n3, rfl⟩
                     go_wp2
                     replace d1 := beq_t d1; replace d2 := beq_f d2; replace d3 := beq_f d3; replace d4 := beq_t d4; replace d5 := beq_t d5
                     refine ⟨⟨_, _, _, rfl, rfl, rfl, m1, by omega, by omega, by omega, hro, ?_, ?_, _, rfl⟩, ?_⟩
                     · have hoo := hOO.out; omega
                     · rw [← hE.out, hS.out]
                       split <;> split <;> first | (exfalso; omega) | exact sgn1 .. | exact sgn2 .. | exact sgn3 .. | exact sgn4 .. | exact sgn5 ..
                     · show (n % r).toNat < x.toNat; omega)
              · skip
                first
                  | (exfalso; replace d1 := beq_t d1; replace d2 := beq_f d2; replace d3 := beq_f d3; replace d4 := beq_t d4; replace d5 := beq_f d5; omega)
                  | (go_wp2_with fail
                     refine (HC.out _).mono ?_
                     rintro e w' ⟨rfl, n3, rfl⟩
                     go_wp2
                     replace d1 := beq_t d1; replace d2 := beq_f d2; replace d3 := beq_f d3; replace d4 := beq_t d4; replace d5 := beq_f d5
                     refine ⟨⟨_, _, _, rfl, rfl, rfl, m1, by omega, by omega, by omega, hro, ?_, ?_, _, rfl⟩, ?_⟩
                     · have hoo := hOO.out; omega
                     · rw [← hE.out, hS.out]
                       split <;> split <;> first | (exfalso; omega) | exact sgn1 .. | exact sgn2 .. | exact sgn3 .. | exact sgn4 .. | exact sgn5 ..
                     · show (n % r).toNat < x.toNat; omega)
            · skip
              first
                | (exfalso; replace d1 := beq_t d1; replace d2 := beq_f d2; replace d3 := beq_f d3; replace d4 := beq_f d4; omega)
                | (go_wp2_with fail
                   refine (HC.out _).mono ?_
                   rintro e w' ⟨rfl, n3, rfl⟩
                   go_wp2
                   replace d1 := beq_t d1; replace d2 := beq_f d2; replace d3 := beq_f d3; replace d4 := beq_f d4
                   refine ⟨⟨_, _, _, rfl, rfl, rfl, m1, by omega, by omega, by omega, hro, ?_, ?_, _, rfl⟩, ?_⟩
                   · have hoo := hOO.out; omega
                   · rw [← hE.out, hS.out]
                     split <;> split <;> first | (exfalso; omega) | exact sgn1 .. | exact sgn2 .. | exact sgn3 .. | exact sgn4 .. | exact sgn5 ..
                   · show (n % r).toNat < x.toNat; omega)
      · skip
        rcases Bool.eq_false_or_eq_true (r % 4 == 3) with d4 | d4
        · rcases Bool.eq_false_or_eq_true (n % 4 == 3) with d5 | d5
          · skip
            first
              | (exfalso; replace d1 := beq_f d1; replace d4 := beq_t d4; replace d5 := beq_t d5; omega)
              | (go_wp2_with fail
                 refine (HC.out _).mono ?_
                 rintro e w' ⟨rfl, n3, rfl⟩
                 go_wp2
                 replace d1 := beq_f d1; replace d4 := beq_t d4; replace d5 := beq_t d5
                 refine ⟨⟨_, _, _, rfl, rfl, rfl, m1, by omega, by omega, by omega, hro, ?_, ?_, _, rfl⟩, ?_⟩
                 · have hoo := hOO.out; omega
                 · rw [← hE.out, hS.out]
                   split <;> split <;> first | (exfalso; omega) | exact sgn1 .. | exact sgn2 .. | exact sgn3 .. | exact sgn4 .. | exact sgn5 ..
                 · show (n % r).toNat < x.toNat; omega)
          · skip
            first
              | (exfalso; replace d1 := beq_f d1; replace d4 := beq_t d4; replace d5 := beq_f d5; omega)
              | (go_wp2_with fail
                 refine (HC.out _).mono ?_
                 rintro e w' ⟨rfl, n3, rfl⟩
                 go_wp2
                 replace d1 := beq_f d1; replace d4 := beq_t d4; replace d5 := beq_f d5
                 refine ⟨⟨_, _, _, rfl, rfl, rfl, m1, by omega, by omega, by omega, hro, ?_, ?_, _, rfl⟩, ?_⟩
                 · have hoo := hOO.out; omega
                 · rw [← hE.out, hS.out]
                   split <;> split <;> first | (exfalso; omega) | exact sgn1 .. | exact sgn2 .. | exact sgn3 .. | exact sgn4 .. | exact sgn5 ..
                 · show (n % r).toNat < x.toNat; omega)
        · skip
          first
            | (exfalso; replace d1 := beq_f d1; replace d4 := beq_f d4; omega)
            | (go_wp2_with fail
               refine (HC.out _).mono ?_
               rintro e w' ⟨rfl, n3, rfl⟩
               go_wp2
               replace d1 := beq_f d1; replace d4 := beq_f d4
               refine ⟨⟨_, _, _, rfl, rfl, rfl, m1, by omega, by omega, by omega, hro, ?_, ?_, _, rfl⟩, ?_⟩
               · have hoo := hOO.out; omega
               · rw [← hE.out, hS.out]
                 split <;> split <;> first | (exfalso; omega) | exact sgn1 .. | exact sgn2 .. | exact sgn3 .. | exact sgn4 .. | exact sgn5 ..
               · show (n % r).toNat < x.toNat; omega)
end Go.Proofs.Ytmlkiddkgikdhaa
