/- Contracts of the integer package's functions on machine integers, part A: mod, modulus, gcd, power, valuation. -/
import Derived.Test.YtmlkiddkgikdhaaBase
namespace Go.Proofs.Ytmlkiddkgikdhaa
open Go.RowKit FF

set_option maxHeartbeats 400000 in
theorem mod_any (a m : Int) (w : World) (ha : I64 a) (h3 : 0 < m) (hm : I64 m) :
    Calls Try.prog 89 #[.int .i64 a, .int .i64 m] w (Ret w (.int .i64 (a % m))) := by
  obtain ⟨h1, h2⟩ := ha
  obtain ⟨_, h4⟩ := hm
  have t1 := Int.tmod_lt_of_pos a h3
  have t2 := Int.lt_tmod_of_pos a h3
  have ee := Lib.hid (tmod_emod (a := a) h3)
  go_enter Try.func89, Try.ntmps89
  go_wp2
  · have hlt : a.tmod m < 0 := by assumption
    go_ret
    exact Ret.eq0 (ret_int (by rw [ee.out, if_pos hlt]))
  · have hlt : 0 ≤ a.tmod m := by assumption
    go_ret
    exact Ret.eq0 (ret_int (by rw [ee.out, if_neg (by omega)]))

/-- a modulus -/
def modB (m : Int) : Bool := decide (1 ≤ m ∧ m ≤ 1000000000)
theorem modB_true {m : Int} : modB m = true ↔ 1 ≤ m ∧ m ≤ 1000000000 := by unfold modB; rw [decide_eq_true_iff]
theorem modB_false {m : Int} : modB m = false ↔ m < 1 ∨ 1000000000 < m := by unfold modB; rw [decide_eq_false_iff_not]; omega

set_option maxHeartbeats 400000 in
theorem modulus_any (m : Int) (w : World) :
    Calls Try.prog 93 #[.int .i64 m] w (Ret w (.bool (modB m))) := by
  go_enter Try.func93, Try.ntmps93
  go_wp2
  all_goals
    go_ret
    exact Ret.eq0 (ret_bool (by rw [Bool.eq_iff_iff]; simp [modB]; omega))

set_option maxHeartbeats 400000 in
theorem gcd_any (a b : Int) (w : World) (ha : a.natAbs ≤ 4611686018427387904) (hb : b.natAbs ≤ 4611686018427387904) :
    Calls Try.prog 97 #[.int .i64 a, .int .i64 b] w (Ret w (.int .i64 (Int.gcd a b))) := by
  go_enter Try.func97, Try.ntmps97
  go_wp2
  go_loopw [0, 1] (fun s t wr => ∃ x y : Int, s = .int .i64 x ∧ t = .int .i64 y ∧ x.natAbs ≤ 4611686018427387904 ∧ y.natAbs ≤ 4611686018427387904 ∧ Int.gcd x y = Int.gcd a b ∧ ∃ n, wr = w.drewN n) (fun _ t _ => (intOf t).natAbs)
  case atStart => exact ⟨a, b, rfl, rfl, ha, hb, rfl, 0, rfl⟩
  case round =>
    obtain ⟨x, y, rfl, rfl, hx, hy, hg, n, rfl⟩ := hrel
    have hG := Lib.hid hg; clear hg
    have hxl : -4611686018427387904 ≤ x := by omega
    have hxu : x ≤ 4611686018427387904 := by omega
    by_cases hy0 : y = 0
    · subst hy0
      have hx1 := Lib.hid (show ((Int.gcd x 0 : Nat) : Int) = if 0 ≤ x then x else -x by rw [Int.gcd_zero_right]; split <;> omega)
      by_cases hx0 : 0 ≤ x
      · go_wp2
        go_ret
        exact Ret.eq n (ret_int (by rw [← hG.out, hx1.out, if_pos hx0]))
      · go_wp2
        go_ret
        exact Ret.eq n (ret_int (by rw [← hG.out, hx1.out, if_neg (by omega)]))
    · have h1 := Int.natAbs_tmod x y
      have h2 : x.natAbs % y.natAbs < y.natAbs := Nat.mod_lt _ (by omega)
      have h3 : x.natAbs % y.natAbs ≤ x.natAbs := Nat.mod_le _ _
      rw [← h1] at h2 h3
      clear h1
      have hyl : -4611686018427387904 ≤ y := by omega
      have hyu : y ≤ 4611686018427387904 := by omega
      have hz1 : -4611686018427387904 ≤ x.tmod y := by omega
      have hz2 : x.tmod y ≤ 4611686018427387904 := by omega
      have hb : (!(y == 0)) = true := by simp [hy0]
      go_wp2
      go_quiet (fail)
      go_wp2
      exact ⟨⟨y, x.tmod y, rfl, rfl, hy, by omega, by rw [gcd_tmod]; exact hG.out, n + nq, by rw [World.drewN_drewN]⟩, h2⟩


theorem mul_le_sq {a b m : Int} (ha : 0 ≤ a) (ha' : a < m) (hb : 0 ≤ b) (hb' : b < m) (hm : m ≤ 1000000000) : 0 ≤ a * b ∧ a * b ≤ 1000000000000000000 := by
  refine ⟨Int.mul_nonneg ha hb, ?_⟩
  have h1 : a * b ≤ 1000000000 * b := Int.mul_le_mul_of_nonneg_right (by omega) hb
  have h2 : 1000000000 * b ≤ 1000000000 * 1000000000 := Int.mul_le_mul_of_nonneg_left (by omega) (by omega)
  omega

/-- one step of a power by squaring -/
theorem pow_step {m o x : Int} (y : Nat) : o * x ^ y % m = (if y % 2 = 1 then o * x % m else o) * (x * x % m) ^ (y / 2) % m := by
  have e1 : Cg m ((x * x % m) ^ (y / 2)) ((x * x) ^ (y / 2)) := (Cg.emod m (x * x)).pow _
  have e2 : (x * x) ^ (y / 2) = x ^ (2 * (y / 2)) := by rw [Int.pow_mul]; congr 1; rw [Int.pow_succ, Int.pow_succ]; simp
  rw [e2] at e1
  split
  · have e3 : x ^ y = x * x ^ (2 * (y / 2)) := by
      rw [Int.mul_comm, ← Int.pow_succ]; congr 1; omega
    rw [e3, ← Int.mul_assoc]
    exact (((Cg.emod m (o * x)).mul e1).emod_eq).symm
  · have e3 : x ^ y = x ^ (2 * (y / 2)) := by congr 1; omega
    rw [e3]
    exact (e1.mul_left o).emod_eq.symm

set_option maxHeartbeats 400000 in
theorem power_any (a n m : Int) (w : World) (ha : I64 a) (hn : 0 ≤ n) (hn' : I64 n) (h1 : 1 ≤ m) (h2 : m ≤ 1000000000) :
    Calls Try.prog 94 #[.int .i64 a, .int .i64 n, .int .i64 m] w (Ret w (.int .i64 (a ^ n.toNat % m))) := by
  have hmm : I64 m := ⟨by omega, by omega⟩
  have o0 := Int.emod_nonneg 1 (b := m) (by omega)
  have o1 := Int.emod_lt_of_pos 1 (b := m) (by omega)
  have x0 := Int.emod_nonneg a (b := m) (by omega)
  have x1 := Int.emod_lt_of_pos a (b := m) (by omega)
  have hst := Lib.hid (show 1 % m * (a % m) ^ n.toNat % m = a ^ n.toNat % m from by
    have := ((Cg.emod m 1).mul ((Cg.emod m a).pow n.toNat)).emod_eq; rwa [Int.one_mul] at this)
  obtain ⟨_, hn''⟩ := hn'
  go_enter Try.func94, Try.ntmps94
  go_wp2_with fail
  refine (mod_any a m _ ha (by omega) hmm).mono ?_
  rintro e w' ⟨rfl, n1, rfl⟩
  clear ha hmm
  go_wp2_with fail
  go_loopw [0, 1, 7] (fun s t u wr => ∃ x y o : Int, s = .int .i64 x ∧ t = .int .i64 y ∧ u = .int .i64 o ∧ 0 ≤ x ∧ x < m ∧ 0 ≤ y ∧ y ≤ 9223372036854775807 ∧ 0 ≤ o ∧ o < m ∧ o * x ^ y.toNat % m = a ^ n.toNat % m ∧ ∃ n, wr = w.drewN n) (fun _ t _ _ => (intOf t).toNat)
  case atStart => exact ⟨a % m, n, 1 % m, rfl, rfl, rfl, x0, x1, hn, hn'', o0, o1, hst.out, n1, rfl⟩
  case round =>
    clear hst
    obtain ⟨x, y, o, rfl, rfl, rfl, hx0, hx1, hy0, hy1, ho0, ho1, he, n2, rfl⟩ := hrel
    have hE := Lib.hid he; clear he
    obtain ⟨b1, b2⟩ := mul_le_sq ho0 ho1 hx0 hx1 h2
    obtain ⟨b3, b4⟩ := mul_le_sq hx0 hx1 hx0 hx1 h2
    have hS := Lib.hid (pow_step (m := m) (o := o) (x := x) y.toNat)
    have m1 := Int.emod_nonneg (x * x) (b := m) (by omega)
    have m2 := Int.emod_lt_of_pos (x * x) (b := m) (by omega)
    have m3 := Int.emod_nonneg (o * x) (b := m) (by omega)
    have m4 := Int.emod_lt_of_pos (o * x) (b := m) (by omega)
    go_wp2
    · have hy : 0 < y := by assumption
      have hodd : y.toNat % 2 = 1 := by have h : (y % 2 == 1) = true := by assumption
                                        rw [beq_iff_eq] at h; omega
      refine ⟨⟨x * x % m, y / 2, o * x % m, rfl, rfl, rfl, m1, m2, by omega, by omega, m3, m4, ?_, n2, rfl⟩, ?_⟩
      · rw [← hE.out, hS.out, if_pos hodd]; congr 3; omega
      · show (y / 2).toNat < y.toNat; omega
    · have hy : 0 < y := by assumption
      have hodd : ¬ y.toNat % 2 = 1 := by have h : (y % 2 == 1) = false := by assumption
                                          rw [beq_eq_false_iff_ne] at h; omega
      refine ⟨⟨x * x % m, y / 2, o, rfl, rfl, rfl, m1, m2, by omega, by omega, ho0, ho1, ?_, n2, rfl⟩, ?_⟩
      · rw [← hE.out, hS.out, if_neg hodd]; congr 3; omega
      · show (y / 2).toNat < y.toNat; omega
    · have hy : y = 0 := by have : y ≤ 0 := by assumption
                            omega
      subst hy
      go_ret
      refine Ret.eq n2 (ret_int ?_)
      rw [← hE.out]
      simp only [Int.toNat_zero, Int.pow_zero, Int.mul_one]
      exact (Int.emod_eq_of_lt ho0 ho1).symm
end Go.Proofs.Ytmlkiddkgikdhaa
