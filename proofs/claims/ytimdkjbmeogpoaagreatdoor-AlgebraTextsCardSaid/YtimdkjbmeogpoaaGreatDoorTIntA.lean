/- Contracts of the integer package's functions on machine integers, part A: mod, modulus, gcd, power, valuation. Contracts of the integer package's functions on machine integers, part B: inverse, valuation. Contracts of the integer package's functions on machine integers, part C: witness, IsPrime. Contracts of the integer package's functions on machine integers, part D: jacobi. -/
import Derived.Test.YtimdkjbmeogpoaaGreatDoorTBase
import Derived.Test.YtimdkjbmeogpoaaGreatDoorTNt
import Derived.Test.YtimdkjbmeogpoaaGreatDoorTSp
namespace Go.Proofs.YtimdkjbmeogpoaaGreatDoor
open Go.RowKit FF
set_option maxHeartbeats 400000 in
theorem mod_any (a m : Int) (w : World) (ha : I64 a) (h3 : 0 < m) (hm : I64 m) :
    Calls Tryz.prog 181 #[.int .i64 a, .int .i64 m] w (Ret w (.int .i64 (a % m))) := by
  obtain ⟨h1, h2⟩ := ha
  obtain ⟨_, h4⟩ := hm
  have t1 := Int.tmod_lt_of_pos a h3
  have t2 := Int.lt_tmod_of_pos a h3
  have ee := Lib.hid (tmod_emod (a := a) h3)
  go_enter Tryz.func181, Tryz.ntmps181
  go_wp2
  · have hlt : a.tmod m < 0 := by assumption
    go_ret
    exact Ret.eq0 (ret_int (by rw [ee.out, if_pos hlt]))
  · have hlt : 0 ≤ a.tmod m := by assumption
    go_ret
    exact Ret.eq0 (ret_int (by rw [ee.out, if_neg (by omega)]))
def modB (m : Int) : Bool := decide (1 ≤ m ∧ m ≤ 1000000000)
theorem modB_true {m : Int} : modB m = true ↔ 1 ≤ m ∧ m ≤ 1000000000 := by unfold modB; rw [decide_eq_true_iff]
set_option maxHeartbeats 400000 in
theorem modulus_any (m : Int) (w : World) :
    Calls Tryz.prog 140 #[.int .i64 m] w (Ret w (.bool (modB m))) := by
  go_enter Tryz.func140, Tryz.ntmps140
  go_wp2
  all_goals
    go_ret
    exact Ret.eq0 (ret_bool (by rw [Bool.eq_iff_iff]; simp [modB]; omega))
theorem mul_le_sq {a b m : Int} (ha : 0 ≤ a) (ha' : a < m) (hb : 0 ≤ b) (hb' : b < m) (hm : m ≤ 1000000000) : 0 ≤ a * b ∧ a * b ≤ 1000000000000000000 := by
  refine ⟨Int.mul_nonneg ha hb, ?_⟩
  have h1 : a * b ≤ 1000000000 * b := Int.mul_le_mul_of_nonneg_right (by omega) hb
  have h2 : 1000000000 * b ≤ 1000000000 * 1000000000 := Int.mul_le_mul_of_nonneg_left (by omega) (by omega)
  omega
theorem pow_step {m o x : Int} (y : Nat) : o * x ^ y % m = (if y % 2 = 1 then o * x % m else o) * (x * x % m) ^ (y / 2) % m := by
  have e1 : Cg m ((x * x % m) ^ (y / 2)) ((x * x) ^ (y / 2)) := (Cg.emod m (x * x)).pow _
  have e2 : (x * x) ^ (y / 2) = x ^ (2 * (y / 2)) := by rw [Int.pow_mul]; congr 1; rw [Int.pow_succ, Int.pow_succ]; simp
  rw [e2] at e1
  split
  · have e3 : x ^ y = x * x ^ (2 * (y / 2)) := by
      rw [Int.mul_comm, ← Int.pow_succ]; congr 1; omega
    rw [e3, ← Int.mul_assoc]
    exact (((Cg.emod m (o * x)).mul e1).emod_eq).symm
  · have e3 : x ^ y = x ^ (2 * (y / 2)) := by congr 1; omega
    rw [e3]
    exact (e1.mul_left o).emod_eq.symm
set_option maxHeartbeats 400000 in
theorem power_any (a n m : Int) (w : World) (ha : I64 a) (hn : 0 ≤ n) (hn' : I64 n) (h1 : 1 ≤ m) (h2 : m ≤ 1000000000) :
    Calls Tryz.prog 196 #[.int .i64 a, .int .i64 n, .int .i64 m] w (Ret w (.int .i64 (a ^ n.toNat % m))) := by
  have hmm : I64 m := ⟨by omega, by omega⟩
  have o0 := Int.emod_nonneg 1 (b := m) (by omega)
  have o1 := Int.emod_lt_of_pos 1 (b := m) (by omega)
  have x0 := Int.emod_nonneg a (b := m) (by omega)
  have x1 := Int.emod_lt_of_pos a (b := m) (by omega)
  have hst := Lib.hid (show 1 % m * (a % m) ^ n.toNat % m = a ^ n.toNat % m from by
    have := ((Cg.emod m 1).mul ((Cg.emod m a).pow n.toNat)).emod_eq; rwa [Int.one_mul] at this)
  obtain ⟨_, hn''⟩ := hn'
  go_enter Tryz.func196, Tryz.ntmps196
  go_wp2_with fail
  refine (mod_any a m _ ha (by omega) hmm).mono ?_
  rintro e w' ⟨rfl, n1, rfl⟩
  clear ha hmm
  go_wp2_with fail
  go_loopw [0, 1, 7] (fun s t u wr => ∃ x y o : Int, s = .int .i64 x ∧ t = .int .i64 y ∧ u = .int .i64 o ∧ 0 ≤ x ∧ x < m ∧ 0 ≤ y ∧ y ≤ 9223372036854775807 ∧ 0 ≤ o ∧ o < m ∧ o * x ^ y.toNat % m = a ^ n.toNat % m ∧ ∃ n, wr = w.drewN n) (fun _ t _ _ => (intOf t).toNat)
  case atStart => exact ⟨a % m, n, 1 % m, rfl, rfl, rfl, x0, x1, hn, hn'', o0, o1, hst.out, n1, rfl⟩
  case round =>
    clear hst
    obtain ⟨x, y, o, rfl, rfl, rfl, hx0, hx1, hy0, hy1, ho0, ho1, he, n2, rfl⟩ := hrel
    have hE := Lib.hid he; clear he
    obtain ⟨b1, b2⟩ := mul_le_sq ho0 ho1 hx0 hx1 h2
    obtain ⟨b3, b4⟩ := mul_le_sq hx0 hx1 hx0 hx1 h2
    have hS := Lib.hid (pow_step (m := m) (o := o) (x := x) y.toNat)
    have m1 := Int.emod_nonneg (x * x) (b := m) (by omega)
    have m2 := Int.emod_lt_of_pos (x * x) (b := m) (by omega)
    have m3 := Int.emod_nonneg (o * x) (b := m) (by omega)
    have m4 := Int.emod_lt_of_pos (o * x) (b := m) (by omega)
    go_wp2
    · have hy : 0 < y := by assumption
      have hodd : y.toNat % 2 = 1 := by have h : (y % 2 == 1) = true := by assumption
                                        rw [beq_iff_eq] at h; omega
      refine ⟨⟨x * x % m, y / 2, o * x % m, rfl, rfl, rfl, m1, m2, by omega, by omega, m3, m4, ?_, n2, rfl⟩, ?_⟩
      · rw [← hE.out, hS.out, if_pos hodd]; congr 3; omega
      · show (y / 2).toNat < y.toNat; omega
    · have hy : 0 < y := by assumption
      have hodd : ¬ y.toNat % 2 = 1 := by have h : (y % 2 == 1) = false := by assumption
                                          rw [beq_eq_false_iff_ne] at h; omega
      refine ⟨⟨x * x % m, y / 2, o, rfl, rfl, rfl, m1, m2, by omega, by omega, ho0, ho1, ?_, n2, rfl⟩, ?_⟩
      · rw [← hE.out, hS.out, if_neg hodd]; congr 3; omega
      · show (y / 2).toNat < y.toNat; omega
    · have hy : y = 0 := by have : y ≤ 0 := by assumption
                            omega
      subst hy
      go_ret
      refine Ret.eq n2 (ret_int ?_)
      rw [← hE.out]
      simp only [Int.toNat_zero, Int.pow_zero, Int.mul_one]
      exact (Int.emod_eq_of_lt ho0 ho1).symm
end Go.Proofs.YtimdkjbmeogpoaaGreatDoor
namespace Go.Proofs.YtimdkjbmeogpoaaGreatDoor
open Go.RowKit FF
set_option maxHeartbeats 400000 in
theorem valuation_any (n p : Int) (w : World) (hn : I64 n) (hn0 : n ≠ 0) (h1 : 2 ≤ p) (h2 : p ≤ 9223372036854775807) :
    Calls Tryz.prog 166 #[.int .i64 n, .int .i64 p] w (Ret w (.tuple #[.int .i64 (vp p n), .int .i64 (rest p n)])) := by
  have hN := Lib.hid hn0; clear hn0
  obtain ⟨l1, l2⟩ := hn
  go_enter Tryz.func166, Tryz.ntmps166
  go_wp2
  go_loop [0, 6] (fun t u => ∃ (x : Int) (k : Nat), t = .int .i64 x ∧ u = .int .i64 k ∧ x ≠ 0 ∧ -9223372036854775808 ≤ x ∧ x ≤ 9223372036854775807 ∧ k + vp p x = vp p n ∧ rest p x = rest p n) (fun t _ => (intOf t).natAbs)
  case atStart => exact ⟨n, 0, rfl, rfl, hN.out, l1, l2, by omega, rfl⟩
  case round =>
    obtain ⟨x, k, rfl, rfl, hx0, hxl, hxu, hk, hr⟩ := hrel
    have hkb : k < 64 := by
      have h3 := vp_lt h1 hN.out
      have h4 : n.natAbs < 2 ^ 64 := by omega
      have := (Nat.pow_lt_pow_iff_right (by omega)).1 (Nat.lt_of_le_of_lt h3 h4)
      omega
    by_cases hd : p ∣ x
    · have ht : (x.tmod p == 0) = true := by rw [beq_iff_eq]; exact Int.tmod_eq_zero_of_dvd hd
      have hq := Lib.hid (Int.tdiv_eq_ediv_of_dvd hd)
      have hlt := natAbs_div_lt h1 hx0 hd
      rw [← hq.out] at hlt
      have hv := Lib.hid (vp_dvd h1 hx0 hd)
      have hr2 := Lib.hid (rest_dvd h1 hx0 hd)
      have hk2 := Lib.hid hk; have hr3 := Lib.hid hr
      clear hk hr hd
      go_wp2
      exact ⟨⟨x.tdiv p, k + 1, rfl, by go_num, hlt.2, by omega, by omega, by rw [← hk2.out, hv.out, hq.out]; omega, by rw [← hr3.out, hr2.out, hq.out]⟩, hlt.1⟩
    · have ht : (x.tmod p == 0) = false := by rw [beq_eq_false_iff_ne]; exact fun e => hd (Int.dvd_of_tmod_eq_zero e)
      have hv := Lib.hid (vp_not hd)
      have hr2 := Lib.hid (rest_not hd)
      have hk2 := Lib.hid hk; have hr3 := Lib.hid hr
      clear hk hr hd
      go_wp2
      go_ret2
      exact Ret.eq0 (ret_two (by rw [← hk2.out, hv.out]; omega) (by rw [← hr3.out, hr2.out]))
theorem rest_i64 {p n : Int} (hp : 2 ≤ p) (hn : n ≠ 0) (h1 : -9223372036854775808 ≤ n) (h2 : n ≤ 9223372036854775807) : I64 (rest p n) := by
  have h := rest_natAbs_le hp hn
  unfold I64
  by_cases hd : p ∣ n
  · rw [rest_dvd hp hn hd]
    have h3 := natAbs_div_lt hp hn hd
    have h4 := rest_natAbs_le (n := n / p) hp h3.2
    omega
  · rw [rest_not hd]; omega
end Go.Proofs.YtimdkjbmeogpoaaGreatDoor
namespace Go.Proofs.YtimdkjbmeogpoaaGreatDoor
open Go.RowKit FF
set_option maxHeartbeats 400000 in
theorem witness_any (a n : Int) (w : World) (ha : 0 ≤ a) (ha' : a ≤ 7) (h1 : 3 ≤ n) (h2 : n ≤ 1000000000) :
    Calls Tryz.prog 178 #[.int .i64 a, .int .i64 n] w (Ret w (.bool (witB a n))) := by
  have hn1 : n - 1 ≠ 0 := by omega
  have hr1 := rest_natAbs_le (p := 2) (by omega) hn1
  have hr0 : 0 ≤ rest 2 (n - 1) := rest_nonneg (by omega) (by omega)
  have hv : vp 2 (n - 1) < 64 := by
    have h3 := vp_lt (p := 2) (by omega) hn1
    have h4 : (n - 1).natAbs < 2 ^ 64 := by omega
    exact (Nat.pow_lt_pow_iff_right (by omega)).1 (Nat.lt_of_le_of_lt h3 h4)
  have hW := Lib.hid (show witB a n = witW a n (rest 2 (n - 1)) (vp 2 (n - 1)) from rfl)
  have hrr : rest 2 (n - 1) ≤ 1000000000 := by omega
  have hC := fun w => valuation_any (n - 1) 2 w ⟨by omega, by omega⟩ hn1 (by omega) (by omega)
  have hP := fun w => power_any a (rest 2 (n - 1)) n w ⟨by omega, by omega⟩ hr0 ⟨by omega, by omega⟩ (by omega) h2
  clear hn1 hr1
  generalize rest 2 (n - 1) = o at *
  generalize vp 2 (n - 1) = k at *
  have hx0 := Int.emod_nonneg (a ^ o.toNat) (b := n) (by omega)
  have hx1 := Int.emod_lt_of_pos (a ^ o.toNat) (b := n) (by omega)
  have hW2 := Lib.hid (hW.out.trans (show witW a n o k = if a ^ o.toNat % n = 1 ∨ a ^ o.toNat % n = n - 1 then false else witGo n (k - 1) (a ^ o.toNat % n) from rfl))
  clear hW
  generalize a ^ o.toNat % n = x at *
  have HC := Lib.hid hC; have HP := Lib.hid hP; clear hC hP
  go_enter Tryz.func178, Tryz.ntmps178
  go_wp2_with fail
  refine (HC.out _).mono ?_
  rintro e w' ⟨rfl, n1, rfl⟩
  go_wp2_with fail
  refine (HP.out _).mono ?_
  rintro e w' ⟨rfl, n2, rfl⟩
  clear HC HP
  by_cases c1 : x = 1
  · have hF := Lib.hid (hW2.out.trans (if_pos (Or.inl c1)))
    clear hW2
    subst c1
    go_wp2
    go_ret
    exact Ret.eq _ (ret_bool hF.out.symm)
  · by_cases c2 : x = n - 1
    · have hF := Lib.hid (hW2.out.trans (if_pos (Or.inr c2)))
      clear hW2
      subst c2
      have d1 : (n - 1 == 1) = false := by rw [beq_eq_false_iff_ne]; exact c1
      go_wp2
      go_ret
      exact Ret.eq _ (ret_bool hF.out.symm)
    · have hW3 := Lib.hid (hW2.out.trans (if_neg (by rintro (h | h); exact c1 h; exact c2 h)))
      clear hW2
      have d1 : (x == 1) = false := by rw [beq_eq_false_iff_ne]; exact c1
      have d2 : (x == n - 1) = false := by rw [beq_eq_false_iff_ne]; exact c2
      go_wp2
      go_loop [7, 28] (fun t u => ∃ (y : Int) (i : Nat), t = .int .i64 y ∧ u = .int .i64 i ∧ 0 ≤ y ∧ y < n ∧ i ≤ k - 1 ∧ witB a n = witGo n (k - 1 - i) y) (fun _ u => (k - 1) - (intOf u).toNat)
      case atStart => exact ⟨x, 0, rfl, rfl, hx0, hx1, by omega, hW3.out⟩
      case round =>
        clear hW3 d1 d2
        obtain ⟨y, i, rfl, rfl, hy0, hy1, hi, he⟩ := hrel
        have hE := Lib.hid he; clear he
        obtain ⟨b1, b2⟩ := mul_le_sq hy0 hy1 hy0 hy1 h2
        have m1 := Int.emod_nonneg (y * y) (b := n) (by omega)
        have m2 := Int.emod_lt_of_pos (y * y) (b := n) (by omega)
        by_cases hlt : i < k - 1
        · have hS := Lib.hid (show witGo n (k - 1 - i) y = if y * y % n = n - 1 then false else witGo n (k - 1 - (i + 1)) (y * y % n) by
            rw [show k - 1 - i = (k - 1 - (i + 1)) + 1 by omega]; rfl)
          by_cases c3 : y * y % n = n - 1
          · have d3 : (y * y % n == n - 1) = true := by rw [beq_iff_eq]; exact c3
            have C3 := Lib.hid c3; clear c3
            go_wp2
            go_ret
            exact Ret.eq _ (ret_bool (by rw [hE.out, hS.out, if_pos C3.out]))
          · have d3 : (y * y % n == n - 1) = false := by rw [beq_eq_false_iff_ne]; exact c3
            go_wp2
            exact ⟨⟨y * y % n, i + 1, rfl, by go_num, m1, m2, by omega, by rw [hE.out, hS.out, if_neg c3]⟩, by simp [intOf]; omega⟩
        · go_wp2
          go_ret
          exact Ret.eq _ (ret_bool (by rw [hE.out, show k - 1 - i = 0 by omega]; rfl))
theorem idx_0 (w : World) : (Instr.index 83 (.agg #[.int .i64 2, .int .i64 3, .int .i64 5, .int .i64 7]) (.int .i64 0)).run Tryz.prog w = .ok (.int .i64 2) w := by kernel_rfl
theorem idx_1 (w : World) : (Instr.index 83 (.agg #[.int .i64 2, .int .i64 3, .int .i64 5, .int .i64 7]) (.int .i64 1)).run Tryz.prog w = .ok (.int .i64 3) w := by kernel_rfl
theorem idx_2 (w : World) : (Instr.index 83 (.agg #[.int .i64 2, .int .i64 3, .int .i64 5, .int .i64 7]) (.int .i64 2)).run Tryz.prog w = .ok (.int .i64 5) w := by kernel_rfl
theorem idx_3 (w : World) : (Instr.index 83 (.agg #[.int .i64 2, .int .i64 3, .int .i64 5, .int .i64 7]) (.int .i64 3)).run Tryz.prog w = .ok (.int .i64 7) w := by kernel_rfl
set_option maxHeartbeats 1600000 in
theorem isPrime_raw (n : Int) (w : World) :
    Calls Tryz.prog 146 #[.int .i64 n] w (Ret w (.bool (isPM n))) := by
  by_cases hn : n < 2 ∨ 1000000000 < n
  · have hF := Lib.hid (show isPM n = false from if_pos hn)
    go_enter Tryz.func146, Tryz.ntmps146
    rcases hn with h | h
    · go_wp2
      go_ret
      exact Ret.eq0 (ret_bool hF.out.symm)
    · by_cases h2 : n < 2
      · omega
      · go_wp2
        go_ret
        exact Ret.eq0 (ret_bool hF.out.symm)
  · have hF := Lib.hid (show isPM n = isPGo n [2, 3, 5, 7] from if_neg hn)
    have hn1 : 2 ≤ n := by omega
    have hn2 : n ≤ 1000000000 := by omega
    clear hn
    go_enter Tryz.func146, Tryz.ntmps146
    go_wp2
    go_loopw [4, 12] (fun _ u wr => ∃ k : Nat, u = .int .i64 k ∧ k ≤ 4 ∧ (1 ≤ k → 3 ≤ n) ∧ isPM n = isPGo n (List.drop k [2, 3, 5, 7]) ∧ ∃ m, wr = w.drewN m) (fun _ u _ => 4 - (intOf u).toNat)
    case atStart => exact ⟨0, rfl, by omega, by omega, hF.out, 0, rfl⟩
    case round =>
      clear hF
      obtain ⟨k, rfl, hk, hk3, he, m, rfl⟩ := hrel
      have hE := Lib.hid he; clear he
      have hk' : k = 0 ∨ k = 1 ∨ k = 2 ∨ k = 3 ∨ k = 4 := by omega
      rcases hk' with rfl | rfl | rfl | rfl | rfl
      · have hS := Lib.hid (hE.out.trans (show isPGo n [2, 3, 5, 7] = if n = 2 then true else if n % 2 = 0 ∨ witB 2 n = true then false else isPGo n [3, 5, 7] from rfl))
        clear hE
        have hI := fun w => idx_0 w
        by_cases c1 : n = 2
        · have hF := Lib.hid (hS.out.trans (if_pos c1))
          clear hS
          subst c1
          go_wp2
          go_ret
          exact Ret.eq _ (ret_bool hF.out.symm)
        · have hS2 := Lib.hid (hS.out.trans (if_neg c1))
          clear hS
          have d1 : (n == 2) = false := by rw [beq_eq_false_iff_ne]; exact c1
          by_cases c2 : n % 2 = 0
          · have hF := Lib.hid (hS2.out.trans (if_pos (Or.inl c2)))
            clear hS2
            have d2 : (n % 2 == 0) = true := by rw [beq_iff_eq]; exact c2
            clear c2
            go_wp2
            go_ret
            exact Ret.eq _ (ret_bool hF.out.symm)
          · have d2 : (n % 2 == 0) = false := by rw [beq_eq_false_iff_ne]; exact c2
            have hw := fun w => witness_any 2 n w (by omega) (by omega) (by omega) hn2
            cases c3 : witB 2 n
            · have hF := Lib.hid (hS2.out.trans (if_neg (by rw [c3]; simp [c2])))
              rw [c3] at hw
              have hW := Lib.hid hw
              clear hw hS2 c3 c2
              go_wp2_with fail
              refine (hW.out _).mono ?_
              rintro e w' ⟨rfl, n3, rfl⟩
              go_wp2
              exact ⟨⟨1, rfl, by omega, by omega, hF.out, _, rfl⟩, by simp [intOf]⟩
            · have hF := Lib.hid (hS2.out.trans (if_pos (Or.inr c3)))
              rw [c3] at hw
              have hW := Lib.hid hw
              clear hw hS2 c3 c2
              go_wp2_with fail
              refine (hW.out _).mono ?_
              rintro e w' ⟨rfl, n3, rfl⟩
              go_wp2
              go_ret
              exact Ret.eq _ (ret_bool hF.out.symm)
      · have hS := Lib.hid (hE.out.trans (show isPGo n [3, 5, 7] = if n = 3 then true else if n % 3 = 0 ∨ witB 3 n = true then false else isPGo n [5, 7] from rfl))
        clear hE
        have hI := fun w => idx_1 w
        by_cases c1 : n = 3
        · have hF := Lib.hid (hS.out.trans (if_pos c1))
          clear hS
          subst c1
          go_wp2
          go_ret
          exact Ret.eq _ (ret_bool hF.out.symm)
        · have hS2 := Lib.hid (hS.out.trans (if_neg c1))
          clear hS
          have d1 : (n == 3) = false := by rw [beq_eq_false_iff_ne]; exact c1
          by_cases c2 : n % 3 = 0
          · have hF := Lib.hid (hS2.out.trans (if_pos (Or.inl c2)))
            clear hS2
            have d2 : (n % 3 == 0) = true := by rw [beq_iff_eq]; exact c2
            clear c2
            go_wp2
            go_ret
            exact Ret.eq _ (ret_bool hF.out.symm)
          · have d2 : (n % 3 == 0) = false := by rw [beq_eq_false_iff_ne]; exact c2
            have hw := fun w => witness_any 3 n w (by omega) (by omega) (hk3 (by omega)) hn2
            cases c3 : witB 3 n
            · have hF := Lib.hid (hS2.out.trans (if_neg (by rw [c3]; simp [c2])))
              rw [c3] at hw
              have hW := Lib.hid hw
              clear hw hS2 c3 c2
              go_wp2_with fail
              refine (hW.out _).mono ?_
              rintro e w' ⟨rfl, n3, rfl⟩
              go_wp2
              exact ⟨⟨2, rfl, by omega, by omega, hF.out, _, rfl⟩, by simp [intOf]⟩
            · have hF := Lib.hid (hS2.out.trans (if_pos (Or.inr c3)))
              rw [c3] at hw
              have hW := Lib.hid hw
              clear hw hS2 c3 c2
              go_wp2_with fail
              refine (hW.out _).mono ?_
              rintro e w' ⟨rfl, n3, rfl⟩
              go_wp2
              go_ret
              exact Ret.eq _ (ret_bool hF.out.symm)
      · have hS := Lib.hid (hE.out.trans (show isPGo n [5, 7] = if n = 5 then true else if n % 5 = 0 ∨ witB 5 n = true then false else isPGo n [7] from rfl))
        clear hE
        have hI := fun w => idx_2 w
        by_cases c1 : n = 5
        · have hF := Lib.hid (hS.out.trans (if_pos c1))
          clear hS
          subst c1
          go_wp2
          go_ret
          exact Ret.eq _ (ret_bool hF.out.symm)
        · have hS2 := Lib.hid (hS.out.trans (if_neg c1))
          clear hS
          have d1 : (n == 5) = false := by rw [beq_eq_false_iff_ne]; exact c1
          by_cases c2 : n % 5 = 0
          · have hF := Lib.hid (hS2.out.trans (if_pos (Or.inl c2)))
            clear hS2
            have d2 : (n % 5 == 0) = true := by rw [beq_iff_eq]; exact c2
            clear c2
            go_wp2
            go_ret
            exact Ret.eq _ (ret_bool hF.out.symm)
          · have d2 : (n % 5 == 0) = false := by rw [beq_eq_false_iff_ne]; exact c2
            have hw := fun w => witness_any 5 n w (by omega) (by omega) (hk3 (by omega)) hn2
            cases c3 : witB 5 n
            · have hF := Lib.hid (hS2.out.trans (if_neg (by rw [c3]; simp [c2])))
              rw [c3] at hw
              have hW := Lib.hid hw
              clear hw hS2 c3 c2
              go_wp2_with fail
              refine (hW.out _).mono ?_
              rintro e w' ⟨rfl, n3, rfl⟩
              go_wp2
              exact ⟨⟨3, rfl, by omega, by omega, hF.out, _, rfl⟩, by simp [intOf]⟩
            · have hF := Lib.hid (hS2.out.trans (if_pos (Or.inr c3)))
              rw [c3] at hw
              have hW := Lib.hid hw
              clear hw hS2 c3 c2
              go_wp2_with fail
              refine (hW.out _).mono ?_
              rintro e w' ⟨rfl, n3, rfl⟩
              go_wp2
              go_ret
              exact Ret.eq _ (ret_bool hF.out.symm)
      · have hS := Lib.hid (hE.out.trans (show isPGo n [7] = if n = 7 then true else if n % 7 = 0 ∨ witB 7 n = true then false else isPGo n [] from rfl))
        clear hE
        have hI := fun w => idx_3 w
        by_cases c1 : n = 7
        · have hF := Lib.hid (hS.out.trans (if_pos c1))
          clear hS
          subst c1
          go_wp2
          go_ret
          exact Ret.eq _ (ret_bool hF.out.symm)
        · have hS2 := Lib.hid (hS.out.trans (if_neg c1))
          clear hS
          have d1 : (n == 7) = false := by rw [beq_eq_false_iff_ne]; exact c1
          by_cases c2 : n % 7 = 0
          · have hF := Lib.hid (hS2.out.trans (if_pos (Or.inl c2)))
            clear hS2
            have d2 : (n % 7 == 0) = true := by rw [beq_iff_eq]; exact c2
            clear c2
            go_wp2
            go_ret
            exact Ret.eq _ (ret_bool hF.out.symm)
          · have d2 : (n % 7 == 0) = false := by rw [beq_eq_false_iff_ne]; exact c2
            have hw := fun w => witness_any 7 n w (by omega) (by omega) (hk3 (by omega)) hn2
            cases c3 : witB 7 n
            · have hF := Lib.hid (hS2.out.trans (if_neg (by rw [c3]; simp [c2])))
              rw [c3] at hw
              have hW := Lib.hid hw
              clear hw hS2 c3 c2
              go_wp2_with fail
              refine (hW.out _).mono ?_
              rintro e w' ⟨rfl, n3, rfl⟩
              go_wp2
              exact ⟨⟨4, rfl, by omega, by omega, hF.out, _, rfl⟩, by simp [intOf]⟩
            · have hF := Lib.hid (hS2.out.trans (if_pos (Or.inr c3)))
              rw [c3] at hw
              have hW := Lib.hid hw
              clear hw hS2 c3 c2
              go_wp2_with fail
              refine (hW.out _).mono ?_
              rintro e w' ⟨rfl, n3, rfl⟩
              go_wp2
              go_ret
              exact Ret.eq _ (ret_bool hF.out.symm)
      · have hS := Lib.hid (hE.out.trans (show isPGo n [] = true from rfl))
        clear hE
        go_wp2
        go_ret
        exact Ret.eq _ (ret_bool hS.out.symm)
end Go.Proofs.YtimdkjbmeogpoaaGreatDoor
namespace Go.Proofs.YtimdkjbmeogpoaaGreatDoor
open Go.RowKit FF
theorem sgn1 (o J : Int) : o * J = o * (1 * 1 * J) := by grind
theorem sgn2 (o J : Int) : -o * J = o * (-1 * 1 * J) := by grind
set_option maxHeartbeats 4000000 in
theorem jacobi_any (a n : Int) (w : World) (ha : I64 a) (h1 : 1 ≤ n) (h2 : n ≤ 1000000000) (ho : n % 2 = 1) :
    Calls Tryz.prog 179 #[.int .i64 a, .int .i64 n] w (Ret w (.int .i64 (Jac a n.toNat))) := by
  have hM := Lib.hid (fun w => mod_any a n w ha (by omega) ⟨by omega, by omega⟩)
  have x0 := Int.emod_nonneg a (b := n) (by omega)
  have x1 := Int.emod_lt_of_pos a (b := n) (by omega)
  have hst := Lib.hid (show 1 * Jac (a % n) n.toNat = Jac a n.toNat by
    rw [Int.one_mul]; exact jac_congr (by omega) (by rw [show ((n.toNat : Nat) : Int) = n by omega]; exact Cg.emod n a))
  have hO := Lib.hid ho; clear ho ha
  generalize hJ : Jac a n.toNat = J0 at *
  go_enter Tryz.func179, Tryz.ntmps179
  go_wp2_with fail
  refine (hM.out _).mono ?_
  rintro e w' ⟨rfl, n1, rfl⟩
  clear hM hJ
  go_wp2_with fail
  generalize a % n = b0 at *
  go_loopw [0, 1, 5, 6, 7] (fun s t u _ _ wr => ∃ x n o : Int, s = .int .i64 x ∧ t = .int .i64 n ∧ u = .int .i64 o ∧ 0 ≤ x ∧ x < n ∧ 1 ≤ n ∧ n ≤ 1000000000 ∧ n % 2 = 1 ∧ (o = 1 ∨ o = -1) ∧ o * Jac x n.toNat = J0 ∧ ∃ m, wr = w.drewN m) (fun s _ _ _ _ _ => (intOf s).toNat)
  case atStart => exact ⟨b0, n, 1, rfl, rfl, rfl, x0, x1, h1, h2, hO.out, Or.inl rfl, hst.out, n1, rfl⟩
  case round =>
    clear hst x0 x1 h1 h2 hO
    obtain ⟨x, n, o, rfl, rfl, rfl, x0, x1, h1, h2, ho, hoo, he, m, rfl⟩ := hrel
    have hE := Lib.hid he; clear he
    have hO := Lib.hid ho; clear ho
    have ol : -1 ≤ o := by omega
    have ou : o ≤ 1 := by omega
    have hOO := Lib.hid hoo; clear hoo
    by_cases hx : x = 0
    · subst hx
      have hz := Lib.hid (jac_zero_left (n := n.toNat) (by have := hO.out; omega))
      by_cases hn1 : n = 1
      · subst hn1
        go_wp2
        go_ret
        refine Ret.eq _ (ret_int ?_)
        rw [← hE.out, hz.out, if_pos (by rfl), Int.mul_one]
      · have d0 : (!(n == 1)) = true := by simp [hn1]
        go_wp2
        go_ret
        refine Ret.eq _ (ret_int ?_)
        rw [← hE.out, hz.out, if_neg (by omega), Int.mul_zero]
    · have hxp : 0 < x := by omega
      have hS := Lib.hid (jac_step hxp (by omega) hO.out)
      have hr := not_dvd_rest (p := 2) (n := x) (by omega) (by omega)
      have hr0 := rest_pos (p := 2) (n := x) (by omega) (by omega)
      have hr1 := rest_natAbs_le (p := 2) (n := x) (by omega) (by omega)
      have hk : vp 2 x < 64 := by
        have h3 := vp_lt (p := 2) (n := x) (by omega) (by omega)
        have h4 : x.natAbs < 2 ^ 64 := by omega
        exact (Nat.pow_lt_pow_iff_right (by omega)).1 (Nat.lt_of_le_of_lt h3 h4)
      have hC : ∀ w, Calls Tryz.prog 166 #[.int .i64 x, .int .i64 2] w (Ret w (.tuple #[.int .i64 (vp 2 x), .int .i64 (rest 2 x)])) := fun w => valuation_any x 2 w ⟨by omega, by omega⟩ (by omega) (by omega) (by omega)
      generalize vp 2 x = k at *
      generalize rest 2 x = r at *
      have hro : r % 2 = 1 := by omega
      have hrx : r ≤ x := by omega
      clear hr hr1
      have HC := Lib.hid hC; clear hC
      have m1 := Int.emod_nonneg n (b := r) (by omega)
      have m2 := Int.emod_lt_of_pos n hr0
      have hb : (!(x == 0)) = true := by simp [hx]
      clear hx
      rcases Bool.eq_false_or_eq_true ((k : Int) % 2 == 1) with d1 | d1
      · rcases Bool.eq_false_or_eq_true (n % 8 == 3) with d2 | d2
        · skip
          rcases Bool.eq_false_or_eq_true (r % 4 == 3) with d4 | d4
          · rcases Bool.eq_false_or_eq_true (n % 4 == 3) with d5 | d5
            · skip
              first
                | (exfalso; replace d1 := beq_t d1; replace d2 := beq_t d2; replace d4 := beq_t d4; replace d5 := beq_t d5; omega)
                | (go_wp2_with fail
                   refine (HC.out _).mono ?_
                   rintro e w' ⟨rfl, n3, rfl⟩
                   go_wp2
                   replace d1 := beq_t d1; replace d2 := beq_t d2; replace d4 := beq_t d4; replace d5 := beq_t d5
                   refine ⟨⟨_, _, _, rfl, rfl, rfl, m1, by omega, by omega, by omega, hro, ?_, ?_, _, rfl⟩, ?_⟩
                   · have hoo := hOO.out; omega
                   · rw [← hE.out, hS.out]
                     split <;> split <;> first | (exfalso; omega) | exact sgn1 .. | exact sgn2 .. | exact sgn3 .. | exact sgn4 .. | exact sgn5 ..
                   · show (n % r).toNat < x.toNat; omega)
            · skip
              first
                | (exfalso; replace d1 := beq_t d1; replace d2 := beq_t d2; replace d4 := beq_t d4; replace d5 := beq_f d5; omega)
                | (go_wp2_with fail
                   refine (HC.out _).mono ?_
                   rintro e w' ⟨rfl, n3, rfl⟩
                   go_wp2
                   replace d1 := beq_t d1; replace d2 := beq_t d2; replace d4 := beq_t d4; replace d5 := beq_f d5
                   refine ⟨⟨_, _, _, rfl, rfl, rfl, m1, by omega, by omega, by omega, hro, ?_, ?_, _, rfl⟩, ?_⟩
                   · have hoo := hOO.out; omega
                   · rw [← hE.out, hS.out]
                     split <;> split <;> first | (exfalso; omega) | exact sgn1 .. | exact sgn2 .. | exact sgn3 .. | exact sgn4 .. | exact sgn5 ..
                   · show (n % r).toNat < x.toNat; omega)
          · skip
            first
              | (exfalso; replace d1 := beq_t d1; replace d2 := beq_t d2; replace d4 := beq_f d4; omega)
              | (go_wp2_with fail
                 refine (HC.out _).mono ?_
                 rintro e w' ⟨rfl, n3, rfl⟩
                 go_wp2
                 replace d1 := beq_t d1; replace d2 := beq_t d2; replace d4 := beq_f d4
                 refine ⟨⟨_, _, _, rfl, rfl, rfl, m1, by omega, by omega, by omega, hro, ?_, ?_, _, rfl⟩, ?_⟩
                 · have hoo := hOO.out; omega
                 · rw [← hE.out, hS.out]
                   split <;> split <;> first | (exfalso; omega) | exact sgn1 .. | exact sgn2 .. | exact sgn3 .. | exact sgn4 .. | exact sgn5 ..
                 · show (n % r).toNat < x.toNat; omega)
        · rcases Bool.eq_false_or_eq_true (n % 8 == 5) with d3 | d3
          · skip
            rcases Bool.eq_false_or_eq_true (r % 4 == 3) with d4 | d4
            · rcases Bool.eq_false_or_eq_true (n % 4 == 3) with d5 | d5
              · skip
                first
                  | (exfalso; replace d1 := beq_t d1; replace d2 := beq_f d2; replace d3 := beq_t d3; replace d4 := beq_t d4; replace d5 := beq_t d5; omega)
                  | (go_wp2_with fail
                     refine (HC.out _).mono ?_
                     rintro e w' ⟨rfl, n3, rfl⟩
                     go_wp2
                     replace d1 := beq_t d1; replace d2 := beq_f d2; replace d3 := beq_t d3; replace d4 := beq_t d4; replace d5 := beq_t d5
                     refine ⟨⟨_, _, _, rfl, rfl, rfl, m1, by omega, by omega, by omega, hro, ?_, ?_, _, rfl⟩, ?_⟩
                     · have hoo := hOO.out; omega
                     · rw [← hE.out, hS.out]
                       split <;> split <;> first | (exfalso; omega) | exact sgn1 .. | exact sgn2 .. | exact sgn3 .. | exact sgn4 .. | exact sgn5 ..
                     · show (n % r).toNat < x.toNat; omega)
              · skip
                first
                  | (exfalso; replace d1 := beq_t d1; replace d2 := beq_f d2; replace d3 := beq_t d3; replace d4 := beq_t d4; replace d5 := beq_f d5; omega)
                  | (go_wp2_with fail
                     refine (HC.out _).mono ?_
                     rintro e w' ⟨rfl, n3, rfl⟩
                     go_wp2
                     replace d1 := beq_t d1; replace d2 := beq_f d2; replace d3 := beq_t d3; replace d4 := beq_t d4; replace d5 := beq_f d5
                     refine ⟨⟨_, _, _, rfl, rfl, rfl, m1, by omega, by omega, by omega, hro, ?_, ?_, _, rfl⟩, ?_⟩
                     · have hoo := hOO.out; omega
                     · rw [← hE.out, hS.out]
                       split <;> split <;> first | (exfalso; omega) | exact sgn1 .. | exact sgn2 .. | exact sgn3 .. | exact sgn4 .. | exact sgn5 ..
                     · show (n % r).toNat < x.toNat; omega)
            · skip
              first
                | (exfalso; replace d1 := beq_t d1; replace d2 := beq_f d2; replace d3 := beq_t d3; replace d4 := beq_f d4; omega)
                | (go_wp2_with fail
                   refine (HC.out _).mono ?_
                   rintro e w' ⟨rfl, n3, rfl⟩
                   go_wp2
                   replace d1 := beq_t d1; replace d2 := beq_f d2; replace d3 := beq_t d3; replace d4 := beq_f d4
                   refine ⟨⟨_, _, _, rfl, rfl, rfl, m1, by omega, by omega, by omega, hro, ?_, ?_, _, rfl⟩, ?_⟩
                   · have hoo := hOO.out; omega
                   · rw [← hE.out, hS.out]
                     split <;> split <;> first | (exfalso; omega) | exact sgn1 .. | exact sgn2 .. | exact sgn3 .. | exact sgn4 .. | exact sgn5 ..
                   · show (n % r).toNat < x.toNat; omega)
          · skip
            rcases Bool.eq_false_or_eq_true (r % 4 == 3) with d4 | d4
            · rcases Bool.eq_false_or_eq_true (n % 4 == 3) with d5 | d5
              · skip
                first
                  | (exfalso; replace d1 := beq_t d1; replace d2 := beq_f d2; replace d3 := beq_f d3; replace d4 := beq_t d4; replace d5 := beq_t d5; omega)
                  | (go_wp2_with fail
                     refine (HC.out _).mono ?_
                     rintro e w' ⟨rfl, n3, rfl⟩
                     go_wp2
                     replace d1 := beq_t d1; replace d2 := beq_f d2; replace d3 := beq_f d3; replace d4 := beq_t d4; replace d5 := beq_t d5
                     refine ⟨⟨_, _, _, rfl, rfl, rfl, m1, by omega, by omega, by omega, hro, ?_, ?_, _, rfl⟩, ?_⟩
                     · have hoo := hOO.out; omega
                     · rw [← hE.out, hS.out]
                       split <;> split <;> first | (exfalso; omega) | exact sgn1 .. | exact sgn2 .. | exact sgn3 .. | exact sgn4 .. | exact sgn5 ..
                     · show (n % r).toNat < x.toNat; omega)
              · skip
                first
                  | (exfalso; replace d1 := beq_t d1; replace d2 := beq_f d2; replace d3 := beq_f d3; replace d4 := beq_t d4; replace d5 := beq_f d5; omega)
                  | (go_wp2_with fail
                     refine (HC.out _).mono ?_
                     rintro e w' ⟨rfl, n3, rfl⟩
                     go_wp2
                     replace d1 := beq_t d1; replace d2 := beq_f d2; replace d3 := beq_f d3; replace d4 := beq_t d4; replace d5 := beq_f d5
                     refine ⟨⟨_, _, _, rfl, rfl, rfl, m1, by omega, by omega, by omega, hro, ?_, ?_, _, rfl⟩, ?_⟩
                     · have hoo := hOO.out; omega
                     · rw [← hE.out, hS.out]
                       split <;> split <;> first | (exfalso; omega) | exact sgn1 .. | exact sgn2 .. | exact sgn3 .. | exact sgn4 .. | exact sgn5 ..
                     · show (n % r).toNat < x.toNat; omega)
            · skip
              first
                | (exfalso; replace d1 := beq_t d1; replace d2 := beq_f d2; replace d3 := beq_f d3; replace d4 := beq_f d4; omega)
                | (go_wp2_with fail
                   refine (HC.out _).mono ?_
                   rintro e w' ⟨rfl, n3, rfl⟩
                   go_wp2
                   replace d1 := beq_t d1; replace d2 := beq_f d2; replace d3 := beq_f d3; replace d4 := beq_f d4
                   refine ⟨⟨_, _, _, rfl, rfl, rfl, m1, by omega, by omega, by omega, hro, ?_, ?_, _, rfl⟩, ?_⟩
                   · have hoo := hOO.out; omega
                   · rw [← hE.out, hS.out]
                     split <;> split <;> first | (exfalso; omega) | exact sgn1 .. | exact sgn2 .. | exact sgn3 .. | exact sgn4 .. | exact sgn5 ..
                   · show (n % r).toNat < x.toNat; omega)
      · skip
        rcases Bool.eq_false_or_eq_true (r % 4 == 3) with d4 | d4
        · rcases Bool.eq_false_or_eq_true (n % 4 == 3) with d5 | d5
          · skip
            first
              | (exfalso; replace d1 := beq_f d1; replace d4 := beq_t d4; replace d5 := beq_t d5; omega)
              | (go_wp2_with fail
                 refine (HC.out _).mono ?_
                 rintro e w' ⟨rfl, n3, rfl⟩
                 go_wp2
                 replace d1 := beq_f d1; replace d4 := beq_t d4; replace d5 := beq_t d5
                 refine ⟨⟨_, _, _, rfl, rfl, rfl, m1, by omega, by omega, by omega, hro, ?_, ?_, _, rfl⟩, ?_⟩
                 · have hoo := hOO.out; omega
                 · rw [← hE.out, hS.out]
                   split <;> split <;> first | (exfalso; omega) | exact sgn1 .. | exact sgn2 .. | exact sgn3 .. | exact sgn4 .. | exact sgn5 ..
                 · show (n % r).toNat < x.toNat; omega)
          · skip
            first
              | (exfalso; replace d1 := beq_f d1; replace d4 := beq_t d4; replace d5 := beq_f d5; omega)
              | (go_wp2_with fail
                 refine (HC.out _).mono ?_
                 rintro e w' ⟨rfl, n3, rfl⟩
                 go_wp2
                 replace d1 := beq_f d1; replace d4 := beq_t d4; replace d5 := beq_f d5
                 refine ⟨⟨_, _, _, rfl, rfl, rfl, m1, by omega, by omega, by omega, hro, ?_, ?_, _, rfl⟩, ?_⟩
                 · have hoo := hOO.out; omega
                 · rw [← hE.out, hS.out]
                   split <;> split <;> first | (exfalso; omega) | exact sgn1 .. | exact sgn2 .. | exact sgn3 .. | exact sgn4 .. | exact sgn5 ..
                 · show (n % r).toNat < x.toNat; omega)
        · skip
          first
            | (exfalso; replace d1 := beq_f d1; replace d4 := beq_f d4; omega)
            | (go_wp2_with fail
               refine (HC.out _).mono ?_
               rintro e w' ⟨rfl, n3, rfl⟩
               go_wp2
               replace d1 := beq_f d1; replace d4 := beq_f d4
               refine ⟨⟨_, _, _, rfl, rfl, rfl, m1, by omega, by omega, by omega, hro, ?_, ?_, _, rfl⟩, ?_⟩
               · have hoo := hOO.out; omega
               · rw [← hE.out, hS.out]
                 split <;> split <;> first | (exfalso; omega) | exact sgn1 .. | exact sgn2 .. | exact sgn3 .. | exact sgn4 .. | exact sgn5 ..
               · show (n % r).toNat < x.toNat; omega)
end Go.Proofs.YtimdkjbmeogpoaaGreatDoor
