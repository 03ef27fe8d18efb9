/- Contracts of the integer package's functions on machine integers, part C: witness, IsPrime. -/
import Derived.Test.YtmlkiddkgikdhaaIntB
import Derived.Test.YtmlkiddkgikdhaaSpB
namespace Go.Proofs.Ytmlkiddkgikdhaa
open Go.RowKit FF

set_option maxHeartbeats 400000 in
theorem witness_any (a n : Int) (w : World) (ha : 0 ≤ a) (ha' : a ≤ 7) (h1 : 3 ≤ n) (h2 : n ≤ 1000000000) :
    Calls Try.prog 131 #[.int .i64 a, .int .i64 n] w (Ret w (.bool (witB a n))) := by
  have hn1 : n - 1 ≠ 0 := by omega
  have hr1 := rest_natAbs_le (p := 2) (by omega) hn1
  have hr0 : 0 ≤ rest 2 (n - 1) := rest_nonneg (by omega) (by omega)
  have hv : vp 2 (n - 1) < 64 := by
    have h3 := vp_lt (p := 2) (by omega) hn1
    have h4 : (n - 1).natAbs < 2 ^ 64 := by omega
    exact (Nat.pow_lt_pow_iff_right (by omega)).1 (Nat.lt_of_le_of_lt h3 h4)
  have hW := Lib.hid (show witB a n = witW a n (rest 2 (n - 1)) (vp 2 (n - 1)) from rfl)
  have hrr : rest 2 (n - 1) ≤ 1000000000 := by omega
  have hC := fun w => valuation_any (n - 1) 2 w ⟨by omega, by omega⟩ hn1 (by omega) (by omega)
  have hP := fun w => power_any a (rest 2 (n - 1)) n w ⟨by omega, by omega⟩ hr0 ⟨by omega, by omega⟩ (by omega) h2
  clear hn1 hr1
  generalize rest 2 (n - 1) = o at *
  generalize vp 2 (n - 1) = k at *
  have hx0 := Int.emod_nonneg (a ^ o.toNat) (b := n) (by omega)
  have hx1 := Int.emod_lt_of_pos (a ^ o.toNat) (b := n) (by omega)
  have hW2 := Lib.hid (hW.out.trans (show witW a n o k = if a ^ o.toNat % n = 1 ∨ a ^ o.toNat % n = n - 1 then false else witGo n (k - 1) (a ^ o.toNat % n) from rfl))
  clear hW
  generalize a ^ o.toNat % n = x at *
  have HC := Lib.hid hC; have HP := Lib.hid hP; clear hC hP
  go_enter Try.func131, Try.ntmps131
  go_wp2_with fail
  refine (HC.out _).mono ?_
  rintro e w' ⟨rfl, n1, rfl⟩
  go_wp2_with fail
  refine (HP.out _).mono ?_
  rintro e w' ⟨rfl, n2, rfl⟩
  clear HC HP
  by_cases c1 : x = 1
  · have hF := Lib.hid (hW2.out.trans (if_pos (Or.inl c1)))
    clear hW2
    subst c1
    go_wp2
    go_ret
    exact Ret.eq _ (ret_bool hF.out.symm)
  · by_cases c2 : x = n - 1
    · have hF := Lib.hid (hW2.out.trans (if_pos (Or.inr c2)))
      clear hW2
      subst c2
      have d1 : (n - 1 == 1) = false := by rw [beq_eq_false_iff_ne]; exact c1
      go_wp2
      go_ret
      exact Ret.eq _ (ret_bool hF.out.symm)
    · have hW3 := Lib.hid (hW2.out.trans (if_neg (by rintro (h | h); exact c1 h; exact c2 h)))
      clear hW2
      have d1 : (x == 1) = false := by rw [beq_eq_false_iff_ne]; exact c1
      have d2 : (x == n - 1) = false := by rw [beq_eq_false_iff_ne]; exact c2
      go_wp2
      go_loop [7, 28] (fun t u => ∃ (y : Int) (i : Nat), t = .int .i64 y ∧ u = .int .i64 i ∧ 0 ≤ y ∧ y < n ∧ i ≤ k - 1 ∧ witB a n = witGo n (k - 1 - i) y) (fun _ u => (k - 1) - (intOf u).toNat)
      case atStart => exact ⟨x, 0, rfl, rfl, hx0, hx1, by omega, hW3.out⟩
      case round =>
        clear hW3 d1 d2
        obtain ⟨y, i, rfl, rfl, hy0, hy1, hi, he⟩ := hrel
        have hE := Lib.hid he; clear he
        obtain ⟨b1, b2⟩ := mul_le_sq hy0 hy1 hy0 hy1 h2
        have m1 := Int.emod_nonneg (y * y) (b := n) (by omega)
        have m2 := Int.emod_lt_of_pos (y * y) (b := n) (by omega)
        by_cases hlt : i < k - 1
        · have hS := Lib.hid (show witGo n (k - 1 - i) y = if y * y % n = n - 1 then false else witGo n (k - 1 - (i + 1)) (y * y % n) by
            rw [show k - 1 - i = (k - 1 - (i + 1)) + 1 by omega]; rfl)
          by_cases c3 : y * y % n = n - 1
          · have d3 : (y * y % n == n - 1) = true := by rw [beq_iff_eq]; exact c3
            have C3 := Lib.hid c3; clear c3
            go_wp2
            go_ret
            exact Ret.eq _ (ret_bool (by rw [hE.out, hS.out, if_pos C3.out]))
          · have d3 : (y * y % n == n - 1) = false := by rw [beq_eq_false_iff_ne]; exact c3
            go_wp2
            exact ⟨⟨y * y % n, i + 1, rfl, by go_num, m1, m2, by omega, by rw [hE.out, hS.out, if_neg c3]⟩, by simp [intOf]; omega⟩
        · go_wp2
          go_ret
          exact Ret.eq _ (ret_bool (by rw [hE.out, show k - 1 - i = 0 by omega]; rfl))

theorem idx_0 (w : World) : (Instr.index 140 (.agg #[.int .i64 2, .int .i64 3, .int .i64 5, .int .i64 7]) (.int .i64 0)).run Try.prog w = .ok (.int .i64 2) w := by kernel_rfl
theorem idx_1 (w : World) : (Instr.index 140 (.agg #[.int .i64 2, .int .i64 3, .int .i64 5, .int .i64 7]) (.int .i64 1)).run Try.prog w = .ok (.int .i64 3) w := by kernel_rfl
theorem idx_2 (w : World) : (Instr.index 140 (.agg #[.int .i64 2, .int .i64 3, .int .i64 5, .int .i64 7]) (.int .i64 2)).run Try.prog w = .ok (.int .i64 5) w := by kernel_rfl
theorem idx_3 (w : World) : (Instr.index 140 (.agg #[.int .i64 2, .int .i64 3, .int .i64 5, .int .i64 7]) (.int .i64 3)).run Try.prog w = .ok (.int .i64 7) w := by kernel_rfl

set_option maxHeartbeats 1600000 in
theorem isPrime_raw (n : Int) (w : World) :
    Calls Try.prog 72 #[.int .i64 n] w (Ret w (.bool (isPM n))) := by
  by_cases hn : n < 2 ∨ 1000000000 < n
  · have hF := Lib.hid (show isPM n = false from if_pos hn)
    go_enter Try.func72, Try.ntmps72
    rcases hn with h | h
    · go_wp2
      go_ret
      exact Ret.eq0 (ret_bool hF.out.symm)
    · by_cases h2 : n < 2
      · omega
      · go_wp2
        go_ret
        exact Ret.eq0 (ret_bool hF.out.symm)
  · have hF := Lib.hid (show isPM n = isPGo n [2, 3, 5, 7] from if_neg hn)
    have hn1 : 2 ≤ n := by omega
    have hn2 : n ≤ 1000000000 := by omega
    clear hn
    go_enter Try.func72, Try.ntmps72
    go_wp2
    go_loopw [4, 12] (fun _ u wr => ∃ k : Nat, u = .int .i64 k ∧ k ≤ 4 ∧ (1 ≤ k → 3 ≤ n) ∧ isPM n = isPGo n (List.drop k [2, 3, 5, 7]) ∧ ∃ m, wr = w.drewN m) (fun _ u _ => 4 - (intOf u).toNat)
    case atStart => exact ⟨0, rfl, by omega, by omega, hF.out, 0, rfl⟩
    case round =>
      clear hF
      obtain ⟨k, rfl, hk, hk3, he, m, rfl⟩ := hrel
      have hE := Lib.hid he; clear he
      have hk' : k = 0 ∨ k = 1 ∨ k = 2 ∨ k = 3 ∨ k = 4 := by omega
      rcases hk' with rfl | rfl | rfl | rfl | rfl
      · have hS := Lib.hid (hE.out.trans (show isPGo n [2, 3, 5, 7] = if n = 2 then true else if n % 2 = 0 ∨ witB 2 n = true then false else isPGo n [3, 5, 7] from rfl))
        clear hE
        have hI := fun w => idx_0 w
        by_cases c1 : n = 2
        · have hF := Lib.hid (hS.out.trans (if_pos c1))
          clear hS
          subst c1
          go_wp2
          go_ret
          exact Ret.eq _ (ret_bool hF.out.symm)
        · have hS2 := Lib.hid (hS.out.trans (if_neg c1))
          clear hS
          have d1 : (n == 2) = false := by rw [beq_eq_false_iff_ne]; exact c1
          by_cases c2 : n % 2 = 0
          · have hF := Lib.hid (hS2.out.trans (if_pos (Or.inl c2)))
            clear hS2
            have d2 : (n % 2 == 0) = true := by rw [beq_iff_eq]; exact c2
            clear c2
            go_wp2
            go_ret
            exact Ret.eq _ (ret_bool hF.out.symm)
          · have d2 : (n % 2 == 0) = false := by rw [beq_eq_false_iff_ne]; exact c2
            have hw := fun w => witness_any 2 n w (by omega) (by omega) (by omega) hn2
            cases c3 : witB 2 n
            · have hF := Lib.hid (hS2.out.trans (if_neg (by rw [c3]; simp [c2])))
              rw [c3] at hw
              have hW := Lib.hid hw
              clear hw hS2 c3 c2
              go_wp2_with fail
              refine (hW.out _).mono ?_
              rintro e w' ⟨rfl, n3, rfl⟩
              go_wp2
              exact ⟨⟨1, rfl, by omega, by omega, hF.out, _, rfl⟩, by simp [intOf]⟩
            · have hF := Lib.hid (hS2.out.trans (if_pos (Or.inr c3)))
              rw [c3] at hw
              have hW := Lib.hid hw
              clear hw hS2 c3 c2
              go_wp2_with fail
              refine (hW.out _).mono ?_
              rintro e w' ⟨rfl, n3, rfl⟩
              go_wp2
              go_ret
              exact Ret.eq _ (ret_bool hF.out.symm)
      · have hS := Lib.hid (hE.out.trans (show isPGo n [3, 5, 7] = if n = 3 then true else if n % 3 = 0 ∨ witB 3 n = true then false else isPGo n [5, 7] from rfl))
        clear hE
        have hI := fun w => idx_1 w
        by_cases c1 : n = 3
        · have hF := Lib.hid (hS.out.trans (if_pos c1))
          clear hS
          subst c1
          go_wp2
          go_ret
          exact Ret.eq _ (ret_bool hF.out.symm)
        · have hS2 := Lib.hid (hS.out.trans (if_neg c1))
          clear hS
          have d1 : (n == 3) = false := by rw [beq_eq_false_iff_ne]; exact c1
          by_cases c2 : n % 3 = 0
          · have hF := Lib.hid (hS2.out.trans (if_pos (Or.inl c2)))
            clear hS2
            have d2 : (n % 3 == 0) = true := by rw [beq_iff_eq]; exact c2
            clear c2
            go_wp2
            go_ret
            exact Ret.eq _ (ret_bool hF.out.symm)
          · have d2 : (n % 3 == 0) = false := by rw [beq_eq_false_iff_ne]; exact c2
            have hw := fun w => witness_any 3 n w (by omega) (by omega) (hk3 (by omega)) hn2
            cases c3 : witB 3 n
            · have hF := Lib.hid (hS2.out.trans (if_neg (by rw [c3]; simp [c2])))
              rw [c3] at hw
              have hW := Lib.hid hw
              clear hw hS2 c3 c2
              go_wp2_with fail
              refine (hW.out _).mono ?_
              rintro e w' ⟨rfl, n3, rfl⟩
              go_wp2
              exact ⟨⟨2, rfl, by omega, by omega, hF.out, _, rfl⟩, by simp [intOf]⟩
            · have hF := Lib.hid (hS2.out.trans (if_pos (Or.inr c3)))
              rw [c3] at hw
              have hW := Lib.hid hw
              clear hw hS2 c3 c2
              go_wp2_with fail
              refine (hW.out _).mono ?_
              rintro e w' ⟨rfl, n3, rfl⟩
              go_wp2
              go_ret
              exact Ret.eq _ (ret_bool hF.out.symm)
      · have hS := Lib.hid (hE.out.trans (show isPGo n [5, 7] = if n = 5 then true else if n % 5 = 0 ∨ witB 5 n = true then false else isPGo n [7] from rfl))
        clear hE
        have hI := fun w => idx_2 w
        by_cases c1 : n = 5
        · have hF := Lib.hid (hS.out.trans (if_pos c1))
          clear hS
          subst c1
          go_wp2
          go_ret
          exact Ret.eq _ (ret_bool hF.out.symm)
        · have hS2 := Lib.hid (hS.out.trans (if_neg c1))
          clear hS
          have d1 : (n == 5) = false := by rw [beq_eq_false_iff_ne]; exact c1
          by_cases c2 : n % 5 = 0
          · have hF := Lib.hid (hS2.out.trans (if_pos (Or.inl c2)))
            clear hS2
            have d2 : (n % 5 == 0) = true := by rw [beq_iff_eq]; exact c2
            clear c2
            go_wp2
            go_ret
            exact Ret.eq _ (ret_bool hF.out.symm)
          · have d2 : (n % 5 == 0) = false := by rw [beq_eq_false_iff_ne]; exact c2
            have hw := fun w => witness_any 5 n w (by omega) (by omega) (hk3 (by omega)) hn2
            cases c3 : witB 5 n
            · have hF := Lib.hid (hS2.out.trans (if_neg (by rw [c3]; simp [c2])))
              rw [c3] at hw
              have hW := Lib.hid hw
              clear hw hS2 c3 c2
              go_wp2_with fail
              refine (hW.out _).mono ?_
              rintro e w' ⟨rfl, n3, rfl⟩
              go_wp2
              exact ⟨⟨3, rfl, by omega, by omega, hF.out, _, rfl⟩, by simp [intOf]⟩
            · have hF := Lib.hid (hS2.out.trans (if_pos (Or.inr c3)))
              rw [c3] at hw
              have hW := Lib.hid hw
              clear hw hS2 c3 c2
              go_wp2_with fail
              refine (hW.out _).mono ?_
              rintro e w' ⟨rfl, n3, rfl⟩
              go_wp2
              go_ret
              exact Ret.eq _ (ret_bool hF.out.symm)
      · have hS := Lib.hid (hE.out.trans (show isPGo n [7] = if n = 7 then true else if n % 7 = 0 ∨ witB 7 n = true then false else isPGo n [] from rfl))
        clear hE
        have hI := fun w => idx_3 w
        by_cases c1 : n = 7
        · have hF := Lib.hid (hS.out.trans (if_pos c1))
          clear hS
          subst c1
          go_wp2
          go_ret
          exact Ret.eq _ (ret_bool hF.out.symm)
        · have hS2 := Lib.hid (hS.out.trans (if_neg c1))
          clear hS
          have d1 : (n == 7) = false := by rw [beq_eq_false_iff_ne]; exact c1
          by_cases c2 : n % 7 = 0
          · have hF := Lib.hid (hS2.out.trans (if_pos (Or.inl c2)))
            clear hS2
            have d2 : (n % 7 == 0) = true := by rw [beq_iff_eq]; exact c2
            clear c2
            go_wp2
            go_ret
            exact Ret.eq _ (ret_bool hF.out.symm)
          · have d2 : (n % 7 == 0) = false := by rw [beq_eq_false_iff_ne]; exact c2
            have hw := fun w => witness_any 7 n w (by omega) (by omega) (hk3 (by omega)) hn2
            cases c3 : witB 7 n
            · have hF := Lib.hid (hS2.out.trans (if_neg (by rw [c3]; simp [c2])))
              rw [c3] at hw
              have hW := Lib.hid hw
              clear hw hS2 c3 c2
              go_wp2_with fail
              refine (hW.out _).mono ?_
              rintro e w' ⟨rfl, n3, rfl⟩
              go_wp2
              exact ⟨⟨4, rfl, by omega, by omega, hF.out, _, rfl⟩, by simp [intOf]⟩
            · have hF := Lib.hid (hS2.out.trans (if_pos (Or.inr c3)))
              rw [c3] at hw
              have hW := Lib.hid hw
              clear hw hS2 c3 c2
              go_wp2_with fail
              refine (hW.out _).mono ?_
              rintro e w' ⟨rfl, n3, rfl⟩
              go_wp2
              go_ret
              exact Ret.eq _ (ret_bool hF.out.symm)
      · have hS := Lib.hid (hE.out.trans (show isPGo n [] = true from rfl))
        clear hE
        go_wp2
        go_ret
        exact Ret.eq _ (ret_bool hS.out.symm)
end Go.Proofs.Ytmlkiddkgikdhaa
