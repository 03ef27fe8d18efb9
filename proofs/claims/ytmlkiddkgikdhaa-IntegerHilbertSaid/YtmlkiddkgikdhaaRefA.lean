/- Contracts of the reference's functions on machine integers, part A. -/
import Derived.Test.YtmlkiddkgikdhaaIntF
namespace Go.Proofs.Ytmlkiddkgikdhaa
open Go.RowKit FF

set_option maxHeartbeats 400000 in
theorem rMod_any (a m : Int) (w : World) (ha : I64 a) (h3 : 0 < m) (hm : I64 m) :
    Calls Try.prog 86 #[.int .i64 a, .int .i64 m] w (Ret w (.int .i64 (a % m))) := by
  obtain ⟨h1, h2⟩ := ha
  obtain ⟨_, h4⟩ := hm
  have t1 := Int.tmod_lt_of_pos a h3
  have t2 := Int.lt_tmod_of_pos a h3
  have ee := Lib.hid (tmod_emod (a := a) h3)
  go_enter Try.func86, Try.ntmps86
  go_wp2
  · have hlt : a.tmod m < 0 := by assumption
    go_ret
    exact Ret.eq0 (ret_int (by rw [ee.out, if_pos hlt]))
  · have hlt : 0 ≤ a.tmod m := by assumption
    go_ret
    exact Ret.eq0 (ret_int (by rw [ee.out, if_neg (by omega)]))

/-- from lo to hi -/
def winB (n lo hi : Int) : Bool := decide (lo ≤ n) && decide (n ≤ hi)
theorem winB_iff {n lo hi : Int} : winB n lo hi = true ↔ lo ≤ n ∧ n ≤ hi := by unfold winB; simp
theorem winB_false {n lo hi : Int} : winB n lo hi = false ↔ ¬ (lo ≤ n ∧ n ≤ hi) := by rw [← winB_iff]; simp
set_option maxHeartbeats 400000 in
theorem rWithin_any (n lo hi : Int) (w : World) :
    Calls Try.prog 99 #[.int .i64 n, .int .i64 lo, .int .i64 hi] w (Ret w (.bool (winB n lo hi))) := by
  have hF := Lib.hid (show (decide (lo ≤ n) && decide (n ≤ hi)) = winB n lo hi from rfl)
  go_enter Try.func99, Try.ntmps99
  by_cases h1 : lo ≤ n
  · have hF2 := Lib.hid (show decide (n ≤ hi) = winB n lo hi by rw [← hF.out, decide_eq_true h1]; rfl)
    clear hF
    go_wp2
    go_ret
    exact Ret.eq0 (ret_bool hF2.out)
  · have hF2 := Lib.hid (show false = winB n lo hi by rw [← hF.out, decide_eq_false h1]; rfl)
    clear hF
    go_wp2
    go_ret
    exact Ret.eq0 (ret_bool hF2.out)

theorem modB_win (m : Int) : modB m = winB m 1 1000000000 := by
  rw [Bool.eq_iff_iff, modB_true, winB_iff]
set_option maxHeartbeats 400000 in
theorem rIsModulus_any (m : Int) (w : World) :
    Calls Try.prog 95 #[.int .i64 m] w (Ret w (.bool (modB m))) := by
  have hW := Lib.hid (fun w => rWithin_any m 1 1000000000 w)
  have hF := Lib.hid (modB_win m)
  go_enter Try.func95, Try.ntmps95
  go_wp2_with fail
  refine (hW.out _).mono ?_
  rintro e w' ⟨rfl, n1, rfl⟩
  go_wp2
  go_ret
  exact Ret.eq _ (ret_bool hF.out.symm)

set_option maxHeartbeats 400000 in
theorem rPower_any (a n m : Int) (w : World) (ha : I64 a) (hn : 0 ≤ n) (hn' : I64 n) (h1 : 1 ≤ m) (h2 : m ≤ 1000000000) :
    Calls Try.prog 96 #[.int .i64 a, .int .i64 n, .int .i64 m] w (Ret w (.int .i64 (a ^ n.toNat % m))) := by
  have hmm : I64 m := ⟨by omega, by omega⟩
  have o0 := Int.emod_nonneg 1 (b := m) (by omega)
  have o1 := Int.emod_lt_of_pos 1 (b := m) (by omega)
  have x0 := Int.emod_nonneg a (b := m) (by omega)
  have x1 := Int.emod_lt_of_pos a (b := m) (by omega)
  have hst := Lib.hid (show 1 % m * (a % m) ^ n.toNat % m = a ^ n.toNat % m from by
    have := ((Cg.emod m 1).mul ((Cg.emod m a).pow n.toNat)).emod_eq; rwa [Int.one_mul] at this)
  obtain ⟨_, hn''⟩ := hn'
  go_enter Try.func96, Try.ntmps96
  go_wp2_with fail
  refine (rMod_any 1 m _ ⟨by omega, by omega⟩ (by omega) hmm).mono ?_
  rintro e w' ⟨rfl, n0, rfl⟩
  go_wp2_with fail
  refine (rMod_any a m _ ha (by omega) hmm).mono ?_
  rintro e w' ⟨rfl, n1, rfl⟩
  clear ha hmm
  go_wp2_with fail
  go_loopw [0, 1, 7] (fun s t u wr => ∃ x y o : Int, s = .int .i64 x ∧ t = .int .i64 y ∧ u = .int .i64 o ∧ 0 ≤ x ∧ x < m ∧ 0 ≤ y ∧ y ≤ 9223372036854775807 ∧ 0 ≤ o ∧ o < m ∧ o * x ^ y.toNat % m = a ^ n.toNat % m ∧ ∃ n, wr = w.drewN n) (fun _ t _ _ => (intOf t).toNat)
  case atStart => exact ⟨a % m, n, 1 % m, rfl, rfl, rfl, x0, x1, hn, hn'', o0, o1, hst.out, _, rfl⟩
  case round =>
    clear hst
    obtain ⟨x, y, o, rfl, rfl, rfl, hx0, hx1, hy0, hy1, ho0, ho1, he, n2, rfl⟩ := hrel
    have hE := Lib.hid he; clear he
    obtain ⟨b1, b2⟩ := mul_le_sq ho0 ho1 hx0 hx1 h2
    obtain ⟨b3, b4⟩ := mul_le_sq hx0 hx1 hx0 hx1 h2
    have hS := Lib.hid (pow_step (m := m) (o := o) (x := x) y.toNat)
    have m1 := Int.emod_nonneg (x * x) (b := m) (by omega)
    have m2 := Int.emod_lt_of_pos (x * x) (b := m) (by omega)
    have m3 := Int.emod_nonneg (o * x) (b := m) (by omega)
    have m4 := Int.emod_lt_of_pos (o * x) (b := m) (by omega)
    go_wp2
    · have hy : 0 < y := by assumption
      have hodd : y.toNat % 2 = 1 := by have h : (y % 2 == 1) = true := by assumption
                                        rw [beq_iff_eq] at h; omega
      refine ⟨⟨x * x % m, y / 2, o * x % m, rfl, rfl, rfl, m1, m2, by omega, by omega, m3, m4, ?_, n2, rfl⟩, ?_⟩
      · rw [← hE.out, hS.out, if_pos hodd]; congr 3; omega
      · show (y / 2).toNat < y.toNat; omega
    · have hy : 0 < y := by assumption
      have hodd : ¬ y.toNat % 2 = 1 := by have h : (y % 2 == 1) = false := by assumption
                                          rw [beq_eq_false_iff_ne] at h; omega
      refine ⟨⟨x * x % m, y / 2, o, rfl, rfl, rfl, m1, m2, by omega, by omega, ho0, ho1, ?_, n2, rfl⟩, ?_⟩
      · rw [← hE.out, hS.out, if_neg hodd]; congr 3; omega
      · show (y / 2).toNat < y.toNat; omega
    · have hy : y = 0 := by have : y ≤ 0 := by assumption
                            omega
      subst hy
      go_ret
      refine Ret.eq n2 (ret_int ?_)
      rw [← hE.out]
      simp only [Int.toNat_zero, Int.pow_zero, Int.mul_one]
      exact (Int.emod_eq_of_lt ho0 ho1).symm

theorem isPB_small {n : Int} (h : n < 2) : isPB n = false := by
  rw [isPB_false]; rintro ⟨h1, _⟩; have := h1.1; omega
theorem isPB_big {n : Int} (h : 1000000000 < n) : isPB n = false := by
  rw [isPB_false]; rintro ⟨_, h1⟩; omega
theorem isPB_dvd {n d : Int} (hn : 2 ≤ n) (hd : 2 ≤ d) (hdd : d * d ≤ n) (h : n % d = 0) : isPB n = false := by
  rw [isPB_false]
  rintro ⟨h1, _⟩
  obtain ⟨N, rfl⟩ : ∃ N : Nat, n = (N : Int) := ⟨n.toNat, by omega⟩
  obtain ⟨D, rfl⟩ : ∃ D : Nat, d = (D : Int) := ⟨d.toNat, by omega⟩
  rw [Int.toNat_natCast] at h1
  have hdN : D ∣ N := Int.natCast_dvd_natCast.1 (Int.dvd_of_emod_eq_zero h)
  have : D * D ≤ N := by have : ((D * D : Nat) : Int) ≤ N := by push_cast; exact hdd
                         omega
  have h2 : D * 2 ≤ D * D := Nat.mul_le_mul_left _ (by omega)
  exact h1.not_dvd_of_lt (by omega) (by omega) hdN
theorem isPB_of_trial {n d : Int} (hn : 2 ≤ n) (hn2 : n ≤ 1000000000) (hd : 2 ≤ d) (hdd : n < d * d) (h : ∀ e : Int, 2 ≤ e → e < d → n % e ≠ 0) : isPB n = true := by
  rw [isPB_iff]
  refine ⟨isP_of_trial (by omega) fun e he hee hen => ?_, hn2⟩
  have h1 : ((e * e : Nat) : Int) ≤ n := by omega
  push_cast at h1
  have h2 : (e : Int) < d := by
    apply Classical.byContradiction; intro hc
    have h3 : d * d ≤ (e : Int) * d := Int.mul_le_mul_of_nonneg_right (by omega) (by omega)
    have h4 : (e : Int) * d ≤ (e : Int) * e := Int.mul_le_mul_of_nonneg_left (by omega) (by omega)
    omega
  refine h e (by omega) h2 ?_
  have : ((e : Int) ∣ n) := by
    have := Int.natCast_dvd_natCast.2 hen
    rwa [show ((n.toNat : Nat) : Int) = n by omega] at this
  exact Int.emod_eq_zero_of_dvd this

set_option maxHeartbeats 400000 in
theorem rIsPrime_any (n : Int) (w : World) :
    Calls Try.prog 73 #[.int .i64 n] w (Ret w (.bool (isPB n))) := by
  by_cases h1 : n < 2
  · have hF := Lib.hid (isPB_small h1)
    go_enter Try.func73, Try.ntmps73
    go_wp2
    go_ret
    exact Ret.eq0 (ret_bool hF.out.symm)
  by_cases h2 : 1000000000 < n
  · have hF := Lib.hid (isPB_big h2)
    go_enter Try.func73, Try.ntmps73
    go_wp2
    go_ret
    exact Ret.eq0 (ret_bool hF.out.symm)
  have g1 : 2 ≤ n := by omega
  have g2 : n ≤ 1000000000 := by omega
  clear h1 h2
  go_enter Try.func73, Try.ntmps73
  go_wp2
  go_loop [3] (fun t => ∃ d : Int, t = .int .i64 d ∧ 2 ≤ d ∧ d ≤ 100000 ∧ (∀ e : Int, 2 ≤ e → e < d → n % e ≠ 0)) (fun t => (100000 - intOf t).toNat)
  case atStart => exact ⟨2, rfl, by omega, by omega, fun e h h' => by omega⟩
  case round =>
    obtain ⟨d, rfl, h1, h2, h3⟩ := hrel
    have H3 := Lib.hid h3; clear h3
    have b1 : 0 ≤ d * d := Int.mul_nonneg (by omega) (by omega)
    have b2 : d * d ≤ 10000000000 := by
      have x1 : d * d ≤ 100000 * d := Int.mul_le_mul_of_nonneg_right (by omega) (by omega)
      omega
    by_cases c1 : d * d ≤ n
    · by_cases c2 : n % d = 0
      · have hF := Lib.hid (isPB_dvd g1 h1 c1 c2)
        have d1 := t_beq c2
        clear c2
        go_wp2
        go_ret
        exact Ret.eq0 (ret_bool hF.out.symm)
      · have d1 := f_beq c2
        have hlt : d < 100000 := by
          apply Classical.byContradiction; intro hc
          have x1 : 100000 * 100000 ≤ 100000 * d := Int.mul_le_mul_of_nonneg_left (by omega) (by omega)
          have x2 : 100000 * d ≤ d * d := Int.mul_le_mul_of_nonneg_right (by omega) (by omega)
          omega
        have hN : Hid (∀ e : Int, 2 ≤ e → e < d + 1 → n % e ≠ 0) := Lib.hid (fun e he1 he2 => by
          by_cases hed : e = d
          · rw [hed]; exact c2
          · exact H3.out e he1 (by omega))
        clear c2
        go_wp2
        exact ⟨⟨d + 1, rfl, by omega, by omega, hN.out⟩, by simp [intOf]; omega⟩
    · have hF := Lib.hid (isPB_of_trial g1 g2 h1 (by omega) H3.out)
      go_wp2
      go_ret
      exact Ret.eq0 (ret_bool hF.out.symm)

set_option maxHeartbeats 400000 in
theorem rLegendre_any (a p : Int) (w : World) (ha : I64 a) (hp : IsP p.toNat) (hp2 : 2 < p) (hpl : p ≤ 1000000000) :
    Calls Try.prog 87 #[.int .i64 a, .int .i64 p] w (Ret w (.int .i64 (leg a p.toNat))) := by
  have hP := fun w => rPower_any a ((p - 1) / 2) p w ha (by omega) ⟨by omega, by omega⟩ (by omega) hpl
  have hc := (leg_cg hp (by omega) a).emod_eq
  have e1 : ((p - 1) / 2).toNat = (p.toNat - 1) / 2 := by omega
  rw [e1] at hP
  rw [show ((p.toNat : Nat) : Int) = p by omega] at hc
  have hl := leg_bound a p.toNat
  generalize a ^ ((p.toNat - 1) / 2) % p = x at *
  have hl3 : leg a p.toNat = -1 ∨ leg a p.toNat = 0 ∨ leg a p.toNat = 1 := by omega
  have HP := Lib.hid hP
  clear hP hp
  generalize hL : leg a p.toNat = l at *
  clear hL
  rcases hl3 with h | h | h
  · have hx : x = p - 1 := by
      rw [← hc, h]
      have : (-1 : Int) % p = (p - 1) % p := Cg.emod_eq ⟨-1, by omega⟩
      rw [this]; exact Int.emod_eq_of_lt (by omega) (by omega)
    subst hx
    subst h
    clear hc
    have d1 : (p - 1 == 0) = false := f_beq (by omega)
    have d2 : (p - 1 == 1) = false := f_beq (by omega)
    go_enter Try.func87, Try.ntmps87
    go_wp2_with fail
    refine (HP.out _).mono ?_
    rintro e w' ⟨rfl, n1, rfl⟩
    go_wp2
    go_ret
    exact Ret.eq _ rfl
  · have hx : x = 0 := by rw [← hc, h]; rfl
    subst hx
    subst h
    clear hc
    go_enter Try.func87, Try.ntmps87
    go_wp2_with fail
    refine (HP.out _).mono ?_
    rintro e w' ⟨rfl, n1, rfl⟩
    go_wp2
    go_ret
    exact Ret.eq _ rfl
  · have hx : x = 1 := by rw [← hc, h]; exact Int.emod_eq_of_lt (by omega) (by omega)
    subst hx
    subst h
    clear hc
    go_enter Try.func87, Try.ntmps87
    go_wp2_with fail
    refine (HP.out _).mono ?_
    rintro e w' ⟨rfl, n1, rfl⟩
    go_wp2
    go_ret
    exact Ret.eq _ rfl
end Go.Proofs.Ytmlkiddkgikdhaa
