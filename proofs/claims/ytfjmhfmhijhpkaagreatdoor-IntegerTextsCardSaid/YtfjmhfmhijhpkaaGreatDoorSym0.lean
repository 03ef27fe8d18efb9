/- Contracts of the reference's functions on machine integers, part A. Contracts of the reference's functions on machine integers, part B: the Hilbert symbol. Contracts of the reference's functions on machine integers, part C: the reference's Hilbert symbol. Small functions of the verifier's base: Mod, Within, Abs. Bezout of the program. Inverse of the program and of the reference; Bezout of the reference; small functions of the verifier. Jacobi, Legendre, Valuation of the program; Gcd of the verifier's base. -/
import Derived.Test.YtfjmhfmhijhpkaaGreatDoorIntF
import Derived.Test.YtfjmhfmhijhpkaaGreatDoorIntA
namespace Go.Proofs.YtfjmhfmhijhpkaaGreatDoor
open Go.RowKit FF

set_option maxHeartbeats 400000 in
theorem rMod_any (a m : Int) (w : World) (ha : I64 a) (h3 : 0 < m) (hm : I64 m) :
    Calls Tryz.prog 177 #[.int .i64 a, .int .i64 m] w (Ret w (.int .i64 (a % m))) := by
  obtain ⟨h1, h2⟩ := ha
  obtain ⟨_, h4⟩ := hm
  have t1 := Int.tmod_lt_of_pos a h3
  have t2 := Int.lt_tmod_of_pos a h3
  have ee := Lib.hid (tmod_emod (a := a) h3)
  go_enter Tryz.func177, Tryz.ntmps177
  go_wp2
  · have hlt : a.tmod m < 0 := by assumption
    go_ret
    exact Ret.eq0 (ret_int (by rw [ee.out, if_pos hlt]))
  · have hlt : 0 ≤ a.tmod m := by assumption
    go_ret
    exact Ret.eq0 (ret_int (by rw [ee.out, if_neg (by omega)]))

/-- from lo to hi -/
def winB (n lo hi : Int) : Bool := decide (lo ≤ n) && decide (n ≤ hi)
theorem winB_iff {n lo hi : Int} : winB n lo hi = true ↔ lo ≤ n ∧ n ≤ hi := by unfold winB; simp
theorem winB_false {n lo hi : Int} : winB n lo hi = false ↔ ¬ (lo ≤ n ∧ n ≤ hi) := by rw [← winB_iff]; simp
set_option maxHeartbeats 400000 in
theorem rWithin_any (n lo hi : Int) (w : World) :
    Calls Tryz.prog 207 #[.int .i64 n, .int .i64 lo, .int .i64 hi] w (Ret w (.bool (winB n lo hi))) := by
  have hF := Lib.hid (show (decide (lo ≤ n) && decide (n ≤ hi)) = winB n lo hi from rfl)
  go_enter Tryz.func207, Tryz.ntmps207
  by_cases h1 : lo ≤ n
  · have hF2 := Lib.hid (show decide (n ≤ hi) = winB n lo hi by rw [← hF.out, decide_eq_true h1]; rfl)
    clear hF
    go_wp2
    go_ret
    exact Ret.eq0 (ret_bool hF2.out)
  · have hF2 := Lib.hid (show false = winB n lo hi by rw [← hF.out, decide_eq_false h1]; rfl)
    clear hF
    go_wp2
    go_ret
    exact Ret.eq0 (ret_bool hF2.out)

theorem modB_win (m : Int) : modB m = winB m 1 1000000000 := by
  rw [Bool.eq_iff_iff, modB_true, winB_iff]
set_option maxHeartbeats 400000 in
theorem rPower_any (a n m : Int) (w : World) (ha : I64 a) (hn : 0 ≤ n) (hn' : I64 n) (h1 : 1 ≤ m) (h2 : m ≤ 1000000000) :
    Calls Tryz.prog 208 #[.int .i64 a, .int .i64 n, .int .i64 m] w (Ret w (.int .i64 (a ^ n.toNat % m))) := by
  have hmm : I64 m := ⟨by omega, by omega⟩
  have o0 := Int.emod_nonneg 1 (b := m) (by omega)
  have o1 := Int.emod_lt_of_pos 1 (b := m) (by omega)
  have x0 := Int.emod_nonneg a (b := m) (by omega)
  have x1 := Int.emod_lt_of_pos a (b := m) (by omega)
  have hst := Lib.hid (show 1 % m * (a % m) ^ n.toNat % m = a ^ n.toNat % m from by
    have := ((Cg.emod m 1).mul ((Cg.emod m a).pow n.toNat)).emod_eq; rwa [Int.one_mul] at this)
  obtain ⟨_, hn''⟩ := hn'
  go_enter Tryz.func208, Tryz.ntmps208
  go_wp2_with fail
  refine (rMod_any 1 m _ ⟨by omega, by omega⟩ (by omega) hmm).mono ?_
  rintro e w' ⟨rfl, n0, rfl⟩
  go_wp2_with fail
  refine (rMod_any a m _ ha (by omega) hmm).mono ?_
  rintro e w' ⟨rfl, n1, rfl⟩
  clear ha hmm
  go_wp2_with fail
  go_loopw [0, 1, 7] (fun s t u wr => ∃ x y o : Int, s = .int .i64 x ∧ t = .int .i64 y ∧ u = .int .i64 o ∧ 0 ≤ x ∧ x < m ∧ 0 ≤ y ∧ y ≤ 9223372036854775807 ∧ 0 ≤ o ∧ o < m ∧ o * x ^ y.toNat % m = a ^ n.toNat % m ∧ ∃ n, wr = w.drewN n) (fun _ t _ _ => (intOf t).toNat)
  case atStart => exact ⟨a % m, n, 1 % m, rfl, rfl, rfl, x0, x1, hn, hn'', o0, o1, hst.out, _, rfl⟩
  case round =>
    clear hst
    obtain ⟨x, y, o, rfl, rfl, rfl, hx0, hx1, hy0, hy1, ho0, ho1, he, n2, rfl⟩ := hrel
    have hE := Lib.hid he; clear he
    obtain ⟨b1, b2⟩ := mul_le_sq ho0 ho1 hx0 hx1 h2
    obtain ⟨b3, b4⟩ := mul_le_sq hx0 hx1 hx0 hx1 h2
    have hS := Lib.hid (pow_step (m := m) (o := o) (x := x) y.toNat)
    have m1 := Int.emod_nonneg (x * x) (b := m) (by omega)
    have m2 := Int.emod_lt_of_pos (x * x) (b := m) (by omega)
    have m3 := Int.emod_nonneg (o * x) (b := m) (by omega)
    have m4 := Int.emod_lt_of_pos (o * x) (b := m) (by omega)
    go_wp2
    · have hy : 0 < y := by assumption
      have hodd : y.toNat % 2 = 1 := by have h : (y % 2 == 1) = true := by assumption
                                        rw [beq_iff_eq] at h; omega
      refine ⟨⟨x * x % m, y / 2, o * x % m, rfl, rfl, rfl, m1, m2, by omega, by omega, m3, m4, ?_, n2, rfl⟩, ?_⟩
      · rw [← hE.out, hS.out, if_pos hodd]; congr 3; omega
      · show (y / 2).toNat < y.toNat; omega
    · have hy : 0 < y := by assumption
      have hodd : ¬ y.toNat % 2 = 1 := by have h : (y % 2 == 1) = false := by assumption
                                          rw [beq_eq_false_iff_ne] at h; omega
      refine ⟨⟨x * x % m, y / 2, o, rfl, rfl, rfl, m1, m2, by omega, by omega, ho0, ho1, ?_, n2, rfl⟩, ?_⟩
      · rw [← hE.out, hS.out, if_neg hodd]; congr 3; omega
      · show (y / 2).toNat < y.toNat; omega
    · have hy : y = 0 := by have : y ≤ 0 := by assumption
                            omega
      subst hy
      go_ret
      refine Ret.eq n2 (ret_int ?_)
      rw [← hE.out]
      simp only [Int.toNat_zero, Int.pow_zero, Int.mul_one]
      exact (Int.emod_eq_of_lt ho0 ho1).symm

theorem isPB_small {n : Int} (h : n < 2) : isPB n = false := by
  rw [isPB_false]; rintro ⟨h1, _⟩; have := h1.1; omega
theorem isPB_big {n : Int} (h : 1000000000 < n) : isPB n = false := by
  rw [isPB_false]; rintro ⟨_, h1⟩; omega
theorem isPB_dvd {n d : Int} (hn : 2 ≤ n) (hd : 2 ≤ d) (hdd : d * d ≤ n) (h : n % d = 0) : isPB n = false := by
  rw [isPB_false]
  rintro ⟨h1, _⟩
  obtain ⟨N, rfl⟩ : ∃ N : Nat, n = (N : Int) := ⟨n.toNat, by omega⟩
  obtain ⟨D, rfl⟩ : ∃ D : Nat, d = (D : Int) := ⟨d.toNat, by omega⟩
  rw [Int.toNat_natCast] at h1
  have hdN : D ∣ N := Int.natCast_dvd_natCast.1 (Int.dvd_of_emod_eq_zero h)
  have : D * D ≤ N := by have : ((D * D : Nat) : Int) ≤ N := by push_cast; exact hdd
                         omega
  have h2 : D * 2 ≤ D * D := Nat.mul_le_mul_left _ (by omega)
  exact h1.not_dvd_of_lt (by omega) (by omega) hdN
theorem isPB_of_trial {n d : Int} (hn : 2 ≤ n) (hn2 : n ≤ 1000000000) (hd : 2 ≤ d) (hdd : n < d * d) (h : ∀ e : Int, 2 ≤ e → e < d → n % e ≠ 0) : isPB n = true := by
  rw [isPB_iff]
  refine ⟨isP_of_trial (by omega) fun e he hee hen => ?_, hn2⟩
  have h1 : ((e * e : Nat) : Int) ≤ n := by omega
  push_cast at h1
  have h2 : (e : Int) < d := by
    apply Classical.byContradiction; intro hc
    have h3 : d * d ≤ (e : Int) * d := Int.mul_le_mul_of_nonneg_right (by omega) (by omega)
    have h4 : (e : Int) * d ≤ (e : Int) * e := Int.mul_le_mul_of_nonneg_left (by omega) (by omega)
    omega
  refine h e (by omega) h2 ?_
  have : ((e : Int) ∣ n) := by
    have := Int.natCast_dvd_natCast.2 hen
    rwa [show ((n.toNat : Nat) : Int) = n by omega] at this
  exact Int.emod_eq_zero_of_dvd this

set_option maxHeartbeats 400000 in
theorem rIsPrime_any (n : Int) (w : World) :
    Calls Tryz.prog 118 #[.int .i64 n] w (Ret w (.bool (isPB n))) := by
  by_cases h1 : n < 2
  · have hF := Lib.hid (isPB_small h1)
    go_enter Tryz.func118, Tryz.ntmps118
    go_wp2
    go_ret
    exact Ret.eq0 (ret_bool hF.out.symm)
  by_cases h2 : 1000000000 < n
  · have hF := Lib.hid (isPB_big h2)
    go_enter Tryz.func118, Tryz.ntmps118
    go_wp2
    go_ret
    exact Ret.eq0 (ret_bool hF.out.symm)
  have g1 : 2 ≤ n := by omega
  have g2 : n ≤ 1000000000 := by omega
  clear h1 h2
  go_enter Tryz.func118, Tryz.ntmps118
  go_wp2
  go_loop [3] (fun t => ∃ d : Int, t = .int .i64 d ∧ 2 ≤ d ∧ d ≤ 100000 ∧ (∀ e : Int, 2 ≤ e → e < d → n % e ≠ 0)) (fun t => (100000 - intOf t).toNat)
  case atStart => exact ⟨2, rfl, by omega, by omega, fun e h h' => by omega⟩
  case round =>
    obtain ⟨d, rfl, h1, h2, h3⟩ := hrel
    have H3 := Lib.hid h3; clear h3
    have b1 : 0 ≤ d * d := Int.mul_nonneg (by omega) (by omega)
    have b2 : d * d ≤ 10000000000 := by
      have x1 : d * d ≤ 100000 * d := Int.mul_le_mul_of_nonneg_right (by omega) (by omega)
      omega
    by_cases c1 : d * d ≤ n
    · by_cases c2 : n % d = 0
      · have hF := Lib.hid (isPB_dvd g1 h1 c1 c2)
        have d1 := t_beq c2
        clear c2
        go_wp2
        go_ret
        exact Ret.eq0 (ret_bool hF.out.symm)
      · have d1 := f_beq c2
        have hlt : d < 100000 := by
          apply Classical.byContradiction; intro hc
          have x1 : 100000 * 100000 ≤ 100000 * d := Int.mul_le_mul_of_nonneg_left (by omega) (by omega)
          have x2 : 100000 * d ≤ d * d := Int.mul_le_mul_of_nonneg_right (by omega) (by omega)
          omega
        have hN : Hid (∀ e : Int, 2 ≤ e → e < d + 1 → n % e ≠ 0) := Lib.hid (fun e he1 he2 => by
          by_cases hed : e = d
          · rw [hed]; exact c2
          · exact H3.out e he1 (by omega))
        clear c2
        go_wp2
        exact ⟨⟨d + 1, rfl, by omega, by omega, hN.out⟩, by simp [intOf]; omega⟩
    · have hF := Lib.hid (isPB_of_trial g1 g2 h1 (by omega) H3.out)
      go_wp2
      go_ret
      exact Ret.eq0 (ret_bool hF.out.symm)

set_option maxHeartbeats 400000 in
theorem rLegendre_any (a p : Int) (w : World) (ha : I64 a) (hp : IsP p.toNat) (hp2 : 2 < p) (hpl : p ≤ 1000000000) :
    Calls Tryz.prog 178 #[.int .i64 a, .int .i64 p] w (Ret w (.int .i64 (leg a p.toNat))) := by
  have hP := fun w => rPower_any a ((p - 1) / 2) p w ha (by omega) ⟨by omega, by omega⟩ (by omega) hpl
  have hc := (leg_cg hp (by omega) a).emod_eq
  have e1 : ((p - 1) / 2).toNat = (p.toNat - 1) / 2 := by omega
  rw [e1] at hP
  rw [show ((p.toNat : Nat) : Int) = p by omega] at hc
  have hl := leg_bound a p.toNat
  generalize a ^ ((p.toNat - 1) / 2) % p = x at *
  have hl3 : leg a p.toNat = -1 ∨ leg a p.toNat = 0 ∨ leg a p.toNat = 1 := by omega
  have HP := Lib.hid hP
  clear hP hp
  generalize hL : leg a p.toNat = l at *
  clear hL
  rcases hl3 with h | h | h
  · have hx : x = p - 1 := by
      rw [← hc, h]
      have : (-1 : Int) % p = (p - 1) % p := Cg.emod_eq ⟨-1, by omega⟩
      rw [this]; exact Int.emod_eq_of_lt (by omega) (by omega)
    subst hx
    subst h
    clear hc
    have d1 : (p - 1 == 0) = false := f_beq (by omega)
    have d2 : (p - 1 == 1) = false := f_beq (by omega)
    go_enter Tryz.func178, Tryz.ntmps178
    go_wp2_with fail
    refine (HP.out _).mono ?_
    rintro e w' ⟨rfl, n1, rfl⟩
    go_wp2
    go_ret
    exact Ret.eq _ rfl
  · have hx : x = 0 := by rw [← hc, h]; rfl
    subst hx
    subst h
    clear hc
    go_enter Tryz.func178, Tryz.ntmps178
    go_wp2_with fail
    refine (HP.out _).mono ?_
    rintro e w' ⟨rfl, n1, rfl⟩
    go_wp2
    go_ret
    exact Ret.eq _ rfl
  · have hx : x = 1 := by rw [← hc, h]; exact Int.emod_eq_of_lt (by omega) (by omega)
    subst hx
    subst h
    clear hc
    go_enter Tryz.func178, Tryz.ntmps178
    go_wp2_with fail
    refine (HP.out _).mono ?_
    rintro e w' ⟨rfl, n1, rfl⟩
    go_wp2
    go_ret
    exact Ret.eq _ rfl
end Go.Proofs.YtfjmhfmhijhpkaaGreatDoor
namespace Go.Proofs.YtfjmhfmhijhpkaaGreatDoor
open Go.RowKit FF

set_option maxHeartbeats 1000000 in
theorem rCheckHilbert_any (a b p : Int) (w : World) :
    Calls Tryz.prog 176 #[.int .i64 a, .int .i64 b, .int .i64 p] w (Ret w (.int .i64 (hilE a b p))) := by
  by_cases ha : a = 0
  · have hF := Lib.hid (show hilE a b p = 10 by unfold hilE; rw [if_pos (Or.inl ha)])
    subst ha
    go_enter Tryz.func176, Tryz.ntmps176
    go_wp2
    go_ret
    exact Ret.eq0 (ret_int hF.out.symm)
  by_cases hb : b = 0
  · have hF := Lib.hid (show hilE a b p = 10 by unfold hilE; rw [if_pos (Or.inr hb)])
    subst hb
    have d1 := f_beq ha
    go_enter Tryz.func176, Tryz.ntmps176
    go_wp2
    go_ret
    exact Ret.eq0 (ret_int hF.out.symm)
  have d1 := f_beq ha
  have d2 := f_beq hb
  have iA := fun w => rWithin_any a (-1000000000) 1000000000 w
  have iB := fun w => rWithin_any b (-1000000000) 1000000000 w
  change ∀ w, Calls _ _ _ w (Ret w (.bool (inB a))) at iA
  change ∀ w, Calls _ _ _ w (Ret w (.bool (inB b))) at iB
  cases ca : inB a
  · have hF := Lib.hid (show hilE a b p = 2 by unfold hilE; rw [if_neg (by rintro (h | h); exact ha h; exact hb h), if_pos (Or.inl ca)])
    rw [ca] at iA
    have IA := Lib.hid iA
    clear iA iB ca ha hb
    go_enter Tryz.func176, Tryz.ntmps176
    go_wp2_with fail
    refine (IA.out _).mono ?_
    rintro e w' ⟨rfl, n1, rfl⟩
    go_wp2
    go_ret
    exact Ret.eq _ (ret_int hF.out.symm)
  cases cb : inB b
  · have hF := Lib.hid (show hilE a b p = 2 by unfold hilE; rw [if_neg (by rintro (h | h); exact ha h; exact hb h), if_pos (Or.inr cb)])
    rw [ca] at iA
    rw [cb] at iB
    have IA := Lib.hid iA
    have IB := Lib.hid iB
    clear iA iB ca cb ha hb
    go_enter Tryz.func176, Tryz.ntmps176
    go_wp2_with fail
    refine (IA.out _).mono ?_
    rintro e w' ⟨rfl, n1, rfl⟩
    go_wp2_with fail
    refine (IB.out _).mono ?_
    rintro e w' ⟨rfl, n2, rfl⟩
    go_wp2
    go_ret
    exact Ret.eq _ (ret_int hF.out.symm)
  have hE := Lib.hid (show hilE a b p = if p ≠ 0 ∧ isPB p = false then 11 else 0 by
    unfold hilE; rw [if_neg (by rintro (h | h); exact ha h; exact hb h), if_neg (by rw [ca, cb]; simp)])
  have ra := inB_iff.1 ca
  have rb := inB_iff.1 cb
  rw [ca] at iA
  rw [cb] at iB
  have IA := Lib.hid iA
  have IB := Lib.hid iB
  have iP := fun w => rIsPrime_any p w
  by_cases hp : p = 0
  · have hF := Lib.hid (show hilE a b p = 0 by rw [hE.out, if_neg (fun h => h.1 hp)])
    clear hE iA iB ca cb ha hb iP ra rb
    subst hp
    go_enter Tryz.func176, Tryz.ntmps176
    go_wp2_with fail
    refine (IA.out _).mono ?_
    rintro e w' ⟨rfl, n1, rfl⟩
    go_wp2_with fail
    refine (IB.out _).mono ?_
    rintro e w' ⟨rfl, n2, rfl⟩
    go_wp2
    go_ret
    exact Ret.eq _ (ret_int hF.out.symm)
  have d3 : (p != 0) = true := bne_iff_ne.2 hp
  cases cp : isPB p
  · have hF := Lib.hid (show hilE a b p = 11 by rw [hE.out, if_pos ⟨hp, cp⟩])
    rw [cp] at iP
    have IP := Lib.hid iP
    clear hE iA iB ca cb ha hb iP cp hp
    go_enter Tryz.func176, Tryz.ntmps176
    go_wp2_with fail
    refine (IA.out _).mono ?_
    rintro e w' ⟨rfl, n1, rfl⟩
    go_wp2_with fail
    refine (IB.out _).mono ?_
    rintro e w' ⟨rfl, n2, rfl⟩
    go_wp2_with fail
    refine (IP.out _).mono ?_
    rintro e w' ⟨rfl, n3, rfl⟩
    go_wp2
    go_ret
    exact Ret.eq _ (ret_int hF.out.symm)
  · have hF := Lib.hid (show hilE a b p = 0 by rw [hE.out, if_neg (fun h => by rw [cp] at h; exact absurd h.2 (by simp))])
    rw [cp] at iP
    have IP := Lib.hid iP
    clear hE iA iB ca cb ha hb iP cp hp ra rb
    go_enter Tryz.func176, Tryz.ntmps176
    go_wp2_with fail
    refine (IA.out _).mono ?_
    rintro e w' ⟨rfl, n1, rfl⟩
    go_wp2_with fail
    refine (IB.out _).mono ?_
    rintro e w' ⟨rfl, n2, rfl⟩
    go_wp2_with fail
    refine (IP.out _).mono ?_
    rintro e w' ⟨rfl, n3, rfl⟩
    go_wp2
    go_ret
    exact Ret.eq _ (ret_int hF.out.symm)

theorem hil_at2 (a b : Int) (ha : a ≠ 0) (hb : b ≠ 0) : Hil a b 2 =
    if ((rest 2 a % 8 - 1) / 2 * ((rest 2 b % 8 - 1) / 2) + (vp 2 a : Int) * ((rest 2 b % 8 * (rest 2 b % 8) - 1) / 8) + (vp 2 b : Int) * ((rest 2 a % 8 * (rest 2 a % 8) - 1) / 8)) % 2 = 1 then -1 else 1 := by
  rw [← hil2_sum (odd_rest_two ha) (odd_rest_two hb)]
  unfold Hil; rw [if_neg (by omega), if_pos rfl]

theorem hil_atp {a b p : Int} (ha : a ≠ 0) (hb : b ≠ 0) (hp : IsP p.toNat) (hp2 : 2 < p) : Hil a b p =
    if ((vp p a : Int) * (vp p b) * ((p - 1) / 2) + (if leg (rest p a) p.toNat < 0 then (vp p b : Int) else 0) + (if leg (rest p b) p.toNat < 0 then (vp p a : Int) else 0)) % 2 = 1 then -1 else 1 := by
  have h1 : Hil a b p = hilp (oddB (vp p a)) (oddB (vp p b)) (three p) (leg (rest p a) p.toNat) (leg (rest p b) p.toNat) := by
    unfold Hil; rw [if_neg (by omega), if_neg (by omega)]
  have e1 : ((p.toNat : Nat) : Int) = p := by omega
  have n1 : ¬ ((p.toNat : Nat) : Int) ∣ rest p a := by rw [e1]; exact not_dvd_rest (by omega) ha
  have n2 : ¬ ((p.toNat : Nat) : Int) ∣ rest p b := by rw [e1]; exact not_dvd_rest (by omega) hb
  have hodd := hp.odd (by omega)
  rw [h1, hilp_sum (h := ((p - 1) / 2).toNat) (leg_ne n1) (leg_ne n2) (by unfold three; rw [beq_iff_eq]; omega)]
  generalize leg (rest p a) p.toNat = x at *
  generalize leg (rest p b) p.toNat = y at *
  have e2 : ((vp p a * vp p b * ((p - 1) / 2).toNat : Nat) : Int) = (vp p a : Int) * (vp p b) * ((p - 1) / 2) := by
    push_cast; rw [show ((((p - 1) / 2).toNat : Nat) : Int) = (p - 1) / 2 by omega]
  rw [← e2]
  generalize vp p a * vp p b * ((p - 1) / 2).toNat = q
  by_cases c1 : x < 0 <;> by_cases c2 : y < 0 <;> simp only [c1, c2, if_true, if_false] <;>
    (congr 1; rw [eq_iff_iff]; omega)
end Go.Proofs.YtfjmhfmhijhpkaaGreatDoor
namespace Go.Proofs.YtfjmhfmhijhpkaaGreatDoor
open Go.RowKit FF

theorem mul_le {x y a b : Int} (hx : 0 ≤ x) (hx' : x ≤ a) (hy : 0 ≤ y) (hy' : y ≤ b) : 0 ≤ x * y ∧ x * y ≤ a * b :=
  ⟨Int.mul_nonneg hx hy, Int.mul_le_mul hx' hy' hy (by omega)⟩

set_option maxHeartbeats 4000000 in
theorem rHilbert_pos (a b p : Int) (w : World) (h0 : hilE a b p = 0) (h2 : 2 ≤ p) (hpl : p ≤ 1000000000) (hpp : IsP p.toNat)
    (ha0 : a ≠ 0) (hb0 : b ≠ 0) (a1 : -1000000000 ≤ a) (a2 : a ≤ 1000000000) (b1 : -1000000000 ≤ b) (b2 : b ≤ 1000000000) :
    Calls Tryz.prog 119 #[.int .i64 a, .int .i64 b, .int .i64 p] w (Ret w (.tuple #[.int .i64 (Hil a b p), .int .i64 0])) := by
  have hC := fun w => rCheckHilbert_any a b p w
  rw [h0] at hC
  have HC := Lib.hid hC; clear hC h0
  have f2 := Lib.hid (fun h : p = 2 => (show Hil a b p = if ((rest p a % 8 - 1) / 2 * ((rest p b % 8 - 1) / 2) + (vp p a : Int) * ((rest p b % 8 * (rest p b % 8) - 1) / 8) + (vp p b : Int) * ((rest p a % 8 * (rest p a % 8) - 1) / 8)) % 2 = 1 then -1 else 1 by subst h; exact hil_at2 a b ha0 hb0))
  have fp := Lib.hid (fun h : 2 < p => hil_atp ha0 hb0 hpp h)
  have jU := Lib.hid (fun (h : 2 < p) w => rLegendre_any (rest p a) p w (rest_i64 h2 ha0 (by omega) (by omega)) hpp h hpl)
  have jV := Lib.hid (fun (h : 2 < p) w => rLegendre_any (rest p b) p w (rest_i64 h2 hb0 (by omega) (by omega)) hpp h hpl)
  have bu := leg_bound (rest p a) p.toNat
  have bv := leg_bound (rest p b) p.toNat
  have oU := Lib.hid (fun h : p = 2 => (show rest p a % 2 = 1 by rw [h]; exact odd_rest_two ha0))
  have oV := Lib.hid (fun h : p = 2 => (show rest p b % 2 = 1 by rw [h]; exact odd_rest_two hb0))
  have ui := rest_i64 h2 ha0 (by omega) (by omega)
  have vi := rest_i64 h2 hb0 (by omega) (by omega)
  have hvp : ∀ n : Int, n ≠ 0 → -1000000000 ≤ n → n ≤ 1000000000 → vp p n < 31 := by
    intro n hn g1 g2
    have h3 := vp_lt h2 hn
    have h4 : n.natAbs < 2 ^ 31 := by omega
    exact (Nat.pow_lt_pow_iff_right (by omega)).1 (Nat.lt_of_le_of_lt h3 h4)
  have hi := hvp a ha0 a1 a2
  have hk := hvp b hb0 b1 b2
  clear hvp
  generalize hR : Hil a b p = R at *
  have hA0 := Lib.hid ha0; have hB0 := Lib.hid hb0; clear ha0 hb0 hR hpp
  generalize hii : vp p a = i at *
  generalize huu : rest p a = u at *
  generalize hkk : vp p b = k at *
  generalize hvv : rest p b = v at *
  generalize leg u p.toNat = ju at *
  generalize leg v p.toNat = jv at *
  have HI := Lib.hid hii; have HU := Lib.hid huu; have HK := Lib.hid hkk; have HV := Lib.hid hvv
  clear hii huu hkk hvv
  have hp0 : (p == 0) = false := f_beq (by omega)
  go_enter Tryz.func119, Tryz.ntmps119
  go_wp2_with fail
  refine (HC.out _).mono ?_
  rintro e w' ⟨rfl, n0, rfl⟩
  clear HC
  go_wp2_with fail
  go_loop [0, 9] (fun t s => ∃ (x : Int) (kk : Nat), t = .int .i64 x ∧ s = .int .i64 kk ∧ x ≠ 0 ∧ -1000000000 ≤ x ∧ x ≤ 1000000000 ∧ kk + vp p x = i ∧ rest p x = u) (fun t _ => (intOf t).natAbs)
  case atStart => exact ⟨a, 0, rfl, rfl, hA0.out, a1, a2, by rw [HI.out]; omega, HU.out⟩
  case round =>
    clear HI HU hA0 a1 a2
    obtain ⟨x, kk, rfl, rfl, hx0, hxl, hxu, hk, hr⟩ := hrel
    have hkb : kk ≤ i := by omega
    by_cases hd : p ∣ x
    · have ht : (x.tmod p == 0) = true := by rw [beq_iff_eq]; exact Int.tmod_eq_zero_of_dvd hd
      have hq := Lib.hid (Int.tdiv_eq_ediv_of_dvd hd)
      have hlt := natAbs_div_lt h2 hx0 hd
      rw [← hq.out] at hlt
      have hv := Lib.hid (vp_dvd h2 hx0 hd)
      have hr2 := Lib.hid (rest_dvd h2 hx0 hd)
      have hk2 := Lib.hid hk; have hr3 := Lib.hid hr
      clear hk hr hd
      go_wp2
      exact ⟨⟨x.tdiv p, kk + 1, rfl, by go_num, hlt.2, by omega, by omega, by rw [← hk2.out, hv.out, hq.out]; omega, by rw [← hr3.out, hr2.out, hq.out]⟩, hlt.1⟩
    · have ht : (x.tmod p == 0) = false := by rw [beq_eq_false_iff_ne]; exact fun e => hd (Int.dvd_of_tmod_eq_zero e)
      have e1 := vp_not hd
      have e2 := rest_not hd
      obtain rfl : u = x := by rw [← hr, e2]
      obtain rfl : i = kk := by omega
      clear hk hr hd e1 e2 hx0 hxl hxu hkb
      go_wp2_with fail
      clear ht
      go_loop [1, 10] (fun t s => ∃ (y : Int) (kk : Nat), t = .int .i64 y ∧ s = .int .i64 kk ∧ y ≠ 0 ∧ -1000000000 ≤ y ∧ y ≤ 1000000000 ∧ kk + vp p y = k ∧ rest p y = v) (fun t _ => (intOf t).natAbs)
      case atStart => exact ⟨b, 0, rfl, rfl, hB0.out, b1, b2, by rw [HK.out]; omega, HV.out⟩
      case round =>
        clear HK HV hB0 b1 b2
        obtain ⟨y, kk, rfl, rfl, hy0, hyl, hyu, hkk, hr⟩ := hrel
        have hkb : kk ≤ k := by omega
        by_cases hd : p ∣ y
        · have ht : (y.tmod p == 0) = true := by rw [beq_iff_eq]; exact Int.tmod_eq_zero_of_dvd hd
          have hq := Lib.hid (Int.tdiv_eq_ediv_of_dvd hd)
          have hlt := natAbs_div_lt h2 hy0 hd
          rw [← hq.out] at hlt
          have hv := Lib.hid (vp_dvd h2 hy0 hd)
          have hr2 := Lib.hid (rest_dvd h2 hy0 hd)
          have hk2 := Lib.hid hkk; have hr3 := Lib.hid hr
          clear hkk hr hd
          go_wp2
          exact ⟨⟨y.tdiv p, kk + 1, rfl, by go_num, hlt.2, by omega, by omega, by rw [← hk2.out, hv.out, hq.out]; omega, by rw [← hr3.out, hr2.out, hq.out]⟩, hlt.1⟩
        · have ht : (y.tmod p == 0) = false := by rw [beq_eq_false_iff_ne]; exact fun e => hd (Int.dvd_of_tmod_eq_zero e)
          have e1 := vp_not hd
          have e2 := rest_not hd
          obtain rfl : v = y := by rw [← hr, e2]
          obtain rfl : k = kk := by omega
          clear hkk hr hd e1 e2 hy0 hyl hyu hkb
          by_cases hp2 : p = 2
          · have hH := f2.out hp2
            have mu := fun w => rMod_any u 8 w ui (by omega) ⟨by omega, by omega⟩
            have mv := fun w => rMod_any v 8 w vi (by omega) ⟨by omega, by omega⟩
            have u0 := oU.out hp2
            have v0 := oV.out hp2
            have u1 : u % 8 = 1 ∨ u % 8 = 3 ∨ u % 8 = 5 ∨ u % 8 = 7 := by omega
            have v1 : v % 8 = 1 ∨ v % 8 = 3 ∨ v % 8 = 5 ∨ v % 8 = 7 := by omega
            clear f2 fp jU jV oU oV u0 v0 ui vi
            generalize u % 8 = u8 at *
            generalize v % 8 = v8 at *
            have MU := Lib.hid mu; have MV := Lib.hid mv; clear mu mv
            have p1 : 0 ≤ (u8 - 1) / 2 * ((v8 - 1) / 2) ∧ (u8 - 1) / 2 * ((v8 - 1) / 2) ≤ 3 * 3 := mul_le (by omega) (by omega) (by omega) (by omega)
            have p2 : 0 ≤ u8 * u8 ∧ u8 * u8 ≤ 7 * 7 := mul_le (by omega) (by omega) (by omega) (by omega)
            have p3 : 0 ≤ v8 * v8 ∧ v8 * v8 ≤ 7 * 7 := mul_le (by omega) (by omega) (by omega) (by omega)
            have q2 : 1 ≤ u8 * u8 := by rcases u1 with h | h | h | h <;> rw [h] <;> omega
            have q3 : 1 ≤ v8 * v8 := by rcases v1 with h | h | h | h <;> rw [h] <;> omega
            have p4 : 0 ≤ (i : Int) * ((v8 * v8 - 1) / 8) ∧ (i : Int) * ((v8 * v8 - 1) / 8) ≤ 31 * 6 := mul_le (by omega) (by omega) (by omega) (by omega)
            have p5 : 0 ≤ (k : Int) * ((u8 * u8 - 1) / 8) ∧ (k : Int) * ((u8 * u8 - 1) / 8) ≤ 31 * 6 := mul_le (by omega) (by omega) (by omega) (by omega)
            obtain ⟨p1a, p1b⟩ := p1
            obtain ⟨p2a, p2b⟩ := p2
            obtain ⟨p3a, p3b⟩ := p3
            obtain ⟨p4a, p4b⟩ := p4
            obtain ⟨p5a, p5b⟩ := p5
            have u8l : 1 ≤ u8 := by omega
            have u8u : u8 ≤ 7 := by omega
            have v8l : 1 ≤ v8 := by omega
            have v8u : v8 ≤ 7 := by omega
            clear u1 v1
            subst hp2
            rcases Bool.eq_false_or_eq_true (((u8 - 1) / 2 * ((v8 - 1) / 2) + (i : Int) * ((v8 * v8 - 1) / 8) + (k : Int) * ((u8 * u8 - 1) / 8)) % 2 == 1) with d | d
            · have hY := Lib.hid (hH.trans (if_pos (beq_t d)))
              clear hH
              go_wp2_with fail
              refine (MU.out _).mono ?_
              rintro e w' ⟨rfl, n3, rfl⟩
              go_wp2_with fail
              refine (MV.out _).mono ?_
              rintro e w' ⟨rfl, n4, rfl⟩
              go_wp2
              go_ret2
              exact Ret.eq _ (ret_two hY.out.symm rfl)
            · have hY := Lib.hid (hH.trans (if_neg (beq_f d)))
              clear hH
              go_wp2_with fail
              refine (MU.out _).mono ?_
              rintro e w' ⟨rfl, n3, rfl⟩
              go_wp2_with fail
              refine (MV.out _).mono ?_
              rintro e w' ⟨rfl, n4, rfl⟩
              go_wp2
              go_ret2
              exact Ret.eq _ (ret_two hY.out.symm rfl)
          · have hp3 : 2 < p := by omega
            have hH := fp.out hp3
            have JU := Lib.hid (jU.out hp3)
            have JV := Lib.hid (jV.out hp3)
            clear f2 fp jU jV oU oV
            have d2 : (p == 2) = false := f_beq hp2
            obtain ⟨bu1, bu2⟩ := bu
            obtain ⟨bv1, bv2⟩ := bv
            have p1 : 0 ≤ (i : Int) * (k : Int) ∧ (i : Int) * (k : Int) ≤ 31 * 31 := mul_le (by omega) (by omega) (by omega) (by omega)
            have p2 : 0 ≤ (i : Int) * (k : Int) * ((p - 1) / 2) ∧ (i : Int) * (k : Int) * ((p - 1) / 2) ≤ 31 * 31 * 500000000 := mul_le p1.1 p1.2 (by omega) (by omega)
            obtain ⟨p1a, p1b⟩ := p1
            obtain ⟨p2a, p2b⟩ := p2
            clear hp2
            by_cases c1 : ju < 0 <;> by_cases c2 : jv < 0
            · have hX : R = if ((i : Int) * (k : Int) * ((p - 1) / 2) + (k : Int) + (i : Int)) % 2 = 1 then -1 else 1 := by rw [hH, if_pos c1, if_pos c2]
              clear hH
              rcases Bool.eq_false_or_eq_true (((i : Int) * (k : Int) * ((p - 1) / 2) + (k : Int) + (i : Int)) % 2 == 1) with d | d
              · have hY := Lib.hid (hX.trans (if_pos (beq_t d)))
                clear hX
                go_wp2_with fail
                refine (JU.out _).mono ?_
                rintro e w' ⟨rfl, n3, rfl⟩
                go_wp2_with fail
                refine (JV.out _).mono ?_
                rintro e w' ⟨rfl, n4, rfl⟩
                go_wp2
                go_ret2
                exact Ret.eq _ (ret_two hY.out.symm rfl)
              · have hY := Lib.hid (hX.trans (if_neg (beq_f d)))
                clear hX
                go_wp2_with fail
                refine (JU.out _).mono ?_
                rintro e w' ⟨rfl, n3, rfl⟩
                go_wp2_with fail
                refine (JV.out _).mono ?_
                rintro e w' ⟨rfl, n4, rfl⟩
                go_wp2
                go_ret2
                exact Ret.eq _ (ret_two hY.out.symm rfl)
            · have hX : R = if ((i : Int) * (k : Int) * ((p - 1) / 2) + (k : Int)) % 2 = 1 then -1 else 1 := by rw [hH, if_pos c1, if_neg c2]; congr 2; omega
              clear hH
              rcases Bool.eq_false_or_eq_true (((i : Int) * (k : Int) * ((p - 1) / 2) + (k : Int)) % 2 == 1) with d | d
              · have hY := Lib.hid (hX.trans (if_pos (beq_t d)))
                clear hX
                go_wp2_with fail
                refine (JU.out _).mono ?_
                rintro e w' ⟨rfl, n3, rfl⟩
                go_wp2_with fail
                refine (JV.out _).mono ?_
                rintro e w' ⟨rfl, n4, rfl⟩
                go_wp2
                go_ret2
                exact Ret.eq _ (ret_two hY.out.symm rfl)
              · have hY := Lib.hid (hX.trans (if_neg (beq_f d)))
                clear hX
                go_wp2_with fail
                refine (JU.out _).mono ?_
                rintro e w' ⟨rfl, n3, rfl⟩
                go_wp2_with fail
                refine (JV.out _).mono ?_
                rintro e w' ⟨rfl, n4, rfl⟩
                go_wp2
                go_ret2
                exact Ret.eq _ (ret_two hY.out.symm rfl)
            · have hX : R = if ((i : Int) * (k : Int) * ((p - 1) / 2) + (i : Int)) % 2 = 1 then -1 else 1 := by rw [hH, if_neg c1, if_pos c2]; congr 2; omega
              clear hH
              rcases Bool.eq_false_or_eq_true (((i : Int) * (k : Int) * ((p - 1) / 2) + (i : Int)) % 2 == 1) with d | d
              · have hY := Lib.hid (hX.trans (if_pos (beq_t d)))
                clear hX
                go_wp2_with fail
                refine (JU.out _).mono ?_
                rintro e w' ⟨rfl, n3, rfl⟩
                go_wp2_with fail
                refine (JV.out _).mono ?_
                rintro e w' ⟨rfl, n4, rfl⟩
                go_wp2
                go_ret2
                exact Ret.eq _ (ret_two hY.out.symm rfl)
              · have hY := Lib.hid (hX.trans (if_neg (beq_f d)))
                clear hX
                go_wp2_with fail
                refine (JU.out _).mono ?_
                rintro e w' ⟨rfl, n3, rfl⟩
                go_wp2_with fail
                refine (JV.out _).mono ?_
                rintro e w' ⟨rfl, n4, rfl⟩
                go_wp2
                go_ret2
                exact Ret.eq _ (ret_two hY.out.symm rfl)
            · have hX : R = if ((i : Int) * (k : Int) * ((p - 1) / 2)) % 2 = 1 then -1 else 1 := by rw [hH, if_neg c1, if_neg c2]; congr 2; omega
              clear hH
              rcases Bool.eq_false_or_eq_true (((i : Int) * (k : Int) * ((p - 1) / 2)) % 2 == 1) with d | d
              · have hY := Lib.hid (hX.trans (if_pos (beq_t d)))
                clear hX
                go_wp2_with fail
                refine (JU.out _).mono ?_
                rintro e w' ⟨rfl, n3, rfl⟩
                go_wp2_with fail
                refine (JV.out _).mono ?_
                rintro e w' ⟨rfl, n4, rfl⟩
                go_wp2
                go_ret2
                exact Ret.eq _ (ret_two hY.out.symm rfl)
              · have hY := Lib.hid (hX.trans (if_neg (beq_f d)))
                clear hX
                go_wp2_with fail
                refine (JU.out _).mono ?_
                rintro e w' ⟨rfl, n3, rfl⟩
                go_wp2_with fail
                refine (JV.out _).mono ?_
                rintro e w' ⟨rfl, n4, rfl⟩
                go_wp2
                go_ret2
                exact Ret.eq _ (ret_two hY.out.symm rfl)

set_option maxHeartbeats 400000 in
theorem rHilbert_any (a b p : Int) (w : World) :
    Calls Tryz.prog 119 #[.int .i64 a, .int .i64 b, .int .i64 p] w (Ret w (.tuple #[.int .i64 (hilV a b p), .int .i64 (hilE a b p)])) := by
  by_cases h : hilE a b p = 0
  · have hV : hilV a b p = Hil a b p := by unfold hilV; rw [if_pos h]
    rw [hV]
    have hh := h
    unfold hilE at hh
    by_cases c1 : a = 0 ∨ b = 0
    · rw [if_pos c1] at hh; exact absurd hh (by omega)
    rw [if_neg c1] at hh
    by_cases c2 : inB a = false ∨ inB b = false
    · rw [if_pos c2] at hh; exact absurd hh (by omega)
    rw [if_neg c2] at hh
    have ra : inB a = true := by cases hx : inB a; exact absurd (Or.inl hx) c2; rfl
    have rb : inB b = true := by cases hx : inB b; exact absurd (Or.inr hx) c2; rfl
    rw [inB_iff] at ra rb
    have hE0 : hilE a b p = 0 := h
    rw [hE0]
    by_cases c3 : p = 0
    · have hC := fun w => rCheckHilbert_any a b p w
      rw [h] at hC
      have HC := Lib.hid hC
      have HT := Lib.hid (show Hil a b p = if a < 0 ∧ b < 0 then -1 else 1 by unfold Hil; rw [if_pos c3])
      generalize Hil a b p = R at *
      clear hC hh h hV hE0 c1 c2
      subst c3
      go_enter Tryz.func119, Tryz.ntmps119
      by_cases h1 : a < 0
      · by_cases h2 : b < 0
        · have hF := Lib.hid (HT.out.trans (if_pos ⟨h1, h2⟩))
          go_wp2_with fail
          refine (HC.out _).mono ?_
          rintro e w' ⟨rfl, n0, rfl⟩
          go_wp2
          go_ret2
          exact Ret.eq _ (ret_two hF.out.symm rfl)
        · have hF := Lib.hid (HT.out.trans (if_neg (fun h => absurd h.2 (by omega))))
          go_wp2_with fail
          refine (HC.out _).mono ?_
          rintro e w' ⟨rfl, n0, rfl⟩
          go_wp2
          go_ret2
          exact Ret.eq _ (ret_two hF.out.symm rfl)
      · have hF := Lib.hid (HT.out.trans (if_neg (fun h => absurd h.1 (by omega))))
        go_wp2_with fail
        refine (HC.out _).mono ?_
        rintro e w' ⟨rfl, n0, rfl⟩
        go_wp2
        go_ret2
        exact Ret.eq _ (ret_two hF.out.symm rfl)
    · by_cases c4 : p ≠ 0 ∧ isPB p = false
      · rw [if_pos c4] at hh; exact absurd hh (by omega)
      have hp : isPB p = true := by cases hx : isPB p; exact absurd ⟨c3, hx⟩ c4; rfl
      obtain ⟨h5, h6⟩ := isPB_iff.1 hp
      have := h5.1
      exact rHilbert_pos a b p w h (by omega) h6 h5 (fun h => c1 (Or.inl h)) (fun h => c1 (Or.inr h)) ra.1 ra.2 rb.1 rb.2
  · have hV : hilV a b p = 0 := by unfold hilV; rw [if_neg h]
    rw [hV]
    have hC := Lib.hid (fun w => rCheckHilbert_any a b p w)
    clear hV
    generalize hilE a b p = E at *
    have d : (E != 0) = true := bne_iff_ne.2 h
    clear h
    go_enter Tryz.func119, Tryz.ntmps119
    go_wp2_with fail
    refine (hC.out _).mono ?_
    rintro e w' ⟨rfl, n0, rfl⟩
    go_wp2
    go_ret2
    exact Ret.eq _ rfl
end Go.Proofs.YtfjmhfmhijhpkaaGreatDoor
namespace Go.Proofs.YtfjmhfmhijhpkaaGreatDoor
open Go.RowKit FF
set_option maxHeartbeats 400000 in
theorem bWithin_any (n lo hi : Int) (w : World) :
    Calls Tryz.prog 43 #[.int .i64 n, .int .i64 lo, .int .i64 hi] w (Ret w (.bool (winB n lo hi))) := by
  have hF := Lib.hid (show (decide (lo ≤ n) && decide (n ≤ hi)) = winB n lo hi from rfl)
  go_enter Tryz.func43, Tryz.ntmps43
  by_cases h1 : lo ≤ n
  · have hF2 := Lib.hid (show decide (n ≤ hi) = winB n lo hi by rw [← hF.out, decide_eq_true h1]; rfl)
    clear hF
    go_wp2
    go_ret
    exact Ret.eq0 (ret_bool hF2.out)
  · have hF2 := Lib.hid (show false = winB n lo hi by rw [← hF.out, decide_eq_false h1]; rfl)
    clear hF
    go_wp2
    go_ret
    exact Ret.eq0 (ret_bool hF2.out)

set_option maxHeartbeats 400000 in
theorem bAbs_any (n : Int) (w : World) (h1 : -9223372036854775807 ≤ n) (h2 : n ≤ 9223372036854775807) :
    Calls Tryz.prog 136 #[.int .i64 n] w (Ret w (.int .i64 n.natAbs)) := by
  by_cases h : n < 0
  · have hN := Lib.hid (show (n.natAbs : Int) = -n by omega)
    go_enter Tryz.func136, Tryz.ntmps136
    go_wp2
    go_ret
    exact Ret.eq0 (ret_int hN.out.symm)
  · have hN := Lib.hid (show (n.natAbs : Int) = n by omega)
    go_enter Tryz.func136, Tryz.ntmps136
    go_wp2
    go_ret
    exact Ret.eq0 (ret_int hN.out.symm)

end Go.Proofs.YtfjmhfmhijhpkaaGreatDoor
namespace Go.Proofs.YtfjmhfmhijhpkaaGreatDoor
open Go.RowKit FF

theorem results_tmp4 {fn : Func} {t u v x : Tmp} (h : fn.results = #[.tmp t, .tmp u, .tmp v, .tmp x]) (tmps : Array Value) (P : Program) (w : World) :
    (results fn tmps).run P w = .ok (.tuple #[tmps.getD t undef, tmps.getD u undef, tmps.getD v undef, tmps.getD x undef]) w := by
  simp [results, h]

/-- the first coefficient -/
def bezX (a b : Int) : Int := if b = 0 then a / Int.gcd a b else invM (a / Int.gcd a b) (b.natAbs / Int.gcd a b)
/-- the second -/
def bezY (a b : Int) : Int := if b = 0 then 0 else ((Int.gcd a b : Int) - a * bezX a b) / b

theorem gcd_pos' {a b : Int} (h : ¬ (a = 0 ∧ b = 0)) : 0 < Int.gcd a b := by
  have := Int.gcd_eq_zero_iff (a := a) (b := b)
  omega

theorem bez_facts {a b : Int} (hb : b ≠ 0) :
    Int.gcd (a / Int.gcd a b) ((b.natAbs : Int) / Int.gcd a b) = 1 ∧ 1 ≤ (b.natAbs : Int) / Int.gcd a b ∧ (b.natAbs : Int) / Int.gcd a b ≤ b.natAbs ∧ b ∣ (Int.gcd a b : Int) - a * bezX a b ∧ 0 ≤ bezX a b ∧ bezX a b < b.natAbs := by
  have hg0 : 0 < Int.gcd a b := gcd_pos' (fun h => hb h.2)
  obtain ⟨u, hu⟩ := Int.gcd_dvd_left (a := a) (b := b)
  obtain ⟨v, hv⟩ := Int.gcd_dvd_right (a := a) (b := b)
  have hgu : a / Int.gcd a b = u := by
    conv => lhs; lhs; rw [hu]
    exact Int.mul_ediv_cancel_left _ (by omega)
  have hbn : (b.natAbs : Int) = Int.gcd a b * v.natAbs := by
    conv => lhs; rw [hv]
    rw [Int.natAbs_mul]; push_cast; simp
  have hgv : (b.natAbs : Int) / Int.gcd a b = v.natAbs := by
    rw [hbn]; exact Int.mul_ediv_cancel_left _ (by omega)
  have hco : Int.gcd u v = 1 := by
    have h1 : Int.gcd a b = Int.gcd (Int.gcd a b * u) (Int.gcd a b * v) := by rw [← hu, ← hv]
    rw [Int.gcd_mul_left] at h1
    simp at h1
    have h2 : Int.gcd a b * 1 = Int.gcd a b * Int.gcd u v := by omega
    exact (Nat.eq_of_mul_eq_mul_left hg0 h2).symm
  have hv0 : v ≠ 0 := by rintro rfl; simp at hv; exact hb hv
  have hco' : Int.gcd u v.natAbs = 1 := by unfold Int.gcd at hco ⊢; simpa using hco
  have hX : bezX a b = invM u v.natAbs := by unfold bezX; rw [if_neg hb, hgu, hgv]
  obtain ⟨i0, i1, i2⟩ := invM_spec (a := u) (m := v.natAbs) (by omega) hco'
  have hvb : (v.natAbs : Int) ≤ b.natAbs := by
    rw [hbn]
    have : 1 * (v.natAbs : Int) ≤ Int.gcd a b * v.natAbs := Int.mul_le_mul_of_nonneg_right (by omega) (by omega)
    omega
  refine ⟨by rw [hgu, hgv]; exact hco', by rw [hgv]; omega, by rw [hgv]; exact hvb, ?_, by rw [hX]; exact i0, by rw [hX]; omega⟩
  rw [hX]
  obtain ⟨k, hk⟩ := i2
  generalize hG : (Int.gcd a b : Int) = G at *
  have h3 : G - a * invM u v.natAbs = -(G * v.natAbs * k) := by
    conv => lhs; rw [hu]
    grind
  rw [h3]
  rw [← hbn]
  exact Int.dvd_neg.2 (Int.dvd_trans (Int.dvd_natAbs_self) (Int.dvd_mul_right _ _))

/-- what Bezout returns -/
def bezE (a b : Int) : Int := if a < -1000000000 ∨ 1000000000 < a ∨ b < -1000000000 ∨ 1000000000 < b then 2 else if a = 0 ∧ b = 0 then 10 else 0
def bezV (a b : Int) : Value := if bezE a b = 0 then .tuple #[.int .i64 (Int.gcd a b), .int .i64 (bezX a b), .int .i64 (bezY a b), .int .i64 0] else .tuple #[.int .i64 0, .int .i64 0, .int .i64 0, .int .i64 (bezE a b)]

theorem modB_t {m : Int} (h1 : 1 ≤ m) (h2 : m ≤ 1000000000) : modB m = true := modB_true.2 ⟨h1, h2⟩
theorem modB_f {m : Int} (h : m < 1 ∨ 1000000000 < m) : modB m = false := modB_false.2 h

theorem bezE_bad {a b : Int} (h : a < -1000000000 ∨ 1000000000 < a ∨ b < -1000000000 ∨ 1000000000 < b) : bezV a b = .tuple #[.int .i64 0, .int .i64 0, .int .i64 0, .int .i64 2] := by
  have e : bezE a b = 2 := if_pos h
  unfold bezV; rw [e]; rfl

set_option maxHeartbeats 400000 in
theorem Bezout_badA (a b : Int) (w : World) (ha : I64 a) (hna : -9223372036854775807 ≤ a) (hr : a < -1000000000 ∨ 1000000000 < a) :
    Calls Tryz.prog 74 #[.int .i64 a, .int .i64 b] w (Ret w (bezV a b)) := by
  have hV := Lib.hid (bezE_bad (a := a) (b := b) (by omega))
  obtain ⟨a1, a2⟩ := ha
  have hM := Lib.hid (fun m w => modulus_any m w)
  rcases hr with h | h
  · have ca : a < -a := by omega
    have ka := modB_f (m := -a) (by omega)
    go_enter Tryz.func74, Tryz.ntmps74
    go_wp2_with fail
    refine (hM.out _ _).mono ?_
    rintro e w' ⟨rfl, n, rfl⟩
    go_wp2_with fail
    refine bodyPost_ret (results_tmp4 rfl _ _ _) rfl ?_
    exact ⟨by rw [hV.out]; rfl, n, rfl⟩
  · have ca : ¬ a < -a := by omega
    have ka := modB_f (m := a) (by omega)
    go_enter Tryz.func74, Tryz.ntmps74
    go_wp2_with fail
    refine (hM.out _ _).mono ?_
    rintro e w' ⟨rfl, n, rfl⟩
    go_wp2_with fail
    refine bodyPost_ret (results_tmp4 rfl _ _ _) rfl ?_
    exact ⟨by rw [hV.out]; rfl, n, rfl⟩

/-- the program's guard of one argument, as the walk meets it -/
theorem absG {a : Int} (h1 : -1000000000 ≤ a) (h2 : a ≤ 1000000000) : (a < 0 ∧ modB (-a) = true) ∨ (a = 0 ∧ modB 1 = true) ∨ (0 < a ∧ modB a = true) := by
  rcases Int.lt_trichotomy a 0 with h | h | h
  · exact .inl ⟨h, modB_t (by omega) (by omega)⟩
  · exact .inr (.inl ⟨h, modB_t (by omega) (by omega)⟩)
  · exact .inr (.inr ⟨h, modB_t (by omega) (by omega)⟩)

set_option maxHeartbeats 4000000 in
theorem Bezout_badB (a b : Int) (w : World) (hb : I64 b) (h1 : -1000000000 ≤ a) (h2 : a ≤ 1000000000) (hnb : -9223372036854775807 ≤ b) (hr : b < -1000000000 ∨ 1000000000 < b) :
    Calls Tryz.prog 74 #[.int .i64 a, .int .i64 b] w (Ret w (bezV a b)) := by
  have hV := Lib.hid (bezE_bad (a := a) (b := b) (by omega))
  obtain ⟨b1, b2⟩ := hb
  have hM := Lib.hid (fun m w => modulus_any m w)
  rcases absG h1 h2 with ⟨h, k⟩ | ⟨rfl, k⟩ | ⟨h, k⟩ <;> rcases hr with g | g
  all_goals
    first
      | have l := modB_f (m := -b) (by omega)
        go_enter Tryz.func74, Tryz.ntmps74
        go_wp2_with fail
        refine (hM.out _ _).mono ?_
        rintro e w' ⟨rfl, n, rfl⟩
        go_wp2_with fail
        refine (hM.out _ _).mono ?_
        rintro e w' ⟨rfl, n2, rfl⟩
        go_wp2_with fail
        refine bodyPost_ret (results_tmp4 rfl _ _ _) rfl ?_
        exact ⟨by rw [hV.out]; rfl, _, rfl⟩
      | have l := modB_f (m := b) (by omega)
        go_enter Tryz.func74, Tryz.ntmps74
        go_wp2_with fail
        refine (hM.out _ _).mono ?_
        rintro e w' ⟨rfl, n, rfl⟩
        go_wp2_with fail
        refine (hM.out _ _).mono ?_
        rintro e w' ⟨rfl, n2, rfl⟩
        go_wp2_with fail
        refine bodyPost_ret (results_tmp4 rfl _ _ _) rfl ?_
        exact ⟨by rw [hV.out]; rfl, _, rfl⟩

set_option maxHeartbeats 4000000 in
theorem Bezout_minA (b : Int) (w : World) (hb : I64 b) :
    Calls Tryz.prog 74 #[.int .i64 (-9223372036854775808), .int .i64 b] w (Ret w (bezV (-9223372036854775808) b)) := by
  have hV := Lib.hid (bezE_bad (a := -9223372036854775808) (b := b) (by omega))
  obtain ⟨b1, b2⟩ := hb
  have hM := Lib.hid (fun m w => modulus_any m w)
  have k := modB_t (m := 1) (by omega) (by omega)
  have hw : wrap64 9223372036854775808 = -9223372036854775808 := by unfold wrap64; omega
  by_cases hm : b = -9223372036854775808
  · subst hm
    go_enter Tryz.func74, Tryz.ntmps74
    go_wp2_with fail
    refine (hM.out _ _).mono ?_
    rintro e w' ⟨rfl, n, rfl⟩
    go_wp2_with fail
    refine (hM.out _ _).mono ?_
    rintro e w' ⟨rfl, n2, rfl⟩
    go_wp2_with fail
    refine bodyPost_ret (results_tmp4 rfl _ _ _) rfl ?_
    exact ⟨by rw [hV.out]; rfl, _, rfl⟩
  by_cases hbad : b < -1000000000 ∨ 1000000000 < b
  · rcases hbad with g | g
    · have l := modB_f (m := -b) (by omega)
      go_enter Tryz.func74, Tryz.ntmps74
      go_wp2_with fail
      refine (hM.out _ _).mono ?_
      rintro e w' ⟨rfl, n, rfl⟩
      go_wp2_with fail
      refine (hM.out _ _).mono ?_
      rintro e w' ⟨rfl, n2, rfl⟩
      go_wp2_with fail
      refine bodyPost_ret (results_tmp4 rfl _ _ _) rfl ?_
      exact ⟨by rw [hV.out]; rfl, _, rfl⟩
    · have l := modB_f (m := b) (by omega)
      go_enter Tryz.func74, Tryz.ntmps74
      go_wp2_with fail
      refine (hM.out _ _).mono ?_
      rintro e w' ⟨rfl, n, rfl⟩
      go_wp2_with fail
      refine (hM.out _ _).mono ?_
      rintro e w' ⟨rfl, n2, rfl⟩
      go_wp2_with fail
      refine bodyPost_ret (results_tmp4 rfl _ _ _) rfl ?_
      exact ⟨by rw [hV.out]; rfl, _, rfl⟩
  rcases absG (a := b) (by omega) (by omega) with ⟨h, l⟩ | ⟨rfl, l⟩ | ⟨h, l⟩
  all_goals
    go_enter Tryz.func74, Tryz.ntmps74
    go_wp2_with fail
    refine (hM.out _ _).mono ?_
    rintro e w' ⟨rfl, n, rfl⟩
    go_wp2_with fail
    refine (hM.out _ _).mono ?_
    rintro e w' ⟨rfl, n2, rfl⟩
    go_wp2_with fail
    refine bodyPost_ret (results_tmp4 rfl _ _ _) rfl ?_
    exact ⟨by rw [hV.out]; rfl, _, rfl⟩

set_option maxHeartbeats 4000000 in
theorem Bezout_minB (a : Int) (w : World) (h1 : -1000000000 ≤ a) (h2 : a ≤ 1000000000) :
    Calls Tryz.prog 74 #[.int .i64 a, .int .i64 (-9223372036854775808)] w (Ret w (bezV a (-9223372036854775808))) := by
  have hV := Lib.hid (bezE_bad (a := a) (b := -9223372036854775808) (by omega))
  have hM := Lib.hid (fun m w => modulus_any m w)
  have l := modB_t (m := 1) (by omega) (by omega)
  have hw : wrap64 9223372036854775808 = -9223372036854775808 := by unfold wrap64; omega
  rcases absG (a := a) (by omega) (by omega) with ⟨h, k⟩ | ⟨rfl, k⟩ | ⟨h, k⟩
  all_goals
    go_enter Tryz.func74, Tryz.ntmps74
    go_wp2_with fail
    refine (hM.out _ _).mono ?_
    rintro e w' ⟨rfl, n, rfl⟩
    go_wp2_with fail
    refine (hM.out _ _).mono ?_
    rintro e w' ⟨rfl, n2, rfl⟩
    go_wp2_with fail
    refine bodyPost_ret (results_tmp4 rfl _ _ _) rfl ?_
    exact ⟨by rw [hV.out]; rfl, _, rfl⟩
theorem bez_inv (a b : Int) (h1 : -1000000000 ≤ a) (h2 : a ≤ 1000000000) (h3 : -1000000000 ≤ b) (h4 : b ≤ 1000000000) (hb0 : b ≠ 0) (w : World) :
    Calls Tryz.prog 141 #[.int .i64 (a.tdiv (Int.gcd a b)), .int .i64 (((b.natAbs : Nat) : Int).tdiv (Int.gcd a b))] w (Ret w (.int .i64 (bezX a b))) := by
  obtain ⟨f1, f2, f3, f4, f5, f6⟩ := bez_facts hb0 (a := a)
  have hT1 : a.tdiv (Int.gcd a b) = a / Int.gcd a b := Int.tdiv_eq_ediv_of_dvd (Int.gcd_dvd_left ..)
  have hT2 : ((b.natAbs : Nat) : Int).tdiv (Int.gcd a b) = b.natAbs / Int.gcd a b := Int.tdiv_eq_ediv_of_nonneg (by omega)
  have hb := Int.natAbs_tdiv_le_natAbs a (Int.gcd a b)
  rw [hT1] at hb
  rw [hT1, hT2, show bezX a b = invM (a / Int.gcd a b) ((b.natAbs : Int) / Int.gcd a b) from if_neg hb0]
  exact inverse_any _ _ _ ⟨by omega, by omega⟩ f2 (by omega) f1

theorem bez_tdiv {a g : Int} (ha : a.natAbs ≤ 1000000000) : -1000000000 ≤ a.tdiv g ∧ a.tdiv g ≤ 1000000000 := by
  have hb := Int.natAbs_tdiv_le_natAbs a g
  omega

theorem bez_tdiv2 {z b : Int} (hz : z.natAbs ≤ 2000000000000000000) : -2000000000000000000 ≤ z.tdiv b ∧ z.tdiv b ≤ 2000000000000000000 := by
  have hb := Int.natAbs_tdiv_le_natAbs z b
  omega

theorem bez_prod {a X : Int} (h1 : -1000000000 ≤ a) (h2 : a ≤ 1000000000) (h3 : 0 ≤ X) (h4 : X ≤ 1000000000) : -1000000000000000000 ≤ a * X ∧ a * X ≤ 1000000000000000000 := by
  have h5 : a * X ≤ 1000000000 * X := Int.mul_le_mul_of_nonneg_right h2 h3
  have h6 : -1000000000 * X ≤ a * X := Int.mul_le_mul_of_nonneg_right h1 h3
  omega

theorem quiet_off {P : Program} {f : FuncId} {args : Array Value} {w : World} {N a : Nat} {v : Value}
    (h : Calls P f args (w.drewN (N + a)) (Ret (w.drewN (N + a)) v)) : Calls P f args (w.drewN (N + a)) fun e w'' => e = .returned v ∧ ∃ m, w'' = w.drewN (N + m) :=
  h.mono fun _ _ ⟨he, m, hm⟩ => ⟨he, a + m, by rw [hm, World.drewN_drewN, Nat.add_assoc]⟩

set_option maxHeartbeats 4000000 in
theorem Bezout_good (a b : Int) (w : World) (h1 : -1000000000 ≤ a) (h2 : a ≤ 1000000000) (h3 : -1000000000 ≤ b) (h4 : b ≤ 1000000000) (hb0 : b ≠ 0) :
    Calls Tryz.prog 74 #[.int .i64 a, .int .i64 b] w (Ret w (bezV a b)) := by
  have hV := Lib.hid (show bezV a b = .tuple #[.int .i64 (Int.gcd a b), .int .i64 (bezX a b), .int .i64 (bezY a b), .int .i64 0] by
    have e : bezE a b = 0 := by unfold bezE; rw [if_neg (by omega), if_neg (by omega)]
    unfold bezV; rw [e]; rfl)
  have hG := Lib.hid (fun w => gcd_any a b w (by omega) (by omega))
  obtain ⟨f1, f2, f3, f4, f5, f6⟩ := bez_facts hb0 (a := a)
  have hg0 : 0 < (Int.gcd a b : Int) := by have := gcd_pos' (a := a) (fun h => hb0 h.2); omega
  have hgb : (Int.gcd a b : Int) ≤ b.natAbs := by have := Int.gcd_le_natAbs_right a (b := b) (by omega); omega
  have hI := bez_inv a b h1 h2 h3 h4 hb0
  have hY := Lib.hid (show ((Int.gcd a b : Int) - a * bezX a b).tdiv b = bezY a b by unfold bezY; rw [if_neg hb0]; exact Int.tdiv_eq_ediv_of_dvd f4)
  obtain ⟨d1, d2⟩ := bez_tdiv (a := a) (g := Int.gcd a b) (by omega)
  obtain ⟨d3, d4⟩ := bez_tdiv (a := b.natAbs) (g := Int.gcd a b) (by omega)
  obtain ⟨p1, p2⟩ := bez_prod h1 h2 f5 (by omega)
  have d5 := bez_tdiv2 (z := (Int.gcd a b : Int) - a * bezX a b) (b := b) (by omega)
  obtain ⟨d5, d6⟩ := d5
  clear f1 f2 f3 f4
  generalize bezX a b = X at *
  generalize bezY a b = Y at *
  generalize (Int.gcd a b : Int) = g at *
  have hgz := f_beq (a := g) (b := 0) (by omega)
  have hM := Lib.hid (fun m w => modulus_any m w)
  rcases absG h1 h2 with ⟨h, k⟩ | ⟨rfl, k⟩ | ⟨h, k⟩ <;> rcases Int.lt_or_gt_of_ne hb0 with hs | hs
  all_goals
    have l := absG h3 h4
    rcases l with ⟨r, l⟩ | ⟨r, l⟩ | ⟨r, l⟩ <;> (try omega)
    try rw [show ((b.natAbs : Nat) : Int) = -b by omega, Int.neg_tdiv] at hI d3 d4
    try rw [show ((b.natAbs : Nat) : Int) = b by omega] at hI d3 d4
    try simp only [Int.zero_tdiv] at hI
    try simp only [Int.zero_mul, Int.sub_zero] at hY
    try simp only [Int.zero_mul, Int.sub_zero] at d5 d6
    replace hI := Lib.hid hI
    go_enter Tryz.func74, Tryz.ntmps74
    go_wp2_with fail
    refine (hM.out _ _).mono ?_
    rintro e w' ⟨rfl, n, rfl⟩
    go_wp2_with fail
    refine (hM.out _ _).mono ?_
    rintro e w' ⟨rfl, n2, rfl⟩
    go_wp2_with fail
    refine (hG.out _).mono ?_
    rintro e w' ⟨rfl, n3, rfl⟩
    go_wp2_with fail
    go_big_quiet ((go_at_call 141; exact quiet_off (hI.out _)))
    go_wp2_with fail
    go_big_quiet (fail)
    go_wp2_with fail
    refine bodyPost_ret (results_tmp4 rfl _ _ _) rfl ?_
    exact ⟨by rw [hV.out, ← hY.out]; rfl, _, by rw [World.drewN_drewN, World.drewN_drewN]⟩

set_option maxHeartbeats 4000000 in
theorem Bezout_b0 (a : Int) (w : World) (h1 : -1000000000 ≤ a) (h2 : a ≤ 1000000000) :
    Calls Tryz.prog 74 #[.int .i64 a, .int .i64 0] w (Ret w (bezV a 0)) := by
  have hG := Lib.hid (fun w => gcd_any a 0 w (by omega) (by omega))
  have hM := Lib.hid (fun m w => modulus_any m w)
  have l := modB_t (m := 1) (by omega) (by omega)
  by_cases h0 : a = 0
  · subst h0
    have hV := Lib.hid (show bezV 0 0 = .tuple #[.int .i64 0, .int .i64 0, .int .i64 0, .int .i64 10] from rfl)
    clear hG
    go_enter Tryz.func74, Tryz.ntmps74
    go_wp2_with fail
    refine (hM.out _ _).mono ?_
    rintro e w' ⟨rfl, n, rfl⟩
    go_wp2_with fail
    refine (hM.out _ _).mono ?_
    rintro e w' ⟨rfl, n2, rfl⟩
    go_wp2_with fail
    refine bodyPost_ret (results_tmp4 rfl _ _ _) rfl ?_
    exact ⟨by rw [hV.out]; rfl, _, rfl⟩
  have hg0 : 0 < (Int.gcd a 0 : Int) := by have := gcd_pos' (a := a) (b := 0) (fun h => h0 h.1); omega
  have hgb : (Int.gcd a 0 : Int) ≤ a.natAbs := by rw [Int.gcd_zero_right]; omega
  have hT : a.tdiv (Int.gcd a 0 : Int) = a / (Int.gcd a 0 : Int) := Int.tdiv_eq_ediv_of_dvd (Int.gcd_dvd_left ..)
  obtain ⟨d1, d2⟩ := bez_tdiv (a := a) (g := Int.gcd a 0) (by omega)
  have hV := Lib.hid (show bezV a 0 = .tuple #[.int .i64 (Int.gcd a 0), .int .i64 (a.tdiv (Int.gcd a 0 : Int)), .int .i64 0, .int .i64 0] by
    have e : bezE a 0 = 0 := by unfold bezE; rw [if_neg (by omega), if_neg (by omega)]
    unfold bezV; rw [e, hT]; rfl)
  clear hT
  generalize (Int.gcd a 0 : Int) = g at *
  have hgz := f_beq (a := g) (b := 0) (by omega)
  rcases absG h1 h2 with ⟨h, k⟩ | ⟨h, k⟩ | ⟨h, k⟩ <;> (try omega)
  all_goals
    go_enter Tryz.func74, Tryz.ntmps74
    go_wp2_with fail
    refine (hM.out _ _).mono ?_
    rintro e w' ⟨rfl, n, rfl⟩
    go_wp2_with fail
    refine (hM.out _ _).mono ?_
    rintro e w' ⟨rfl, n2, rfl⟩
    go_wp2_with fail
    refine (hG.out _).mono ?_
    rintro e w' ⟨rfl, n3, rfl⟩
    go_wp2_with fail
    go_big_quiet (fail)
    go_wp2_with fail
    refine bodyPost_ret (results_tmp4 rfl _ _ _) rfl ?_
    exact ⟨by rw [hV.out]; rfl, _, by rw [World.drewN_drewN]⟩

/-- Bezout, for all numbers -/
theorem Bezout_any (a b : Int) (w : World) (ha : I64 a) (hb : I64 b) :
    Calls Tryz.prog 74 #[.int .i64 a, .int .i64 b] w (Ret w (bezV a b)) := by
  by_cases m1 : a = -9223372036854775808
  · subst m1; exact Bezout_minA b w hb
  by_cases r1 : a < -1000000000 ∨ 1000000000 < a
  · exact Bezout_badA a b w ha (by have := ha.1; omega) r1
  by_cases m2 : b = -9223372036854775808
  · subst m2; exact Bezout_minB a w (by omega) (by omega)
  by_cases r2 : b < -1000000000 ∨ 1000000000 < b
  · exact Bezout_badB a b w hb (by omega) (by omega) (by have := hb.1; omega) r2
  by_cases h0 : b = 0
  · subst h0; exact Bezout_b0 a w (by omega) (by omega)
  · exact Bezout_good a b w (by omega) (by omega) (by omega) (by omega) h0
end Go.Proofs.YtfjmhfmhijhpkaaGreatDoor
namespace Go.Proofs.YtfjmhfmhijhpkaaGreatDoor
open Go.RowKit FF

/-- the error of an inverse -/
def invE (a m : Int) : Int := if modB m = false then 2 else if Int.gcd a m = 1 then 0 else 12
/-- the inverse, or 0 -/
def invV (a m : Int) : Int := if invE a m = 0 then invM a m else 0
theorem inv_bad {a m : Int} (h : modB m = false) : invE a m = 2 ∧ invV a m = 0 := by
  have e : invE a m = 2 := if_pos h
  exact ⟨e, by unfold invV; rw [e]; rfl⟩
theorem inv_none {a m : Int} (h : modB m = true) (g : Int.gcd a m ≠ 1) : invE a m = 12 ∧ invV a m = 0 := by
  have e : invE a m = 12 := by unfold invE; rw [h, if_neg (by simp), if_neg g]
  exact ⟨e, by unfold invV; rw [e]; rfl⟩
theorem inv_good {a m : Int} (h : modB m = true) (g : Int.gcd a m = 1) : invE a m = 0 ∧ invV a m = invM a m := by
  have e : invE a m = 0 := by unfold invE; rw [h, if_neg (by simp), if_pos g]
  exact ⟨e, by unfold invV; rw [e]; rfl⟩

theorem Eu.gcd {a m r x y : Int} (h : Eu a m r 0 x y) : r = Int.gcd a m := by
  have hg := h.g
  rw [Int.gcd_zero_right] at hg
  have := h.r0
  omega

end Go.Proofs.YtfjmhfmhijhpkaaGreatDoor
namespace Go.Proofs.YtfjmhfmhijhpkaaGreatDoor
open Go.RowKit FF
theorem inv_bez {a b : Int} (h3 : -1000000000 ≤ b) (h4 : b ≤ 1000000000) (hb0 : b ≠ 0) :
    invV (a.tdiv (Int.gcd a b)) ((b.natAbs : Int) / Int.gcd a b) = bezX a b ∧ ((b.natAbs : Int) / Int.gcd a b ≤ 1 → bezX a b = 0) ∧ 1 ≤ (b.natAbs : Int) / Int.gcd a b := by
  obtain ⟨f1, f2, f3, f4, f5, f6⟩ := bez_facts hb0 (a := a)
  have hT1 : a.tdiv (Int.gcd a b) = a / Int.gcd a b := Int.tdiv_eq_ediv_of_dvd (Int.gcd_dvd_left ..)
  have hX : bezX a b = invM (a / Int.gcd a b) ((b.natAbs : Int) / Int.gcd a b) := if_neg hb0
  refine ⟨by rw [hT1, hX]; exact (inv_good (modB_true.2 ⟨f2, by omega⟩) f1).2, fun h => ?_, f2⟩
  have := invM_spec (a := a / Int.gcd a b) (by omega) f1
  rw [← hX] at this
  omega
theorem gcd_abs (a b : Int) : Int.gcd (a.natAbs : Int) (b.natAbs : Int) = Int.gcd a b := by unfold Int.gcd; simp

end Go.Proofs.YtfjmhfmhijhpkaaGreatDoor
namespace Go.Proofs.YtfjmhfmhijhpkaaGreatDoor
open Go.RowKit FF

/-- the error of a Jacobi symbol -/
def jacE (n : Int) : Int := if modB n = false then 2 else if n % 2 = 0 then 3 else 0
/-- the Jacobi symbol, or 0 -/
def jacV (a n : Int) : Int := if jacE n = 0 then Jac a n.toNat else 0

set_option maxHeartbeats 400000 in
theorem bGcd_any (a b : Int) (w : World) (ha : a.natAbs ≤ 4611686018427387904) (hb : b.natAbs ≤ 4611686018427387904) :
    Calls Tryz.prog 69 #[.int .i64 a, .int .i64 b] w (Ret w (.int .i64 (Int.gcd a b))) := by
  have hAb := Lib.hid (fun (n : Int) (w : World) (h : n.natAbs ≤ 4611686018427387904) => bAbs_any n w (by omega) (by omega))
  go_enter Tryz.func69, Tryz.ntmps69
  go_wp2
  go_loopw [0, 1] (fun s t wr => ∃ x y : Int, s = .int .i64 x ∧ t = .int .i64 y ∧ x.natAbs ≤ 4611686018427387904 ∧ y.natAbs ≤ 4611686018427387904 ∧ Int.gcd x y = Int.gcd a b ∧ ∃ n, wr = w.drewN n) (fun _ t _ => (intOf t).natAbs)
  case atStart => exact ⟨a, b, rfl, rfl, ha, hb, rfl, 0, rfl⟩
  case round =>
    obtain ⟨x, y, rfl, rfl, hx, hy, hg, n, rfl⟩ := hrel
    have hG := Lib.hid hg; clear hg
    have hxl : -4611686018427387904 ≤ x := by omega
    have hxu : x ≤ 4611686018427387904 := by omega
    by_cases hy0 : y = 0
    · subst hy0
      have hx1 := Lib.hid (show ((Int.gcd x 0 : Nat) : Int) = x.natAbs by rw [Int.gcd_zero_right])
      go_wp2_with fail
      refine (hAb.out _ _ hx).mono ?_
      rintro e w' ⟨rfl, n2, rfl⟩
      go_wp2_with fail
      go_ret
      exact Ret.eq _ (ret_int (by rw [← hG.out, hx1.out]))
    · have h1 := Int.natAbs_tmod x y
      have h2 : x.natAbs % y.natAbs < y.natAbs := Nat.mod_lt _ (by omega)
      have h3 : x.natAbs % y.natAbs ≤ x.natAbs := Nat.mod_le _ _
      rw [← h1] at h2 h3
      clear h1
      have hyl : -4611686018427387904 ≤ y := by omega
      have hyu : y ≤ 4611686018427387904 := by omega
      have hz1 : -4611686018427387904 ≤ x.tmod y := by omega
      have hz2 : x.tmod y ≤ 4611686018427387904 := by omega
      have hb : (!(y == 0)) = true := by simp [hy0]
      go_wp2
      go_quiet (fail)
      go_wp2
      exact ⟨⟨y, x.tmod y, rfl, rfl, hy, by omega, by rw [gcd_tmod]; exact hG.out, n + nq, by rw [World.drewN_drewN]⟩, h2⟩
end Go.Proofs.YtfjmhfmhijhpkaaGreatDoor
