/- Contracts of the reference's functions on machine integers, part A. Contracts of the reference's functions on machine integers, part B: the Hilbert symbol. Contracts of the reference's functions on machine integers, part C: the reference's Hilbert symbol. Small functions of the verifier's base: Mod, Within, Abs. Bezout of the program. Inverse of the program and of the reference; Bezout of the reference; small functions of the verifier. Jacobi, Legendre, Valuation of the program; Gcd of the verifier's base. -/
import Derived.Test.YtimdkjbmeogpoaaGreatDoorUIntF
import Derived.Test.YtimdkjbmeogpoaaGreatDoorUIntA
namespace Go.Proofs.YtimdkjbmeogpoaaGreatDoor
open Go.RowKit FF
set_option maxHeartbeats 400000 in
theorem rMod_any (a m : Int) (w : World) (ha : I64 a) (h3 : 0 < m) (hm : I64 m) :
  Calls Tryz.prog 129 #[.int .i64 a, .int .i64 m] w (Ret w (.int .i64 (a % m))) := by
 obtain ⟨h1, h2⟩ := ha
 obtain ⟨_, h4⟩ := hm
 have t1 := Int.tmod_lt_of_pos a h3
 have t2 := Int.lt_tmod_of_pos a h3
 have ee := lhd (tmod_emod (a := a) h3)
 go_enter Tryz.func129, Tryz.ntmps129
 go_wp2
 ·have hlt : a.tmod m < 0 := by assumption
  go_ret
  exact Ret.eq0 (ret_int (by rw [ee.out, if_pos hlt]))
 ·have hlt : 0 ≤ a.tmod m := by assumption
  go_ret
  exact Ret.eq0 (ret_int (by rw [ee.out, if_neg (by omega)]))
def winB (n lo hi : Int) : Bool := decide (lo ≤ n) && decide (n ≤ hi)
set_option maxHeartbeats 400000 in
theorem rWithin_any (n lo hi : Int) (w : World) :
  Calls Tryz.prog 153 #[.int .i64 n, .int .i64 lo, .int .i64 hi] w (Ret w (.bool (winB n lo hi))) := by
 have hF := lhd (show (decide (lo ≤ n) && decide (n ≤ hi)) = winB n lo hi from rfl)
 go_enter Tryz.func153, Tryz.ntmps153
 by_cases h1 : lo ≤ n
 ·have hF2 := lhd (show decide (n ≤ hi) = winB n lo hi by rw [← hF.out, decide_eq_true h1]; rfl)
  clear hF
  go_wp2
  go_ret
  exact Ret.eq0 (ret_bool hF2.out)
 ·have hF2 := lhd (show false = winB n lo hi by rw [← hF.out, decide_eq_false h1]; rfl)
  clear hF
  go_wp2
  go_ret
  exact Ret.eq0 (ret_bool hF2.out)
set_option maxHeartbeats 400000 in
theorem rPower_any (a n m : Int) (w : World) (ha : I64 a) (hn : 0 ≤ n) (hn' : I64 n) (h1 : 1 ≤ m) (h2 : m ≤ 1000000000) :
    Calls Tryz.prog 154 #[.int .i64 a, .int .i64 n, .int .i64 m] w (Ret w (.int .i64 (a ^ n.toNat % m))) := by
  have hmm : I64 m := ⟨by omega, by omega⟩
  have o0 := Int.emod_nonneg 1 (b := m) (by omega)
  have o1 := Int.emod_lt_of_pos 1 (b := m) (by omega)
  have x0 := Int.emod_nonneg a (b := m) (by omega)
  have x1 := Int.emod_lt_of_pos a (b := m) (by omega)
  have hst := lhd (show 1 % m * (a % m) ^ n.toNat % m = a ^ n.toNat % m from by
    have := ((Cg.emod m 1).mul ((Cg.emod m a).pow n.toNat)).emod_eq; rwa [Int.one_mul] at this)
  obtain ⟨_, hn''⟩ := hn'
  go_enter Tryz.func154, Tryz.ntmps154
  go_wp2_with fail
  refine (rMod_any 1 m _ ⟨by omega, by omega⟩ (by omega) hmm).mono ?_
  rintro e w' ⟨rfl, n0, rfl⟩
  go_wp2_with fail
  refine (rMod_any a m _ ha (by omega) hmm).mono ?_
  rintro e w' ⟨rfl, n1, rfl⟩
  clear ha hmm
  go_wp2_with fail
  go_loopw [0, 1, 7] (fun s t u wr => ∃ x y o : Int, s = .int .i64 x ∧ t = .int .i64 y ∧ u = .int .i64 o ∧ 0 ≤ x ∧ x < m ∧ 0 ≤ y ∧ y ≤ 9223372036854775807 ∧ 0 ≤ o ∧ o < m ∧ o * x ^ y.toNat % m = a ^ n.toNat % m ∧ ∃ n, wr = w.drewN n) (fun _ t _ _ => (intOf t).toNat)
  case atStart => exact ⟨a % m, n, 1 % m, rfl, rfl, rfl, x0, x1, hn, hn'', o0, o1, hst.out, _, rfl⟩
  case round =>
    clear hst
    obtain ⟨x, y, o, rfl, rfl, rfl, hx0, hx1, hy0, hy1, ho0, ho1, he, n2, rfl⟩ := hrel
    have hE := lhd he; clear he
    obtain ⟨b1, b2⟩ := mul_le_sq ho0 ho1 hx0 hx1 h2
    obtain ⟨b3, b4⟩ := mul_le_sq hx0 hx1 hx0 hx1 h2
    have hS := lhd (pow_step (m := m) (o := o) (x := x) y.toNat)
    have m1 := Int.emod_nonneg (x * x) (b := m) (by omega)
    have m2 := Int.emod_lt_of_pos (x * x) (b := m) (by omega)
    have m3 := Int.emod_nonneg (o * x) (b := m) (by omega)
    have m4 := Int.emod_lt_of_pos (o * x) (b := m) (by omega)
    go_wp2
    · have hy : 0 < y := by assumption
      have hodd : y.toNat % 2 = 1 := by have h : (y % 2 == 1) = true := by assumption
                                        rw [beq_iff_eq] at h; omega
      refine ⟨⟨x * x % m, y / 2, o * x % m, rfl, rfl, rfl, m1, m2, by omega, by omega, m3, m4, ?_, n2, rfl⟩, ?_⟩
      · rw [← hE.out, hS.out, if_pos hodd]; congr 3; omega
      · show (y / 2).toNat < y.toNat; omega
    · have hy : 0 < y := by assumption
      have hodd : ¬ y.toNat % 2 = 1 := by have h : (y % 2 == 1) = false := by assumption
                                          rw [beq_eq_false_iff_ne] at h; omega
      refine ⟨⟨x * x % m, y / 2, o, rfl, rfl, rfl, m1, m2, by omega, by omega, ho0, ho1, ?_, n2, rfl⟩, ?_⟩
      · rw [← hE.out, hS.out, if_neg hodd]; congr 3; omega
      · show (y / 2).toNat < y.toNat; omega
    · have hy : y = 0 := by have : y ≤ 0 := by assumption
                            omega
      subst hy
      go_ret
      refine Ret.eq n2 (ret_int ?_)
      rw [← hE.out]
      simp only [Int.toNat_zero, Int.pow_zero, Int.mul_one]
      exact (Int.emod_eq_of_lt ho0 ho1).symm
theorem isPB_small {n : Int} (h : n < 2) : isPB n = false := by
 rw [isPB_false]; rintro ⟨h1, _⟩; have := h1.1; omega
theorem isPB_big {n : Int} (h : 1000000000 < n) : isPB n = false := by
 rw [isPB_false]; rintro ⟨_, h1⟩; omega
theorem isPB_dvd {n d : Int} (hn : 2 ≤ n) (hd : 2 ≤ d) (hdd : d * d ≤ n) (h : n % d = 0) : isPB n = false := by
  rw [isPB_false]
  rintro ⟨h1, _⟩
  obtain ⟨N, rfl⟩ : ∃ N : Nat, n = (N : Int) := ⟨n.toNat, by omega⟩
  obtain ⟨D, rfl⟩ : ∃ D : Nat, d = (D : Int) := ⟨d.toNat, by omega⟩
  rw [Int.toNat_natCast] at h1
  have hdN : D ∣ N := Int.natCast_dvd_natCast.1 (Int.dvd_of_emod_eq_zero h)
  have : D * D ≤ N := by have : ((D * D : Nat) : Int) ≤ N := by push_cast; exact hdd
                         omega
  have h2 : D * 2 ≤ D * D := Nat.mul_le_mul_left _ (by omega)
  exact h1.not_dvd_of_lt (by omega) (by omega) hdN
theorem isPB_of_trial {n d : Int} (hn : 2 ≤ n) (hn2 : n ≤ 1000000000) (hd : 2 ≤ d) (hdd : n < d * d) (h : ∀ e : Int, 2 ≤ e → e < d → n % e ≠ 0) : isPB n = true := by
 rw [isPB_iff]
 refine ⟨isP_of_trial (by omega) fun e he hee hen => ?_, hn2⟩
 have h1 : ((e * e : Nat) : Int) ≤ n := by omega
 push_cast at h1
 have h2 : (e : Int) < d := by
  apply Classical.byContradiction; intro hc
  have h3 : d * d ≤ (e : Int) * d := Int.mul_le_mul_of_nonneg_right (by omega) (by omega)
  have h4 : (e : Int) * d ≤ (e : Int) * e := Int.mul_le_mul_of_nonneg_left (by omega) (by omega)
  omega
 refine h e (by omega) h2 ?_
 have : ((e : Int) ∣ n) := by
  have := Int.natCast_dvd_natCast.2 hen
  rwa [show ((n.toNat : Nat) : Int) = n by omega] at this
 exact Int.emod_eq_zero_of_dvd this
set_option maxHeartbeats 400000 in
theorem rIsPrime_any (n : Int) (w : World) :
  Calls Tryz.prog 84 #[.int .i64 n] w (Ret w (.bool (isPB n))) := by
 by_cases h1 : n < 2
 ·have hF := lhd (isPB_small h1)
  go_enter Tryz.func84, Tryz.ntmps84
  go_wp2
  go_ret
  exact Ret.eq0 (ret_bool hF.out.symm)
 by_cases h2 : 1000000000 < n
 ·have hF := lhd (isPB_big h2)
  go_enter Tryz.func84, Tryz.ntmps84
  go_wp2
  go_ret
  exact Ret.eq0 (ret_bool hF.out.symm)
 have g1 : 2 ≤ n := by omega
 have g2 : n ≤ 1000000000 := by omega
 clear h1 h2
 go_enter Tryz.func84, Tryz.ntmps84
 go_wp2
 go_loop [3] (fun t => ∃ d : Int, t = .int .i64 d ∧ 2 ≤ d ∧ d ≤ 100000 ∧ (∀ e : Int, 2 ≤ e → e < d → n % e ≠ 0)) (fun t => (100000 - intOf t).toNat)
 case atStart => exact ⟨2, rfl, by omega, by omega, fun e h h' => by omega⟩
 case round =>
  obtain ⟨d, rfl, h1, h2, h3⟩ := hrel
  have H3 := lhd h3; clear h3
  have b1 : 0 ≤ d * d := Int.mul_nonneg (by omega) (by omega)
  have b2 : d * d ≤ 10000000000 := by
   have x1 : d * d ≤ 100000 * d := Int.mul_le_mul_of_nonneg_right (by omega) (by omega)
   omega
  by_cases c1 : d * d ≤ n
  ·by_cases c2 : n % d = 0
   ·have hF := lhd (isPB_dvd g1 h1 c1 c2)
    have d1 := t_beq c2
    clear c2
    go_wp2
    go_ret
    exact Ret.eq0 (ret_bool hF.out.symm)
   ·have d1 := f_beq c2
    have hlt : d < 100000 := by
     apply Classical.byContradiction; intro hc
     have x1 : 100000 * 100000 ≤ 100000 * d := Int.mul_le_mul_of_nonneg_left (by omega) (by omega)
     have x2 : 100000 * d ≤ d * d := Int.mul_le_mul_of_nonneg_right (by omega) (by omega)
     omega
    have hN : Hid (∀ e : Int, 2 ≤ e → e < d + 1 → n % e ≠ 0) := lhd (fun e he1 he2 => by
     by_cases hed : e = d
     ·rw [hed]; exact c2
     ·exact H3.out e he1 (by omega))
    clear c2
    go_wp2
    exact ⟨⟨d + 1, rfl, by omega, by omega, hN.out⟩, by simp [intOf]; omega⟩
  ·have hF := lhd (isPB_of_trial g1 g2 h1 (by omega) H3.out)
   go_wp2
   go_ret
   exact Ret.eq0 (ret_bool hF.out.symm)
set_option maxHeartbeats 400000 in
theorem rLegendre_any (a p : Int) (w : World) (ha : I64 a) (hp : IsP p.toNat) (hp2 : 2 < p) (hpl : p ≤ 1000000000) :
  Calls Tryz.prog 130 #[.int .i64 a, .int .i64 p] w (Ret w (.int .i64 (leg a p.toNat))) := by
 have hP := fun w => rPower_any a ((p - 1) / 2) p w ha (by omega) ⟨by omega, by omega⟩ (by omega) hpl
 have hc := (leg_cg hp (by omega) a).emod_eq
 have e1 : ((p - 1) / 2).toNat = (p.toNat - 1) / 2 := by omega
 rw [e1] at hP
 rw [show ((p.toNat : Nat) : Int) = p by omega] at hc
 have hl := leg_bound a p.toNat
 generalize a ^ ((p.toNat - 1) / 2) % p = x at *
 have hl3 : leg a p.toNat = -1 ∨ leg a p.toNat = 0 ∨ leg a p.toNat = 1 := by omega
 have HP := lhd hP
 clear hP hp
 generalize hL : leg a p.toNat = l at *
 clear hL
 rcases hl3 with h | h | h
 ·have hx : x = p - 1 := by
   rw [← hc, h]
   have : (-1 : Int) % p = (p - 1) % p := Cg.emod_eq ⟨-1, by omega⟩
   rw [this]; exact Int.emod_eq_of_lt (by omega) (by omega)
  subst hx
  subst h
  clear hc
  have d1 : (p - 1 == 0) = false := f_beq (by omega)
  have d2 : (p - 1 == 1) = false := f_beq (by omega)
  go_enter Tryz.func130, Tryz.ntmps130
  go_wp2_with fail
  refine (HP.out _).mono ?_
  rintro e w' ⟨rfl, n1, rfl⟩
  go_wp2
  go_ret
  exact Ret.eq _ rfl
 ·have hx : x = 0 := by rw [← hc, h]; rfl
  subst hx
  subst h
  clear hc
  go_enter Tryz.func130, Tryz.ntmps130
  go_wp2_with fail
  refine (HP.out _).mono ?_
  rintro e w' ⟨rfl, n1, rfl⟩
  go_wp2
  go_ret
  exact Ret.eq _ rfl
 ·have hx : x = 1 := by rw [← hc, h]; exact Int.emod_eq_of_lt (by omega) (by omega)
  subst hx
  subst h
  clear hc
  go_enter Tryz.func130, Tryz.ntmps130
  go_wp2_with fail
  refine (HP.out _).mono ?_
  rintro e w' ⟨rfl, n1, rfl⟩
  go_wp2
  go_ret
  exact Ret.eq _ rfl
end Go.Proofs.YtimdkjbmeogpoaaGreatDoor
namespace Go.Proofs.YtimdkjbmeogpoaaGreatDoor
open Go.RowKit FF
set_option maxHeartbeats 1000000 in
theorem rCheckHilbert_any (a b p : Int) (w : World) :
  Calls Tryz.prog 128 #[.int .i64 a, .int .i64 b, .int .i64 p] w (Ret w (.int .i64 (hilE a b p))) := by
 by_cases ha : a = 0
 ·have hF := lhd (show hilE a b p = 10 by unfold hilE; rw [if_pos (Or.inl ha)])
  subst ha
  go_enter Tryz.func128, Tryz.ntmps128
  go_wp2
  go_ret
  exact Ret.eq0 (ret_int hF.out.symm)
 by_cases hb : b = 0
 ·have hF := lhd (show hilE a b p = 10 by unfold hilE; rw [if_pos (Or.inr hb)])
  subst hb
  have d1 := f_beq ha
  go_enter Tryz.func128, Tryz.ntmps128
  go_wp2
  go_ret
  exact Ret.eq0 (ret_int hF.out.symm)
 have d1 := f_beq ha
 have d2 := f_beq hb
 have iA := fun w => rWithin_any a (-1000000000) 1000000000 w
 have iB := fun w => rWithin_any b (-1000000000) 1000000000 w
 change ∀ w, Calls _ _ _ w (Ret w (.bool (inB a))) at iA
 change ∀ w, Calls _ _ _ w (Ret w (.bool (inB b))) at iB
 cases ca : inB a
 ·have hF := lhd (show hilE a b p = 2 by unfold hilE; rw [if_neg (by rintro (h | h); exact ha h; exact hb h), if_pos (Or.inl ca)])
  rw [ca] at iA
  have IA := lhd iA
  clear iA iB ca ha hb
  go_enter Tryz.func128, Tryz.ntmps128
  go_wp2_with fail
  refine (IA.out _).mono ?_
  rintro e w' ⟨rfl, n1, rfl⟩
  go_wp2
  go_ret
  exact Ret.eq _ (ret_int hF.out.symm)
 cases cb : inB b
 ·have hF := lhd (show hilE a b p = 2 by unfold hilE; rw [if_neg (by rintro (h | h); exact ha h; exact hb h), if_pos (Or.inr cb)])
  rw [ca] at iA
  rw [cb] at iB
  have IA := lhd iA
  have IB := lhd iB
  clear iA iB ca cb ha hb
  go_enter Tryz.func128, Tryz.ntmps128
  go_wp2_with fail
  refine (IA.out _).mono ?_
  rintro e w' ⟨rfl, n1, rfl⟩
  go_wp2_with fail
  refine (IB.out _).mono ?_
  rintro e w' ⟨rfl, n2, rfl⟩
  go_wp2
  go_ret
  exact Ret.eq _ (ret_int hF.out.symm)
 have hE := lhd (show hilE a b p = if p ≠ 0 ∧ isPB p = false then 11 else 0 by
  unfold hilE; rw [if_neg (by rintro (h | h); exact ha h; exact hb h), if_neg (by rw [ca, cb]; simp)])
 have ra := inB_iff.1 ca
 have rb := inB_iff.1 cb
 rw [ca] at iA
 rw [cb] at iB
 have IA := lhd iA
 have IB := lhd iB
 have iP := fun w => rIsPrime_any p w
 by_cases hp : p = 0
 ·have hF := lhd (show hilE a b p = 0 by rw [hE.out, if_neg (fun h => h.1 hp)])
  clear hE iA iB ca cb ha hb iP ra rb
  subst hp
  go_enter Tryz.func128, Tryz.ntmps128
  go_wp2_with fail
  refine (IA.out _).mono ?_
  rintro e w' ⟨rfl, n1, rfl⟩
  go_wp2_with fail
  refine (IB.out _).mono ?_
  rintro e w' ⟨rfl, n2, rfl⟩
  go_wp2
  go_ret
  exact Ret.eq _ (ret_int hF.out.symm)
 have d3 : (p != 0) = true := bne_iff_ne.2 hp
 cases cp : isPB p
 ·have hF := lhd (show hilE a b p = 11 by rw [hE.out, if_pos ⟨hp, cp⟩])
  rw [cp] at iP
  have IP := lhd iP
  clear hE iA iB ca cb ha hb iP cp hp
  go_enter Tryz.func128, Tryz.ntmps128
  go_wp2_with fail
  refine (IA.out _).mono ?_
  rintro e w' ⟨rfl, n1, rfl⟩
  go_wp2_with fail
  refine (IB.out _).mono ?_
  rintro e w' ⟨rfl, n2, rfl⟩
  go_wp2_with fail
  refine (IP.out _).mono ?_
  rintro e w' ⟨rfl, n3, rfl⟩
  go_wp2
  go_ret
  exact Ret.eq _ (ret_int hF.out.symm)
 ·have hF := lhd (show hilE a b p = 0 by rw [hE.out, if_neg (fun h => by rw [cp] at h; exact absurd h.2 (by simp))])
  rw [cp] at iP
  have IP := lhd iP
  clear hE iA iB ca cb ha hb iP cp hp ra rb
  go_enter Tryz.func128, Tryz.ntmps128
  go_wp2_with fail
  refine (IA.out _).mono ?_
  rintro e w' ⟨rfl, n1, rfl⟩
  go_wp2_with fail
  refine (IB.out _).mono ?_
  rintro e w' ⟨rfl, n2, rfl⟩
  go_wp2_with fail
  refine (IP.out _).mono ?_
  rintro e w' ⟨rfl, n3, rfl⟩
  go_wp2
  go_ret
  exact Ret.eq _ (ret_int hF.out.symm)
theorem hil_at2 (a b : Int) (ha : a ≠ 0) (hb : b ≠ 0) : Hil a b 2 =
  if ((rest 2 a % 8 - 1) / 2 * ((rest 2 b % 8 - 1) / 2) + (vp 2 a : Int) * ((rest 2 b % 8 * (rest 2 b % 8) - 1) / 8) + (vp 2 b : Int) * ((rest 2 a % 8 * (rest 2 a % 8) - 1) / 8)) % 2 = 1 then -1 else 1 := by
 rw [← hil2_sum (odd_rest_two ha) (odd_rest_two hb)]
 unfold Hil; rw [if_neg (by omega), if_pos rfl]
theorem hil_atp {a b p : Int} (ha : a ≠ 0) (hb : b ≠ 0) (hp : IsP p.toNat) (hp2 : 2 < p) : Hil a b p =
  if ((vp p a : Int) * (vp p b) * ((p - 1) / 2) + (if leg (rest p a) p.toNat < 0 then (vp p b : Int) else 0) + (if leg (rest p b) p.toNat < 0 then (vp p a : Int) else 0)) % 2 = 1 then -1 else 1 := by
 have h1 : Hil a b p = hilp (oddB (vp p a)) (oddB (vp p b)) (three p) (leg (rest p a) p.toNat) (leg (rest p b) p.toNat) := by
  unfold Hil; rw [if_neg (by omega), if_neg (by omega)]
 have e1 : ((p.toNat : Nat) : Int) = p := by omega
 have n1 : ¬ ((p.toNat : Nat) : Int) ∣ rest p a := by rw [e1]; exact not_dvd_rest (by omega) ha
 have n2 : ¬ ((p.toNat : Nat) : Int) ∣ rest p b := by rw [e1]; exact not_dvd_rest (by omega) hb
 have hodd := hp.odd (by omega)
 rw [h1, hilp_sum (h := ((p - 1) / 2).toNat) (leg_ne n1) (leg_ne n2) (by unfold three; rw [beq_iff_eq]; omega)]
 generalize leg (rest p a) p.toNat = x at *
 generalize leg (rest p b) p.toNat = y at *
 have e2 : ((vp p a * vp p b * ((p - 1) / 2).toNat : Nat) : Int) = (vp p a : Int) * (vp p b) * ((p - 1) / 2) := by
  push_cast; rw [show ((((p - 1) / 2).toNat : Nat) : Int) = (p - 1) / 2 by omega]
 rw [← e2]
 generalize vp p a * vp p b * ((p - 1) / 2).toNat = q
 by_cases c1 : x < 0 <;> by_cases c2 : y < 0 <;> simp only [c1, c2, if_true, if_false] <;>
  (congr 1; rw [eq_iff_iff]; omega)
end Go.Proofs.YtimdkjbmeogpoaaGreatDoor
namespace Go.Proofs.YtimdkjbmeogpoaaGreatDoor
open Go.RowKit FF
theorem mul_le {x y a b : Int} (hx : 0 ≤ x) (hx' : x ≤ a) (hy : 0 ≤ y) (hy' : y ≤ b) : 0 ≤ x * y ∧ x * y ≤ a * b :=
 ⟨Int.mul_nonneg hx hy, Int.mul_le_mul hx' hy' hy (by omega)⟩
set_option maxHeartbeats 4000000 in
theorem rHilbert_pos (a b p : Int) (w : World) (h0 : hilE a b p = 0) (h2 : 2 ≤ p) (hpl : p ≤ 1000000000) (hpp : IsP p.toNat)
  (ha0 : a ≠ 0) (hb0 : b ≠ 0) (a1 : -1000000000 ≤ a) (a2 : a ≤ 1000000000) (b1 : -1000000000 ≤ b) (b2 : b ≤ 1000000000) :
  Calls Tryz.prog 85 #[.int .i64 a, .int .i64 b, .int .i64 p] w (Ret w (.tuple #[.int .i64 (Hil a b p), .int .i64 0])) := by
 have hC := fun w => rCheckHilbert_any a b p w
 rw [h0] at hC
 have HC := lhd hC; clear hC h0
 have f2 := lhd (fun h : p = 2 => (show Hil a b p = if ((rest p a % 8 - 1) / 2 * ((rest p b % 8 - 1) / 2) + (vp p a : Int) * ((rest p b % 8 * (rest p b % 8) - 1) / 8) + (vp p b : Int) * ((rest p a % 8 * (rest p a % 8) - 1) / 8)) % 2 = 1 then -1 else 1 by subst h; exact hil_at2 a b ha0 hb0))
 have fp := lhd (fun h : 2 < p => hil_atp ha0 hb0 hpp h)
 have jU := lhd (fun (h : 2 < p) w => rLegendre_any (rest p a) p w (rest_i64 h2 ha0 (by omega) (by omega)) hpp h hpl)
 have jV := lhd (fun (h : 2 < p) w => rLegendre_any (rest p b) p w (rest_i64 h2 hb0 (by omega) (by omega)) hpp h hpl)
 have bu := leg_bound (rest p a) p.toNat
 have bv := leg_bound (rest p b) p.toNat
 have oU := lhd (fun h : p = 2 => (show rest p a % 2 = 1 by rw [h]; exact odd_rest_two ha0))
 have oV := lhd (fun h : p = 2 => (show rest p b % 2 = 1 by rw [h]; exact odd_rest_two hb0))
 have ui := rest_i64 h2 ha0 (by omega) (by omega)
 have vi := rest_i64 h2 hb0 (by omega) (by omega)
 have hvp : ∀ n : Int, n ≠ 0 → -1000000000 ≤ n → n ≤ 1000000000 → vp p n < 31 := by
  intro n hn g1 g2
  have h3 := vp_lt h2 hn
  have h4 : n.natAbs < 2 ^ 31 := by omega
  exact (Nat.pow_lt_pow_iff_right (by omega)).1 (Nat.lt_of_le_of_lt h3 h4)
 have hi := hvp a ha0 a1 a2
 have hk := hvp b hb0 b1 b2
 clear hvp
 generalize hR : Hil a b p = R at *
 have hA0 := lhd ha0; have hB0 := lhd hb0; clear ha0 hb0 hR hpp
 generalize hii : vp p a = i at *
 generalize huu : rest p a = u at *
 generalize hkk : vp p b = k at *
 generalize hvv : rest p b = v at *
 generalize leg u p.toNat = ju at *
 generalize leg v p.toNat = jv at *
 have HI := lhd hii; have HU := lhd huu; have HK := lhd hkk; have HV := lhd hvv
 clear hii huu hkk hvv
 have hp0 : (p == 0) = false := f_beq (by omega)
 go_enter Tryz.func85, Tryz.ntmps85
 go_wp2_with fail
 refine (HC.out _).mono ?_
 rintro e w' ⟨rfl, n0, rfl⟩
 clear HC
 go_wp2_with fail
 go_loop [0, 9] (fun t s => ∃ (x : Int) (kk : Nat), t = .int .i64 x ∧ s = .int .i64 kk ∧ x ≠ 0 ∧ -1000000000 ≤ x ∧ x ≤ 1000000000 ∧ kk + vp p x = i ∧ rest p x = u) (fun t _ => (intOf t).natAbs)
 case atStart => exact ⟨a, 0, rfl, rfl, hA0.out, a1, a2, by rw [HI.out]; omega, HU.out⟩
 case round =>
  clear HI HU hA0 a1 a2
  obtain ⟨x, kk, rfl, rfl, hx0, hxl, hxu, hk, hr⟩ := hrel
  have hkb : kk ≤ i := by omega
  by_cases hd : p ∣ x
  ·have ht : (x.tmod p == 0) = true := by rw [beq_iff_eq]; exact Int.tmod_eq_zero_of_dvd hd
   have hq := lhd (Int.tdiv_eq_ediv_of_dvd hd)
   have hlt := natAbs_div_lt h2 hx0 hd
   rw [← hq.out] at hlt
   have hv := lhd (vp_dvd h2 hx0 hd)
   have hr2 := lhd (rest_dvd h2 hx0 hd)
   have hk2 := lhd hk; have hr3 := lhd hr
   clear hk hr hd
   go_wp2
   exact ⟨⟨x.tdiv p, kk + 1, rfl, by go_num, hlt.2, by omega, by omega, by rw [← hk2.out, hv.out, hq.out]; omega, by rw [← hr3.out, hr2.out, hq.out]⟩, hlt.1⟩
  ·have ht : (x.tmod p == 0) = false := by rw [beq_eq_false_iff_ne]; exact fun e => hd (Int.dvd_of_tmod_eq_zero e)
   have e1 := vp_not hd
   have e2 := rest_not hd
   obtain rfl : u = x := by rw [← hr, e2]
   obtain rfl : i = kk := by omega
   clear hk hr hd e1 e2 hx0 hxl hxu hkb
   go_wp2_with fail
   clear ht
   go_loop [1, 10] (fun t s => ∃ (y : Int) (kk : Nat), t = .int .i64 y ∧ s = .int .i64 kk ∧ y ≠ 0 ∧ -1000000000 ≤ y ∧ y ≤ 1000000000 ∧ kk + vp p y = k ∧ rest p y = v) (fun t _ => (intOf t).natAbs)
   case atStart => exact ⟨b, 0, rfl, rfl, hB0.out, b1, b2, by rw [HK.out]; omega, HV.out⟩
   case round =>
    clear HK HV hB0 b1 b2
    obtain ⟨y, kk, rfl, rfl, hy0, hyl, hyu, hkk, hr⟩ := hrel
    have hkb : kk ≤ k := by omega
    by_cases hd : p ∣ y
    ·have ht : (y.tmod p == 0) = true := by rw [beq_iff_eq]; exact Int.tmod_eq_zero_of_dvd hd
     have hq := lhd (Int.tdiv_eq_ediv_of_dvd hd)
     have hlt := natAbs_div_lt h2 hy0 hd
     rw [← hq.out] at hlt
     have hv := lhd (vp_dvd h2 hy0 hd)
     have hr2 := lhd (rest_dvd h2 hy0 hd)
     have hk2 := lhd hkk; have hr3 := lhd hr
     clear hkk hr hd
     go_wp2
     exact ⟨⟨y.tdiv p, kk + 1, rfl, by go_num, hlt.2, by omega, by omega, by rw [← hk2.out, hv.out, hq.out]; omega, by rw [← hr3.out, hr2.out, hq.out]⟩, hlt.1⟩
    ·have ht : (y.tmod p == 0) = false := by rw [beq_eq_false_iff_ne]; exact fun e => hd (Int.dvd_of_tmod_eq_zero e)
     have e1 := vp_not hd
     have e2 := rest_not hd
     obtain rfl : v = y := by rw [← hr, e2]
     obtain rfl : k = kk := by omega
     clear hkk hr hd e1 e2 hy0 hyl hyu hkb
     by_cases hp2 : p = 2
     ·have hH := f2.out hp2
      have mu := fun w => rMod_any u 8 w ui (by omega) ⟨by omega, by omega⟩
      have mv := fun w => rMod_any v 8 w vi (by omega) ⟨by omega, by omega⟩
      have u0 := oU.out hp2
      have v0 := oV.out hp2
      have u1 : u % 8 = 1 ∨ u % 8 = 3 ∨ u % 8 = 5 ∨ u % 8 = 7 := by omega
      have v1 : v % 8 = 1 ∨ v % 8 = 3 ∨ v % 8 = 5 ∨ v % 8 = 7 := by omega
      clear f2 fp jU jV oU oV u0 v0 ui vi
      generalize u % 8 = u8 at *
      generalize v % 8 = v8 at *
      have MU := lhd mu; have MV := lhd mv; clear mu mv
      have p1 : 0 ≤ (u8 - 1) / 2 * ((v8 - 1) / 2) ∧ (u8 - 1) / 2 * ((v8 - 1) / 2) ≤ 3 * 3 := mul_le (by omega) (by omega) (by omega) (by omega)
      have p2 : 0 ≤ u8 * u8 ∧ u8 * u8 ≤ 7 * 7 := mul_le (by omega) (by omega) (by omega) (by omega)
      have p3 : 0 ≤ v8 * v8 ∧ v8 * v8 ≤ 7 * 7 := mul_le (by omega) (by omega) (by omega) (by omega)
      have q2 : 1 ≤ u8 * u8 := by rcases u1 with h | h | h | h <;> rw [h] <;> omega
      have q3 : 1 ≤ v8 * v8 := by rcases v1 with h | h | h | h <;> rw [h] <;> omega
      have p4 : 0 ≤ (i : Int) * ((v8 * v8 - 1) / 8) ∧ (i : Int) * ((v8 * v8 - 1) / 8) ≤ 31 * 6 := mul_le (by omega) (by omega) (by omega) (by omega)
      have p5 : 0 ≤ (k : Int) * ((u8 * u8 - 1) / 8) ∧ (k : Int) * ((u8 * u8 - 1) / 8) ≤ 31 * 6 := mul_le (by omega) (by omega) (by omega) (by omega)
      obtain ⟨p1a, p1b⟩ := p1
      obtain ⟨p2a, p2b⟩ := p2
      obtain ⟨p3a, p3b⟩ := p3
      obtain ⟨p4a, p4b⟩ := p4
      obtain ⟨p5a, p5b⟩ := p5
      have u8l : 1 ≤ u8 := by omega
      have u8u : u8 ≤ 7 := by omega
      have v8l : 1 ≤ v8 := by omega
      have v8u : v8 ≤ 7 := by omega
      clear u1 v1
      subst hp2
      rcases Bool.eq_false_or_eq_true (((u8 - 1) / 2 * ((v8 - 1) / 2) + (i : Int) * ((v8 * v8 - 1) / 8) + (k : Int) * ((u8 * u8 - 1) / 8)) % 2 == 1) with d | d
      ·have hY := lhd (hH.trans (if_pos (beq_t d)))
       clear hH
       go_wp2_with fail
       refine (MU.out _).mono ?_
       rintro e w' ⟨rfl, n3, rfl⟩
       go_wp2_with fail
       refine (MV.out _).mono ?_
       rintro e w' ⟨rfl, n4, rfl⟩
       go_wp2
       go_ret2
       exact Ret.eq _ (ret_two hY.out.symm rfl)
      ·have hY := lhd (hH.trans (if_neg (beq_f d)))
       clear hH
       go_wp2_with fail
       refine (MU.out _).mono ?_
       rintro e w' ⟨rfl, n3, rfl⟩
       go_wp2_with fail
       refine (MV.out _).mono ?_
       rintro e w' ⟨rfl, n4, rfl⟩
       go_wp2
       go_ret2
       exact Ret.eq _ (ret_two hY.out.symm rfl)
     ·have hp3 : 2 < p := by omega
      have hH := fp.out hp3
      have JU := lhd (jU.out hp3)
      have JV := lhd (jV.out hp3)
      clear f2 fp jU jV oU oV
      have d2 : (p == 2) = false := f_beq hp2
      obtain ⟨bu1, bu2⟩ := bu
      obtain ⟨bv1, bv2⟩ := bv
      have p1 : 0 ≤ (i : Int) * (k : Int) ∧ (i : Int) * (k : Int) ≤ 31 * 31 := mul_le (by omega) (by omega) (by omega) (by omega)
      have p2 : 0 ≤ (i : Int) * (k : Int) * ((p - 1) / 2) ∧ (i : Int) * (k : Int) * ((p - 1) / 2) ≤ 31 * 31 * 500000000 := mul_le p1.1 p1.2 (by omega) (by omega)
      obtain ⟨p1a, p1b⟩ := p1
      obtain ⟨p2a, p2b⟩ := p2
      clear hp2
      by_cases c1 : ju < 0 <;> by_cases c2 : jv < 0
      ·have hX : R = if ((i : Int) * (k : Int) * ((p - 1) / 2) + (k : Int) + (i : Int)) % 2 = 1 then -1 else 1 := by rw [hH, if_pos c1, if_pos c2]
       clear hH
       rcases Bool.eq_false_or_eq_true (((i : Int) * (k : Int) * ((p - 1) / 2) + (k : Int) + (i : Int)) % 2 == 1) with d | d
       ·have hY := lhd (hX.trans (if_pos (beq_t d)))
        clear hX
        go_wp2_with fail
        refine (JU.out _).mono ?_
        rintro e w' ⟨rfl, n3, rfl⟩
        go_wp2_with fail
        refine (JV.out _).mono ?_
        rintro e w' ⟨rfl, n4, rfl⟩
        go_wp2
        go_ret2
        exact Ret.eq _ (ret_two hY.out.symm rfl)
       ·have hY := lhd (hX.trans (if_neg (beq_f d)))
        clear hX
        go_wp2_with fail
        refine (JU.out _).mono ?_
        rintro e w' ⟨rfl, n3, rfl⟩
        go_wp2_with fail
        refine (JV.out _).mono ?_
        rintro e w' ⟨rfl, n4, rfl⟩
        go_wp2
        go_ret2
        exact Ret.eq _ (ret_two hY.out.symm rfl)
      ·have hX : R = if ((i : Int) * (k : Int) * ((p - 1) / 2) + (k : Int)) % 2 = 1 then -1 else 1 := by rw [hH, if_pos c1, if_neg c2]; congr 2; omega
       clear hH
       rcases Bool.eq_false_or_eq_true (((i : Int) * (k : Int) * ((p - 1) / 2) + (k : Int)) % 2 == 1) with d | d
       ·have hY := lhd (hX.trans (if_pos (beq_t d)))
        clear hX
        go_wp2_with fail
        refine (JU.out _).mono ?_
        rintro e w' ⟨rfl, n3, rfl⟩
        go_wp2_with fail
        refine (JV.out _).mono ?_
        rintro e w' ⟨rfl, n4, rfl⟩
        go_wp2
        go_ret2
        exact Ret.eq _ (ret_two hY.out.symm rfl)
       ·have hY := lhd (hX.trans (if_neg (beq_f d)))
        clear hX
        go_wp2_with fail
        refine (JU.out _).mono ?_
        rintro e w' ⟨rfl, n3, rfl⟩
        go_wp2_with fail
        refine (JV.out _).mono ?_
        rintro e w' ⟨rfl, n4, rfl⟩
        go_wp2
        go_ret2
        exact Ret.eq _ (ret_two hY.out.symm rfl)
      ·have hX : R = if ((i : Int) * (k : Int) * ((p - 1) / 2) + (i : Int)) % 2 = 1 then -1 else 1 := by rw [hH, if_neg c1, if_pos c2]; congr 2; omega
       clear hH
       rcases Bool.eq_false_or_eq_true (((i : Int) * (k : Int) * ((p - 1) / 2) + (i : Int)) % 2 == 1) with d | d
       ·have hY := lhd (hX.trans (if_pos (beq_t d)))
        clear hX
        go_wp2_with fail
        refine (JU.out _).mono ?_
        rintro e w' ⟨rfl, n3, rfl⟩
        go_wp2_with fail
        refine (JV.out _).mono ?_
        rintro e w' ⟨rfl, n4, rfl⟩
        go_wp2
        go_ret2
        exact Ret.eq _ (ret_two hY.out.symm rfl)
       ·have hY := lhd (hX.trans (if_neg (beq_f d)))
        clear hX
        go_wp2_with fail
        refine (JU.out _).mono ?_
        rintro e w' ⟨rfl, n3, rfl⟩
        go_wp2_with fail
        refine (JV.out _).mono ?_
        rintro e w' ⟨rfl, n4, rfl⟩
        go_wp2
        go_ret2
        exact Ret.eq _ (ret_two hY.out.symm rfl)
      ·have hX : R = if ((i : Int) * (k : Int) * ((p - 1) / 2)) % 2 = 1 then -1 else 1 := by rw [hH, if_neg c1, if_neg c2]; congr 2; omega
       clear hH
       rcases Bool.eq_false_or_eq_true (((i : Int) * (k : Int) * ((p - 1) / 2)) % 2 == 1) with d | d
       ·have hY := lhd (hX.trans (if_pos (beq_t d)))
        clear hX
        go_wp2_with fail
        refine (JU.out _).mono ?_
        rintro e w' ⟨rfl, n3, rfl⟩
        go_wp2_with fail
        refine (JV.out _).mono ?_
        rintro e w' ⟨rfl, n4, rfl⟩
        go_wp2
        go_ret2
        exact Ret.eq _ (ret_two hY.out.symm rfl)
       ·have hY := lhd (hX.trans (if_neg (beq_f d)))
        clear hX
        go_wp2_with fail
        refine (JU.out _).mono ?_
        rintro e w' ⟨rfl, n3, rfl⟩
        go_wp2_with fail
        refine (JV.out _).mono ?_
        rintro e w' ⟨rfl, n4, rfl⟩
        go_wp2
        go_ret2
        exact Ret.eq _ (ret_two hY.out.symm rfl)
set_option maxHeartbeats 400000 in
theorem rHilbert_any (a b p : Int) (w : World) :
  Calls Tryz.prog 85 #[.int .i64 a, .int .i64 b, .int .i64 p] w (Ret w (.tuple #[.int .i64 (hilV a b p), .int .i64 (hilE a b p)])) := by
 by_cases h : hilE a b p = 0
 ·have hV : hilV a b p = Hil a b p := by unfold hilV; rw [if_pos h]
  rw [hV]
  have hh := h
  unfold hilE at hh
  by_cases c1 : a = 0 ∨ b = 0
  ·rw [if_pos c1] at hh; exact absurd hh (by omega)
  rw [if_neg c1] at hh
  by_cases c2 : inB a = false ∨ inB b = false
  ·rw [if_pos c2] at hh; exact absurd hh (by omega)
  rw [if_neg c2] at hh
  have ra : inB a = true := by cases hx : inB a; exact absurd (Or.inl hx) c2; rfl
  have rb : inB b = true := by cases hx : inB b; exact absurd (Or.inr hx) c2; rfl
  rw [inB_iff] at ra rb
  have hE0 : hilE a b p = 0 := h
  rw [hE0]
  by_cases c3 : p = 0
  ·have hC := fun w => rCheckHilbert_any a b p w
   rw [h] at hC
   have HC := lhd hC
   have HT := lhd (show Hil a b p = if a < 0 ∧ b < 0 then -1 else 1 by unfold Hil; rw [if_pos c3])
   generalize Hil a b p = R at *
   clear hC hh h hV hE0 c1 c2
   subst c3
   go_enter Tryz.func85, Tryz.ntmps85
   by_cases h1 : a < 0
   ·by_cases h2 : b < 0
    ·have hF := lhd (HT.out.trans (if_pos ⟨h1, h2⟩))
     go_wp2_with fail
     refine (HC.out _).mono ?_
     rintro e w' ⟨rfl, n0, rfl⟩
     go_wp2
     go_ret2
     exact Ret.eq _ (ret_two hF.out.symm rfl)
    ·have hF := lhd (HT.out.trans (if_neg (fun h => absurd h.2 (by omega))))
     go_wp2_with fail
     refine (HC.out _).mono ?_
     rintro e w' ⟨rfl, n0, rfl⟩
     go_wp2
     go_ret2
     exact Ret.eq _ (ret_two hF.out.symm rfl)
   ·have hF := lhd (HT.out.trans (if_neg (fun h => absurd h.1 (by omega))))
    go_wp2_with fail
    refine (HC.out _).mono ?_
    rintro e w' ⟨rfl, n0, rfl⟩
    go_wp2
    go_ret2
    exact Ret.eq _ (ret_two hF.out.symm rfl)
  ·by_cases c4 : p ≠ 0 ∧ isPB p = false
   ·rw [if_pos c4] at hh; exact absurd hh (by omega)
   have hp : isPB p = true := by cases hx : isPB p; exact absurd ⟨c3, hx⟩ c4; rfl
   obtain ⟨h5, h6⟩ := isPB_iff.1 hp
   have := h5.1
   exact rHilbert_pos a b p w h (by omega) h6 h5 (fun h => c1 (Or.inl h)) (fun h => c1 (Or.inr h)) ra.1 ra.2 rb.1 rb.2
 ·have hV : hilV a b p = 0 := by unfold hilV; rw [if_neg h]
  rw [hV]
  have hC := lhd (fun w => rCheckHilbert_any a b p w)
  clear hV
  generalize hilE a b p = E at *
  have d : (E != 0) = true := bne_iff_ne.2 h
  clear h
  go_enter Tryz.func85, Tryz.ntmps85
  go_wp2_with fail
  refine (hC.out _).mono ?_
  rintro e w' ⟨rfl, n0, rfl⟩
  go_wp2
  go_ret2
  exact Ret.eq _ rfl
end Go.Proofs.YtimdkjbmeogpoaaGreatDoor
namespace Go.Proofs.YtimdkjbmeogpoaaGreatDoor
open Go.RowKit FF
set_option maxHeartbeats 400000 in
theorem bWithin_any (n lo hi : Int) (w : World) :
  Calls Tryz.prog 29 #[.int .i64 n, .int .i64 lo, .int .i64 hi] w (Ret w (.bool (winB n lo hi))) := by
 have hF := lhd (show (decide (lo ≤ n) && decide (n ≤ hi)) = winB n lo hi from rfl)
 go_enter Tryz.func29, Tryz.ntmps29
 by_cases h1 : lo ≤ n
 ·have hF2 := lhd (show decide (n ≤ hi) = winB n lo hi by rw [← hF.out, decide_eq_true h1]; rfl)
  clear hF
  go_wp2
  go_ret
  exact Ret.eq0 (ret_bool hF2.out)
 ·have hF2 := lhd (show false = winB n lo hi by rw [← hF.out, decide_eq_false h1]; rfl)
  clear hF
  go_wp2
  go_ret
  exact Ret.eq0 (ret_bool hF2.out)
set_option maxHeartbeats 400000 in
theorem bAbs_any (n : Int) (w : World) (h1 : -9223372036854775807 ≤ n) (h2 : n ≤ 9223372036854775807) :
  Calls Tryz.prog 86 #[.int .i64 n] w (Ret w (.int .i64 n.natAbs)) := by
 by_cases h : n < 0
 ·have hN := lhd (show (n.natAbs : Int) = -n by omega)
  go_enter Tryz.func86, Tryz.ntmps86
  go_wp2
  go_ret
  exact Ret.eq0 (ret_int hN.out.symm)
 ·have hN := lhd (show (n.natAbs : Int) = n by omega)
  go_enter Tryz.func86, Tryz.ntmps86
  go_wp2
  go_ret
  exact Ret.eq0 (ret_int hN.out.symm)
end Go.Proofs.YtimdkjbmeogpoaaGreatDoor
namespace Go.Proofs.YtimdkjbmeogpoaaGreatDoor
open Go.RowKit FF
theorem results_tmp4 {fn : Func} {t u v x : Tmp} (h : fn.results = #[.tmp t, .tmp u, .tmp v, .tmp x]) (tmps : Array Value) (P : Program) (w : World) :
  (results fn tmps).run P w = .ok (.tuple #[tmps.getD t undef, tmps.getD u undef, tmps.getD v undef, tmps.getD x undef]) w := by
 simp [results, h]
end Go.Proofs.YtimdkjbmeogpoaaGreatDoor
namespace Go.Proofs.YtimdkjbmeogpoaaGreatDoor
open Go.RowKit FF
set_option maxHeartbeats 400000 in
theorem bGcd_any (a b : Int) (w : World) (ha : a.natAbs ≤ 4611686018427387904) (hb : b.natAbs ≤ 4611686018427387904) :
  Calls Tryz.prog 44 #[.int .i64 a, .int .i64 b] w (Ret w (.int .i64 (Int.gcd a b))) := by
 have hAb := lhd (fun (n : Int) (w : World) (h : n.natAbs ≤ 4611686018427387904) => bAbs_any n w (by omega) (by omega))
 go_enter Tryz.func44, Tryz.ntmps44
 go_wp2
 go_loopw [0, 1] (fun s t wr => ∃ x y : Int, s = .int .i64 x ∧ t = .int .i64 y ∧ x.natAbs ≤ 4611686018427387904 ∧ y.natAbs ≤ 4611686018427387904 ∧ Int.gcd x y = Int.gcd a b ∧ ∃ n, wr = w.drewN n) (fun _ t _ => (intOf t).natAbs)
 case atStart => exact ⟨a, b, rfl, rfl, ha, hb, rfl, 0, rfl⟩
 case round =>
  obtain ⟨x, y, rfl, rfl, hx, hy, hg, n, rfl⟩ := hrel
  have hG := lhd hg; clear hg
  have hxl : -4611686018427387904 ≤ x := by omega
  have hxu : x ≤ 4611686018427387904 := by omega
  by_cases hy0 : y = 0
  ·subst hy0
   have hx1 := lhd (show ((Int.gcd x 0 : Nat) : Int) = x.natAbs by rw [Int.gcd_zero_right])
   go_wp2_with fail
   refine (hAb.out _ _ hx).mono ?_
   rintro e w' ⟨rfl, n2, rfl⟩
   go_wp2_with fail
   go_ret
   exact Ret.eq _ (ret_int (by rw [← hG.out, hx1.out]))
  ·have h1 := Int.natAbs_tmod x y
   have h2 : x.natAbs % y.natAbs < y.natAbs := Nat.mod_lt _ (by omega)
   have h3 : x.natAbs % y.natAbs ≤ x.natAbs := Nat.mod_le _ _
   rw [← h1] at h2 h3
   clear h1
   have hyl : -4611686018427387904 ≤ y := by omega
   have hyu : y ≤ 4611686018427387904 := by omega
   have hz1 : -4611686018427387904 ≤ x.tmod y := by omega
   have hz2 : x.tmod y ≤ 4611686018427387904 := by omega
   have hb : (!(y == 0)) = true := by simp [hy0]
   go_wp2
   go_quiet (fail)
   go_wp2
   exact ⟨⟨y, x.tmod y, rfl, rfl, hy, by omega, by rw [gcd_tmod]; exact hG.out, n + nq, by rw [World.drewN_drewN]⟩, h2⟩
end Go.Proofs.YtimdkjbmeogpoaaGreatDoor
