/- Plain number theory: the list of prime powers by trial division, and what it says. Primitive roots exist; a number with a primitive root and whose predecessor's primes are known is a prime. No condition. The primes that a proof that a number is prime needs: they are few. No condition. -/
import Derived.Test.YtfjmhfmhijhpkaaNt
import Derived.Test.YtfjmhfmhijhpkaaLag0
namespace FF

/-- no number from 2 to p - 1 divides n -/
def NoDiv (p n : Int) : Prop := ∀ d : Int, 2 ≤ d → d < p → ¬ d ∣ n

/-- the prime powers of n from p on (f: a bound on the rounds) -/
def facF : Nat → Int → Int → List (Int × Nat)
  | 0, _, _ => []
  | f + 1, p, n => if p * p ≤ n then (if n % p = 0 then (p, vp p n) :: facF f (p + 1) (rest p n) else facF f (p + 1) n) else (if 1 < n then [(n, 1)] else [])
def facT (p n : Int) : List (Int × Nat) := facF (n.toNat + 1) p n
/-- the prime powers of n, ascending -/
def facs (n : Int) : List (Int × Nat) := facT 2 n

theorem rest_le {p n : Int} (hp : 2 ≤ p) (hn : 1 ≤ n) : 1 ≤ rest p n ∧ rest p n ≤ n := by
  have h1 := rest_pos hp (show 0 < n by omega)
  have h2 := rest_natAbs_le hp (show n ≠ 0 by omega)
  omega
theorem sq_ge {p n : Int} (hp : 2 ≤ p) (h : p * p ≤ n) : 2 * p ≤ n := by
  have := Int.mul_le_mul_of_nonneg_right hp (show (0 : Int) ≤ p by omega)
  omega
theorem facF_fuel (f : Nat) : ∀ (g : Nat) (p n : Int), 2 ≤ p → 1 ≤ n → n + 1 ≤ f + p → 1 ≤ f → n + 1 ≤ g + p → 1 ≤ g → facF f p n = facF g p n := by
  induction f with
  | zero => intro g p n _ _ _ h; omega
  | succ f ih =>
    intro g p n hp hn hf _ hg hg1
    obtain ⟨g, rfl⟩ : ∃ g', g = g' + 1 := ⟨g - 1, by omega⟩
    simp only [facF]
    by_cases c : p * p ≤ n
    · have := sq_ge hp c
      obtain ⟨r1, r2⟩ := rest_le hp hn
      rw [if_pos c, if_pos c]
      by_cases d : n % p = 0
      · rw [if_pos d, if_pos d, ih g (p + 1) (rest p n) (by omega) r1 (by omega) (by omega) (by omega) (by omega)]
      · rw [if_neg d, if_neg d, ih g (p + 1) n (by omega) hn (by omega) (by omega) (by omega) (by omega)]
    · rw [if_neg c, if_neg c]
theorem facT_go {p n : Int} (hp : 2 ≤ p) (hn : 1 ≤ n) (h : p * p ≤ n) : facT p n = if n % p = 0 then (p, vp p n) :: facT (p + 1) (rest p n) else facT (p + 1) n := by
  obtain ⟨r1, r2⟩ := rest_le hp hn
  have := sq_ge hp h
  unfold facT
  rw [facF, if_pos h]
  by_cases d : n % p = 0
  · rw [if_pos d, if_pos d, facF_fuel n.toNat ((rest p n).toNat + 1) (p + 1) _ (by omega) r1 (by omega) (by omega) (by omega) (by omega)]
  · rw [if_neg d, if_neg d, facF_fuel n.toNat (n.toNat + 1) (p + 1) _ (by omega) hn (by omega) (by omega) (by omega) (by omega)]
theorem facT_end {p n : Int} (h : n < p * p) : facT p n = if 1 < n then [(n, 1)] else [] := by
  unfold facT; rw [facF, if_neg (by omega)]

theorem NoDiv.two (n : Int) : NoDiv 2 n := fun d h1 h2 => by omega
theorem NoDiv.of_dvd {p n m : Int} (h : NoDiv p n) (hd : m ∣ n) : NoDiv p m := fun d h1 h2 h3 => h d h1 h2 (Int.dvd_trans h3 hd)
theorem NoDiv.next {p n : Int} (h : NoDiv p n) (hd : ¬ p ∣ n) : NoDiv (p + 1) n := fun d h1 h2 h3 => by
  by_cases e : d = p
  · subst e; exact hd h3
  · exact h d h1 (by omega) h3
theorem NoDiv.rest {p n : Int} (h : NoDiv p n) (hp : 2 ≤ p) (hn : 1 ≤ n) : NoDiv (p + 1) (rest p n) :=
  (h.of_dvd (rest_dvd_self hp (by omega))).next (not_dvd_rest hp (by omega))
theorem NoDiv.prime {p n : Int} (h : NoDiv p n) (hp : 2 ≤ p) (hd : p ∣ n) : IsP p.toNat := by
  refine isP_of_trial (by omega) fun d h1 h2 h3 => ?_
  have h4 : (d : Int) ∣ p := by
    have : ((d : Nat) : Int) ∣ ((p.toNat : Nat) : Int) := Int.natCast_dvd_natCast.2 h3
    rwa [Int.toNat_of_nonneg (by omega)] at this
  have h5 : d < p.toNat := by
    rcases Nat.lt_or_ge d p.toNat with g | g
    · exact g
    · have := Nat.mul_le_mul h1 g; omega
  exact h d (by omega) (by omega) (Int.dvd_trans h4 hd)
theorem NoDiv.last {p n : Int} (h : NoDiv p n) (hp : 2 ≤ p) (hn : 1 < n) (hl : n < p * p) : IsP n.toNat := by
  refine isP_of_trial (by omega) fun d h1 h2 h3 => ?_
  have h4 : (d : Int) ∣ n := by
    have : ((d : Nat) : Int) ∣ ((n.toNat : Nat) : Int) := Int.natCast_dvd_natCast.2 h3
    rwa [Int.toNat_of_nonneg (by omega)] at this
  refine h d (by omega) ?_ h4
  rcases Int.lt_or_le (d : Int) p with g | g
  · exact g
  · exfalso
    have h5 : p * p ≤ (d : Int) * d := Int.mul_le_mul g g (by omega) (by omega)
    have h6 : ((d * d : Nat) : Int) ≤ n := by omega
    push_cast at h6
    omega

/-- the loops' ending: by rounds -/
theorem fac_induction {Q : Int → Int → Prop} (hgo : ∀ p n, 2 ≤ p → 1 ≤ n → NoDiv p n → p * p ≤ n → n % p = 0 → Q (p + 1) (rest p n) → Q p n)
    (hskip : ∀ p n, 2 ≤ p → 1 ≤ n → NoDiv p n → p * p ≤ n → n % p ≠ 0 → Q (p + 1) n → Q p n) (hend : ∀ p n, 2 ≤ p → 1 ≤ n → NoDiv p n → n < p * p → Q p n) :
    ∀ (f : Nat) (p n : Int), 2 ≤ p → 1 ≤ n → NoDiv p n → n + 1 ≤ f + p → Q p n := by
  intro f
  induction f with
  | zero =>
    intro p n hp hn hd hf
    refine hend p n hp hn hd ?_
    have := Int.mul_le_mul_of_nonneg_right hp (show (0 : Int) ≤ p by omega)
    omega
  | succ f ih =>
    intro p n hp hn hd hf
    by_cases c : p * p ≤ n
    · have := sq_ge hp c
      obtain ⟨r1, r2⟩ := rest_le hp hn
      by_cases d : n % p = 0
      · exact hgo p n hp hn hd c d (ih _ _ (by omega) r1 (hd.rest hp hn) (by omega))
      · exact hskip p n hp hn hd c d (ih _ _ (by omega) hn (hd.next (fun h => d (Int.emod_eq_zero_of_dvd h))) (by omega))
    · exact hend p n hp hn hd (by omega)

/-- the product of prime powers -/
def prodF : List (Int × Nat) → Int
  | [] => 1
  | x :: l => x.1 ^ x.2 * prodF l
/-- the product of symbols -/
def jacL (a : Int) : List (Int × Nat) → Int
  | [] => 1
  | x :: l => leg a x.1.toNat ^ x.2 * jacL a l

theorem vp_pos {p n : Int} (hp : 2 ≤ p) (hn : 1 ≤ n) (h : n % p = 0) : 1 ≤ vp p n := by
  rw [vp_dvd hp (by omega) (Int.dvd_of_emod_eq_zero h)]; omega
/-- what holds of the list from p on -/
structure FacOk (p n : Int) (l : List (Int × Nat)) : Prop where
  prime : ∀ x ∈ l, IsP x.1.toNat ∧ 1 ≤ x.2 ∧ p ≤ x.1 ∧ x.1 ≤ n
  asc : l.Pairwise fun x y => x.1 < y.1
  prod : prodF l = n
  len : 2 ^ l.length ≤ n
  jac : ∀ a, jacL a l = Jac a n.toNat

theorem pow_toNat {p : Int} (hp : 0 ≤ p) (k : Nat) : (p ^ k).toNat = p.toNat ^ k := by
  obtain ⟨q, rfl⟩ := Int.eq_ofNat_of_zero_le hp
  rw [Int.toNat_natCast, ← Int.natCast_pow, Int.toNat_natCast]
theorem jac_pow_mul {q : Nat} (hq : IsP q) (a : Int) (m : Nat) (hm : 1 ≤ m) : ∀ k : Nat, Jac a (q ^ k * m) = leg a q ^ k * Jac a m
  | 0 => by simp
  | k + 1 => by
    have h1 : 1 ≤ q ^ k * m := Nat.mul_pos (Nat.pow_pos hq.pos) hm
    rw [Nat.pow_succ, Nat.mul_comm (q ^ k) q, Nat.mul_assoc, jac_prime_mul a _ _ q (Nat.le_refl _) h1 hq, jac_pow_mul hq a m hm k, Int.pow_succ, ← Int.mul_assoc, Int.mul_comm (leg a q)]

theorem facT_ok : ∀ (f : Nat) (p n : Int), 2 ≤ p → 1 ≤ n → NoDiv p n → n + 1 ≤ f + p → FacOk p n (facT p n) := by
  refine fac_induction (Q := fun p n => FacOk p n (facT p n)) ?_ ?_ ?_
  · intro p n hp hn hd hl hm ih
    obtain ⟨r1, r2⟩ := rest_le hp hn
    have hdv := Int.dvd_of_emod_eq_zero hm
    have hpp := hd.prime hp hdv
    have hv := vp_pos hp hn hm
    have he := eq_pow_rest hp (show n ≠ 0 by omega)
    rw [facT_go hp hn hl, if_pos hm]
    refine ⟨?_, ?_, ?_, ?_, ?_⟩
    · intro x hx
      rcases List.mem_cons.1 hx with rfl | hx
      · exact ⟨hpp, hv, Int.le_refl _, Int.le_of_dvd (by omega) hdv⟩
      · obtain ⟨h1, h2, h3, h4⟩ := ih.prime x hx
        exact ⟨h1, h2, by omega, by omega⟩
    · refine List.pairwise_cons.2 ⟨fun x hx => ?_, ih.asc⟩
      have := (ih.prime x hx).2.2.1
      show p < x.1; omega
    · show p ^ vp p n * prodF _ = n
      rw [ih.prod]; exact he.symm
    · rw [List.length_cons, Int.pow_succ]
      have h2 : (2 : Int) ≤ p ^ vp p n := by
        have : vp p n = (vp p n - 1) + 1 := by omega
        rw [this, Int.pow_succ]
        have h3 : 1 ≤ p ^ (vp p n - 1) := Int.pow_pos (n := p) (m := vp p n - 1) (by omega)
        have := Int.mul_le_mul h3 hp (by omega) (by omega)
        omega
      have h4 : rest p n * 2 ≤ rest p n * p ^ vp p n := Int.mul_le_mul_of_nonneg_left h2 (by omega)
      have h5 := ih.len
      rw [Int.mul_comm (rest p n) (p ^ _), ← he] at h4
      omega
    · intro a
      show leg a p.toNat ^ vp p n * jacL a _ = _
      rw [ih.jac a]
      conv => rhs; rw [he]
      rw [Int.toNat_mul (Int.le_of_lt (Int.pow_pos (by omega))) (by omega), pow_toNat (by omega)]
      exact (jac_pow_mul hpp a _ (by omega) _).symm
  · intro p n hp hn hd hl hm ih
    rw [facT_go hp hn hl, if_neg hm]
    exact ⟨fun x hx => by obtain ⟨h1, h2, h3, h4⟩ := ih.prime x hx; exact ⟨h1, h2, by omega, h4⟩, ih.asc, ih.prod, ih.len, ih.jac⟩
  · intro p n hp hn hd hl
    rw [facT_end hl]
    by_cases h1 : 1 < n
    · rw [if_pos h1]
      have hpr := hd.last hp h1 hl
      refine ⟨?_, List.pairwise_singleton _ _, by show n ^ 1 * 1 = n; rw [Int.pow_succ, Int.pow_zero]; omega, by show (2 : Int) ^ 1 ≤ n; omega, fun a => by show leg a n.toNat ^ 1 * 1 = _; rw [Int.pow_succ, Int.pow_zero, Int.one_mul, Int.mul_one]; exact (jac_prime hpr a).symm⟩
      intro x hx
      rw [List.mem_singleton] at hx; subst hx
      refine ⟨hpr, Nat.le_refl _, ?_, Int.le_refl _⟩
      rcases Int.lt_or_le n p with g | g
      · exact absurd (Int.dvd_refl n) (hd n (by omega) g)
      · exact g
    · have : n = 1 := by omega
      subst this
      rw [if_neg h1]
      exact ⟨fun x hx => (by cases hx), List.Pairwise.nil, rfl, by simp, fun a => by simp [jacL, jac_one]⟩
theorem facs_ok {n : Int} (hn : 1 ≤ n) : FacOk 2 n (facs n) := facT_ok n.toNat 2 n (by omega) hn (NoDiv.two n) (by omega)
theorem facs_len {n : Int} (hn : 1 ≤ n) (h : n ≤ 1000000000) : (facs n).length ≤ 30 := by
  have h1 := (facs_ok hn).len
  rcases Nat.lt_or_ge 30 (facs n).length with g | g
  · exfalso
    have h2 : 2 ^ 31 ≤ 2 ^ (facs n).length := Nat.pow_le_pow_right (by omega) g
    have h3 : ((2 ^ (facs n).length : Nat) : Int) ≤ n := by push_cast; exact h1
    omega
  · exact g

/-- the loops' relation: l has been found, n is left, p is next -/
def FacRel (N : Int) (l : List (Int × Nat)) (p n : Int) : Prop := l ++ facT p n = facs N ∧ 2 ≤ p ∧ 1 ≤ n ∧ n ≤ N ∧ NoDiv p n
theorem FacRel.start {N : Int} (h : 1 ≤ N) : FacRel N [] 2 N := ⟨rfl, by omega, h, Int.le_refl _, NoDiv.two N⟩
theorem FacRel.go {N p n : Int} {l : List (Int × Nat)} (h : FacRel N l p n) (hl : p * p ≤ n) (hm : n % p = 0) : FacRel N (l ++ [(p, vp p n)]) (p + 1) (rest p n) := by
  obtain ⟨h1, h2, h3, h4, h5⟩ := h
  obtain ⟨r1, r2⟩ := rest_le h2 h3
  rw [facT_go h2 h3 hl, if_pos hm] at h1
  exact ⟨by rw [List.append_assoc]; exact h1, by omega, r1, by omega, h5.rest h2 h3⟩
theorem FacRel.skip {N p n : Int} {l : List (Int × Nat)} (h : FacRel N l p n) (hl : p * p ≤ n) (hm : n % p ≠ 0) : FacRel N l (p + 1) n := by
  obtain ⟨h1, h2, h3, h4, h5⟩ := h
  rw [facT_go h2 h3 hl, if_neg hm] at h1
  exact ⟨h1, by omega, h3, h4, h5.next (fun h => hm (Int.emod_eq_zero_of_dvd h))⟩
theorem FacRel.last {N p n : Int} {l : List (Int × Nat)} (h : FacRel N l p n) (hl : n < p * p) (h1 : 1 < n) : l ++ [(n, 1)] = facs N := by
  rw [← h.1, facT_end hl, if_pos h1]
theorem FacRel.done {N p n : Int} {l : List (Int × Nat)} (h : FacRel N l p n) (hl : n < p * p) (h1 : ¬ 1 < n) : l = facs N := by
  rw [← h.1, facT_end hl, if_neg h1, List.append_nil]
theorem FacRel.len {N p n : Int} {l : List (Int × Nat)} (h : FacRel N l p n) (hN : N ≤ 1000000000) : l.length ≤ 30 := by
  have h1 := facs_len (n := N) (by have := h.2.2.1; have := h.2.2.2.1; omega) hN
  rw [← h.1, List.length_append] at h1
  omega
theorem sq_bound {p n : Int} (hp : 0 ≤ p) (h : p * p ≤ n) (hn : n ≤ 1000000000) : p ≤ 31622 := by
  rcases Int.lt_or_le 31622 p with g | g
  · have : (31623 : Int) * 31623 ≤ p * p := Int.mul_le_mul g g (by omega) (by omega)
    omega
  · exact g
end FF
namespace FF

/-- some residue's power is not 1, where the exponent is below p - 1 -/
theorem pow_ne_one {p : Nat} (hp : IsP p) {n : Nat} (h1 : 1 ≤ n) (h2 : n < p - 1) : ∃ a : Nat, 1 ≤ a ∧ a < p ∧ ¬ Cg p ((a : Int) ^ n) 1 := by
  apply Classical.byContradiction
  intro hno
  have h := pow_roots_le hp h1 (resL (p - 1)) (resL_pw (by omega)) (fun x hx => by
    obtain ⟨i, hi, rfl⟩ := List.mem_map.1 hx
    rw [List.mem_range'_1] at hi
    apply Classical.byContradiction
    intro hc
    exact hno ⟨i, by omega, by omega, hc⟩)
  rw [resL_len] at h
  omega

theorem pow_pow_cg {n a : Int} {i j : Nat} (h : Cg n (a ^ i) 1) : Cg n (a ^ (i * j)) 1 := pow_mul_one j h
/-- c^q = 1 and c^m = 1, q a prime that does not divide m: then c = 1 -/
theorem cop_one {n c : Int} {q m : Nat} (hq : IsP q) (hm : ¬ q ∣ m) (h1 : Cg n (c ^ q) 1) (h2 : Cg n (c ^ m) 1) : Cg n c 1 := by
  have h := pow_gcd_one q m h1 h2
  have : Nat.gcd q m = 1 := hq.coprime hm
  rw [this, Int.pow_succ, Int.pow_zero, Int.one_mul] at h
  exact h
theorem npow_split {n q : Nat} (hq : IsP q) (hn : 0 < n) (hd : q ∣ n) : ∃ e m, n = q ^ (e + 1) * m ∧ ¬ q ∣ m := by
  have hq2 := hq.1
  have key : ∀ (b n : Nat), n ≤ b → 0 < n → ∃ e m, n = q ^ e * m ∧ ¬ q ∣ m := by
    intro b
    induction b with
    | zero => intro n h1 h2; omega
    | succ b ih =>
      intro n h1 h2
      by_cases hd : q ∣ n
      · obtain ⟨k, rfl⟩ := hd
        have hk : 0 < k := Nat.pos_of_ne_zero (by rintro rfl; omega)
        have : 2 * k ≤ q * k := Nat.mul_le_mul_right k hq2
        obtain ⟨e, m, he, hm⟩ := ih k (by omega) hk
        exact ⟨e + 1, m, by rw [Nat.pow_succ, Nat.mul_comm (q ^ e) q, Nat.mul_assoc, ← he], hm⟩
      · exact ⟨0, n, by simp, hd⟩
  obtain ⟨k, rfl⟩ := hd
  have hk : 0 < k := Nat.pos_of_ne_zero (by rintro rfl; omega)
  obtain ⟨e, m, he, hm⟩ := key k k (Nat.le_refl _) hk
  exact ⟨e, m, by rw [Nat.pow_succ, Nat.mul_comm (q ^ e) q, Nat.mul_assoc, ← he], hm⟩

/-- a number whose power is not 1 for one prime, and 1 for all others -/
theorem one_prime {p : Nat} (hp : IsP p) {q : Nat} (hq : IsP q) (hd : q ∣ p - 1) :
    ∃ b : Int, ¬ (p : Int) ∣ b ∧ ¬ Cg p (b ^ ((p - 1) / q)) 1 ∧ ∀ r, IsP r → r ∣ p - 1 → r ≠ q → Cg p (b ^ ((p - 1) / r)) 1 := by
  have hq2 := hq.1
  have hp2 := hp.1
  have hn : 0 < p - 1 := by omega
  have hqn : (p - 1) / q < p - 1 := Nat.div_lt_self hn hq2
  have hq1 : 1 ≤ (p - 1) / q := (Nat.le_div_iff_mul_le (by omega)).2 (by rw [Nat.one_mul]; exact Nat.le_of_dvd hn hd)
  obtain ⟨a, a1, a2, ha⟩ := pow_ne_one hp hq1 hqn
  obtain ⟨e, m, hem, hm⟩ := npow_split hq hn hd
  have hnd : ¬ (p : Int) ∣ (a : Int) := nat_lt_not_dvd a1 a2
  have hdq : (p - 1) / q = q ^ e * m := by
    rw [hem, Nat.pow_succ, Nat.mul_comm (q ^ e) q, Nat.mul_assoc]; exact Nat.mul_div_cancel_left _ (by omega)
  refine ⟨(a : Int) ^ m, fun h => hnd (hp.idvd_pow h), fun h => ?_, fun r hr hrd hrq => ?_⟩
  · have f := fermat hp hnd
    rw [hdq] at h ha
    have e1 : ((a : Int) ^ m) ^ (q ^ e * m) = ((a : Int) ^ (q ^ e * m)) ^ m := by rw [← Int.pow_mul, ← Int.pow_mul, Nat.mul_comm]
    rw [e1] at h
    have e2 : ((a : Int) ^ (q ^ e * m)) ^ q = (a : Int) ^ (p - 1) := by
      rw [← Int.pow_mul, hem, Nat.pow_succ]; congr 1; rw [Nat.mul_assoc, Nat.mul_comm m q, ← Nat.mul_assoc]
    exact ha (cop_one hq hm (by rw [e2]; exact f) h)
  · have f := fermat hp hnd
    obtain ⟨k, hk⟩ := hrd
    have hr2 := hr.1
    have hrk : (p - 1) / r = k := by rw [hk]; exact Nat.mul_div_cancel_left _ (by omega)
    have hco : Nat.Coprime (q ^ (e + 1)) r := by
      refine Nat.Coprime.pow_left _ ?_
      refine hq.coprime (fun h => hrq ?_)
      exact (hq.eq_of_dvd hr h).symm
    have hdv : q ^ (e + 1) ∣ k := by
      refine hco.dvd_of_dvd_mul_left ?_
      rw [← hk, hem]; exact Nat.dvd_mul_right _ _
    obtain ⟨j, hj⟩ := hdv
    rw [hrk, hj, ← Int.pow_mul, show m * (q ^ (e + 1) * j) = (q ^ (e + 1) * m) * j by rw [← Nat.mul_assoc, Nat.mul_comm m]]
    rw [← hem]
    exact pow_mul_one j f
/-- a primitive root, so far as a list of primes tells -/
theorem roots_list {p : Nat} (hp : IsP p) : ∀ qs : List Nat, qs.Nodup → (∀ q ∈ qs, IsP q ∧ q ∣ p - 1) →
    ∃ b : Int, ¬ (p : Int) ∣ b ∧ (∀ q ∈ qs, ¬ Cg p (b ^ ((p - 1) / q)) 1) ∧ ∀ r, IsP r → r ∣ p - 1 → r ∉ qs → Cg p (b ^ ((p - 1) / r)) 1
  | [], _, _ => ⟨1, hp.not_dvd_one ∘ (fun h => by exact Int.natCast_dvd_natCast.1 h), fun q hq => (by cases hq), fun r _ _ _ => by rw [Int.one_pow]; exact Cg.refl _ _⟩
  | q :: qs, hnd, hall => by
    obtain ⟨hq, hqd⟩ := hall q (by simp)
    obtain ⟨h1, h2⟩ := List.nodup_cons.1 hnd
    obtain ⟨b, b1, b2, b3⟩ := roots_list hp qs h2 (fun r hr => hall r (by simp [hr]))
    obtain ⟨c, c1, c2, c3⟩ := one_prime hp hq hqd
    refine ⟨c * b, fun h => ?_, fun r hr hcg => ?_, fun r hr hrd hrn => ?_⟩
    · rcases hp.idvd_mul h with h | h
      · exact c1 h
      · exact b1 h
    · rw [Int.mul_pow] at hcg
      rcases List.mem_cons.1 hr with rfl | hr
      · have := b3 r hq hqd h1
        refine c2 ?_
        have e := (this.mul_left (c ^ ((p - 1) / r))).symm.trans hcg
        rwa [Int.mul_one] at e
      · obtain ⟨hr1, hr2⟩ := hall r (by simp [hr])
        have := c3 r hr1 hr2 (fun e => h1 (e ▸ hr))
        refine b2 r hr ?_
        have e := (this.mul_right (b ^ ((p - 1) / r))).symm.trans hcg
        rwa [Int.one_mul] at e
    · rw [Int.mul_pow]
      have e1 := c3 r hr hrd (fun e => hrn (by simp [e]))
      have e2 := b3 r hr hrd (fun e => hrn (by simp [e]))
      have := e1.mul e2
      rwa [Int.mul_one] at this
/-- a primitive root below p -/
theorem primitive_root {p : Nat} (hp : IsP p) (qs : List Nat) (h1 : qs.Nodup) (h2 : ∀ q ∈ qs, IsP q ∧ q ∣ p - 1) : ∃ r : Nat, 1 ≤ r ∧ r < p ∧ ∀ q ∈ qs, ¬ Cg p ((r : Int) ^ ((p - 1) / q)) 1 := by
  obtain ⟨b, b1, b2, -⟩ := roots_list hp qs h1 h2
  have hp2 := hp.1
  have e0 := Int.emod_nonneg b (b := (p : Int)) (by omega)
  have e1 := Int.emod_lt_of_pos b (show (0 : Int) < p by omega)
  refine ⟨(b % p).toNat, ?_, by omega, fun q hq hc => ?_⟩
  · apply Nat.pos_of_ne_zero
    intro h0
    exact b1 (Int.dvd_of_emod_eq_zero (by omega))
  · refine b2 q hq ?_
    rw [show (((b % p).toNat : Nat) : Int) = b % p by omega] at hc
    exact ((Cg.emod (p : Int) b).pow _).symm.trans hc

/-- a number with a primitive root is a prime -/
theorem lucas {N : Nat} (hN : 2 ≤ N) {r : Int} (h1 : Cg N (r ^ (N - 1)) 1) (hq : ∀ q, IsP q → q ∣ N - 1 → ¬ Cg N (r ^ ((N - 1) / q)) 1) : IsP N := by
  have hpos : ∀ k, 0 < k → k < N - 1 → ¬ Cg N (r ^ k) 1 := by
    intro k k1 k2 hk
    have hd := pow_gcd_one k (N - 1) hk h1
    have hg1 : Nat.gcd k (N - 1) ∣ N - 1 := Nat.gcd_dvd_right _ _
    have hg2 : Nat.gcd k (N - 1) ≤ k := Nat.le_of_dvd k1 (Nat.gcd_dvd_left _ _)
    obtain ⟨m, hm⟩ := hg1
    have hm2 : 2 ≤ m := by
      rcases Nat.lt_or_ge m 2 with g | g
      · exfalso
        have : m = 0 ∨ m = 1 := by omega
        rcases this with rfl | rfl
        · omega
        · omega
      · exact g
    obtain ⟨q, q1, q2⟩ := exists_prime_dvd m hm2
    obtain ⟨j, rfl⟩ := q2
    refine hq q q1 ⟨Nat.gcd k (N - 1) * j, by rw [← Nat.mul_assoc, Nat.mul_comm q, Nat.mul_assoc]; exact hm⟩ ?_
    have hq2 := q1.1
    generalize Nat.gcd k (N - 1) = g at *
    have : (N - 1) / q = g * j := by
      rw [hm, ← Nat.mul_assoc, Nat.mul_comm g q, Nat.mul_assoc]; exact Nat.mul_div_cancel_left _ (by omega)
    rw [this]
    exact pow_mul_one j hd
  -- powers of r are units
  have hunit : ∀ k, ∃ s : Int, Cg N (r ^ k * s) 1 := by
    intro k
    refine ⟨r ^ (k * (N - 1) - k), ?_⟩
    have hk : k ≤ k * (N - 1) := Nat.le_mul_of_pos_right k (by omega)
    rw [← Int.pow_add, show k + (k * (N - 1) - k) = (N - 1) * k by rw [Nat.mul_comm (N - 1)]; omega]
    exact pow_mul_one k h1
  have hmaps : ∀ k, k ∈ upTo (N - 1) → (r ^ k % (N : Int)).toNat ∈ upTo (N - 1) := by
    intro k _
    have e0 := Int.emod_nonneg (r ^ k) (b := (N : Int)) (by omega)
    have e1 := Int.emod_lt_of_pos (r ^ k) (show (0 : Int) < N by omega)
    rw [mem_upTo]
    refine ⟨?_, by omega⟩
    apply Nat.pos_of_ne_zero
    intro h0
    obtain ⟨s, hs⟩ := hunit k
    have hz : (N : Int) ∣ r ^ k := Int.dvd_of_emod_eq_zero (by omega)
    have hz2 : Cg N (r ^ k * s) 0 := Cg.zero_iff.2 (Int.dvd_trans hz (Int.dvd_mul_right _ _))
    have hz3 := Cg.zero_iff.1 (hs.symm.trans hz2)
    have := Int.le_of_dvd (by omega) hz3
    omega
  have hlt : ∀ k j, k ∈ upTo (N - 1) → j ∈ upTo (N - 1) → k < j → (r ^ k % (N : Int)).toNat ≠ (r ^ j % (N : Int)).toNat := by
    intro k j hk hj hkj he
    rw [mem_upTo] at hk hj
    have e0 := Int.emod_nonneg (r ^ k) (b := (N : Int)) (by omega)
    have e1 := Int.emod_nonneg (r ^ j) (b := (N : Int)) (by omega)
    have hc : Cg N (r ^ k) (r ^ j) := Cg.of_emod (by omega)
    obtain ⟨s, hs⟩ := hunit k
    have h2 : Cg N (r ^ (j - k)) 1 := by
      have a1 := (hc.mul_right s).symm.trans hs
      rw [show j = k + (j - k) by omega, Int.pow_add, Int.mul_comm (r ^ k), Int.mul_assoc] at a1
      have a2 := hs.mul_left (r ^ (j - k))
      rw [Int.mul_one] at a2
      exact a2.symm.trans a1
    exact hpos (j - k) (by omega) (by omega) h2
  have hperm := perm_of_maps (nodup_upTo (N - 1)) (fun k => (r ^ k % (N : Int)).toNat) hmaps (by
    intro k hk j hj he
    rcases Nat.lt_trichotomy k j with g | g | g
    · exact absurd he (hlt k j hk hj g)
    · exact g
    · exact absurd he.symm (hlt j k hj hk g))
  refine ⟨hN, fun d hd => ?_⟩
  apply Classical.byContradiction
  intro hno
  have hdl := Nat.le_of_dvd (by omega) hd
  have hd0 : d ≠ 0 := by rintro rfl; have := Nat.eq_zero_of_zero_dvd hd; omega
  have hdm : d ∈ upTo (N - 1) := mem_upTo.2 ⟨by omega, by omega⟩
  obtain ⟨k, hk, he⟩ := List.mem_map.1 (hperm.mem_iff.2 hdm)
  have e0 := Int.emod_nonneg (r ^ k) (b := (N : Int)) (by omega)
  have hc : Cg N (r ^ k) d := by
    refine (Cg.emod (N : Int) (r ^ k)).symm.trans (Cg.of_eq ?_)
    have : (r ^ k % (N : Int)).toNat = d := he
    omega
  obtain ⟨s, hs⟩ := hunit k
  have h2 := ((hc.mul_right s).symm.trans hs).of_dvd (m := (d : Int)) (Int.natCast_dvd_natCast.2 hd)
  have h3 : Cg d ((d : Int) * s) 0 := Cg.mul_self _ _
  have h4 := Cg.zero_iff.1 (h2.symm.trans h3)
  have := Int.le_of_dvd (by omega) h4
  omega
end FF
namespace FF

/-- the primes of a number, ascending -/
def primesOf (m : Int) : List Int := (facs m).map fun x => x.1
theorem primesOf_mem {m q : Int} (hm : 1 ≤ m) : q ∈ primesOf m ↔ IsP q.toNat ∧ 0 ≤ q ∧ q ∣ m := by
  have ok := facs_ok hm
  unfold primesOf
  rw [List.mem_map]
  constructor
  · rintro ⟨x, hx, rfl⟩
    obtain ⟨h1, h2, h3, h4⟩ := ok.prime x hx
    refine ⟨h1, by omega, ?_⟩
    rw [← ok.prod]
    have : ∀ l : List (Int × Nat), x ∈ l → x.1 ∣ prodF l := by
      intro l
      induction l with
      | nil => intro h; cases h
      | cons y l ih =>
        intro h
        rcases List.mem_cons.1 h with rfl | h
        · obtain ⟨k, hk⟩ : ∃ k, x.2 = k + 1 := ⟨x.2 - 1, by omega⟩
          show x.1 ∣ x.1 ^ x.2 * prodF l
          rw [hk, Int.pow_succ, Int.mul_comm (x.1 ^ k), Int.mul_assoc]
          exact ⟨_, rfl⟩
        · exact Int.dvd_trans (ih h) ⟨y.1 ^ y.2, by rw [Int.mul_comm]; rfl⟩
    exact this _ hx
  · rintro ⟨h1, h2, h3⟩
    have q2 := h1.1
    rw [← ok.prod] at h3
    obtain ⟨Q, rfl⟩ : ∃ Q : Nat, q = (Q : Int) := ⟨q.toNat, by omega⟩
    rw [Int.toNat_natCast] at h1
    have : ∀ l : List (Int × Nat), (∀ x ∈ l, IsP x.1.toNat) → (Q : Int) ∣ prodF l → ∃ x ∈ l, x.1 = (Q : Int) := by
      intro l
      induction l with
      | nil =>
        intro _ h
        exfalso
        have := Int.le_of_dvd (by decide) (show (Q : Int) ∣ 1 from h)
        omega
      | cons x l ih =>
        intro hl h
        rcases h1.idvd_mul (show (Q : Int) ∣ x.1 ^ x.2 * prodF l from h) with g | g
        · have hx := hl x (by simp)
          have x2 := hx.1
          have g2 := h1.idvd_pow g
          refine ⟨x, by simp, ?_⟩
          have : Q ∣ x.1.toNat := by
            have := Int.natAbs_dvd_natAbs.2 g2
            rwa [Int.natAbs_natCast, show x.1.natAbs = x.1.toNat by omega] at this
          have := h1.eq_of_dvd hx this
          omega
        · obtain ⟨y, h2, h3⟩ := ih (fun y hy => hl y (by simp [hy])) g
          exact ⟨y, by simp [h2], h3⟩
    exact this _ (fun x hx => (ok.prime x hx).1) h3
theorem primesOf_asc {m : Int} (hm : 1 ≤ m) : (primesOf m).Pairwise (· < ·) := by
  unfold primesOf
  rw [List.pairwise_map]
  exact (facs_ok hm).asc
theorem primesOf_le {m q : Int} (hm : 1 ≤ m) (h : q ∈ primesOf m) : 2 ≤ q ∧ q ≤ m := by
  obtain ⟨h1, h2, h3⟩ := (primesOf_mem hm).1 h
  have := h1.1
  exact ⟨by omega, Int.le_of_dvd (by omega) h3⟩
theorem asc_nodup {l : List Int} (h : l.Pairwise (· < ·)) : l.Nodup := h.imp (fun h => by omega)

/-- the product of a list -/
def prodZ : List Int → Int
  | [] => 1
  | x :: l => x * prodZ l
theorem prodZ_pos {l : List Int} (h : ∀ x ∈ l, 1 ≤ x) : 1 ≤ prodZ l := by
  induction l with
  | nil => exact Int.le_refl _
  | cons x l ih =>
    have h1 := h x (by simp)
    have h2 := ih (fun y hy => h y (by simp [hy]))
    exact Int.le_trans h1 (by
      show x ≤ x * prodZ l
      have := Int.mul_le_mul_of_nonneg_left h2 (show 0 ≤ x by omega)
      omega)
theorem prodZ_erase {l : List Int} {x : Int} (h : x ∈ l) : prodZ l = x * prodZ (l.erase x) := by
  induction l with
  | nil => cases h
  | cons y l ih =>
    by_cases hx : y = x
    · subst hx; rw [List.erase_cons_head]; rfl
    · rw [List.erase_cons_tail (by simpa using hx)]
      have hm : x ∈ l := by rcases List.mem_cons.1 h with e | e; exact absurd e.symm hx; exact e
      show y * prodZ l = x * (y * prodZ (l.erase x))
      rw [ih hm]; grind
theorem prodZ_le {l : List (Int × Nat)} (h : ∀ x ∈ l, 2 ≤ x.1 ∧ 1 ≤ x.2) : prodZ (l.map fun x => x.1) ≤ prodF l := by
  induction l with
  | nil => exact Int.le_refl _
  | cons x l ih =>
    obtain ⟨h1, h2⟩ := h x (by simp)
    have h3 := ih (fun y hy => h y (by simp [hy]))
    have h4 : 1 ≤ prodZ (l.map fun x => x.1) := prodZ_pos (fun y hy => by
      obtain ⟨z, hz, rfl⟩ := List.mem_map.1 hy
      have := h z (by simp [hz]); omega)
    have h5 : x.1 ≤ x.1 ^ x.2 := by
      obtain ⟨k, hk⟩ : ∃ k, x.2 = k + 1 := ⟨x.2 - 1, by omega⟩
      rw [hk, Int.pow_succ]
      have : 1 ≤ x.1 ^ k := Int.pow_pos (n := x.1) (m := k) (by omega)
      have := Int.mul_le_mul_of_nonneg_right this (show 0 ≤ x.1 by omega)
      omega
    exact Int.mul_le_mul h5 h3 (by omega) (by omega)

/-- the tree of odd primes below a prime -/
def treeF : Nat → Int → List Int
  | 0, p => [p]
  | f + 1, p => p :: ((primesOf (p - 1)).erase 2).flatMap (treeF f)
theorem tree_head (f : Nat) (p : Int) : p ∈ treeF f p := by cases f <;> simp [treeF]
theorem two_mem {p : Int} (hp : IsP p.toNat) (h2 : p ≠ 2) : 2 ∈ primesOf (p - 1) := by
  have p2 := hp.1
  have ho := hp.odd (by omega)
  exact (primesOf_mem (by omega)).2 ⟨isP_two, by omega, by omega⟩
theorem mem_erase_two {m q : Int} (hm : 1 ≤ m) (h : q ∈ (primesOf m).erase 2) : q ∈ primesOf m ∧ q ≠ 2 := by
  obtain ⟨h1, h2⟩ := ((asc_nodup (primesOf_asc hm)).mem_erase_iff).1 h
  exact ⟨h2, h1⟩
/-- the tree is small -/
theorem tree_small : ∀ (f : Nat) (p : Int), IsP p.toNat → p ≠ 2 → (2 : Int) ^ (treeF f p).length ≤ p
  | 0, p, hp, h2 => by have := hp.1; show (2 : Int) ^ 1 ≤ p; omega
  | f + 1, p, hp, h2 => by
    have p2 := hp.1
    have hm : 1 ≤ p - 1 := by omega
    have key : ∀ l : List Int, (∀ q ∈ l, IsP q.toNat ∧ q ≠ 2) → (2 : Int) ^ (l.flatMap (treeF f)).length ≤ prodZ l := by
      intro l
      induction l with
      | nil => intro _; exact Int.le_refl _
      | cons q l ih =>
        intro hl
        obtain ⟨h3, h4⟩ := hl q (by simp)
        have h5 := tree_small f q h3 h4
        have h6 := ih (fun y hy => hl y (by simp [hy]))
        rw [List.flatMap_cons, List.length_append, Int.pow_add]
        have h7 : (0 : Int) ≤ 2 ^ (l.flatMap (treeF f)).length := Int.le_of_lt (Int.pow_pos (by decide))
        exact Int.mul_le_mul h5 h6 h7 (by have := h3.1; omega)
    have h3 := key ((primesOf (p - 1)).erase 2) (fun q hq => by
      obtain ⟨a, b⟩ := mem_erase_two hm hq
      exact ⟨((primesOf_mem hm).1 a).1, b⟩)
    have h4 := prodZ_erase (two_mem hp h2)
    have ok := facs_ok hm
    have h5 := prodZ_le (l := facs (p - 1)) (fun x hx => by obtain ⟨a, b, c, d⟩ := ok.prime x hx; exact ⟨by omega, b⟩)
    rw [ok.prod] at h5
    have h6 : prodZ (primesOf (p - 1)) ≤ p - 1 := h5
    show (2 : Int) ^ ((((primesOf (p - 1)).erase 2).flatMap (treeF f)).length + 1) ≤ p
    rw [Int.pow_succ]
    omega
/-- the tree is closed -/
theorem tree_closed : ∀ (f : Nat) (p : Int), p ≤ f → 2 ≤ p → ∀ x ∈ treeF f p, ∀ q ∈ primesOf (x - 1), q ≠ 2 → q ∈ treeF f p
  | 0, p, hf, h2, _, _, _, _, _ => by omega
  | f + 1, p, hf, h2, x, hx, q, hq, hq2 => by
    have hm : 1 ≤ p - 1 := by omega
    show q ∈ p :: ((primesOf (p - 1)).erase 2).flatMap (treeF f)
    rcases List.mem_cons.1 hx with rfl | hx
    · refine List.mem_cons_of_mem _ (List.mem_flatMap.2 ⟨q, ?_, tree_head f q⟩)
      exact ((asc_nodup (primesOf_asc hm)).mem_erase_iff).2 ⟨hq2, hq⟩
    · obtain ⟨r, hr, hxr⟩ := List.mem_flatMap.1 hx
      obtain ⟨a, b⟩ := mem_erase_two hm hr
      obtain ⟨r1, r2⟩ := primesOf_le hm a
      exact List.mem_cons_of_mem _ (List.mem_flatMap.2 ⟨r, hr, tree_closed f r (by omega) r1 x hxr q hq hq2⟩)

/-- the primes that are reached from n -/
inductive Reach (n : Int) : Int → Prop
  | base : Reach n n
  | step {p q : Int} : Reach n p → q ∈ primesOf (p - 1) → Reach n q
theorem primesOf_one : primesOf 1 = [] := by
  apply List.eq_nil_iff_forall_not_mem.2
  intro q hq
  obtain ⟨h1, h2⟩ := primesOf_le (by decide) hq
  omega
theorem Reach.prime {n m : Int} (hn : IsP n.toNat) (h : Reach n m) : IsP m.toNat ∧ 2 ≤ m ∧ m ≤ n := by
  induction h with
  | base => have := hn.1; exact ⟨hn, by omega, Int.le_refl _⟩
  | step hp hq ih =>
    obtain ⟨h1, h2, h3⟩ := ih
    obtain ⟨a, b, c⟩ := (primesOf_mem (by omega)).1 hq
    obtain ⟨d, e⟩ := primesOf_le (by omega) hq
    exact ⟨a, d, by omega⟩
theorem Reach.tree {n m : Int} (hn : IsP n.toNat) (h : Reach n m) : m = 2 ∨ m ∈ treeF n.toNat n := by
  have hn2 := hn.1
  induction h with
  | base => exact .inr (tree_head _ _)
  | step hp hq ih =>
    rename_i p q
    by_cases h2 : q = 2
    · exact .inl h2
    · rcases ih with h | h
      · rw [h] at hq
        rw [show (2 : Int) - 1 = 1 from rfl, primesOf_one] at hq
        cases hq
      · exact .inr (tree_closed _ n (by omega) (by omega) p h q hq h2)
/-- a list of primes that are reached, each once, is short -/
theorem reach_short {n : Int} (hn : IsP n.toNat) (hn9 : n ≤ 1000000000) {ks : List Int} (hnd : ks.Nodup) (hk : ∀ m ∈ ks, Reach n m) : ks.length ≤ 31 := by
  have hsub : ks ⊆ 2 :: treeF n.toNat n := fun m hm => by
    rcases (hk m hm).tree hn with h | h
    · simp [h]
    · simp [h]
  have h1 := hnd.length_le_of_subset hsub
  rw [List.length_cons] at h1
  by_cases h2 : n = 2
  · subst h2
    have : ks ⊆ [2] := fun m hm => by
      obtain ⟨-, a, b⟩ := (hk m hm).prime hn
      have : m = 2 := by omega
      simp [this]
    have := hnd.length_le_of_subset this
    simp at this
    omega
  · have h3 := tree_small n.toNat n hn h2
    rcases Nat.lt_or_ge 30 (treeF n.toNat n).length with g | g
    · exfalso
      have h4 : 2 ^ 31 ≤ 2 ^ (treeF n.toNat n).length := Nat.pow_le_pow_right (by omega) g
      have h5 : ((2 ^ (treeF n.toNat n).length : Nat) : Int) ≤ n := by push_cast; exact h3
      omega
    · omega
/-- two ascending lists with the same members are equal -/
theorem asc_unique : ∀ {l k : List Int}, l.Pairwise (· < ·) → k.Pairwise (· < ·) → (∀ x, x ∈ l ↔ x ∈ k) → l = k
  | [], [], _, _, _ => rfl
  | [], y :: k, _, _, h => by have := (h y).2 (by simp); cases this
  | x :: l, [], _, _, h => by have := (h x).1 (by simp); cases this
  | x :: l, y :: k, hl, hk, h => by
    obtain ⟨a1, a2⟩ := List.pairwise_cons.1 hl
    obtain ⟨b1, b2⟩ := List.pairwise_cons.1 hk
    have hxy : x = y := by
      have e1 := (h x).1 (by simp)
      have e2 := (h y).2 (by simp)
      rcases List.mem_cons.1 e1 with e | e
      · exact e
      · rcases List.mem_cons.1 e2 with g | g
        · exact g.symm
        · have := a1 _ g; have := b1 _ e; omega
    subst hxy
    rw [asc_unique a2 b2 (fun z => ?_)]
    constructor
    · intro hz
      have := (h z).1 (by simp [hz])
      rcases List.mem_cons.1 this with e | e
      · have := a1 _ hz; omega
      · exact e
    · intro hz
      have := (h z).2 (by simp [hz])
      rcases List.mem_cons.1 this with e | e
      · have := b1 _ hz; omega
      · exact e
end FF
