/- Plain number theory, part G: the Jacobi symbol: multiplicative in both arguments; reciprocity. -/
import Derived.Test.YtmlkiddkgikdhaaNtE
namespace FF

/-- the least divisor from 2 on -/
def minFac (n : Nat) : Nat := ((List.range (n + 1)).find? (fun d => decide (2 ≤ d) && decide (n % d = 0))).getD 0
theorem minFac_spec {n : Nat} (hn : 2 ≤ n) : IsP (minFac n) ∧ minFac n ∣ n := by
  unfold minFac
  cases h : (List.range (n + 1)).find? (fun d => decide (2 ≤ d) && decide (n % d = 0)) with
  | none =>
    rw [List.find?_eq_none] at h
    exact absurd (by simp; omega) (h n (List.mem_range.2 (by omega)))
  | some d =>
    simp only [Option.getD_some]
    have h1 := List.find?_some h
    simp only [Bool.and_eq_true, decide_eq_true_eq] at h1
    have hdn := Nat.dvd_of_mod_eq_zero h1.2
    refine ⟨?_, hdn⟩
    apply Classical.byContradiction; intro hc
    obtain ⟨p, hp, hpd, hpp⟩ := exists_small_prime_dvd h1.1 hc
    have hp2 := hp.1
    have hlt : p < d := by
      have : p * 2 ≤ p * p := Nat.mul_le_mul_left _ hp2
      omega
    rw [List.find?_range_eq_some] at h
    have := h.2.2 p hlt
    simp only [Bool.not_eq_true', Bool.and_eq_false_iff, decide_eq_false_iff_not] at this
    rcases this with h3 | h3
    · omega
    · exact h3 (Nat.mod_eq_zero_of_dvd (Nat.dvd_trans hpd hdn))

def jacF : Nat → Int → Nat → Int
  | 0, _, _ => 1
  | f + 1, a, n => if n < 2 then 1 else leg a (minFac n) * jacF f a (n / minFac n)
/-- the Jacobi symbol -/
def Jac (a : Int) (n : Nat) : Int := jacF n a n

theorem div_minFac {n : Nat} (hn : 2 ≤ n) : n / minFac n < n ∧ 1 ≤ n / minFac n := by
  obtain ⟨h1, h2⟩ := minFac_spec hn
  have := h1.1
  exact ⟨Nat.div_lt_self (by omega) (by omega), Nat.div_pos (Nat.le_of_dvd (by omega) h2) (by omega)⟩
theorem jacF_fuel (a : Int) (f : Nat) : ∀ g n, n ≤ f → n ≤ g → jacF f a n = jacF g a n := by
  induction f with
  | zero => intro g n h1 h2; have : n = 0 := by omega
            subst this; cases g <;> simp [jacF]
  | succ f ih =>
    intro g n h1 h2
    cases g with
    | zero => have : n = 0 := by omega
              subst this; simp [jacF]
    | succ g =>
      simp only [jacF]
      split
      · rfl
      · have := div_minFac (n := n) (by omega)
        rw [ih g _ (by omega) (by omega)]
theorem jac_rec {n : Nat} (hn : 2 ≤ n) (a : Int) : Jac a n = leg a (minFac n) * Jac a (n / minFac n) := by
  unfold Jac
  obtain ⟨f, rfl⟩ : ∃ f, n = f + 1 := ⟨n - 1, by omega⟩
  have := div_minFac hn
  conv => lhs; unfold jacF
  rw [if_neg (by omega), jacF_fuel a f _ _ (by omega) (Nat.le_refl _)]
theorem jac_one (a : Int) : Jac a 1 = 1 := by simp [Jac, jacF]

theorem jac_prime_mul (a : Int) : ∀ b n p : Nat, n ≤ b → 1 ≤ n → IsP p → Jac a (p * n) = leg a p * Jac a n := by
  intro b
  induction b with
  | zero => intro n p h1 h2; omega
  | succ b ih =>
    intro n p hb hn hp
    have hp2 := hp.1
    have hpn : 2 ≤ p * n := by
      have : 2 * 1 ≤ p * n := Nat.mul_le_mul hp2 hn
      omega
    obtain ⟨hq, hqd⟩ := minFac_spec hpn
    rw [jac_rec hpn]
    generalize minFac (p * n) = q at *
    by_cases hqp : q = p
    · subst hqp; rw [Nat.mul_div_cancel_left _ hq.pos]
    · have hqn : q ∣ n := by
        rcases hq.dvd_mul hqd with h | h
        · exact absurd (hq.eq_of_dvd hp h) hqp
        · exact h
      obtain ⟨m, rfl⟩ := hqn
      have hm : 1 ≤ m := by apply Nat.pos_of_ne_zero; rintro rfl; simp at hn
      have hmq : m < q * m := by
        have h1 := hq.1
        have : 2 * m ≤ q * m := Nat.mul_le_mul_right _ h1
        omega
      have e : p * (q * m) / q = p * m := by
        refine Nat.div_eq_of_eq_mul_right hq.pos ?_
        grind
      rw [e, ih m p (by omega) hm hp, ih m q (by omega) hm hq]; grind

theorem jac_mul_right (a : Int) : ∀ b m n : Nat, m ≤ b → 1 ≤ m → 1 ≤ n → Jac a (m * n) = Jac a m * Jac a n := by
  intro b
  induction b with
  | zero => intro m n h1 h2; omega
  | succ b ih =>
    intro m n hb hm hn
    by_cases h1 : m = 1
    · subst h1; rw [Nat.one_mul, jac_one, Int.one_mul]
    · obtain ⟨hq, hqd⟩ := minFac_spec (n := m) (by omega)
      have hl := div_minFac (n := m) (by omega)
      rw [jac_rec (n := m) (by omega)]
      generalize minFac m = q at *
      obtain ⟨k, rfl⟩ := hqd
      rw [Nat.mul_div_cancel_left _ hq.pos] at hl ⊢
      rw [Nat.mul_assoc, jac_prime_mul a (k * n) (k * n) q (Nat.le_refl _) (Nat.mul_pos hl.2 hn) hq, ih k n (by omega) hl.2 hn]; grind

/-- induction over the prime factors of odd numbers -/
theorem odd_induction {P : Nat → Prop} (h1 : P 1) (hm : ∀ p n, IsP p → p ≠ 2 → n % 2 = 1 → P n → P (p * n)) : ∀ b n, n ≤ b → n % 2 = 1 → P n := by
  intro b
  induction b with
  | zero => intro n h1 h2; omega
  | succ b ih =>
    intro n hb hn
    by_cases hn1 : n = 1
    · subst hn1; exact h1
    · obtain ⟨hq, hqd⟩ := minFac_spec (n := n) (by omega)
      have hl := div_minFac (n := n) (by omega)
      generalize minFac n = q at *
      obtain ⟨k, rfl⟩ := hqd
      rw [Nat.mul_div_cancel_left _ hq.pos] at hl
      have hq2 : q ≠ 2 := by rintro rfl; omega
      have hk : k % 2 = 1 := by
        apply Classical.byContradiction; intro hc
        have : q * k % 2 = 0 := by rw [Nat.mul_mod, show k % 2 = 0 by omega]; simp
        omega
      exact hm q k hq hq2 hk (ih k (by omega) hk)

theorem odd_mul {m n : Nat} (hm : m % 2 = 1) (hn : n % 2 = 1) : m * n % 2 = 1 := by rw [Nat.mul_mod, hm, hn]

theorem jac_mul_left {n : Nat} (hn : n % 2 = 1) (a b : Int) : Jac (a * b) n = Jac a n * Jac b n := by
  refine odd_induction (P := fun n => Jac (a * b) n = Jac a n * Jac b n) ?_ ?_ n n (Nat.le_refl _) hn
  · rw [jac_one, jac_one, jac_one]; rfl
  · intro p n hp hp2 hn ih
    rw [jac_prime_mul _ n n p (Nat.le_refl _) (by omega) hp, jac_prime_mul _ n n p (Nat.le_refl _) (by omega) hp, jac_prime_mul _ n n p (Nat.le_refl _) (by omega) hp, ih, leg_mul hp hp2]; grind

theorem jac_congr {n : Nat} (hn : n % 2 = 1) {a b : Int} (h : Cg n a b) : Jac a n = Jac b n := by
  refine odd_induction (P := fun n => Cg n a b → Jac a n = Jac b n) ?_ ?_ n n (Nat.le_refl _) hn h
  · intro _; rw [jac_one, jac_one]
  · intro p n hp hp2 hn ih h
    rw [jac_prime_mul _ n n p (Nat.le_refl _) (by omega) hp, jac_prime_mul _ n n p (Nat.le_refl _) (by omega) hp]
    rw [leg_congr (h.of_dvd ⟨(n : Int), by push_cast; rfl⟩), ih (h.of_dvd ⟨(p : Int), by push_cast; rw [Int.mul_comm]⟩)]

theorem jac_one_left {n : Nat} (hn : n % 2 = 1) : Jac 1 n = 1 := by
  refine odd_induction (P := fun n => Jac 1 n = 1) (jac_one 1) ?_ n n (Nat.le_refl _) hn
  intro p n hp hp2 hn ih
  rw [jac_prime_mul _ n n p (Nat.le_refl _) (by omega) hp, ih, leg_one hp]; rfl

theorem jac_neg_one {n : Nat} (hn : n % 2 = 1) : Jac (-1) n = sg ((n - 1) / 2) := by
  refine odd_induction (P := fun n => Jac (-1) n = sg ((n - 1) / 2)) (jac_one _) ?_ n n (Nat.le_refl _) hn
  intro p n hp hp2 hn ih
  have ho := hp.odd hp2
  rw [jac_prime_mul _ n n p (Nat.le_refl _) (by omega) hp, ih, leg_neg_one hp hp2, ← sg_add]
  apply sg_congr
  obtain ⟨x, rfl⟩ : ∃ x, p = 2 * x + 1 := ⟨p / 2, by omega⟩
  obtain ⟨y, rfl⟩ : ∃ y, n = 2 * y + 1 := ⟨n / 2, by omega⟩
  have : (2 * x + 1) * (2 * y + 1) = 2 * (2 * (x * y) + x + y) + 1 := by grind
  rw [this]; omega

theorem sq_odd {n : Nat} (hn : n % 2 = 1) : ∃ x, n * n = 8 * x + 1 := by
  obtain ⟨y, rfl⟩ : ∃ y, n = 2 * y + 1 := ⟨n / 2, by omega⟩
  have : (y * (y + 1)) % 2 = 0 := by
    rcases Nat.mod_two_eq_zero_or_one y with h | h
    · rw [Nat.mul_mod, h]; simp
    · rw [Nat.mul_mod, show (y + 1) % 2 = 0 by omega]; simp
  refine ⟨y * (y + 1) / 2, ?_⟩
  have e : (2 * y + 1) * (2 * y + 1) = 4 * (y * (y + 1)) + 1 := by grind
  omega

theorem jac_two {n : Nat} (hn : n % 2 = 1) : Jac 2 n = sg ((n * n - 1) / 8) := by
  refine odd_induction (P := fun n => Jac 2 n = sg ((n * n - 1) / 8)) (jac_one _) ?_ n n (Nat.le_refl _) hn
  intro p n hp hp2 hn ih
  have ho := hp.odd hp2
  rw [jac_prime_mul _ n n p (Nat.le_refl _) (by omega) hp, ih, leg_two hp hp2, ← sg_add]
  apply sg_congr
  obtain ⟨x, hx⟩ := sq_odd ho
  obtain ⟨y, hy⟩ := sq_odd hn
  have : p * n * (p * n) = 8 * (8 * (x * y) + x + y) + 1 := by
    rw [show p * n * (p * n) = (p * p) * (n * n) by grind, hx, hy]; grind
  rw [this, hx, hy]; omega

/-- the sign of 2 by the residue modulo 8 -/
theorem jac_two_mod {n : Nat} (hn : n % 2 = 1) : Jac 2 n = if n % 8 = 3 ∨ n % 8 = 5 then -1 else 1 := by
  rw [jac_two hn]
  have h : n * n % 16 = (n % 16) * (n % 16) % 16 := Nat.mul_mod n n 16
  have key : ∀ r, r < 16 → n % 16 = r → n * n % 16 = r * r % 16 := by intro r _ e; rw [h, e]
  have h2 : n % 16 = 1 ∨ n % 16 = 3 ∨ n % 16 = 5 ∨ n % 16 = 7 ∨ n % 16 = 9 ∨ n % 16 = 11 ∨ n % 16 = 13 ∨ n % 16 = 15 := by omega
  obtain ⟨x, hx⟩ := sq_odd hn
  rcases h2 with e | e | e | e | e | e | e | e <;> have k := key _ (by omega) e <;> rw [hx] at k ⊢
  · rw [if_neg (by omega), sg_even (by omega)]
  · rw [if_pos (by omega), sg_odd (by omega)]
  · rw [if_pos (by omega), sg_odd (by omega)]
  · rw [if_neg (by omega), sg_even (by omega)]
  · rw [if_neg (by omega), sg_even (by omega)]
  · rw [if_pos (by omega), sg_odd (by omega)]
  · rw [if_pos (by omega), sg_odd (by omega)]
  · rw [if_neg (by omega), sg_even (by omega)]

theorem jac_zero_of {n : Nat} (hn : n % 2 = 1) {a : Int} (h : Int.gcd a n ≠ 1) : Jac a n = 0 := by
  refine odd_induction (P := fun n => Int.gcd a n ≠ 1 → Jac a n = 0) ?_ ?_ n n (Nat.le_refl _) hn h
  · intro h; exact absurd (by simp) h
  · intro p n hp hp2 hn ih h
    rw [jac_prime_mul _ n n p (Nat.le_refl _) (by omega) hp]
    by_cases hpa : (p : Int) ∣ a
    · rw [leg_zero hpa, Int.zero_mul]
    · rw [ih, Int.mul_zero]
      intro hg
      apply h
      have c1 : Nat.Coprime p a.natAbs := hp.coprime (fun hd => hpa (by rw [← Int.natAbs_dvd_natAbs, Int.natAbs_natCast]; exact hd))
      have c2 : Nat.Coprime n a.natAbs := by
        have : Int.gcd a n = Nat.gcd a.natAbs n := rfl
        rw [this] at hg; exact Nat.Coprime.symm hg
      exact (c1.mul_left c2).symm

theorem jac_ne {n : Nat} (hn : n % 2 = 1) {a : Int} (h : Int.gcd a n = 1) : Jac a n = 1 ∨ Jac a n = -1 := by
  refine odd_induction (P := fun n => Int.gcd a n = 1 → Jac a n = 1 ∨ Jac a n = -1) ?_ ?_ n n (Nat.le_refl _) hn h
  · intro _; left; exact jac_one a
  · intro p n hp hp2 hn ih h
    have c : Nat.Coprime a.natAbs (p * n) := h
    have c1 : Nat.Coprime a.natAbs p := c.coprime_mul_right_right
    have c2 : Nat.Coprime a.natAbs n := c.coprime_mul_left_right
    have hpa : ¬ (p : Int) ∣ a := fun hd => by
      rw [← Int.natAbs_dvd_natAbs, Int.natAbs_natCast] at hd
      have := Nat.dvd_gcd hd (Nat.dvd_refl p)
      rw [c1] at this; exact hp.not_dvd_one this
    rw [jac_prime_mul _ n n p (Nat.le_refl _) (by omega) hp]
    rcases leg_ne hpa with e | e <;> rcases ih c2 with f | f <;> rw [e, f] <;> simp

theorem jac_sq {n : Nat} (hn : n % 2 = 1) {a : Int} (h : Int.gcd a n = 1) : Jac a n * Jac a n = 1 := by
  rcases jac_ne hn h with e | e <;> rw [e] <;> rfl

theorem jac_prime {p : Nat} (hp : IsP p) (a : Int) : Jac a p = leg a p := by
  have := jac_prime_mul a 1 1 p (Nat.le_refl _) (Nat.le_refl _) hp
  rw [Nat.mul_one, jac_one, Int.mul_one] at this; exact this

theorem half_mul {x y : Nat} (hx : x % 2 = 1) (hy : y % 2 = 1) : (x * y - 1) / 2 % 2 = ((x - 1) / 2 + (y - 1) / 2) % 2 := by
  obtain ⟨a, rfl⟩ : ∃ a, x = 2 * a + 1 := ⟨x / 2, by omega⟩
  obtain ⟨b, rfl⟩ : ∃ b, y = 2 * b + 1 := ⟨y / 2, by omega⟩
  have : (2 * a + 1) * (2 * b + 1) = 2 * (2 * (a * b) + a + b) + 1 := by grind
  rw [this]; omega

theorem sg_mul_half {x y z : Nat} (hx : x % 2 = 1) (hy : y % 2 = 1) : sg (z * ((x * y - 1) / 2)) = sg (z * ((x - 1) / 2)) * sg (z * ((y - 1) / 2)) := by
  rw [← sg_add]
  apply sg_congr
  rw [← Nat.mul_add, Nat.mul_mod, half_mul hx hy, ← Nat.mul_mod]

/-- reciprocity between an odd prime and an odd number -/
theorem jac_rec_prime {p : Nat} (hp : IsP p) (hp2 : p ≠ 2) {n : Nat} (hn : n % 2 = 1) (hd : ¬ p ∣ n) :
    leg (n : Int) p * Jac (p : Int) n = sg ((p - 1) / 2 * ((n - 1) / 2)) := by
  refine odd_induction (P := fun n => ¬ p ∣ n → leg (n : Int) p * Jac (p : Int) n = sg ((p - 1) / 2 * ((n - 1) / 2))) ?_ ?_ n n (Nat.le_refl _) hn hd
  · intro _; rw [jac_one]; have := leg_one hp; simp only [Int.mul_one]; rw [show ((1 : Nat) : Int) = 1 by rfl, this]; rfl
  · intro q n hq hq2 hn ih hd
    have h1 : ¬ p ∣ n := fun h => hd (Nat.dvd_trans h ⟨q, Nat.mul_comm _ _⟩)
    have h2 : p ≠ q := by rintro rfl; exact hd ⟨n, rfl⟩
    have hr := reciprocity hp hq hp2 hq2 h2
    rw [jac_prime_mul _ n n q (Nat.le_refl _) (by omega) hq, Int.natCast_mul, leg_mul hp hp2, sg_mul_half (hq.odd hq2) hn, ← ih h1, ← hr]; grind

theorem jac_reciprocity {m n : Nat} (hm : m % 2 = 1) (hn : n % 2 = 1) (hc : Nat.Coprime m n) :
    Jac (m : Int) n * Jac (n : Int) m = sg ((m - 1) / 2 * ((n - 1) / 2)) := by
  refine odd_induction (P := fun m => Nat.Coprime m n → Jac (m : Int) n * Jac (n : Int) m = sg ((m - 1) / 2 * ((n - 1) / 2))) ?_ ?_ m m (Nat.le_refl _) hm hc
  · intro _; rw [jac_one, show ((1 : Nat) : Int) = 1 by rfl, jac_one_left hn]; simp [sg]
  · intro q m hq hq2 hm ih hc
    have c1 : Nat.Coprime m n := hc.coprime_mul_left
    have c2 : Nat.Coprime q n := hc.coprime_mul_right
    have hqn : ¬ q ∣ n := fun h => by
      have := Nat.dvd_gcd (Nat.dvd_refl q) h
      rw [c2] at this; exact hq.not_dvd_one this
    have hr := jac_rec_prime hq hq2 hn hqn
    rw [Int.natCast_mul, jac_mul_left hn, jac_prime_mul _ m m q (Nat.le_refl _) (by omega) hq]
    have h3 : sg ((q * m - 1) / 2 * ((n - 1) / 2)) = sg ((q - 1) / 2 * ((n - 1) / 2)) * sg ((m - 1) / 2 * ((n - 1) / 2)) := by
      rw [Nat.mul_comm, sg_mul_half (hq.odd hq2) hm, Nat.mul_comm, Nat.mul_comm ((n - 1) / 2) ((m - 1) / 2)]
    rw [h3, ← ih c1, ← hr]; grind

/-- reciprocity as the algorithm uses it: also where both symbols are 0 -/
theorem jac_flip {m n : Nat} (hm : m % 2 = 1) (hn : n % 2 = 1) :
    Jac (m : Int) n = Jac (n : Int) m * (if m % 4 = 3 ∧ n % 4 = 3 then -1 else 1) := by
  by_cases hc : Nat.Coprime m n
  · have h1 := jac_reciprocity hm hn hc
    have h2 : Jac (n : Int) m * Jac (n : Int) m = 1 := jac_sq hm (by show Nat.gcd _ _ = 1; simpa using hc.symm)
    have h3 : sg ((m - 1) / 2 * ((n - 1) / 2)) = if m % 4 = 3 ∧ n % 4 = 3 then -1 else 1 := by
      by_cases c1 : m % 4 = 3
      · rw [sg_mul_odd (by omega)]
        by_cases c2 : n % 4 = 3
        · rw [if_pos ⟨c1, c2⟩, sg_odd (by omega)]
        · rw [if_neg (fun h => c2 h.2), sg_even (by omega)]
      · rw [if_neg (fun h => c1 h.1), sg_even]
        rw [Nat.mul_mod, show (m - 1) / 2 % 2 = 0 by omega]; simp
    rw [← h3, ← h1]
    calc Jac (m : Int) n = Jac (m : Int) n * (Jac (n : Int) m * Jac (n : Int) m) := by rw [h2, Int.mul_one]
      _ = _ := by grind
  · rw [jac_zero_of hn (a := (m : Int)) (by show Nat.gcd _ _ ≠ 1; simpa using hc), jac_zero_of hm (a := (n : Int)) (by show Nat.gcd _ _ ≠ 1; rw [Nat.gcd_comm]; simpa using hc), Int.zero_mul]

theorem jac_zero_left {n : Nat} (hn : n % 2 = 1) : Jac 0 n = if n = 1 then 1 else 0 := by
  split
  · rename_i h; subst h; exact jac_one 0
  · rename_i h; apply jac_zero_of hn; simp; omega
theorem jac_pow {n : Nat} (hn : n % 2 = 1) (a : Int) (k : Nat) : Jac (a ^ k) n = Jac a n ^ k := by
  induction k with
  | zero => simp [jac_one_left hn]
  | succ k ih => rw [Int.pow_succ, jac_mul_left hn, ih, Int.pow_succ]
theorem jac_bound (n : Nat) (hn : n % 2 = 1) (a : Int) : -1 ≤ Jac a n ∧ Jac a n ≤ 1 := by
  by_cases h : Int.gcd a n = 1
  · rcases jac_ne hn h with e | e <;> rw [e] <;> omega
  · rw [jac_zero_of hn h]; omega
end FF
namespace FF
/-- one round of the algorithm -/
theorem jac_step {x n : Int} (hx : 0 < x) (hn : 0 < n) (ho : n % 2 = 1) :
    Jac x n.toNat = (if vp 2 x % 2 = 1 ∧ (n % 8 = 3 ∨ n % 8 = 5) then -1 else 1) * (if rest 2 x % 4 = 3 ∧ n % 4 = 3 then -1 else 1) * Jac (n % rest 2 x) (rest 2 x).toNat := by
  have e := eq_pow_rest (p := 2) (n := x) (by omega) (by omega)
  have hr := not_dvd_rest (p := 2) (n := x) (by omega) (by omega)
  have h0 : 0 < rest 2 x := by
    apply Classical.byContradiction; intro hc
    have h1 : (0 : Int) < 2 ^ vp 2 x := Int.pow_pos (by omega)
    have h2 : 2 ^ vp 2 x * rest 2 x ≤ 2 ^ vp 2 x * 0 := Int.mul_le_mul_of_nonneg_left (by omega) (by omega)
    omega
  generalize rest 2 x = r at *
  generalize vp 2 x = k at *
  obtain ⟨N, rfl⟩ : ∃ N : Nat, n = (N : Int) := ⟨n.toNat, by omega⟩
  obtain ⟨R, rfl⟩ : ∃ R : Nat, r = (R : Int) := ⟨r.toNat, by omega⟩
  rw [Int.toNat_natCast, Int.toNat_natCast]
  have hN : N % 2 = 1 := by omega
  have hR : R % 2 = 1 := by omega
  rw [e, jac_mul_left hN, jac_pow hN, jac_two_mod hN, jac_flip hR hN, jac_congr hR (Cg.emod (R : Int) (N : Int))]
  have e1 : (if N % 8 = 3 ∨ N % 8 = 5 then (-1 : Int) else 1) ^ k = if k % 2 = 1 ∧ ((N : Int) % 8 = 3 ∨ (N : Int) % 8 = 5) then -1 else 1 := by
    by_cases c : N % 8 = 3 ∨ N % 8 = 5
    · rw [if_pos c]
      by_cases c2 : k % 2 = 1
      · rw [if_pos ⟨c2, by omega⟩, show k = 2 * (k / 2) + 1 by omega, Int.pow_succ, Int.pow_mul, show ((-1 : Int)) ^ 2 = 1 by decide, Int.one_pow]; rfl
      · rw [if_neg (fun h => c2 h.1), show k = 2 * (k / 2) by omega, Int.pow_mul, show ((-1 : Int)) ^ 2 = 1 by decide, Int.one_pow]
    · rw [if_neg c, if_neg (by omega), Int.one_pow]
  have e2 : (if R % 4 = 3 ∧ N % 4 = 3 then (-1 : Int) else 1) = if (R : Int) % 4 = 3 ∧ (N : Int) % 4 = 3 then -1 else 1 := by
    by_cases c : R % 4 = 3 ∧ N % 4 = 3
    · rw [if_pos c, if_pos (by omega)]
    · rw [if_neg c, if_neg (by omega)]
  rw [e1, e2]; grind
end FF
