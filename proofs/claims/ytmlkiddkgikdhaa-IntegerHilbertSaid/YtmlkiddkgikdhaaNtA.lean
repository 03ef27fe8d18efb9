/- Plain number theory, part A: primes, prime divisors, congruences of integers. No program in sight. -/
namespace FF

/-- a prime number -/
def IsP (p : Nat) : Prop := 2 ≤ p ∧ ∀ d, d ∣ p → d = 1 ∨ d = p

theorem IsP.two_le {p : Nat} (h : IsP p) : 2 ≤ p := h.1
theorem IsP.pos {p : Nat} (h : IsP p) : 0 < p := by have := h.1; omega

theorem IsP.coprime {p a : Nat} (h : IsP p) (ha : ¬ p ∣ a) : Nat.Coprime p a := by
  rcases h.2 (Nat.gcd p a) (Nat.gcd_dvd_left p a) with e | e
  · exact e
  · exact absurd (e ▸ Nat.gcd_dvd_right p a) ha

theorem IsP.dvd_mul {p a b : Nat} (h : IsP p) (hd : p ∣ a * b) : p ∣ a ∨ p ∣ b := by
  by_cases ha : p ∣ a
  · exact Or.inl ha
  · exact Or.inr ((h.coprime ha).dvd_of_dvd_mul_left hd)

theorem IsP.dvd_pow {p a n : Nat} (h : IsP p) (hd : p ∣ a ^ n) : p ∣ a := by
  induction n with
  | zero => rw [Nat.pow_zero] at hd; have := Nat.le_of_dvd (by omega) hd; have := h.1; omega
  | succ n ih => rw [Nat.pow_succ] at hd; rcases h.dvd_mul hd with h1 | h1
                 · exact ih h1
                 · exact h1

theorem IsP.not_dvd_one {p : Nat} (h : IsP p) : ¬ p ∣ 1 := by
  intro hd; have := Nat.le_of_dvd (by omega) hd; have := h.1; omega

theorem IsP.eq_of_dvd {p q : Nat} (hp : IsP p) (hq : IsP q) (hd : p ∣ q) : p = q := by
  rcases hq.2 p hd with e | e
  · have := hp.1; omega
  · exact e

theorem exists_prime_dvd (n : Nat) : 2 ≤ n → ∃ p, IsP p ∧ p ∣ n := by
  induction n using Nat.strongRecOn with
  | ind n ih =>
    intro hn
    by_cases hp : IsP n
    · exact ⟨n, hp, Nat.dvd_refl n⟩
    · have : ∃ d, d ∣ n ∧ d ≠ 1 ∧ d ≠ n := by
        apply Classical.byContradiction
        intro hc
        exact hp ⟨hn, fun d hd => by
          apply Classical.byContradiction; intro hx
          exact hc ⟨d, hd, fun e => hx (Or.inl e), fun e => hx (Or.inr e)⟩⟩
      obtain ⟨d, hd, h1, h2⟩ := this
      have hle := Nat.le_of_dvd (by omega) hd
      have h0 : d ≠ 0 := by rintro rfl; have := Nat.eq_zero_of_zero_dvd hd; omega
      obtain ⟨p, hp, hpd⟩ := ih d (by omega) (by omega)
      exact ⟨p, hp, Nat.dvd_trans hpd hd⟩

/-- a composite number has a prime divisor whose square is not above it -/
theorem exists_small_prime_dvd {n : Nat} (hn : 2 ≤ n) (hc : ¬ IsP n) : ∃ p, IsP p ∧ p ∣ n ∧ p * p ≤ n := by
  have : ∃ d, d ∣ n ∧ d ≠ 1 ∧ d ≠ n := by
    apply Classical.byContradiction
    intro hx
    exact hc ⟨hn, fun d hd => by
      apply Classical.byContradiction; intro hy
      exact hx ⟨d, hd, fun e => hy (Or.inl e), fun e => hy (Or.inr e)⟩⟩
  obtain ⟨d, ⟨e, rfl⟩, h1, h2⟩ := this
  have hd0 : d ≠ 0 := by rintro rfl; simp at hn
  have he0 : e ≠ 0 := by rintro rfl; simp at hn
  have he1 : e ≠ 1 := by rintro rfl; simp at h2
  by_cases hle : d ≤ e
  · obtain ⟨p, hp, hpd⟩ := exists_prime_dvd d (by omega)
    have := Nat.le_of_dvd (by omega) hpd
    exact ⟨p, hp, Nat.dvd_trans hpd ⟨e, rfl⟩, Nat.mul_le_mul this (by omega)⟩
  · obtain ⟨p, hp, hpd⟩ := exists_prime_dvd e (by omega)
    have := Nat.le_of_dvd (by omega) hpd
    exact ⟨p, hp, Nat.dvd_trans hpd ⟨d, Nat.mul_comm d e⟩, Nat.mul_le_mul (by omega) this⟩

theorem isP_of_trial {n : Nat} (hn : 2 ≤ n) (h : ∀ d, 2 ≤ d → d * d ≤ n → ¬ d ∣ n) : IsP n := by
  apply Classical.byContradiction; intro hc
  obtain ⟨p, hp, hd, hl⟩ := exists_small_prime_dvd hn hc
  exact h p hp.1 hl hd

theorem IsP.not_dvd_of_lt {p d : Nat} (h : IsP p) (h2 : 2 ≤ d) (hl : d < p) : ¬ d ∣ p := by
  intro hd; rcases h.2 d hd with e | e <;> omega

theorem IsP.odd {p : Nat} (h : IsP p) (h2 : p ≠ 2) : p % 2 = 1 := by
  have := h.1
  have h3 : ¬ 2 ∣ p := fun hd => by rcases h.2 2 hd with e | e <;> omega
  omega

theorem isP_two : IsP 2 := ⟨by omega, fun d hd => by have := Nat.le_of_dvd (by omega) hd; have : d ≠ 0 := (by rintro rfl; simp at hd); omega⟩
theorem isP_three : IsP 3 := isP_of_trial (by omega) (fun d h1 h2 => by have := Nat.mul_le_mul h1 h1; omega)
theorem isP_five : IsP 5 := isP_of_trial (by omega) (fun d h1 h2 => by
  have : d < 3 := by rcases Nat.lt_or_ge d 3 with h | h; exact h; have := Nat.mul_le_mul h h; omega
  have : d = 2 := by omega
  subst this; omega)
theorem isP_seven : IsP 7 := isP_of_trial (by omega) (fun d h1 h2 => by
  have : d < 3 := by rcases Nat.lt_or_ge d 3 with h | h; exact h; have := Nat.mul_le_mul h h; omega
  have : d = 2 := by omega
  subst this; omega)

/-! congruences -/
/-- a and b are congruent modulo n -/
def Cg (n a b : Int) : Prop := n ∣ a - b

namespace Cg
variable {n a b c d : Int}
theorem refl (n a : Int) : Cg n a a := by unfold Cg; rw [Int.sub_self]; exact Int.dvd_zero n
theorem of_eq (h : a = b) : Cg n a b := h ▸ refl n a
theorem symm (h : Cg n a b) : Cg n b a := by
  obtain ⟨k, hk⟩ := h; exact ⟨-k, by rw [Int.mul_neg, ← hk]; omega⟩
theorem trans (h : Cg n a b) (g : Cg n b c) : Cg n a c := by
  obtain ⟨k, hk⟩ := h; obtain ⟨l, hl⟩ := g; exact ⟨k + l, by rw [Int.mul_add, ← hk, ← hl]; omega⟩
theorem add (h : Cg n a b) (g : Cg n c d) : Cg n (a + c) (b + d) := by
  obtain ⟨k, hk⟩ := h; obtain ⟨l, hl⟩ := g; exact ⟨k + l, by rw [Int.mul_add, ← hk, ← hl]; omega⟩
theorem neg (h : Cg n a b) : Cg n (-a) (-b) := by
  obtain ⟨k, hk⟩ := h; exact ⟨-k, by rw [Int.mul_neg, ← hk]; omega⟩
theorem sub (h : Cg n a b) (g : Cg n c d) : Cg n (a - c) (b - d) := by
  obtain ⟨k, hk⟩ := h; obtain ⟨l, hl⟩ := g; exact ⟨k - l, by rw [Int.mul_sub, ← hk, ← hl]; omega⟩
theorem mul (h : Cg n a b) (g : Cg n c d) : Cg n (a * c) (b * d) := by
  obtain ⟨k, hk⟩ := h; obtain ⟨l, hl⟩ := g
  exact ⟨k * c + b * l, by
    have e1 : a = b + n * k := by omega
    have e2 : c = d + n * l := by omega
    subst e1; subst e2; grind⟩
theorem mul_left (c : Int) (h : Cg n a b) : Cg n (c * a) (c * b) := (refl n c).mul h
theorem mul_right (c : Int) (h : Cg n a b) : Cg n (a * c) (b * c) := h.mul (refl n c)
theorem pow (k : Nat) (h : Cg n a b) : Cg n (a ^ k) (b ^ k) := by
  induction k with
  | zero => simpa using refl n 1
  | succ k ih => rw [Int.pow_succ, Int.pow_succ]; exact ih.mul h
theorem emod (n a : Int) : Cg n (a % n) a := ⟨-(a / n), by have := Int.mul_ediv_add_emod a n; rw [Int.mul_neg]; omega⟩
theorem iff_emod : Cg n a b ↔ a % n = b % n := (Int.emod_eq_emod_iff_emod_sub_eq_zero.trans Int.dvd_iff_emod_eq_zero.symm).symm
theorem emod_eq (h : Cg n a b) : a % n = b % n := iff_emod.1 h
theorem of_emod (h : a % n = b % n) : Cg n a b := iff_emod.2 h
theorem zero_iff : Cg n a 0 ↔ n ∣ a := by unfold Cg; rw [Int.sub_zero]
theorem of_dvd {m : Int} (hm : m ∣ n) (h : Cg n a b) : Cg m a b := Int.dvd_trans hm h
theorem self_add (n a : Int) : Cg n (a + n) a := ⟨1, by omega⟩
theorem mul_self (n a : Int) : Cg n (n * a) 0 := ⟨a, by omega⟩
/-- two congruent residues are the same -/
theorem eq_of_bounds (h : Cg n a b) (ha : 0 ≤ a) (ha' : a < n) (hb : 0 ≤ b) (hb' : b < n) : a = b := by
  have := h.emod_eq; rwa [Int.emod_eq_of_lt ha ha', Int.emod_eq_of_lt hb hb'] at this
end Cg

theorem IsP.idvd_mul {p : Nat} {a b : Int} (h : IsP p) (hd : (p : Int) ∣ a * b) : (p : Int) ∣ a ∨ (p : Int) ∣ b := by
  rw [← Int.natAbs_dvd_natAbs, Int.natAbs_mul, Int.natAbs_natCast] at hd
  rcases h.dvd_mul hd with e | e
  · left; rwa [← Int.natAbs_dvd_natAbs, Int.natAbs_natCast]
  · right; rwa [← Int.natAbs_dvd_natAbs, Int.natAbs_natCast]

theorem IsP.idvd_pow {p n : Nat} {a : Int} (h : IsP p) (hd : (p : Int) ∣ a ^ n) : (p : Int) ∣ a := by
  rw [← Int.natAbs_dvd_natAbs, Int.natAbs_natCast] at *
  rw [Int.natAbs_pow] at hd
  exact h.dvd_pow hd

/-- cancel a factor that a prime does not divide -/
theorem Cg.cancel {p : Nat} {a b c : Int} (hp : IsP p) (hc : ¬ (p : Int) ∣ c) (h : Cg p (c * a) (c * b)) : Cg p a b := by
  have h' : (p : Int) ∣ c * (a - b) := by rw [Int.mul_sub]; exact h
  rcases hp.idvd_mul h' with e | e
  · exact absurd e hc
  · exact e

theorem Cg.cancel_right {p : Nat} {a b c : Int} (hp : IsP p) (hc : ¬ (p : Int) ∣ c) (h : Cg p (a * c) (b * c)) : Cg p a b := by
  rw [Int.mul_comm a c, Int.mul_comm b c] at h; exact h.cancel hp hc

theorem Cg.sq_one {p : Nat} {x : Int} (hp : IsP p) (h : Cg p (x * x) 1) : Cg p x 1 ∨ Cg p x (-1) := by
  have h' : (p : Int) ∣ (x - 1) * (x + 1) := by
    have e : (x - 1) * (x + 1) = x * x - 1 := by grind
    rw [e]; exact h
  rcases hp.idvd_mul h' with e | e
  · exact Or.inl e
  · exact Or.inr (by unfold Cg; rw [show x - -1 = x + 1 by omega]; exact e)

end FF
