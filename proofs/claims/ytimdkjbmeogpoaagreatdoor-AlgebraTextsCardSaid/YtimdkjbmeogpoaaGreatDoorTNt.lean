/- Plain number theory, part A: primes, prime divisors, congruences of integers. No program in sight. Plain number theory, part B: products over permuted lists, Fermat's theorem, orders, Gauss's lemma. Plain number theory, part C: the Legendre symbol, Gauss's lemma, Eisenstein's count, quadratic reciprocity for primes. Plain number theory, part E: exponents of a prime in a number, inverses modulo a number. Plain number theory, part F: Euclid's pairs. Plain number theory, part G: the Jacobi symbol: multiplicative in both arguments; reciprocity. Plain number theory, part H: the Hilbert symbol by exponents and rests. -/
namespace FF
def IsP (p : Nat) : Prop := 2 ≤ p ∧ ∀ d, d ∣ p → d = 1 ∨ d = p
theorem IsP.pos {p : Nat} (h : IsP p) : 0 < p := by have := h.1; omega
theorem IsP.coprime {p a : Nat} (h : IsP p) (ha : ¬ p ∣ a) : Nat.Coprime p a := by
  rcases h.2 (Nat.gcd p a) (Nat.gcd_dvd_left p a) with e | e
  · exact e
  · exact absurd (e ▸ Nat.gcd_dvd_right p a) ha
theorem IsP.dvd_mul {p a b : Nat} (h : IsP p) (hd : p ∣ a * b) : p ∣ a ∨ p ∣ b := by
  by_cases ha : p ∣ a
  · exact Or.inl ha
  · exact Or.inr ((h.coprime ha).dvd_of_dvd_mul_left hd)
theorem IsP.dvd_pow {p a n : Nat} (h : IsP p) (hd : p ∣ a ^ n) : p ∣ a := by
  induction n with
  | zero => rw [Nat.pow_zero] at hd; have := Nat.le_of_dvd (by omega) hd; have := h.1; omega
  | succ n ih => rw [Nat.pow_succ] at hd; rcases h.dvd_mul hd with h1 | h1
                 · exact ih h1
                 · exact h1
theorem IsP.not_dvd_one {p : Nat} (h : IsP p) : ¬ p ∣ 1 := by
  intro hd; have := Nat.le_of_dvd (by omega) hd; have := h.1; omega
theorem IsP.eq_of_dvd {p q : Nat} (hp : IsP p) (hq : IsP q) (hd : p ∣ q) : p = q := by
  rcases hq.2 p hd with e | e
  · have := hp.1; omega
  · exact e
theorem exists_prime_dvd (n : Nat) : 2 ≤ n → ∃ p, IsP p ∧ p ∣ n := by
  induction n using Nat.strongRecOn with
  | ind n ih =>
    intro hn
    by_cases hp : IsP n
    · exact ⟨n, hp, Nat.dvd_refl n⟩
    · have : ∃ d, d ∣ n ∧ d ≠ 1 ∧ d ≠ n := by
        apply Classical.byContradiction
        intro hc
        exact hp ⟨hn, fun d hd => by
          apply Classical.byContradiction; intro hx
          exact hc ⟨d, hd, fun e => hx (Or.inl e), fun e => hx (Or.inr e)⟩⟩
      obtain ⟨d, hd, h1, h2⟩ := this
      have hle := Nat.le_of_dvd (by omega) hd
      have h0 : d ≠ 0 := by rintro rfl; have := Nat.eq_zero_of_zero_dvd hd; omega
      obtain ⟨p, hp, hpd⟩ := ih d (by omega) (by omega)
      exact ⟨p, hp, Nat.dvd_trans hpd hd⟩
theorem exists_small_prime_dvd {n : Nat} (hn : 2 ≤ n) (hc : ¬ IsP n) : ∃ p, IsP p ∧ p ∣ n ∧ p * p ≤ n := by
  have : ∃ d, d ∣ n ∧ d ≠ 1 ∧ d ≠ n := by
    apply Classical.byContradiction
    intro hx
    exact hc ⟨hn, fun d hd => by
      apply Classical.byContradiction; intro hy
      exact hx ⟨d, hd, fun e => hy (Or.inl e), fun e => hy (Or.inr e)⟩⟩
  obtain ⟨d, ⟨e, rfl⟩, h1, h2⟩ := this
  have hd0 : d ≠ 0 := by rintro rfl; simp at hn
  have he0 : e ≠ 0 := by rintro rfl; simp at hn
  have he1 : e ≠ 1 := by rintro rfl; simp at h2
  by_cases hle : d ≤ e
  · obtain ⟨p, hp, hpd⟩ := exists_prime_dvd d (by omega)
    have := Nat.le_of_dvd (by omega) hpd
    exact ⟨p, hp, Nat.dvd_trans hpd ⟨e, rfl⟩, Nat.mul_le_mul this (by omega)⟩
  · obtain ⟨p, hp, hpd⟩ := exists_prime_dvd e (by omega)
    have := Nat.le_of_dvd (by omega) hpd
    exact ⟨p, hp, Nat.dvd_trans hpd ⟨d, Nat.mul_comm d e⟩, Nat.mul_le_mul (by omega) this⟩
theorem isP_of_trial {n : Nat} (hn : 2 ≤ n) (h : ∀ d, 2 ≤ d → d * d ≤ n → ¬ d ∣ n) : IsP n := by
  apply Classical.byContradiction; intro hc
  obtain ⟨p, hp, hd, hl⟩ := exists_small_prime_dvd hn hc
  exact h p hp.1 hl hd
theorem IsP.not_dvd_of_lt {p d : Nat} (h : IsP p) (h2 : 2 ≤ d) (hl : d < p) : ¬ d ∣ p := by
  intro hd; rcases h.2 d hd with e | e <;> omega
theorem IsP.odd {p : Nat} (h : IsP p) (h2 : p ≠ 2) : p % 2 = 1 := by
  have := h.1
  have h3 : ¬ 2 ∣ p := fun hd => by rcases h.2 2 hd with e | e <;> omega
  omega
theorem isP_two : IsP 2 := ⟨by omega, fun d hd => by have := Nat.le_of_dvd (by omega) hd; have : d ≠ 0 := (by rintro rfl; simp at hd); omega⟩
theorem isP_three : IsP 3 := isP_of_trial (by omega) (fun d h1 h2 => by have := Nat.mul_le_mul h1 h1; omega)
theorem isP_five : IsP 5 := isP_of_trial (by omega) (fun d h1 h2 => by
  have : d < 3 := by rcases Nat.lt_or_ge d 3 with h | h; exact h; have := Nat.mul_le_mul h h; omega
  have : d = 2 := by omega
  subst this; omega)
theorem isP_seven : IsP 7 := isP_of_trial (by omega) (fun d h1 h2 => by
  have : d < 3 := by rcases Nat.lt_or_ge d 3 with h | h; exact h; have := Nat.mul_le_mul h h; omega
  have : d = 2 := by omega
  subst this; omega)
def Cg (n a b : Int) : Prop := n ∣ a - b
namespace Cg
variable {n a b c d : Int}
theorem refl (n a : Int) : Cg n a a := by unfold Cg; rw [Int.sub_self]; exact Int.dvd_zero n
theorem symm (h : Cg n a b) : Cg n b a := by
  obtain ⟨k, hk⟩ := h; exact ⟨-k, by rw [Int.mul_neg, ← hk]; omega⟩
theorem trans (h : Cg n a b) (g : Cg n b c) : Cg n a c := by
  obtain ⟨k, hk⟩ := h; obtain ⟨l, hl⟩ := g; exact ⟨k + l, by rw [Int.mul_add, ← hk, ← hl]; omega⟩
theorem neg (h : Cg n a b) : Cg n (-a) (-b) := by
  obtain ⟨k, hk⟩ := h; exact ⟨-k, by rw [Int.mul_neg, ← hk]; omega⟩
theorem mul (h : Cg n a b) (g : Cg n c d) : Cg n (a * c) (b * d) := by
  obtain ⟨k, hk⟩ := h; obtain ⟨l, hl⟩ := g
  exact ⟨k * c + b * l, by
    have e1 : a = b + n * k := by omega
    have e2 : c = d + n * l := by omega
    subst e1; subst e2; grind⟩
theorem mul_left (c : Int) (h : Cg n a b) : Cg n (c * a) (c * b) := (refl n c).mul h
theorem mul_right (c : Int) (h : Cg n a b) : Cg n (a * c) (b * c) := h.mul (refl n c)
theorem pow (k : Nat) (h : Cg n a b) : Cg n (a ^ k) (b ^ k) := by
  induction k with
  | zero => simpa using refl n 1
  | succ k ih => rw [Int.pow_succ, Int.pow_succ]; exact ih.mul h
theorem emod (n a : Int) : Cg n (a % n) a := ⟨-(a / n), by have := Int.mul_ediv_add_emod a n; rw [Int.mul_neg]; omega⟩
theorem iff_emod : Cg n a b ↔ a % n = b % n := (Int.emod_eq_emod_iff_emod_sub_eq_zero.trans Int.dvd_iff_emod_eq_zero.symm).symm
theorem emod_eq (h : Cg n a b) : a % n = b % n := iff_emod.1 h
theorem of_emod (h : a % n = b % n) : Cg n a b := iff_emod.2 h
theorem zero_iff : Cg n a 0 ↔ n ∣ a := by unfold Cg; rw [Int.sub_zero]
theorem of_dvd {m : Int} (hm : m ∣ n) (h : Cg n a b) : Cg m a b := Int.dvd_trans hm h
theorem eq_of_bounds (h : Cg n a b) (ha : 0 ≤ a) (ha' : a < n) (hb : 0 ≤ b) (hb' : b < n) : a = b := by
  have := h.emod_eq; rwa [Int.emod_eq_of_lt ha ha', Int.emod_eq_of_lt hb hb'] at this
end Cg
theorem IsP.idvd_mul {p : Nat} {a b : Int} (h : IsP p) (hd : (p : Int) ∣ a * b) : (p : Int) ∣ a ∨ (p : Int) ∣ b := by
  rw [← Int.natAbs_dvd_natAbs, Int.natAbs_mul, Int.natAbs_natCast] at hd
  rcases h.dvd_mul hd with e | e
  · left; rwa [← Int.natAbs_dvd_natAbs, Int.natAbs_natCast]
  · right; rwa [← Int.natAbs_dvd_natAbs, Int.natAbs_natCast]
theorem IsP.idvd_pow {p n : Nat} {a : Int} (h : IsP p) (hd : (p : Int) ∣ a ^ n) : (p : Int) ∣ a := by
  rw [← Int.natAbs_dvd_natAbs, Int.natAbs_natCast] at *
  rw [Int.natAbs_pow] at hd
  exact h.dvd_pow hd
theorem Cg.cancel {p : Nat} {a b c : Int} (hp : IsP p) (hc : ¬ (p : Int) ∣ c) (h : Cg p (c * a) (c * b)) : Cg p a b := by
  have h' : (p : Int) ∣ c * (a - b) := by rw [Int.mul_sub]; exact h
  rcases hp.idvd_mul h' with e | e
  · exact absurd e hc
  · exact e
theorem Cg.cancel_right {p : Nat} {a b c : Int} (hp : IsP p) (hc : ¬ (p : Int) ∣ c) (h : Cg p (a * c) (b * c)) : Cg p a b := by
  rw [Int.mul_comm a c, Int.mul_comm b c] at h; exact h.cancel hp hc
theorem Cg.sq_one {p : Nat} {x : Int} (hp : IsP p) (h : Cg p (x * x) 1) : Cg p x 1 ∨ Cg p x (-1) := by
  have h' : (p : Int) ∣ (x - 1) * (x + 1) := by
    have e : (x - 1) * (x + 1) = x * x - 1 := by grind
    rw [e]; exact h
  rcases hp.idvd_mul h' with e | e
  · exact Or.inl e
  · exact Or.inr (by unfold Cg; rw [show x - -1 = x + 1 by omega]; exact e)
end FF
namespace FF
theorem perm_of_maps {l : List Nat} (hn : l.Nodup) (f : Nat → Nat) (hm : ∀ k, k ∈ l → f k ∈ l)
    (hi : ∀ i, i ∈ l → ∀ j, j ∈ l → f i = f j → i = j) : (l.map f).Perm l := by
  have hnod : (l.map f).Nodup := by
    unfold List.Nodup at *
    rw [List.pairwise_map]
    exact hn.imp_of_mem (fun {a b} ha hb hab he => hab (hi a ha b hb he))
  have hsub : l.map f ⊆ l := by
    intro x hx
    obtain ⟨k, hk, rfl⟩ := List.mem_map.1 hx
    exact hm k hk
  refine (List.perm_ext_iff_of_nodup hnod hn).2 (fun x => ⟨fun h => hsub h, fun h => ?_⟩)
  apply Classical.byContradiction
  intro hx
  have h1 : (x :: l.map f).Nodup := List.nodup_cons.2 ⟨hx, hnod⟩
  have h2 : (x :: l.map f) ⊆ l := by
    intro y hy
    rcases List.mem_cons.1 hy with rfl | hy
    · exact h
    · exact hsub hy
  have := h1.length_le_of_subset h2
  simp at this; omega
def prodL (f : Nat → Int) : List Nat → Int
  | [] => 1
  | k :: l => f k * prodL f l
theorem prodL_perm (f : Nat → Int) {l m : List Nat} (h : l.Perm m) : prodL f l = prodL f m := by
  induction h with
  | nil => rfl
  | cons x _ ih => simp only [prodL, ih]
  | swap x y l => simp only [prodL]; grind
  | trans _ _ ih1 ih2 => exact ih1.trans ih2
theorem prodL_map (f : Nat → Int) (g : Nat → Nat) (l : List Nat) : prodL f (l.map g) = prodL (fun k => f (g k)) l := by
  induction l with
  | nil => rfl
  | cons k l ih => simp only [List.map, prodL, ih]
theorem prodL_mul (f g : Nat → Int) (l : List Nat) : prodL (fun k => f k * g k) l = prodL f l * prodL g l := by
  induction l with
  | nil => rfl
  | cons k l ih => simp only [prodL, ih]; grind
theorem prodL_const (c : Int) (l : List Nat) : prodL (fun _ => c) l = c ^ l.length := by
  induction l with
  | nil => simp [prodL]
  | cons k l ih => simp only [prodL, ih, List.length_cons, Int.pow_succ]; grind
theorem prodL_congr (n : Int) (f g : Nat → Int) (l : List Nat) (h : ∀ k, k ∈ l → Cg n (f k) (g k)) : Cg n (prodL f l) (prodL g l) := by
  induction l with
  | nil => exact Cg.refl _ _
  | cons k l ih => exact (h k (by simp)).mul (ih fun j hj => h j (by simp [hj]))
theorem prodL_not_dvd {p : Nat} (hp : IsP p) (f : Nat → Int) (l : List Nat) (h : ∀ k, k ∈ l → ¬ (p : Int) ∣ f k) : ¬ (p : Int) ∣ prodL f l := by
  induction l with
  | nil => intro hd; exact hp.not_dvd_one (by have : (p : Int) ∣ ((1 : Nat) : Int) := hd; exact Int.natCast_dvd_natCast.1 this)
  | cons k l ih =>
    intro hd
    rcases hp.idvd_mul hd with e | e
    · exact h k (by simp) e
    · exact ih (fun j hj => h j (by simp [hj])) e
def upTo (n : Nat) : List Nat := List.range' 1 n
theorem mem_upTo {n k : Nat} : k ∈ upTo n ↔ 1 ≤ k ∧ k ≤ n := by
  unfold upTo; rw [List.mem_range'_1]; omega
theorem nodup_upTo (n : Nat) : (upTo n).Nodup := List.nodup_range'
theorem length_upTo (n : Nat) : (upTo n).length = n := by simp [upTo]
theorem nat_lt_not_dvd {p k : Nat} (h1 : 1 ≤ k) (h2 : k < p) : ¬ (p : Int) ∣ (k : Int) := by
  intro hd; have := Nat.le_of_dvd (by omega) (Int.natCast_dvd_natCast.1 hd); omega
theorem fermat {p : Nat} (hp : IsP p) {a : Int} (ha : ¬ (p : Int) ∣ a) : Cg p (a ^ (p - 1)) 1 := by
  have hp2 := hp.1
  have hp0 : (p : Int) ≠ 0 := by omega
  have hpp : (0 : Int) < p := by omega
  let f : Nat → Nat := fun k => ((a * (k : Int)) % (p : Int)).toNat
  have hf : ∀ k, ((f k : Nat) : Int) = (a * (k : Int)) % (p : Int) := fun k => Int.toNat_of_nonneg (Int.emod_nonneg _ hp0)
  have hperm : ((upTo (p - 1)).map f).Perm (upTo (p - 1)) := by
    refine perm_of_maps (nodup_upTo _) f ?_ ?_
    · intro k hk
      rw [mem_upTo] at *
      have h1 := hf k
      have h2 := Int.emod_lt_of_pos (a * (k : Int)) hpp
      have h3 : ¬ (p : Int) ∣ a * (k : Int) := fun hd => by
        rcases hp.idvd_mul hd with e | e
        · exact ha e
        · exact nat_lt_not_dvd hk.1 (by omega) e
      have h4 : (a * (k : Int)) % (p : Int) ≠ 0 := fun e => h3 (Int.dvd_of_emod_eq_zero e)
      have h5 := Int.emod_nonneg (a * (k : Int)) hp0
      omega
    · intro i hi j hj he
      rw [mem_upTo] at *
      have h1 := hf i; rw [he, hf j] at h1
      have h2 : Cg p (a * (i : Int)) (a * (j : Int)) := (Cg.of_emod h1).symm
      have h3 := h2.cancel hp ha
      have := h3.eq_of_bounds (by omega) (by omega) (by omega) (by omega)
      omega
  have e1 := prodL_perm (fun k => (k : Int)) hperm
  rw [prodL_map] at e1
  have e2 : Cg p (prodL (fun k => ((f k : Nat) : Int)) (upTo (p - 1))) (prodL (fun k => a * (k : Int)) (upTo (p - 1))) :=
    prodL_congr _ _ _ _ (fun k _ => by rw [hf k]; exact Cg.emod _ _)
  rw [prodL_mul, prodL_const, length_upTo, e1] at e2
  have hnd : ¬ (p : Int) ∣ prodL (fun k => (k : Int)) (upTo (p - 1)) :=
    prodL_not_dvd hp _ _ (fun k hk => by rw [mem_upTo] at hk; exact nat_lt_not_dvd hk.1 (by omega))
  refine (Cg.cancel_right hp hnd ?_).symm
  rw [Int.one_mul]; exact e2
theorem pow_gcd_one {n a : Int} (i j : Nat) : Cg n (a ^ i) 1 → Cg n (a ^ j) 1 → Cg n (a ^ (Nat.gcd i j)) 1 := by
  induction i, j using Nat.gcd.induction with
  | H0 j => intro _ h; simpa using h
  | H1 i j hi ih =>
    intro h1 h2
    rw [Nat.gcd_rec]
    refine ih ?_ h1
    have e : a ^ j = (a ^ i) ^ (j / i) * a ^ (j % i) := by
      rw [← Int.pow_mul, ← Int.pow_add, Nat.div_add_mod]
    rw [e] at h2
    have h3 : Cg n ((a ^ i) ^ (j / i) * a ^ (j % i)) (1 ^ (j / i) * a ^ (j % i)) := (h1.pow _).mul_right _
    rw [Int.one_pow, Int.one_mul] at h3
    exact h3.symm.trans h2
theorem pow_mul_one {n a : Int} {i : Nat} (j : Nat) (h : Cg n (a ^ i) 1) : Cg n (a ^ (i * j)) 1 := by
  rw [Int.pow_mul]; have := h.pow j; rwa [Int.one_pow] at this
theorem pow_dvd_one {n a : Int} {i j : Nat} (hd : i ∣ j) (h : Cg n (a ^ i) 1) : Cg n (a ^ j) 1 := by
  obtain ⟨k, rfl⟩ := hd; exact pow_mul_one k h
end FF
namespace FF
def sg (n : Nat) : Int := if n % 2 = 0 then 1 else -1
theorem sg_add (m n : Nat) : sg (m + n) = sg m * sg n := by
  unfold sg; split <;> split <;> split <;> first | rfl | omega
theorem sg_cases (n : Nat) : sg n = 1 ∨ sg n = -1 := by unfold sg; split <;> simp
theorem sg_congr {m n : Nat} (h : m % 2 = n % 2) : sg m = sg n := by unfold sg; rw [h]
theorem sg_mul_odd {m n : Nat} (h : m % 2 = 1) : sg (m * n) = sg n := by
  apply sg_congr; rw [Nat.mul_mod, h]; omega
theorem sg_even {n : Nat} (h : n % 2 = 0) : sg n = 1 := by unfold sg; rw [if_pos h]
theorem sg_odd {n : Nat} (h : n % 2 = 1) : sg n = -1 := by unfold sg; rw [if_neg (by omega)]
def sumL (f : Nat → Int) : List Nat → Int
  | [] => 0
  | k :: l => f k + sumL f l
theorem sumL_perm (f : Nat → Int) {l m : List Nat} (h : l.Perm m) : sumL f l = sumL f m := by
  induction h with
  | nil => rfl
  | cons x _ ih => simp only [sumL, ih]
  | swap x y l => simp only [sumL]; omega
  | trans _ _ ih1 ih2 => exact ih1.trans ih2
theorem sumL_map (f : Nat → Int) (g : Nat → Nat) (l : List Nat) : sumL f (l.map g) = sumL (fun k => f (g k)) l := by
  induction l with
  | nil => rfl
  | cons k l ih => simp only [List.map, sumL, ih]
theorem sumL_add (f g : Nat → Int) (l : List Nat) : sumL (fun k => f k + g k) l = sumL f l + sumL g l := by
  induction l with
  | nil => rfl
  | cons k l ih => simp only [sumL, ih]; omega
theorem sumL_congr (f g : Nat → Int) (l : List Nat) (h : ∀ k, k ∈ l → f k = g k) : sumL f l = sumL g l := by
  induction l with
  | nil => rfl
  | cons k l ih => simp only [sumL]; rw [h k (by simp), ih fun j hj => h j (by simp [hj])]
theorem sumL_zero (l : List Nat) : sumL (fun _ => 0) l = 0 := by
  induction l with
  | nil => rfl
  | cons k l ih => simp only [sumL, ih]; omega
theorem sumL_const (c : Int) (l : List Nat) : sumL (fun _ => c) l = c * l.length := by
  induction l with
  | nil => simp [sumL]
  | cons k l ih => simp only [sumL, ih, List.length_cons]; push_cast; grind
theorem sumL_append (f : Nat → Int) (l m : List Nat) : sumL f (l ++ m) = sumL f l + sumL f m := by
  induction l with
  | nil => simp [sumL]
  | cons k l ih => simp only [List.cons_append, sumL, ih]; omega
theorem sumL_swap (f : Nat → Nat → Int) (l m : List Nat) : sumL (fun k => sumL (fun j => f k j) m) l = sumL (fun j => sumL (fun k => f k j) l) m := by
  induction l with
  | nil => simp only [sumL]; rw [sumL_zero]
  | cons k l ih => simp only [sumL]; rw [ih, ← sumL_add]
theorem sumL_nonneg (f : Nat → Int) (l : List Nat) (h : ∀ k, k ∈ l → 0 ≤ f k) : 0 ≤ sumL f l := by
  induction l with
  | nil => simp [sumL]
  | cons k l ih => simp only [sumL]; have := h k (by simp); have := ih fun j hj => h j (by simp [hj]); omega
theorem upTo_succ (n : Nat) : upTo (n + 1) = upTo n ++ [n + 1] := by
  unfold upTo; rw [List.range'_concat]; simp [Nat.add_comm]
def leg (a : Int) (p : Nat) : Int := if a % (p : Int) = 0 then 0 else if a ^ ((p - 1) / 2) % (p : Int) = 1 then 1 else -1
theorem leg_zero {a : Int} {p : Nat} (h : (p : Int) ∣ a) : leg a p = 0 := by
  unfold leg; rw [if_pos (Int.emod_eq_zero_of_dvd h)]
theorem leg_ne {a : Int} {p : Nat} (h : ¬ (p : Int) ∣ a) : leg a p = 1 ∨ leg a p = -1 := by
  unfold leg; rw [if_neg (fun e => h (Int.dvd_of_emod_eq_zero e))]; split <;> simp
theorem half_pow {p : Nat} (hp : IsP p) (h2 : p ≠ 2) {a : Int} (ha : ¬ (p : Int) ∣ a) :
    Cg p (a ^ ((p - 1) / 2)) 1 ∨ Cg p (a ^ ((p - 1) / 2)) (-1) := by
  have ho := hp.odd h2
  have e : a ^ (p - 1) = a ^ ((p - 1) / 2) * a ^ ((p - 1) / 2) := by rw [← Int.pow_add]; congr 1; omega
  have hf := fermat hp ha
  rw [e] at hf
  exact hf.sq_one hp
theorem leg_cg {p : Nat} (hp : IsP p) (h2 : p ≠ 2) (a : Int) : Cg p (leg a p) (a ^ ((p - 1) / 2)) := by
  have ho := hp.odd h2
  have hp2 := hp.1
  have hpp : (1 : Int) < p := by omega
  by_cases ha : (p : Int) ∣ a
  · rw [leg_zero ha]
    have hh : 1 ≤ (p - 1) / 2 := by omega
    obtain ⟨n, hn⟩ : ∃ n, (p - 1) / 2 = n + 1 := ⟨(p - 1) / 2 - 1, by omega⟩
    rw [hn, Int.pow_succ]
    exact (Cg.zero_iff.2 (Int.dvd_mul_of_dvd_right ha)).symm
  · rcases half_pow hp h2 ha with h | h
    · have : leg a p = 1 := by
        unfold leg; rw [if_neg (fun e => ha (Int.dvd_of_emod_eq_zero e)), if_pos]
        rw [h.emod_eq]; exact Int.emod_eq_of_lt (by omega) hpp
      rw [this]; exact h.symm
    · have : leg a p = -1 := by
        unfold leg; rw [if_neg (fun e => ha (Int.dvd_of_emod_eq_zero e)), if_neg]
        rw [h.emod_eq]
        intro e
        have e2 : Cg p (-1) 1 := Cg.of_emod (by rw [e]; exact (Int.emod_eq_of_lt (by omega) hpp).symm)
        have e3 : (p : Int) ∣ 2 := by have := e2.symm; unfold Cg at this; exact this
        have := Int.le_of_dvd (by omega) e3
        omega
      rw [this]; exact h.symm
theorem small_eq {p : Nat} (hp : IsP p) (h2 : p ≠ 2) {x y : Int} (hx : -1 ≤ x ∧ x ≤ 1) (hy : -1 ≤ y ∧ y ≤ 1) (h : Cg p x y) : x = y := by
  have ho := hp.odd h2
  have hp2 := hp.1
  obtain ⟨k, hk⟩ := h
  have : k = 0 := by
    rcases Int.lt_trichotomy k 0 with h | h | h
    · have : (p : Int) * k ≤ (p : Int) * (-1) := Int.mul_le_mul_of_nonneg_left (by omega) (by omega)
      omega
    · exact h
    · have : (p : Int) * 1 ≤ (p : Int) * k := Int.mul_le_mul_of_nonneg_left (by omega) (by omega)
      omega
  subst this; omega
theorem leg_bound (a : Int) (p : Nat) : -1 ≤ leg a p ∧ leg a p ≤ 1 := by
  unfold leg; split
  · omega
  · split <;> omega
theorem leg_mul {p : Nat} (hp : IsP p) (h2 : p ≠ 2) (a b : Int) : leg (a * b) p = leg a p * leg b p := by
  refine small_eq hp h2 (leg_bound _ _) ?_ ?_
  · have := leg_bound a p; have := leg_bound b p
    have h1 : leg a p = -1 ∨ leg a p = 0 ∨ leg a p = 1 := by omega
    rcases h1 with e | e | e <;> rw [e] <;> omega
  · have := leg_cg hp h2 (a * b)
    rw [Int.mul_pow] at this
    exact this.trans ((leg_cg hp h2 a).mul (leg_cg hp h2 b)).symm
theorem leg_congr {p : Nat} {a b : Int} (h : Cg p a b) : leg a p = leg b p := by
  unfold leg; rw [h.emod_eq, (h.pow _).emod_eq]
theorem leg_one {p : Nat} (hp : IsP p) : leg 1 p = 1 := by
  have := hp.1
  unfold leg; rw [Int.one_pow, Int.emod_eq_of_lt (by omega) (by omega)]; simp
section gauss
variable {p : Nat} (a : Int)
def gres (p : Nat) (a : Int) (k : Nat) : Int := (a * (k : Int)) % (p : Int)
def gdist (p : Nat) (a : Int) (k : Nat) : Nat := if gres p a k ≤ (((p - 1) / 2 : Nat) : Int) then (gres p a k).toNat else ((p : Int) - gres p a k).toNat
def gup (p : Nat) (a : Int) (k : Nat) : Nat := if gres p a k ≤ (((p - 1) / 2 : Nat) : Int) then 0 else 1
theorem gres_pos (hp : IsP p) (ha : ¬ (p : Int) ∣ a) {k : Nat} (h1 : 1 ≤ k) (h2 : k < p) : 0 < gres p a k ∧ gres p a k < p := by
  have hp2 := hp.1
  have h3 : ¬ (p : Int) ∣ a * (k : Int) := fun hd => by
    rcases hp.idvd_mul hd with e | e
    · exact ha e
    · exact nat_lt_not_dvd h1 h2 e
  have h4 : (a * (k : Int)) % (p : Int) ≠ 0 := fun e => h3 (Int.dvd_of_emod_eq_zero e)
  have h5 := Int.emod_nonneg (a * (k : Int)) (b := (p : Int)) (by omega)
  have h6 := Int.emod_lt_of_pos (a * (k : Int)) (b := (p : Int)) (by omega)
  unfold gres; omega
theorem gdist_cg (hp : IsP p) (ha : ¬ (p : Int) ∣ a) {k : Nat} (h1 : 1 ≤ k) (h2 : k < p) :
    Cg p (sg (gup p a k) * (gdist p a k : Int)) (a * (k : Int)) := by
  have h := gres_pos a hp ha h1 h2
  have h3 : Cg p (gres p a k) (a * (k : Int)) := Cg.emod _ _
  unfold gup gdist
  split
  · rw [Int.toNat_of_nonneg (by omega)]; simpa [sg] using h3
  · rw [Int.toNat_of_nonneg (by omega)]
    have : Cg p (-((p : Int) - gres p a k)) (gres p a k) := ⟨-1, by omega⟩
    simpa [sg] using this.trans h3
theorem gdist_bounds (hp : IsP p) (ho : p % 2 = 1) (ha : ¬ (p : Int) ∣ a) {k : Nat} (h1 : 1 ≤ k) (h2 : k < p) :
    1 ≤ gdist p a k ∧ gdist p a k ≤ (p - 1) / 2 := by
  have h := gres_pos a hp ha h1 h2
  unfold gdist; split <;> omega
theorem gdist_perm (hp : IsP p) (h2 : p ≠ 2) (ha : ¬ (p : Int) ∣ a) :
    ((upTo ((p - 1) / 2)).map (gdist p a)).Perm (upTo ((p - 1) / 2)) := by
  have ho := hp.odd h2
  refine perm_of_maps (nodup_upTo _) _ ?_ ?_
  · intro k hk
    rw [mem_upTo] at *
    exact gdist_bounds a hp ho ha hk.1 (by omega)
  · intro i hi j hj he
    rw [mem_upTo] at *
    have g1 := gdist_cg a hp ha hi.1 (by omega)
    have g2 := gdist_cg a hp ha hj.1 (by omega)
    rw [he] at g1
    generalize (gdist p a j : Int) = d at g1 g2
    have key : Cg p (i : Int) (j : Int) ∨ Cg p (i : Int) (-(j : Int)) := by
      rcases sg_cases (gup p a i) with e1 | e1 <;> rcases sg_cases (gup p a j) with e2 | e2 <;> rw [e1] at g1 <;> rw [e2] at g2
      · exact Or.inl ((g1.symm.trans g2).cancel hp ha)
      · have g3 := g2.neg
        rw [show -(-1 * d) = 1 * d by omega, show -(a * (j : Int)) = a * (-(j : Int)) by grind] at g3
        exact Or.inr ((g1.symm.trans g3).cancel hp ha)
      · have g3 := g2.neg
        rw [show -(1 * d) = -1 * d by omega, show -(a * (j : Int)) = a * (-(j : Int)) by grind] at g3
        exact Or.inr ((g1.symm.trans g3).cancel hp ha)
      · exact Or.inl ((g1.symm.trans g2).cancel hp ha)
    rcases key with h | h
    · have := h.eq_of_bounds (by omega) (by omega) (by omega) (by omega); omega
    · exfalso
      have h' : (p : Int) ∣ ((i + j : Nat) : Int) := by
        unfold Cg at h; rw [show ((i + j : Nat) : Int) = (i : Int) - -(j : Int) by omega]; exact h
      exact nat_lt_not_dvd (by omega) (by omega) h'
theorem gauss (hp : IsP p) (h2 : p ≠ 2) (ha : ¬ (p : Int) ∣ a) :
    leg a p = prodL (fun k => sg (gup p a k)) (upTo ((p - 1) / 2)) := by
  have ho := hp.odd h2
  have e1 := prodL_perm (fun k => (k : Int)) (gdist_perm a hp h2 ha)
  rw [prodL_map] at e1
  have e2 : Cg p (prodL (fun k => sg (gup p a k) * (gdist p a k : Int)) (upTo ((p - 1) / 2))) (prodL (fun k => a * (k : Int)) (upTo ((p - 1) / 2))) :=
    prodL_congr _ _ _ _ (fun k hk => by rw [mem_upTo] at hk; exact gdist_cg a hp ha hk.1 (by omega))
  rw [prodL_mul, prodL_mul, e1, prodL_const, length_upTo] at e2
  have hnd : ¬ (p : Int) ∣ prodL (fun k => (k : Int)) (upTo ((p - 1) / 2)) :=
    prodL_not_dvd hp _ _ (fun k hk => by rw [mem_upTo] at hk; exact nat_lt_not_dvd hk.1 (by omega))
  have e3 := e2.cancel_right hp hnd
  refine small_eq hp h2 (leg_bound _ _) ?_ ((leg_cg hp h2 a).trans e3.symm)
  have : ∀ l : List Nat, prodL (fun k => sg (gup p a k)) l = 1 ∨ prodL (fun k => sg (gup p a k)) l = -1 := by
    intro l; induction l with
    | nil => left; rfl
    | cons k l ih =>
      simp only [prodL]
      rcases sg_cases (gup p a k) with e | e <;> rcases ih with f | f <;> rw [e, f] <;> simp
  rcases this (upTo ((p - 1) / 2)) with e | e <;> rw [e] <;> omega
theorem prod_sg (f : Nat → Nat) (l : List Nat) : prodL (fun k => sg (f k)) l = sg ((sumL (fun k => (f k : Int)) l).toNat) := by
  induction l with
  | nil => rfl
  | cons k l ih =>
    simp only [prodL, sumL]
    have := sumL_nonneg (fun k => (f k : Int)) l (fun k _ => by omega)
    rw [ih, show ((f k : Int) + sumL (fun k => (f k : Int)) l).toNat = f k + (sumL (fun k => (f k : Int)) l).toNat by omega, sg_add]
theorem gup_parity (hp : IsP p) (h2 : p ≠ 2) (ha : ¬ (p : Int) ∣ a) :
    sumL (fun k => (gup p a k : Int)) (upTo ((p - 1) / 2)) % 2 =
      ((a - 1) * sumL (fun k => (k : Int)) (upTo ((p - 1) / 2)) + sumL (fun k => (a * (k : Int)) / (p : Int)) (upTo ((p - 1) / 2))) % 2 := by
  have ho := hp.odd h2
  have e1 := sumL_perm (fun k => (k : Int)) (gdist_perm a hp h2 ha)
  rw [sumL_map] at e1
  have row : ∀ k, k ∈ upTo ((p - 1) / 2) → ∃ z : Int, a * (k : Int) = (p : Int) * ((a * (k : Int)) / (p : Int)) + (gdist p a k : Int) + (gup p a k : Int) + 2 * z := by
    intro k hk
    rw [mem_upTo] at hk
    have h := gres_pos a hp ha hk.1 (by omega)
    have h3 : (p : Int) * ((a * (k : Int)) / (p : Int)) + gres p a k = a * (k : Int) := Int.mul_ediv_add_emod _ _
    unfold gdist gup
    split
    · exact ⟨0, by omega⟩
    · exact ⟨gres p a k - (p + 1) / 2, by omega⟩
  have hsum : ∀ l : List Nat, (∀ k, k ∈ l → k ∈ upTo ((p - 1) / 2)) → ∃ z : Int, a * sumL (fun k => (k : Int)) l =
      (p : Int) * sumL (fun k => (a * (k : Int)) / (p : Int)) l + sumL (fun k => (gdist p a k : Int)) l + sumL (fun k => (gup p a k : Int)) l + 2 * z := by
    intro l
    induction l with
    | nil => intro _; exact ⟨0, by simp [sumL]⟩
    | cons k l ih =>
      intro hl
      obtain ⟨z1, h1⟩ := row k (hl k (by simp))
      obtain ⟨z2, h2⟩ := ih (fun j hj => hl j (by simp [hj]))
      refine ⟨z1 + z2, ?_⟩
      simp only [sumL]
      rw [Int.mul_add, Int.mul_add, h2]
      generalize (p : Int) * (a * (k : Int) / (p : Int)) = u at *
      omega
  obtain ⟨z, hz⟩ := hsum (upTo ((p - 1) / 2)) (fun _ h => h)
  rw [e1] at hz
  generalize sumL (fun k => (k : Int)) (upTo ((p - 1) / 2)) = S at *
  generalize sumL (fun k => (a * (k : Int)) / (p : Int)) (upTo ((p - 1) / 2)) = F at *
  generalize sumL (fun k => (gup p a k : Int)) (upTo ((p - 1) / 2)) = G at *
  obtain ⟨t, ht⟩ : ∃ t : Int, (p : Int) = 2 * t + 1 := ⟨(p : Int) / 2, by omega⟩
  rw [ht] at hz
  have e2 : (a - 1) * S = a * S - S := by rw [Int.sub_mul]; omega
  have e3 : (2 * t + 1) * F = 2 * (t * F) + F := by grind
  rw [e2, hz, e3]
  omega
theorem sum_upTo (n : Nat) : 2 * sumL (fun k => (k : Int)) (upTo n) = n * (n + 1) := by
  induction n with
  | zero => rfl
  | succ n ih =>
    rw [upTo_succ, sumL_append]
    simp only [sumL]
    rw [Int.mul_add, ih]; push_cast; grind
theorem leg_two (hp : IsP p) (h2 : p ≠ 2) : leg 2 p = sg ((p * p - 1) / 8) := by
  have ho := hp.odd h2
  have hp2 := hp.1
  have ha : ¬ (p : Int) ∣ 2 := fun hd => by have := Int.le_of_dvd (by omega) hd; omega
  rw [gauss 2 hp h2 ha, prod_sg]
  have hpar := gup_parity 2 hp h2 ha
  have hz : sumL (fun k => (2 * (k : Int)) / (p : Int)) (upTo ((p - 1) / 2)) = 0 := by
    rw [sumL_congr _ (fun _ => 0) _ (fun k hk => by rw [mem_upTo] at hk; exact Int.ediv_eq_zero_of_lt (by omega) (by omega)), sumL_zero]
  rw [hz] at hpar
  have hs := sum_upTo ((p - 1) / 2)
  have hn := sumL_nonneg (fun k => (gup p 2 k : Int)) (upTo ((p - 1) / 2)) (fun k _ => by omega)
  obtain ⟨t, ht⟩ : ∃ t, p = 2 * t + 1 := ⟨p / 2, by omega⟩
  have ht2 : (p - 1) / 2 = t := by omega
  rw [ht2] at hpar hs hn ⊢
  generalize sumL (fun k => (gup p 2 k : Int)) (upTo t) = G at *
  generalize sumL (fun k => (k : Int)) (upTo t) = S at *
  have e1 : (p * p - 1) = 4 * (t * (t + 1)) := by
    rw [ht]; rw [show (2 * t + 1) * (2 * t + 1) = 4 * (t * (t + 1)) + 1 by grind]; omega
  have e2 : ((t * (t + 1) : Nat) : Int) = 2 * S := by rw [hs]; push_cast; rfl
  rw [e1]
  generalize t * (t + 1) = T at *
  apply sg_congr
  omega
theorem count_le (p x : Nat) (hp : 0 < p) (m : Nat) : sumL (fun j => if p * j ≤ x then 1 else 0) (upTo m) = (min m (x / p) : Nat) := by
  induction m with
  | zero => simp [upTo, sumL]
  | succ m ih =>
    rw [upTo_succ, sumL_append, ih]
    simp only [sumL]
    have : p * (m + 1) ≤ x ↔ m + 1 ≤ x / p := by rw [Nat.le_div_iff_mul_le hp, Nat.mul_comm]
    split <;> omega
theorem eisenstein (p q h m : Nat) (hp : p = 2 * h + 1) (hq : q = 2 * m + 1) (hc : Nat.Coprime p q) :
    sumL (fun k => ((q * k / p : Nat) : Int)) (upTo h) + sumL (fun j => ((p * j / q : Nat) : Int)) (upTo m) = (h * m : Nat) := by
  have e1 : sumL (fun k => ((q * k / p : Nat) : Int)) (upTo h) = sumL (fun k => sumL (fun j => if p * j ≤ q * k then 1 else 0) (upTo m)) (upTo h) := by
    apply sumL_congr
    intro k hk
    rw [mem_upTo] at hk
    rw [count_le p (q * k) (by omega)]
    have : q * k / p ≤ m := by
      apply Nat.le_of_lt_succ
      rw [Nat.div_lt_iff_lt_mul (by omega)]
      have h1 : q * k ≤ q * h := Nat.mul_le_mul_left _ hk.2
      have h2 : q * h < (m + 1) * p := by rw [hp, hq]; grind
      exact Nat.lt_of_le_of_lt h1 h2
    rw [Nat.min_eq_right this]
  have e2 : sumL (fun j => ((p * j / q : Nat) : Int)) (upTo m) = sumL (fun j => sumL (fun k => if q * k ≤ p * j then 1 else 0) (upTo h)) (upTo m) := by
    apply sumL_congr
    intro j hj
    rw [mem_upTo] at hj
    rw [count_le q (p * j) (by omega)]
    have : p * j / q ≤ h := by
      apply Nat.le_of_lt_succ
      rw [Nat.div_lt_iff_lt_mul (by omega)]
      have h1 : p * j ≤ p * m := Nat.mul_le_mul_left _ hj.2
      have h2 : p * m < (h + 1) * q := by rw [hp, hq]; grind
      exact Nat.lt_of_le_of_lt h1 h2
    rw [Nat.min_eq_right this]
  rw [e1, e2, sumL_swap (fun j k => if q * k ≤ p * j then 1 else 0), ← sumL_add]
  have e3 : sumL (fun k => sumL (fun j => if p * j ≤ q * k then 1 else 0) (upTo m) + sumL (fun j => if q * k ≤ p * j then 1 else 0) (upTo m)) (upTo h) = sumL (fun _ => (m : Int)) (upTo h) := by
    apply sumL_congr
    intro k hk
    rw [mem_upTo] at hk
    rw [← sumL_add, sumL_congr _ (fun _ => 1), sumL_const, length_upTo]
    · omega
    · intro j hj
      rw [mem_upTo] at hj
      have hne : p * j ≠ q * k := by
        intro he
        have : p ∣ q * k := ⟨j, he.symm⟩
        have := hc.dvd_of_dvd_mul_left this
        have := Nat.le_of_dvd (by omega) this
        omega
      split <;> split <;> omega
  rw [e3, sumL_const, length_upTo]; push_cast; grind
theorem leg_odd (hp : IsP p) (h2 : p ≠ 2) {q : Nat} (hq : q % 2 = 1) (ha : ¬ p ∣ q) :
    leg (q : Int) p = sg (sumL (fun k => ((q * k / p : Nat) : Int)) (upTo ((p - 1) / 2))).toNat := by
  have ha' : ¬ (p : Int) ∣ (q : Int) := fun h => ha (Int.natCast_dvd_natCast.1 h)
  rw [gauss (q : Int) hp h2 ha', prod_sg]
  have hpar := gup_parity (q : Int) hp h2 ha'
  have e : sumL (fun k => ((q : Int) * (k : Int)) / (p : Int)) (upTo ((p - 1) / 2)) = sumL (fun k => ((q * k / p : Nat) : Int)) (upTo ((p - 1) / 2)) := by
    apply sumL_congr; intro k _; push_cast; rfl
  rw [e] at hpar
  have hn := sumL_nonneg (fun k => (gup p (q : Int) k : Int)) (upTo ((p - 1) / 2)) (fun k _ => by omega)
  have hn2 := sumL_nonneg (fun k => ((q * k / p : Nat) : Int)) (upTo ((p - 1) / 2)) (fun k _ => Int.natCast_nonneg _)
  generalize sumL (fun k => (gup p (q : Int) k : Int)) (upTo ((p - 1) / 2)) = G at *
  generalize sumL (fun k => ((q * k / p : Nat) : Int)) (upTo ((p - 1) / 2)) = F at *
  generalize sumL (fun k => (k : Int)) (upTo ((p - 1) / 2)) = S at *
  obtain ⟨t, ht⟩ : ∃ t : Int, (q : Int) - 1 = 2 * t := ⟨(q : Int) / 2, by omega⟩
  rw [ht, show 2 * t * S = 2 * (t * S) by grind] at hpar
  apply sg_congr
  omega
theorem reciprocity {p q : Nat} (hp : IsP p) (hq : IsP q) (hp2 : p ≠ 2) (hq2 : q ≠ 2) (hne : p ≠ q) :
    leg (q : Int) p * leg (p : Int) q = sg ((p - 1) / 2 * ((q - 1) / 2)) := by
  have hop := hp.odd hp2
  have hoq := hq.odd hq2
  have h1 : ¬ p ∣ q := fun h => hne (hp.eq_of_dvd hq h)
  have h2 : ¬ q ∣ p := fun h => hne (hq.eq_of_dvd hp h).symm
  rw [leg_odd hp hp2 hoq h1, leg_odd hq hq2 hop h2, ← sg_add]
  have he := eisenstein p q ((p - 1) / 2) ((q - 1) / 2) (by omega) (by omega) (hp.coprime h1)
  have n1 := sumL_nonneg (fun k => ((q * k / p : Nat) : Int)) (upTo ((p - 1) / 2)) (fun k _ => Int.natCast_nonneg _)
  have n2 := sumL_nonneg (fun k => ((p * k / q : Nat) : Int)) (upTo ((q - 1) / 2)) (fun k _ => Int.natCast_nonneg _)
  congr 1
  omega
end gauss
end FF
namespace FF
def vpF : Nat → Int → Int → Nat
  | 0, _, _ => 0
  | f + 1, p, n => if p ∣ n then vpF f p (n / p) + 1 else 0
def vp (p n : Int) : Nat := vpF n.natAbs p n
theorem natAbs_div_lt {p n : Int} (hp : 2 ≤ p) (hn : n ≠ 0) (hd : p ∣ n) : (n / p).natAbs < n.natAbs ∧ n / p ≠ 0 := by
  obtain ⟨k, rfl⟩ := hd
  have hk : k ≠ 0 := by rintro rfl; simp at hn
  rw [Int.mul_ediv_cancel_left _ (by omega), Int.natAbs_mul]
  refine ⟨?_, hk⟩
  have : 2 * k.natAbs ≤ p.natAbs * k.natAbs := Nat.mul_le_mul_right _ (by omega)
  omega
theorem vpF_fuel {p : Int} (hp : 2 ≤ p) (f g : Nat) : ∀ n : Int, n ≠ 0 → n.natAbs ≤ f → n.natAbs ≤ g → vpF f p n = vpF g p n := by
  induction f generalizing g with
  | zero => intro n h0 hf _; omega
  | succ f ih =>
    intro n h0 hf hg
    cases g with
    | zero => omega
    | succ g =>
      simp only [vpF]
      split
      · rename_i hd
        have := natAbs_div_lt hp h0 hd
        rw [ih g (n / p) this.2 (by omega) (by omega)]
      · rfl
theorem vp_dvd {p n : Int} (hp : 2 ≤ p) (hn : n ≠ 0) (hd : p ∣ n) : vp p n = vp p (n / p) + 1 := by
  have := natAbs_div_lt hp hn hd
  obtain ⟨f, hf⟩ : ∃ f, n.natAbs = f + 1 := ⟨n.natAbs - 1, by omega⟩
  unfold vp
  rw [hf]
  simp only [vpF, if_pos hd]
  rw [vpF_fuel hp f (n / p).natAbs (n / p) this.2 (by omega) (Nat.le_refl _)]
theorem vp_not {p n : Int} (hd : ¬ p ∣ n) : vp p n = 0 := by
  unfold vp
  cases n.natAbs with
  | zero => rfl
  | succ f => simp only [vpF, if_neg hd]
def rest (p n : Int) : Int := n / p ^ vp p n
theorem rest_dvd {p n : Int} (hp : 2 ≤ p) (hn : n ≠ 0) (hd : p ∣ n) : rest p n = rest p (n / p) := by
  unfold rest
  rw [vp_dvd hp hn hd, Int.pow_succ, Int.mul_comm, Int.ediv_ediv_of_nonneg (by omega)]
theorem rest_not {p n : Int} (hd : ¬ p ∣ n) : rest p n = n := by
  unfold rest; rw [vp_not hd]; simp
theorem vp_spec {p : Int} (hp : 2 ≤ p) : ∀ (f : Nat) (n : Int), n.natAbs ≤ f → n ≠ 0 → n = p ^ vp p n * rest p n ∧ ¬ p ∣ rest p n := by
  intro f
  induction f with
  | zero => intro n hf hn; omega
  | succ f ih =>
    intro n hf hn
    by_cases hd : p ∣ n
    · have hl := natAbs_div_lt hp hn hd
      obtain ⟨h1, h2⟩ := ih (n / p) (by omega) hl.2
      rw [vp_dvd hp hn hd, rest_dvd hp hn hd]
      refine ⟨?_, h2⟩
      rw [Int.pow_succ, Int.mul_comm (p ^ _) p, Int.mul_assoc, ← h1, Int.mul_ediv_cancel' hd]
    · rw [vp_not hd, rest_not hd]; exact ⟨by simp, hd⟩
theorem eq_pow_rest {p n : Int} (hp : 2 ≤ p) (hn : n ≠ 0) : n = p ^ vp p n * rest p n := (vp_spec hp _ n (Nat.le_refl _) hn).1
theorem not_dvd_rest {p n : Int} (hp : 2 ≤ p) (hn : n ≠ 0) : ¬ p ∣ rest p n := (vp_spec hp _ n (Nat.le_refl _) hn).2
theorem rest_ne {p n : Int} (hp : 2 ≤ p) (hn : n ≠ 0) : rest p n ≠ 0 := fun h => not_dvd_rest hp hn (h ▸ Int.dvd_zero p)
theorem rest_dvd_self {p n : Int} (hp : 2 ≤ p) (hn : n ≠ 0) : rest p n ∣ n := ⟨p ^ vp p n, by rw [Int.mul_comm]; exact eq_pow_rest hp hn⟩
theorem rest_natAbs_le {p n : Int} (hp : 2 ≤ p) (hn : n ≠ 0) : (rest p n).natAbs ≤ n.natAbs := Nat.le_of_dvd (by omega) (Int.natAbs_dvd_natAbs.2 (rest_dvd_self hp hn))
theorem vp_lt {p n : Int} (hp : 2 ≤ p) (hn : n ≠ 0) : 2 ^ vp p n ≤ n.natAbs := by
  have h := congrArg Int.natAbs (eq_pow_rest hp hn)
  rw [Int.natAbs_mul, Int.natAbs_pow] at h
  have h1 : 2 ^ vp p n ≤ p.natAbs ^ vp p n := Nat.pow_le_pow_left (by omega) _
  have h2 : 1 ≤ (rest p n).natAbs := by have := rest_ne hp hn; omega
  have h3 : p.natAbs ^ vp p n * 1 ≤ p.natAbs ^ vp p n * (rest p n).natAbs := Nat.mul_le_mul_left _ h2
  omega
theorem vp_unique {p : Int} (hp : 2 ≤ p) {k : Nat} {r : Int} (hr : ¬ p ∣ r) : vp p (p ^ k * r) = k ∧ rest p (p ^ k * r) = r := by
  have hr0 : r ≠ 0 := by rintro rfl; exact hr (Int.dvd_zero p)
  induction k with
  | zero => simp only [Int.pow_zero, Int.one_mul]; exact ⟨vp_not hr, rest_not hr⟩
  | succ k ih =>
    have e : p ^ (k + 1) * r = p * (p ^ k * r) := by rw [Int.pow_succ]; grind
    have hn : p ^ (k + 1) * r ≠ 0 := Int.mul_ne_zero (Int.pow_ne_zero (by omega)) hr0
    have hd : p ∣ p ^ (k + 1) * r := ⟨_, e⟩
    have hq : p ^ (k + 1) * r / p = p ^ k * r := by rw [e, Int.mul_ediv_cancel_left _ (by omega)]
    rw [vp_dvd hp hn hd, rest_dvd hp hn hd, hq, ih.1, ih.2]; exact ⟨rfl, rfl⟩
theorem rest_nonneg {p n : Int} (hp : 2 ≤ p) (hn : 0 < n) : 0 ≤ rest p n := by
  apply Classical.byContradiction; intro hc
  have e := eq_pow_rest hp (n := n) (by omega)
  have h1 : 0 < p ^ vp p n := Int.pow_pos (by omega)
  have h2 : p ^ vp p n * rest p n ≤ p ^ vp p n * 0 := Int.mul_le_mul_of_nonneg_left (by omega) (by omega)
  omega
theorem rest_pos {p n : Int} (hp : 2 ≤ p) (hn : 0 < n) : 0 < rest p n := by
  have := rest_nonneg hp hn; have := rest_ne hp (n := n) (by omega); omega
end FF
namespace FF
def minFac (n : Nat) : Nat := ((List.range (n + 1)).find? (fun d => decide (2 ≤ d) && decide (n % d = 0))).getD 0
theorem minFac_spec {n : Nat} (hn : 2 ≤ n) : IsP (minFac n) ∧ minFac n ∣ n := by
  unfold minFac
  cases h : (List.range (n + 1)).find? (fun d => decide (2 ≤ d) && decide (n % d = 0)) with
  | none =>
    rw [List.find?_eq_none] at h
    exact absurd (by simp; omega) (h n (List.mem_range.2 (by omega)))
  | some d =>
    simp only [Option.getD_some]
    have h1 := List.find?_some h
    simp only [Bool.and_eq_true, decide_eq_true_eq] at h1
    have hdn := Nat.dvd_of_mod_eq_zero h1.2
    refine ⟨?_, hdn⟩
    apply Classical.byContradiction; intro hc
    obtain ⟨p, hp, hpd, hpp⟩ := exists_small_prime_dvd h1.1 hc
    have hp2 := hp.1
    have hlt : p < d := by
      have : p * 2 ≤ p * p := Nat.mul_le_mul_left _ hp2
      omega
    rw [List.find?_range_eq_some] at h
    have := h.2.2 p hlt
    simp only [Bool.not_eq_true', Bool.and_eq_false_iff, decide_eq_false_iff_not] at this
    rcases this with h3 | h3
    · omega
    · exact h3 (Nat.mod_eq_zero_of_dvd (Nat.dvd_trans hpd hdn))
def jacF : Nat → Int → Nat → Int
  | 0, _, _ => 1
  | f + 1, a, n => if n < 2 then 1 else leg a (minFac n) * jacF f a (n / minFac n)
def Jac (a : Int) (n : Nat) : Int := jacF n a n
theorem div_minFac {n : Nat} (hn : 2 ≤ n) : n / minFac n < n ∧ 1 ≤ n / minFac n := by
  obtain ⟨h1, h2⟩ := minFac_spec hn
  have := h1.1
  exact ⟨Nat.div_lt_self (by omega) (by omega), Nat.div_pos (Nat.le_of_dvd (by omega) h2) (by omega)⟩
theorem jacF_fuel (a : Int) (f : Nat) : ∀ g n, n ≤ f → n ≤ g → jacF f a n = jacF g a n := by
  induction f with
  | zero => intro g n h1 h2; have : n = 0 := by omega
            subst this; cases g <;> simp [jacF]
  | succ f ih =>
    intro g n h1 h2
    cases g with
    | zero => have : n = 0 := by omega
              subst this; simp [jacF]
    | succ g =>
      simp only [jacF]
      split
      · rfl
      · have := div_minFac (n := n) (by omega)
        rw [ih g _ (by omega) (by omega)]
theorem jac_rec {n : Nat} (hn : 2 ≤ n) (a : Int) : Jac a n = leg a (minFac n) * Jac a (n / minFac n) := by
  unfold Jac
  obtain ⟨f, rfl⟩ : ∃ f, n = f + 1 := ⟨n - 1, by omega⟩
  have := div_minFac hn
  conv => lhs; unfold jacF
  rw [if_neg (by omega), jacF_fuel a f _ _ (by omega) (Nat.le_refl _)]
theorem jac_one (a : Int) : Jac a 1 = 1 := by simp [Jac, jacF]
theorem jac_prime_mul (a : Int) : ∀ b n p : Nat, n ≤ b → 1 ≤ n → IsP p → Jac a (p * n) = leg a p * Jac a n := by
  intro b
  induction b with
  | zero => intro n p h1 h2; omega
  | succ b ih =>
    intro n p hb hn hp
    have hp2 := hp.1
    have hpn : 2 ≤ p * n := by
      have : 2 * 1 ≤ p * n := Nat.mul_le_mul hp2 hn
      omega
    obtain ⟨hq, hqd⟩ := minFac_spec hpn
    rw [jac_rec hpn]
    generalize minFac (p * n) = q at *
    by_cases hqp : q = p
    · subst hqp; rw [Nat.mul_div_cancel_left _ hq.pos]
    · have hqn : q ∣ n := by
        rcases hq.dvd_mul hqd with h | h
        · exact absurd (hq.eq_of_dvd hp h) hqp
        · exact h
      obtain ⟨m, rfl⟩ := hqn
      have hm : 1 ≤ m := by apply Nat.pos_of_ne_zero; rintro rfl; simp at hn
      have hmq : m < q * m := by
        have h1 := hq.1
        have : 2 * m ≤ q * m := Nat.mul_le_mul_right _ h1
        omega
      have e : p * (q * m) / q = p * m := by
        refine Nat.div_eq_of_eq_mul_right hq.pos ?_
        grind
      rw [e, ih m p (by omega) hm hp, ih m q (by omega) hm hq]; grind
theorem odd_induction {P : Nat → Prop} (h1 : P 1) (hm : ∀ p n, IsP p → p ≠ 2 → n % 2 = 1 → P n → P (p * n)) : ∀ b n, n ≤ b → n % 2 = 1 → P n := by
  intro b
  induction b with
  | zero => intro n h1 h2; omega
  | succ b ih =>
    intro n hb hn
    by_cases hn1 : n = 1
    · subst hn1; exact h1
    · obtain ⟨hq, hqd⟩ := minFac_spec (n := n) (by omega)
      have hl := div_minFac (n := n) (by omega)
      generalize minFac n = q at *
      obtain ⟨k, rfl⟩ := hqd
      rw [Nat.mul_div_cancel_left _ hq.pos] at hl
      have hq2 : q ≠ 2 := by rintro rfl; omega
      have hk : k % 2 = 1 := by
        apply Classical.byContradiction; intro hc
        have : q * k % 2 = 0 := by rw [Nat.mul_mod, show k % 2 = 0 by omega]; simp
        omega
      exact hm q k hq hq2 hk (ih k (by omega) hk)
theorem jac_mul_left {n : Nat} (hn : n % 2 = 1) (a b : Int) : Jac (a * b) n = Jac a n * Jac b n := by
  refine odd_induction (P := fun n => Jac (a * b) n = Jac a n * Jac b n) ?_ ?_ n n (Nat.le_refl _) hn
  · rw [jac_one, jac_one, jac_one]; rfl
  · intro p n hp hp2 hn ih
    rw [jac_prime_mul _ n n p (Nat.le_refl _) (by omega) hp, jac_prime_mul _ n n p (Nat.le_refl _) (by omega) hp, jac_prime_mul _ n n p (Nat.le_refl _) (by omega) hp, ih, leg_mul hp hp2]; grind
theorem jac_congr {n : Nat} (hn : n % 2 = 1) {a b : Int} (h : Cg n a b) : Jac a n = Jac b n := by
  refine odd_induction (P := fun n => Cg n a b → Jac a n = Jac b n) ?_ ?_ n n (Nat.le_refl _) hn h
  · intro _; rw [jac_one, jac_one]
  · intro p n hp hp2 hn ih h
    rw [jac_prime_mul _ n n p (Nat.le_refl _) (by omega) hp, jac_prime_mul _ n n p (Nat.le_refl _) (by omega) hp]
    rw [leg_congr (h.of_dvd ⟨(n : Int), by push_cast; rfl⟩), ih (h.of_dvd ⟨(p : Int), by push_cast; rw [Int.mul_comm]⟩)]
theorem jac_one_left {n : Nat} (hn : n % 2 = 1) : Jac 1 n = 1 := by
  refine odd_induction (P := fun n => Jac 1 n = 1) (jac_one 1) ?_ n n (Nat.le_refl _) hn
  intro p n hp hp2 hn ih
  rw [jac_prime_mul _ n n p (Nat.le_refl _) (by omega) hp, ih, leg_one hp]; rfl
theorem sq_odd {n : Nat} (hn : n % 2 = 1) : ∃ x, n * n = 8 * x + 1 := by
  obtain ⟨y, rfl⟩ : ∃ y, n = 2 * y + 1 := ⟨n / 2, by omega⟩
  have : (y * (y + 1)) % 2 = 0 := by
    rcases Nat.mod_two_eq_zero_or_one y with h | h
    · rw [Nat.mul_mod, h]; simp
    · rw [Nat.mul_mod, show (y + 1) % 2 = 0 by omega]; simp
  refine ⟨y * (y + 1) / 2, ?_⟩
  have e : (2 * y + 1) * (2 * y + 1) = 4 * (y * (y + 1)) + 1 := by grind
  omega
theorem jac_two {n : Nat} (hn : n % 2 = 1) : Jac 2 n = sg ((n * n - 1) / 8) := by
  refine odd_induction (P := fun n => Jac 2 n = sg ((n * n - 1) / 8)) (jac_one _) ?_ n n (Nat.le_refl _) hn
  intro p n hp hp2 hn ih
  have ho := hp.odd hp2
  rw [jac_prime_mul _ n n p (Nat.le_refl _) (by omega) hp, ih, leg_two hp hp2, ← sg_add]
  apply sg_congr
  obtain ⟨x, hx⟩ := sq_odd ho
  obtain ⟨y, hy⟩ := sq_odd hn
  have : p * n * (p * n) = 8 * (8 * (x * y) + x + y) + 1 := by
    rw [show p * n * (p * n) = (p * p) * (n * n) by grind, hx, hy]; grind
  rw [this, hx, hy]; omega
theorem jac_two_mod {n : Nat} (hn : n % 2 = 1) : Jac 2 n = if n % 8 = 3 ∨ n % 8 = 5 then -1 else 1 := by
  rw [jac_two hn]
  have h : n * n % 16 = (n % 16) * (n % 16) % 16 := Nat.mul_mod n n 16
  have key : ∀ r, r < 16 → n % 16 = r → n * n % 16 = r * r % 16 := by intro r _ e; rw [h, e]
  have h2 : n % 16 = 1 ∨ n % 16 = 3 ∨ n % 16 = 5 ∨ n % 16 = 7 ∨ n % 16 = 9 ∨ n % 16 = 11 ∨ n % 16 = 13 ∨ n % 16 = 15 := by omega
  obtain ⟨x, hx⟩ := sq_odd hn
  rcases h2 with e | e | e | e | e | e | e | e <;> have k := key _ (by omega) e <;> rw [hx] at k ⊢
  · rw [if_neg (by omega), sg_even (by omega)]
  · rw [if_pos (by omega), sg_odd (by omega)]
  · rw [if_pos (by omega), sg_odd (by omega)]
  · rw [if_neg (by omega), sg_even (by omega)]
  · rw [if_neg (by omega), sg_even (by omega)]
  · rw [if_pos (by omega), sg_odd (by omega)]
  · rw [if_pos (by omega), sg_odd (by omega)]
  · rw [if_neg (by omega), sg_even (by omega)]
theorem jac_zero_of {n : Nat} (hn : n % 2 = 1) {a : Int} (h : Int.gcd a n ≠ 1) : Jac a n = 0 := by
  refine odd_induction (P := fun n => Int.gcd a n ≠ 1 → Jac a n = 0) ?_ ?_ n n (Nat.le_refl _) hn h
  · intro h; exact absurd (by simp) h
  · intro p n hp hp2 hn ih h
    rw [jac_prime_mul _ n n p (Nat.le_refl _) (by omega) hp]
    by_cases hpa : (p : Int) ∣ a
    · rw [leg_zero hpa, Int.zero_mul]
    · rw [ih, Int.mul_zero]
      intro hg
      apply h
      have c1 : Nat.Coprime p a.natAbs := hp.coprime (fun hd => hpa (by rw [← Int.natAbs_dvd_natAbs, Int.natAbs_natCast]; exact hd))
      have c2 : Nat.Coprime n a.natAbs := by
        have : Int.gcd a n = Nat.gcd a.natAbs n := rfl
        rw [this] at hg; exact Nat.Coprime.symm hg
      exact (c1.mul_left c2).symm
theorem jac_ne {n : Nat} (hn : n % 2 = 1) {a : Int} (h : Int.gcd a n = 1) : Jac a n = 1 ∨ Jac a n = -1 := by
  refine odd_induction (P := fun n => Int.gcd a n = 1 → Jac a n = 1 ∨ Jac a n = -1) ?_ ?_ n n (Nat.le_refl _) hn h
  · intro _; left; exact jac_one a
  · intro p n hp hp2 hn ih h
    have c : Nat.Coprime a.natAbs (p * n) := h
    have c1 : Nat.Coprime a.natAbs p := c.coprime_mul_right_right
    have c2 : Nat.Coprime a.natAbs n := c.coprime_mul_left_right
    have hpa : ¬ (p : Int) ∣ a := fun hd => by
      rw [← Int.natAbs_dvd_natAbs, Int.natAbs_natCast] at hd
      have := Nat.dvd_gcd hd (Nat.dvd_refl p)
      rw [c1] at this; exact hp.not_dvd_one this
    rw [jac_prime_mul _ n n p (Nat.le_refl _) (by omega) hp]
    rcases leg_ne hpa with e | e <;> rcases ih c2 with f | f <;> rw [e, f] <;> simp
theorem jac_sq {n : Nat} (hn : n % 2 = 1) {a : Int} (h : Int.gcd a n = 1) : Jac a n * Jac a n = 1 := by
  rcases jac_ne hn h with e | e <;> rw [e] <;> rfl
theorem jac_prime {p : Nat} (hp : IsP p) (a : Int) : Jac a p = leg a p := by
  have := jac_prime_mul a 1 1 p (Nat.le_refl _) (Nat.le_refl _) hp
  rw [Nat.mul_one, jac_one, Int.mul_one] at this; exact this
theorem half_mul {x y : Nat} (hx : x % 2 = 1) (hy : y % 2 = 1) : (x * y - 1) / 2 % 2 = ((x - 1) / 2 + (y - 1) / 2) % 2 := by
  obtain ⟨a, rfl⟩ : ∃ a, x = 2 * a + 1 := ⟨x / 2, by omega⟩
  obtain ⟨b, rfl⟩ : ∃ b, y = 2 * b + 1 := ⟨y / 2, by omega⟩
  have : (2 * a + 1) * (2 * b + 1) = 2 * (2 * (a * b) + a + b) + 1 := by grind
  rw [this]; omega
theorem sg_mul_half {x y z : Nat} (hx : x % 2 = 1) (hy : y % 2 = 1) : sg (z * ((x * y - 1) / 2)) = sg (z * ((x - 1) / 2)) * sg (z * ((y - 1) / 2)) := by
  rw [← sg_add]
  apply sg_congr
  rw [← Nat.mul_add, Nat.mul_mod, half_mul hx hy, ← Nat.mul_mod]
theorem jac_rec_prime {p : Nat} (hp : IsP p) (hp2 : p ≠ 2) {n : Nat} (hn : n % 2 = 1) (hd : ¬ p ∣ n) :
    leg (n : Int) p * Jac (p : Int) n = sg ((p - 1) / 2 * ((n - 1) / 2)) := by
  refine odd_induction (P := fun n => ¬ p ∣ n → leg (n : Int) p * Jac (p : Int) n = sg ((p - 1) / 2 * ((n - 1) / 2))) ?_ ?_ n n (Nat.le_refl _) hn hd
  · intro _; rw [jac_one]; have := leg_one hp; simp only [Int.mul_one]; rw [show ((1 : Nat) : Int) = 1 by rfl, this]; rfl
  · intro q n hq hq2 hn ih hd
    have h1 : ¬ p ∣ n := fun h => hd (Nat.dvd_trans h ⟨q, Nat.mul_comm _ _⟩)
    have h2 : p ≠ q := by rintro rfl; exact hd ⟨n, rfl⟩
    have hr := reciprocity hp hq hp2 hq2 h2
    rw [jac_prime_mul _ n n q (Nat.le_refl _) (by omega) hq, Int.natCast_mul, leg_mul hp hp2, sg_mul_half (hq.odd hq2) hn, ← ih h1, ← hr]; grind
theorem jac_reciprocity {m n : Nat} (hm : m % 2 = 1) (hn : n % 2 = 1) (hc : Nat.Coprime m n) :
    Jac (m : Int) n * Jac (n : Int) m = sg ((m - 1) / 2 * ((n - 1) / 2)) := by
  refine odd_induction (P := fun m => Nat.Coprime m n → Jac (m : Int) n * Jac (n : Int) m = sg ((m - 1) / 2 * ((n - 1) / 2))) ?_ ?_ m m (Nat.le_refl _) hm hc
  · intro _; rw [jac_one, show ((1 : Nat) : Int) = 1 by rfl, jac_one_left hn]; simp [sg]
  · intro q m hq hq2 hm ih hc
    have c1 : Nat.Coprime m n := hc.coprime_mul_left
    have c2 : Nat.Coprime q n := hc.coprime_mul_right
    have hqn : ¬ q ∣ n := fun h => by
      have := Nat.dvd_gcd (Nat.dvd_refl q) h
      rw [c2] at this; exact hq.not_dvd_one this
    have hr := jac_rec_prime hq hq2 hn hqn
    rw [Int.natCast_mul, jac_mul_left hn, jac_prime_mul _ m m q (Nat.le_refl _) (by omega) hq]
    have h3 : sg ((q * m - 1) / 2 * ((n - 1) / 2)) = sg ((q - 1) / 2 * ((n - 1) / 2)) * sg ((m - 1) / 2 * ((n - 1) / 2)) := by
      rw [Nat.mul_comm, sg_mul_half (hq.odd hq2) hm, Nat.mul_comm, Nat.mul_comm ((n - 1) / 2) ((m - 1) / 2)]
    rw [h3, ← ih c1, ← hr]; grind
theorem jac_flip {m n : Nat} (hm : m % 2 = 1) (hn : n % 2 = 1) :
    Jac (m : Int) n = Jac (n : Int) m * (if m % 4 = 3 ∧ n % 4 = 3 then -1 else 1) := by
  by_cases hc : Nat.Coprime m n
  · have h1 := jac_reciprocity hm hn hc
    have h2 : Jac (n : Int) m * Jac (n : Int) m = 1 := jac_sq hm (by show Nat.gcd _ _ = 1; simpa using hc.symm)
    have h3 : sg ((m - 1) / 2 * ((n - 1) / 2)) = if m % 4 = 3 ∧ n % 4 = 3 then -1 else 1 := by
      by_cases c1 : m % 4 = 3
      · rw [sg_mul_odd (by omega)]
        by_cases c2 : n % 4 = 3
        · rw [if_pos ⟨c1, c2⟩, sg_odd (by omega)]
        · rw [if_neg (fun h => c2 h.2), sg_even (by omega)]
      · rw [if_neg (fun h => c1 h.1), sg_even]
        rw [Nat.mul_mod, show (m - 1) / 2 % 2 = 0 by omega]; simp
    rw [← h3, ← h1]
    calc Jac (m : Int) n = Jac (m : Int) n * (Jac (n : Int) m * Jac (n : Int) m) := by rw [h2, Int.mul_one]
      _ = _ := by grind
  · rw [jac_zero_of hn (a := (m : Int)) (by show Nat.gcd _ _ ≠ 1; simpa using hc), jac_zero_of hm (a := (n : Int)) (by show Nat.gcd _ _ ≠ 1; rw [Nat.gcd_comm]; simpa using hc), Int.zero_mul]
theorem jac_zero_left {n : Nat} (hn : n % 2 = 1) : Jac 0 n = if n = 1 then 1 else 0 := by
  split
  · rename_i h; subst h; exact jac_one 0
  · rename_i h; apply jac_zero_of hn; simp; omega
theorem jac_pow {n : Nat} (hn : n % 2 = 1) (a : Int) (k : Nat) : Jac (a ^ k) n = Jac a n ^ k := by
  induction k with
  | zero => simp [jac_one_left hn]
  | succ k ih => rw [Int.pow_succ, jac_mul_left hn, ih, Int.pow_succ]
end FF
namespace FF
theorem jac_step {x n : Int} (hx : 0 < x) (hn : 0 < n) (ho : n % 2 = 1) :
    Jac x n.toNat = (if vp 2 x % 2 = 1 ∧ (n % 8 = 3 ∨ n % 8 = 5) then -1 else 1) * (if rest 2 x % 4 = 3 ∧ n % 4 = 3 then -1 else 1) * Jac (n % rest 2 x) (rest 2 x).toNat := by
  have e := eq_pow_rest (p := 2) (n := x) (by omega) (by omega)
  have hr := not_dvd_rest (p := 2) (n := x) (by omega) (by omega)
  have h0 : 0 < rest 2 x := by
    apply Classical.byContradiction; intro hc
    have h1 : (0 : Int) < 2 ^ vp 2 x := Int.pow_pos (by omega)
    have h2 : 2 ^ vp 2 x * rest 2 x ≤ 2 ^ vp 2 x * 0 := Int.mul_le_mul_of_nonneg_left (by omega) (by omega)
    omega
  generalize rest 2 x = r at *
  generalize vp 2 x = k at *
  obtain ⟨N, rfl⟩ : ∃ N : Nat, n = (N : Int) := ⟨n.toNat, by omega⟩
  obtain ⟨R, rfl⟩ : ∃ R : Nat, r = (R : Int) := ⟨r.toNat, by omega⟩
  rw [Int.toNat_natCast, Int.toNat_natCast]
  have hN : N % 2 = 1 := by omega
  have hR : R % 2 = 1 := by omega
  rw [e, jac_mul_left hN, jac_pow hN, jac_two_mod hN, jac_flip hR hN, jac_congr hR (Cg.emod (R : Int) (N : Int))]
  have e1 : (if N % 8 = 3 ∨ N % 8 = 5 then (-1 : Int) else 1) ^ k = if k % 2 = 1 ∧ ((N : Int) % 8 = 3 ∨ (N : Int) % 8 = 5) then -1 else 1 := by
    by_cases c : N % 8 = 3 ∨ N % 8 = 5
    · rw [if_pos c]
      by_cases c2 : k % 2 = 1
      · rw [if_pos ⟨c2, by omega⟩, show k = 2 * (k / 2) + 1 by omega, Int.pow_succ, Int.pow_mul, show ((-1 : Int)) ^ 2 = 1 by decide, Int.one_pow]; rfl
      · rw [if_neg (fun h => c2 h.1), show k = 2 * (k / 2) by omega, Int.pow_mul, show ((-1 : Int)) ^ 2 = 1 by decide, Int.one_pow]
    · rw [if_neg c, if_neg (by omega), Int.one_pow]
  have e2 : (if R % 4 = 3 ∧ N % 4 = 3 then (-1 : Int) else 1) = if (R : Int) % 4 = 3 ∧ (N : Int) % 4 = 3 then -1 else 1 := by
    by_cases c : R % 4 = 3 ∧ N % 4 = 3
    · rw [if_pos c, if_pos (by omega)]
    · rw [if_neg c, if_neg (by omega)]
  rw [e1, e2]; grind
end FF
namespace FF
def three (n : Int) : Bool := n % 4 == 3
def far (n : Int) : Bool := n % 8 == 3 || n % 8 == 5
def oddB (k : Nat) : Bool := (k : Int) % 2 == 1
def hil2 (tu tv oi fv ok fu : Bool) : Int := if (((tu && tv) != (oi && fv)) != (ok && fu)) = true then -1 else 1
def hilp (oi ok p3 : Bool) (ju jv : Int) : Int := (if (oi && ok && p3) = true then -1 else 1) * (if ok = true then ju else 1) * (if oi = true then jv else 1)
def Hil (a b p : Int) : Int :=
  if p = 0 then (if a < 0 ∧ b < 0 then -1 else 1)
  else if p = 2 then hil2 (three (rest 2 a)) (three (rest 2 b)) (oddB (vp 2 a)) (far (rest 2 b)) (oddB (vp 2 b)) (far (rest 2 a))
  else hilp (oddB (vp p a)) (oddB (vp p b)) (three p) (leg (rest p a) p.toNat) (leg (rest p b) p.toNat)
theorem odd_rest_two {n : Int} (hn : n ≠ 0) : rest 2 n % 2 = 1 := by
  have := not_dvd_rest (p := 2) (n := n) (by omega) hn; omega
end FF
