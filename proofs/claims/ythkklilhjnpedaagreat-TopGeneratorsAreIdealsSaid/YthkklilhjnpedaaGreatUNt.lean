/- Plain number theory, part A: primes, prime divisors, congruences of integers. No program in sight. Plain number theory, part B: products over permuted lists, Fermat's theorem, orders, Gauss's lemma. Plain number theory, part C: the Legendre symbol, Gauss's lemma, Eisenstein's count, quadratic reciprocity for primes. Plain number theory, part E: exponents of a prime in a number, inverses modulo a number. Plain number theory, part F: Euclid's pairs. Plain number theory, part G: the Jacobi symbol: multiplicative in both arguments; reciprocity. Plain number theory, part H: the Hilbert symbol by exponents and rests. -/
namespace FF
def IsP (p : Nat) : Prop := 2 ≤ p ∧ ∀ d, d ∣ p → d = 1 ∨ d = p
theorem IsP.pos {p : Nat} (h : IsP p) : 0 < p := by have := h.1; omega
theorem IsP.coprime {p a : Nat} (h : IsP p) (ha : ¬ p ∣ a) : Nat.Coprime p a := by
  rcases h.2 (Nat.gcd p a) (Nat.gcd_dvd_left p a) with e | e
  · exact e
  · exact absurd (e ▸ Nat.gcd_dvd_right p a) ha
theorem IsP.dvd_mul {p a b : Nat} (h : IsP p) (hd : p ∣ a * b) : p ∣ a ∨ p ∣ b := by
  by_cases ha : p ∣ a
  · exact Or.inl ha
  · exact Or.inr ((h.coprime ha).dvd_of_dvd_mul_left hd)
theorem IsP.dvd_pow {p a n : Nat} (h : IsP p) (hd : p ∣ a ^ n) : p ∣ a := by
  induction n with
  | zero => rw [Nat.pow_zero] at hd; have := Nat.le_of_dvd (by omega) hd; have := h.1; omega
  | succ n ih => rw [Nat.pow_succ] at hd; rcases h.dvd_mul hd with h1 | h1
                 · exact ih h1
                 · exact h1
theorem IsP.not_dvd_one {p : Nat} (h : IsP p) : ¬ p ∣ 1 := by
  intro hd; have := Nat.le_of_dvd (by omega) hd; have := h.1; omega
theorem IsP.eq_of_dvd {p q : Nat} (hp : IsP p) (hq : IsP q) (hd : p ∣ q) : p = q := by
  rcases hq.2 p hd with e | e
  · have := hp.1; omega
  · exact e
theorem exists_prime_dvd (n : Nat) : 2 ≤ n → ∃ p, IsP p ∧ p ∣ n := by
  induction n using Nat.strongRecOn with
  | ind n ih =>
    intro hn
    by_cases hp : IsP n
    · exact ⟨n, hp, Nat.dvd_refl n⟩
    · have : ∃ d, d ∣ n ∧ d ≠ 1 ∧ d ≠ n := by
        apply Classical.byContradiction
        intro hc
        exact hp ⟨hn, fun d hd => by
          apply Classical.byContradiction; intro hx
          exact hc ⟨d, hd, fun e => hx (Or.inl e), fun e => hx (Or.inr e)⟩⟩
      obtain ⟨d, hd, h1, h2⟩ := this
      have hle := Nat.le_of_dvd (by omega) hd
      have h0 : d ≠ 0 := by rintro rfl; have := Nat.eq_zero_of_zero_dvd hd; omega
      obtain ⟨p, hp, hpd⟩ := ih d (by omega) (by omega)
      exact ⟨p, hp, Nat.dvd_trans hpd hd⟩
theorem exists_small_prime_dvd {n : Nat} (hn : 2 ≤ n) (hc : ¬ IsP n) : ∃ p, IsP p ∧ p ∣ n ∧ p * p ≤ n := by
  have : ∃ d, d ∣ n ∧ d ≠ 1 ∧ d ≠ n := by
    apply Classical.byContradiction
    intro hx
    exact hc ⟨hn, fun d hd => by
      apply Classical.byContradiction; intro hy
      exact hx ⟨d, hd, fun e => hy (Or.inl e), fun e => hy (Or.inr e)⟩⟩
  obtain ⟨d, ⟨e, rfl⟩, h1, h2⟩ := this
  have hd0 : d ≠ 0 := by rintro rfl; simp at hn
  have he0 : e ≠ 0 := by rintro rfl; simp at hn
  have he1 : e ≠ 1 := by rintro rfl; simp at h2
  by_cases hle : d ≤ e
  · obtain ⟨p, hp, hpd⟩ := exists_prime_dvd d (by omega)
    have := Nat.le_of_dvd (by omega) hpd
    exact ⟨p, hp, Nat.dvd_trans hpd ⟨e, rfl⟩, Nat.mul_le_mul this (by omega)⟩
  · obtain ⟨p, hp, hpd⟩ := exists_prime_dvd e (by omega)
    have := Nat.le_of_dvd (by omega) hpd
    exact ⟨p, hp, Nat.dvd_trans hpd ⟨d, Nat.mul_comm d e⟩, Nat.mul_le_mul (by omega) this⟩
theorem isP_of_trial {n : Nat} (hn : 2 ≤ n) (h : ∀ d, 2 ≤ d → d * d ≤ n → ¬ d ∣ n) : IsP n := by
  apply Classical.byContradiction; intro hc
  obtain ⟨p, hp, hd, hl⟩ := exists_small_prime_dvd hn hc
  exact h p hp.1 hl hd
theorem IsP.not_dvd_of_lt {p d : Nat} (h : IsP p) (h2 : 2 ≤ d) (hl : d < p) : ¬ d ∣ p := by
  intro hd; rcases h.2 d hd with e | e <;> omega
theorem IsP.odd {p : Nat} (h : IsP p) (h2 : p ≠ 2) : p % 2 = 1 := by
  have := h.1
  have h3 : ¬ 2 ∣ p := fun hd => by rcases h.2 2 hd with e | e <;> omega
  omega
theorem isP_two : IsP 2 := ⟨by omega, fun d hd => by have := Nat.le_of_dvd (by omega) hd; have : d ≠ 0 := (by rintro rfl; simp at hd); omega⟩
theorem isP_three : IsP 3 := isP_of_trial (by omega) (fun d h1 h2 => by have := Nat.mul_le_mul h1 h1; omega)
theorem isP_five : IsP 5 := isP_of_trial (by omega) (fun d h1 h2 => by
  have : d < 3 := by rcases Nat.lt_or_ge d 3 with h | h; exact h; have := Nat.mul_le_mul h h; omega
  have : d = 2 := by omega
  subst this; omega)
theorem isP_seven : IsP 7 := isP_of_trial (by omega) (fun d h1 h2 => by
  have : d < 3 := by rcases Nat.lt_or_ge d 3 with h | h; exact h; have := Nat.mul_le_mul h h; omega
  have : d = 2 := by omega
  subst this; omega)
def Cg (n a b : Int) : Prop := n ∣ a - b
namespace Cg
variable {n a b c d : Int}
theorem refl (n a : Int) : Cg n a a := by unfold Cg; rw [Int.sub_self]; exact Int.dvd_zero n
theorem symm (h : Cg n a b) : Cg n b a := by
  obtain ⟨k, hk⟩ := h; exact ⟨-k, by rw [Int.mul_neg, ← hk]; omega⟩
theorem trans (h : Cg n a b) (g : Cg n b c) : Cg n a c := by
  obtain ⟨k, hk⟩ := h; obtain ⟨l, hl⟩ := g; exact ⟨k + l, by rw [Int.mul_add, ← hk, ← hl]; omega⟩
theorem sub (h : Cg n a b) (g : Cg n c d) : Cg n (a - c) (b - d) := by
  obtain ⟨k, hk⟩ := h; obtain ⟨l, hl⟩ := g; exact ⟨k - l, by rw [Int.mul_sub, ← hk, ← hl]; omega⟩
theorem mul (h : Cg n a b) (g : Cg n c d) : Cg n (a * c) (b * d) := by
  obtain ⟨k, hk⟩ := h; obtain ⟨l, hl⟩ := g
  exact ⟨k * c + b * l, by
    have e1 : a = b + n * k := by omega
    have e2 : c = d + n * l := by omega
    subst e1; subst e2; grind⟩
theorem mul_left (c : Int) (h : Cg n a b) : Cg n (c * a) (c * b) := (refl n c).mul h
theorem mul_right (c : Int) (h : Cg n a b) : Cg n (a * c) (b * c) := h.mul (refl n c)
theorem pow (k : Nat) (h : Cg n a b) : Cg n (a ^ k) (b ^ k) := by
  induction k with
  | zero => simpa using refl n 1
  | succ k ih => rw [Int.pow_succ, Int.pow_succ]; exact ih.mul h
theorem emod (n a : Int) : Cg n (a % n) a := ⟨-(a / n), by have := Int.mul_ediv_add_emod a n; rw [Int.mul_neg]; omega⟩
theorem iff_emod : Cg n a b ↔ a % n = b % n := (Int.emod_eq_emod_iff_emod_sub_eq_zero.trans Int.dvd_iff_emod_eq_zero.symm).symm
theorem emod_eq (h : Cg n a b) : a % n = b % n := iff_emod.1 h
theorem of_emod (h : a % n = b % n) : Cg n a b := iff_emod.2 h
theorem of_dvd {m : Int} (hm : m ∣ n) (h : Cg n a b) : Cg m a b := Int.dvd_trans hm h
theorem eq_of_bounds (h : Cg n a b) (ha : 0 ≤ a) (ha' : a < n) (hb : 0 ≤ b) (hb' : b < n) : a = b := by
  have := h.emod_eq; rwa [Int.emod_eq_of_lt ha ha', Int.emod_eq_of_lt hb hb'] at this
end Cg
theorem IsP.idvd_mul {p : Nat} {a b : Int} (h : IsP p) (hd : (p : Int) ∣ a * b) : (p : Int) ∣ a ∨ (p : Int) ∣ b := by
  rw [← Int.natAbs_dvd_natAbs, Int.natAbs_mul, Int.natAbs_natCast] at hd
  rcases h.dvd_mul hd with e | e
  · left; rwa [← Int.natAbs_dvd_natAbs, Int.natAbs_natCast]
  · right; rwa [← Int.natAbs_dvd_natAbs, Int.natAbs_natCast]
theorem Cg.cancel {p : Nat} {a b c : Int} (hp : IsP p) (hc : ¬ (p : Int) ∣ c) (h : Cg p (c * a) (c * b)) : Cg p a b := by
  have h' : (p : Int) ∣ c * (a - b) := by rw [Int.mul_sub]; exact h
  rcases hp.idvd_mul h' with e | e
  · exact absurd e hc
  · exact e
theorem Cg.cancel_right {p : Nat} {a b c : Int} (hp : IsP p) (hc : ¬ (p : Int) ∣ c) (h : Cg p (a * c) (b * c)) : Cg p a b := by
  rw [Int.mul_comm a c, Int.mul_comm b c] at h; exact h.cancel hp hc
theorem Cg.sq_one {p : Nat} {x : Int} (hp : IsP p) (h : Cg p (x * x) 1) : Cg p x 1 ∨ Cg p x (-1) := by
  have h' : (p : Int) ∣ (x - 1) * (x + 1) := by
    have e : (x - 1) * (x + 1) = x * x - 1 := by grind
    rw [e]; exact h
  rcases hp.idvd_mul h' with e | e
  · exact Or.inl e
  · exact Or.inr (by unfold Cg; rw [show x - -1 = x + 1 by omega]; exact e)
end FF
namespace FF
theorem perm_of_maps {l : List Nat} (hn : l.Nodup) (f : Nat → Nat) (hm : ∀ k, k ∈ l → f k ∈ l)
    (hi : ∀ i, i ∈ l → ∀ j, j ∈ l → f i = f j → i = j) : (l.map f).Perm l := by
  have hnod : (l.map f).Nodup := by
    unfold List.Nodup at *
    rw [List.pairwise_map]
    exact hn.imp_of_mem (fun {a b} ha hb hab he => hab (hi a ha b hb he))
  have hsub : l.map f ⊆ l := by
    intro x hx
    obtain ⟨k, hk, rfl⟩ := List.mem_map.1 hx
    exact hm k hk
  refine (List.perm_ext_iff_of_nodup hnod hn).2 (fun x => ⟨fun h => hsub h, fun h => ?_⟩)
  apply Classical.byContradiction
  intro hx
  have h1 : (x :: l.map f).Nodup := List.nodup_cons.2 ⟨hx, hnod⟩
  have h2 : (x :: l.map f) ⊆ l := by
    intro y hy
    rcases List.mem_cons.1 hy with rfl | hy
    · exact h
    · exact hsub hy
  have := h1.length_le_of_subset h2
  simp at this; omega
def prodL (f : Nat → Int) : List Nat → Int
  | [] => 1
  | k :: l => f k * prodL f l
theorem prodL_perm (f : Nat → Int) {l m : List Nat} (h : l.Perm m) : prodL f l = prodL f m := by
  induction h with
  | nil => rfl
  | cons x _ ih => simp only [prodL, ih]
  | swap x y l => simp only [prodL]; grind
  | trans _ _ ih1 ih2 => exact ih1.trans ih2
theorem prodL_map (f : Nat → Int) (g : Nat → Nat) (l : List Nat) : prodL f (l.map g) = prodL (fun k => f (g k)) l := by
  induction l with
  | nil => rfl
  | cons k l ih => simp only [List.map, prodL, ih]
theorem prodL_mul (f g : Nat → Int) (l : List Nat) : prodL (fun k => f k * g k) l = prodL f l * prodL g l := by
  induction l with
  | nil => rfl
  | cons k l ih => simp only [prodL, ih]; grind
theorem prodL_const (c : Int) (l : List Nat) : prodL (fun _ => c) l = c ^ l.length := by
  induction l with
  | nil => simp [prodL]
  | cons k l ih => simp only [prodL, ih, List.length_cons, Int.pow_succ]; grind
theorem prodL_congr (n : Int) (f g : Nat → Int) (l : List Nat) (h : ∀ k, k ∈ l → Cg n (f k) (g k)) : Cg n (prodL f l) (prodL g l) := by
  induction l with
  | nil => exact Cg.refl _ _
  | cons k l ih => exact (h k (by simp)).mul (ih fun j hj => h j (by simp [hj]))
theorem prodL_not_dvd {p : Nat} (hp : IsP p) (f : Nat → Int) (l : List Nat) (h : ∀ k, k ∈ l → ¬ (p : Int) ∣ f k) : ¬ (p : Int) ∣ prodL f l := by
  induction l with
  | nil => intro hd; exact hp.not_dvd_one (by have : (p : Int) ∣ ((1 : Nat) : Int) := hd; exact Int.natCast_dvd_natCast.1 this)
  | cons k l ih =>
    intro hd
    rcases hp.idvd_mul hd with e | e
    · exact h k (by simp) e
    · exact ih (fun j hj => h j (by simp [hj])) e
def upTo (n : Nat) : List Nat := List.range' 1 n
theorem mem_upTo {n k : Nat} : k ∈ upTo n ↔ 1 ≤ k ∧ k ≤ n := by
  unfold upTo; rw [List.mem_range'_1]; omega
theorem nodup_upTo (n : Nat) : (upTo n).Nodup := List.nodup_range'
theorem length_upTo (n : Nat) : (upTo n).length = n := by simp [upTo]
theorem nat_lt_not_dvd {p k : Nat} (h1 : 1 ≤ k) (h2 : k < p) : ¬ (p : Int) ∣ (k : Int) := by
  intro hd; have := Nat.le_of_dvd (by omega) (Int.natCast_dvd_natCast.1 hd); omega
theorem fermat {p : Nat} (hp : IsP p) {a : Int} (ha : ¬ (p : Int) ∣ a) : Cg p (a ^ (p - 1)) 1 := by
  have hp2 := hp.1
  have hp0 : (p : Int) ≠ 0 := by omega
  have hpp : (0 : Int) < p := by omega
  let f : Nat → Nat := fun k => ((a * (k : Int)) % (p : Int)).toNat
  have hf : ∀ k, ((f k : Nat) : Int) = (a * (k : Int)) % (p : Int) := fun k => Int.toNat_of_nonneg (Int.emod_nonneg _ hp0)
  have hperm : ((upTo (p - 1)).map f).Perm (upTo (p - 1)) := by
    refine perm_of_maps (nodup_upTo _) f ?_ ?_
    · intro k hk
      rw [mem_upTo] at *
      have h1 := hf k
      have h2 := Int.emod_lt_of_pos (a * (k : Int)) hpp
      have h3 : ¬ (p : Int) ∣ a * (k : Int) := fun hd => by
        rcases hp.idvd_mul hd with e | e
        · exact ha e
        · exact nat_lt_not_dvd hk.1 (by omega) e
      have h4 : (a * (k : Int)) % (p : Int) ≠ 0 := fun e => h3 (Int.dvd_of_emod_eq_zero e)
      have h5 := Int.emod_nonneg (a * (k : Int)) hp0
      omega
    · intro i hi j hj he
      rw [mem_upTo] at *
      have h1 := hf i; rw [he, hf j] at h1
      have h2 : Cg p (a * (i : Int)) (a * (j : Int)) := (Cg.of_emod h1).symm
      have h3 := h2.cancel hp ha
      have := h3.eq_of_bounds (by omega) (by omega) (by omega) (by omega)
      omega
  have e1 := prodL_perm (fun k => (k : Int)) hperm
  rw [prodL_map] at e1
  have e2 : Cg p (prodL (fun k => ((f k : Nat) : Int)) (upTo (p - 1))) (prodL (fun k => a * (k : Int)) (upTo (p - 1))) :=
    prodL_congr _ _ _ _ (fun k _ => by rw [hf k]; exact Cg.emod _ _)
  rw [prodL_mul, prodL_const, length_upTo, e1] at e2
  have hnd : ¬ (p : Int) ∣ prodL (fun k => (k : Int)) (upTo (p - 1)) :=
    prodL_not_dvd hp _ _ (fun k hk => by rw [mem_upTo] at hk; exact nat_lt_not_dvd hk.1 (by omega))
  refine (Cg.cancel_right hp hnd ?_).symm
  rw [Int.one_mul]; exact e2
theorem pow_gcd_one {n a : Int} (i j : Nat) : Cg n (a ^ i) 1 → Cg n (a ^ j) 1 → Cg n (a ^ (Nat.gcd i j)) 1 := by
  induction i, j using Nat.gcd.induction with
  | H0 j => intro _ h; simpa using h
  | H1 i j hi ih =>
    intro h1 h2
    rw [Nat.gcd_rec]
    refine ih ?_ h1
    have e : a ^ j = (a ^ i) ^ (j / i) * a ^ (j % i) := by
      rw [← Int.pow_mul, ← Int.pow_add, Nat.div_add_mod]
    rw [e] at h2
    have h3 : Cg n ((a ^ i) ^ (j / i) * a ^ (j % i)) (1 ^ (j / i) * a ^ (j % i)) := (h1.pow _).mul_right _
    rw [Int.one_pow, Int.one_mul] at h3
    exact h3.symm.trans h2
theorem pow_mul_one {n a : Int} {i : Nat} (j : Nat) (h : Cg n (a ^ i) 1) : Cg n (a ^ (i * j)) 1 := by
  rw [Int.pow_mul]; have := h.pow j; rwa [Int.one_pow] at this
theorem pow_dvd_one {n a : Int} {i j : Nat} (hd : i ∣ j) (h : Cg n (a ^ i) 1) : Cg n (a ^ j) 1 := by
  obtain ⟨k, rfl⟩ := hd; exact pow_mul_one k h
end FF
namespace FF
def vpF : Nat → Int → Int → Nat
  | 0, _, _ => 0
  | f + 1, p, n => if p ∣ n then vpF f p (n / p) + 1 else 0
def vp (p n : Int) : Nat := vpF n.natAbs p n
theorem natAbs_div_lt {p n : Int} (hp : 2 ≤ p) (hn : n ≠ 0) (hd : p ∣ n) : (n / p).natAbs < n.natAbs ∧ n / p ≠ 0 := by
  obtain ⟨k, rfl⟩ := hd
  have hk : k ≠ 0 := by rintro rfl; simp at hn
  rw [Int.mul_ediv_cancel_left _ (by omega), Int.natAbs_mul]
  refine ⟨?_, hk⟩
  have : 2 * k.natAbs ≤ p.natAbs * k.natAbs := Nat.mul_le_mul_right _ (by omega)
  omega
theorem vpF_fuel {p : Int} (hp : 2 ≤ p) (f g : Nat) : ∀ n : Int, n ≠ 0 → n.natAbs ≤ f → n.natAbs ≤ g → vpF f p n = vpF g p n := by
  induction f generalizing g with
  | zero => intro n h0 hf _; omega
  | succ f ih =>
    intro n h0 hf hg
    cases g with
    | zero => omega
    | succ g =>
      simp only [vpF]
      split
      · rename_i hd
        have := natAbs_div_lt hp h0 hd
        rw [ih g (n / p) this.2 (by omega) (by omega)]
      · rfl
theorem vp_dvd {p n : Int} (hp : 2 ≤ p) (hn : n ≠ 0) (hd : p ∣ n) : vp p n = vp p (n / p) + 1 := by
  have := natAbs_div_lt hp hn hd
  obtain ⟨f, hf⟩ : ∃ f, n.natAbs = f + 1 := ⟨n.natAbs - 1, by omega⟩
  unfold vp
  rw [hf]
  simp only [vpF, if_pos hd]
  rw [vpF_fuel hp f (n / p).natAbs (n / p) this.2 (by omega) (Nat.le_refl _)]
theorem vp_not {p n : Int} (hd : ¬ p ∣ n) : vp p n = 0 := by
  unfold vp
  cases n.natAbs with
  | zero => rfl
  | succ f => simp only [vpF, if_neg hd]
def rest (p n : Int) : Int := n / p ^ vp p n
theorem rest_dvd {p n : Int} (hp : 2 ≤ p) (hn : n ≠ 0) (hd : p ∣ n) : rest p n = rest p (n / p) := by
  unfold rest
  rw [vp_dvd hp hn hd, Int.pow_succ, Int.mul_comm, Int.ediv_ediv_of_nonneg (by omega)]
theorem rest_not {p n : Int} (hd : ¬ p ∣ n) : rest p n = n := by
  unfold rest; rw [vp_not hd]; simp
theorem vp_spec {p : Int} (hp : 2 ≤ p) : ∀ (f : Nat) (n : Int), n.natAbs ≤ f → n ≠ 0 → n = p ^ vp p n * rest p n ∧ ¬ p ∣ rest p n := by
  intro f
  induction f with
  | zero => intro n hf hn; omega
  | succ f ih =>
    intro n hf hn
    by_cases hd : p ∣ n
    · have hl := natAbs_div_lt hp hn hd
      obtain ⟨h1, h2⟩ := ih (n / p) (by omega) hl.2
      rw [vp_dvd hp hn hd, rest_dvd hp hn hd]
      refine ⟨?_, h2⟩
      rw [Int.pow_succ, Int.mul_comm (p ^ _) p, Int.mul_assoc, ← h1, Int.mul_ediv_cancel' hd]
    · rw [vp_not hd, rest_not hd]; exact ⟨by simp, hd⟩
theorem eq_pow_rest {p n : Int} (hp : 2 ≤ p) (hn : n ≠ 0) : n = p ^ vp p n * rest p n := (vp_spec hp _ n (Nat.le_refl _) hn).1
theorem not_dvd_rest {p n : Int} (hp : 2 ≤ p) (hn : n ≠ 0) : ¬ p ∣ rest p n := (vp_spec hp _ n (Nat.le_refl _) hn).2
theorem rest_ne {p n : Int} (hp : 2 ≤ p) (hn : n ≠ 0) : rest p n ≠ 0 := fun h => not_dvd_rest hp hn (h ▸ Int.dvd_zero p)
theorem rest_dvd_self {p n : Int} (hp : 2 ≤ p) (hn : n ≠ 0) : rest p n ∣ n := ⟨p ^ vp p n, by rw [Int.mul_comm]; exact eq_pow_rest hp hn⟩
theorem rest_natAbs_le {p n : Int} (hp : 2 ≤ p) (hn : n ≠ 0) : (rest p n).natAbs ≤ n.natAbs := Nat.le_of_dvd (by omega) (Int.natAbs_dvd_natAbs.2 (rest_dvd_self hp hn))
theorem vp_lt {p n : Int} (hp : 2 ≤ p) (hn : n ≠ 0) : 2 ^ vp p n ≤ n.natAbs := by
  have h := congrArg Int.natAbs (eq_pow_rest hp hn)
  rw [Int.natAbs_mul, Int.natAbs_pow] at h
  have h1 : 2 ^ vp p n ≤ p.natAbs ^ vp p n := Nat.pow_le_pow_left (by omega) _
  have h2 : 1 ≤ (rest p n).natAbs := by have := rest_ne hp hn; omega
  have h3 : p.natAbs ^ vp p n * 1 ≤ p.natAbs ^ vp p n * (rest p n).natAbs := Nat.mul_le_mul_left _ h2
  omega
theorem rest_nonneg {p n : Int} (hp : 2 ≤ p) (hn : 0 < n) : 0 ≤ rest p n := by
  apply Classical.byContradiction; intro hc
  have e := eq_pow_rest hp (n := n) (by omega)
  have h1 : 0 < p ^ vp p n := Int.pow_pos (by omega)
  have h2 : p ^ vp p n * rest p n ≤ p ^ vp p n * 0 := Int.mul_le_mul_of_nonneg_left (by omega) (by omega)
  omega
theorem rest_pos {p n : Int} (hp : 2 ≤ p) (hn : 0 < n) : 0 < rest p n := by
  have := rest_nonneg hp hn; have := rest_ne hp (n := n) (by omega); omega
def invM (a m : Int) : Int := (((List.range m.toNat).find? (fun x : Nat => decide ((a * (x : Int)) % m = 1 % m))).getD 0 : Nat)
theorem cancel_gcd {a m b c : Int} (h : Int.gcd a m = 1) (hc : Cg m (a * b) (a * c)) : Cg m b c := by
  have h1 : m ∣ a * (b - c) := by rw [Int.mul_sub]; exact hc
  have h2 : Nat.Coprime m.natAbs a.natAbs := by
    have : Int.gcd m a = 1 := by rw [Int.gcd_comm]; exact h
    exact this
  rw [← Int.natAbs_dvd_natAbs, Int.natAbs_mul] at h1
  exact Int.natAbs_dvd_natAbs.1 (h2.dvd_of_dvd_mul_left h1)
theorem inv_exists {a m : Int} (hm : 0 < m) (h : Int.gcd a m = 1) : ∃ x : Nat, (x : Int) < m ∧ Cg m (a * (x : Int)) 1 := by
  let f : Nat → Nat := fun k => ((a * (k : Int)) % m).toNat
  have hf : ∀ k, ((f k : Nat) : Int) = (a * (k : Int)) % m := fun k => Int.toNat_of_nonneg (Int.emod_nonneg _ (by omega))
  have hperm : ((List.range m.toNat).map f).Perm (List.range m.toNat) := by
    refine perm_of_maps List.nodup_range f ?_ ?_
    · intro k _
      rw [List.mem_range]
      have h1 := hf k
      have h2 := Int.emod_lt_of_pos (a * (k : Int)) hm
      omega
    · intro i hi j hj he
      rw [List.mem_range] at hi hj
      have h1 := hf i; rw [he, hf j] at h1
      have h2 : Cg m (a * (i : Int)) (a * (j : Int)) := (Cg.of_emod h1).symm
      have := (cancel_gcd h h2).eq_of_bounds (by omega) (by omega) (by omega) (by omega)
      omega
  have h1 := Int.emod_nonneg 1 (b := m) (by omega)
  have h2 := Int.emod_lt_of_pos 1 hm
  have : (1 % m).toNat ∈ (List.range m.toNat).map f := hperm.mem_iff.2 (List.mem_range.2 (by omega))
  obtain ⟨k, hk, he⟩ := List.mem_map.1 this
  rw [List.mem_range] at hk
  have h3 := hf k
  rw [he] at h3
  exact ⟨k, by omega, Cg.of_emod (by omega)⟩
theorem invM_spec {a m : Int} (hm : 0 < m) (h : Int.gcd a m = 1) : 0 ≤ invM a m ∧ invM a m < m ∧ Cg m (a * invM a m) 1 := by
  obtain ⟨x, hx, hc⟩ := inv_exists hm h
  unfold invM
  cases hfd : (List.range m.toNat).find? (fun x : Nat => decide ((a * (x : Int)) % m = 1 % m)) with
  | none =>
    rw [List.find?_eq_none] at hfd
    exact absurd (decide_eq_true hc.emod_eq) (hfd x (List.mem_range.2 (by omega)))
  | some y =>
    have h1 := List.mem_of_find?_eq_some hfd
    have h2 := List.find?_some hfd
    rw [List.mem_range] at h1
    simp only [decide_eq_true_eq] at h2
    simp only [Option.getD_some]
    exact ⟨by omega, by omega, Cg.of_emod h2⟩
theorem invM_unique {a m x : Int} (hm : 0 < m) (h : Int.gcd a m = 1) (h0 : 0 ≤ x) (h1 : x < m) (hc : Cg m (a * x) 1) : x = invM a m := by
  obtain ⟨i0, i1, i2⟩ := invM_spec hm h
  exact (cancel_gcd h (hc.trans i2.symm)).eq_of_bounds h0 h1 i0 i1
end FF
namespace FF
theorem gcd_emod_left (a m : Int) : Int.gcd (a % m) m = Int.gcd a m := by
  rw [Int.emod_def]; exact Int.gcd_sub_mul_left_left ..
structure Eu (a m r s x y : Int) : Prop where
  r0 : 0 ≤ r
  rm : r ≤ m
  s0 : 0 ≤ s
  sm : s ≤ m
  cr : Cg m r (a * x)
  cs : Cg m s (a * y)
  g : Int.gcd r s = Int.gcd a m
  sum : s * x.natAbs + r * y.natAbs = m
  opp : (0 ≤ x ∧ y ≤ 0) ∨ (x ≤ 0 ∧ 0 ≤ y)
  xb : x.natAbs ≤ m
  yb : y.natAbs ≤ m
theorem Eu.start {a m : Int} (hm : 1 ≤ m) : Eu a m (a % m) m 1 0 := by
  have h0 := Int.emod_nonneg a (b := m) (by omega)
  have h1 := Int.emod_lt_of_pos a (b := m) (by omega)
  exact { r0 := h0, rm := by omega, s0 := by omega, sm := by omega, cr := by rw [Int.mul_one]; exact Cg.emod m a,
          cs := ⟨1, by omega⟩, g := gcd_emod_left a m,
          sum := by simp, opp := Or.inl ⟨by omega, by omega⟩, xb := by simp; omega, yb := by simp; omega }
theorem Eu.step {a m r s x y : Int} (h : Eu a m r s x y) (hs : s ≠ 0) :
    Eu a m s (r - r / s * s) y (x - r / s * y) ∧ 0 ≤ r / s * s ∧ r / s * s ≤ r ∧ (r / s * y).natAbs ≤ m ∧ 0 ≤ r / s ∧ r / s ≤ m ∧ r - r / s * s < s := by
  obtain ⟨r0, rm, s0, sm, cr, cs, g, sum, opp, xb, yb⟩ := h
  have hsp : 0 < s := by omega
  have e1 := Int.mul_ediv_add_emod r s
  have e2 := Int.emod_nonneg r (b := s) (by omega)
  have e3 := Int.emod_lt_of_pos r hsp
  have q0 : 0 ≤ r / s := Int.ediv_nonneg r0 s0
  have q1 : r / s ≤ m := Int.le_trans (Int.ediv_le_self s r0) rm
  rw [Int.mul_comm] at e1
  generalize hq : r / s = q at *
  have hr' : r - q * s = r % s := by omega
  have hqs : 0 ≤ q * s := Int.mul_nonneg q0 s0
  have hy' : ((x - q * y).natAbs : Int) = x.natAbs + q * y.natAbs := by
    rcases opp with ⟨h1, h2⟩ | ⟨h1, h2⟩
    · have h3 : 0 ≤ q * (-y) := Int.mul_nonneg q0 (by omega)
      rw [Int.mul_neg] at h3
      have h4 : (y.natAbs : Int) = -y := by omega
      rw [h4, Int.mul_neg]; omega
    · have h3 : 0 ≤ q * y := Int.mul_nonneg q0 h2
      have h4 : (y.natAbs : Int) = y := by omega
      rw [h4]; omega
  have hqy : ((q * y).natAbs : Int) = q * y.natAbs := by
    rw [Int.natAbs_mul]; push_cast; rw [show ((q.natAbs : Nat) : Int) = q by omega]
  have hsum' : (r - q * s) * y.natAbs + s * ((x - q * y).natAbs : Int) = m := by
    rw [hy', ← sum]; grind
  have hb : ((x - q * y).natAbs : Int) ≤ m := by
    have h5 : 0 ≤ (r - q * s) * y.natAbs := Int.mul_nonneg (by omega) (by omega)
    have h6 : 1 * ((x - q * y).natAbs : Int) ≤ s * ((x - q * y).natAbs : Int) := Int.mul_le_mul_of_nonneg_right (by omega) (by omega)
    omega
  refine ⟨{ r0 := s0, rm := sm, s0 := by omega, sm := by omega, cr := cs, cs := ?_, g := ?_, sum := hsum', opp := ?_, xb := yb, yb := hb }, hqs, by omega, ?_, q0, q1, by omega⟩
  · have h1 := cr.sub (cs.mul_left q)
    rw [show a * (x - q * y) = a * x - q * (a * y) by grind]
    exact h1
  · rw [← g, Int.gcd_sub_mul_right_right, Int.gcd_comm]
  · rcases opp with ⟨h1, h2⟩ | ⟨h1, h2⟩
    · have h3 : 0 ≤ q * (-y) := Int.mul_nonneg q0 (by omega)
      rw [Int.mul_neg] at h3
      right; constructor <;> omega
    · have h3 : 0 ≤ q * y := Int.mul_nonneg q0 h2
      left; constructor <;> omega
  · rw [hqy]; omega
theorem Eu.done {a m r x y : Int} (hm : 1 ≤ m) (h : Eu a m r 0 x y) (hg : Int.gcd a m = 1) : x % m = invM a m := by
  have hg' := h.g
  rw [Int.gcd_zero_right, hg] at hg'
  have hr : r = 1 := by have := h.r0; omega
  refine invM_unique (by omega) hg (Int.emod_nonneg _ (by omega)) (Int.emod_lt_of_pos _ (by omega)) ?_
  have h1 := h.cr
  rw [hr] at h1
  exact ((Cg.emod m x).mul_left a).trans h1.symm
theorem Eu.bounds {a m r s x y : Int} (h : Eu a m r s x y) : 0 ≤ r ∧ r ≤ m ∧ 0 ≤ s ∧ s ≤ m ∧ -m ≤ x ∧ x ≤ m ∧ -m ≤ y ∧ y ≤ m := by
  have := h.xb; have := h.yb
  exact ⟨h.r0, h.rm, h.s0, h.sm, by omega, by omega, by omega, by omega⟩
end FF
