/- Plain number theory, part C: the Legendre symbol, Gauss's lemma, Eisenstein's count, quadratic reciprocity for primes. -/
import Derived.Test.YtmlkiddkgikdhaaNtB
namespace FF

/-- 1 or -1, as n is even or odd -/
def sg (n : Nat) : Int := if n % 2 = 0 then 1 else -1
theorem sg_add (m n : Nat) : sg (m + n) = sg m * sg n := by
  unfold sg; split <;> split <;> split <;> first | rfl | omega
theorem sg_sq (n : Nat) : sg n * sg n = 1 := by unfold sg; split <;> rfl
theorem sg_cases (n : Nat) : sg n = 1 ∨ sg n = -1 := by unfold sg; split <;> simp
theorem sg_congr {m n : Nat} (h : m % 2 = n % 2) : sg m = sg n := by unfold sg; rw [h]
theorem sg_mul_odd {m n : Nat} (h : m % 2 = 1) : sg (m * n) = sg n := by
  apply sg_congr; rw [Nat.mul_mod, h]; omega
theorem sg_even {n : Nat} (h : n % 2 = 0) : sg n = 1 := by unfold sg; rw [if_pos h]
theorem sg_odd {n : Nat} (h : n % 2 = 1) : sg n = -1 := by unfold sg; rw [if_neg (by omega)]

/-- the sum of the values of a function over a list -/
def sumL (f : Nat → Int) : List Nat → Int
  | [] => 0
  | k :: l => f k + sumL f l

theorem sumL_perm (f : Nat → Int) {l m : List Nat} (h : l.Perm m) : sumL f l = sumL f m := by
  induction h with
  | nil => rfl
  | cons x _ ih => simp only [sumL, ih]
  | swap x y l => simp only [sumL]; omega
  | trans _ _ ih1 ih2 => exact ih1.trans ih2
theorem sumL_map (f : Nat → Int) (g : Nat → Nat) (l : List Nat) : sumL f (l.map g) = sumL (fun k => f (g k)) l := by
  induction l with
  | nil => rfl
  | cons k l ih => simp only [List.map, sumL, ih]
theorem sumL_add (f g : Nat → Int) (l : List Nat) : sumL (fun k => f k + g k) l = sumL f l + sumL g l := by
  induction l with
  | nil => rfl
  | cons k l ih => simp only [sumL, ih]; omega
theorem sumL_mul (c : Int) (f : Nat → Int) (l : List Nat) : sumL (fun k => c * f k) l = c * sumL f l := by
  induction l with
  | nil => simp [sumL]
  | cons k l ih => simp only [sumL, ih]; rw [Int.mul_add]
theorem sumL_congr (f g : Nat → Int) (l : List Nat) (h : ∀ k, k ∈ l → f k = g k) : sumL f l = sumL g l := by
  induction l with
  | nil => rfl
  | cons k l ih => simp only [sumL]; rw [h k (by simp), ih fun j hj => h j (by simp [hj])]
theorem sumL_zero (l : List Nat) : sumL (fun _ => 0) l = 0 := by
  induction l with
  | nil => rfl
  | cons k l ih => simp only [sumL, ih]; omega
theorem sumL_const (c : Int) (l : List Nat) : sumL (fun _ => c) l = c * l.length := by
  induction l with
  | nil => simp [sumL]
  | cons k l ih => simp only [sumL, ih, List.length_cons]; push_cast; grind
theorem sumL_append (f : Nat → Int) (l m : List Nat) : sumL f (l ++ m) = sumL f l + sumL f m := by
  induction l with
  | nil => simp [sumL]
  | cons k l ih => simp only [List.cons_append, sumL, ih]; omega
theorem sumL_swap (f : Nat → Nat → Int) (l m : List Nat) : sumL (fun k => sumL (fun j => f k j) m) l = sumL (fun j => sumL (fun k => f k j) l) m := by
  induction l with
  | nil => simp only [sumL]; rw [sumL_zero]
  | cons k l ih => simp only [sumL]; rw [ih, ← sumL_add]
theorem sumL_nonneg (f : Nat → Int) (l : List Nat) (h : ∀ k, k ∈ l → 0 ≤ f k) : 0 ≤ sumL f l := by
  induction l with
  | nil => simp [sumL]
  | cons k l ih => simp only [sumL]; have := h k (by simp); have := ih fun j hj => h j (by simp [hj]); omega
theorem upTo_succ (n : Nat) : upTo (n + 1) = upTo n ++ [n + 1] := by
  unfold upTo; rw [List.range'_concat]; simp [Nat.add_comm]

/-- the Legendre symbol, by Euler's criterion -/
def leg (a : Int) (p : Nat) : Int := if a % (p : Int) = 0 then 0 else if a ^ ((p - 1) / 2) % (p : Int) = 1 then 1 else -1

theorem leg_zero {a : Int} {p : Nat} (h : (p : Int) ∣ a) : leg a p = 0 := by
  unfold leg; rw [if_pos (Int.emod_eq_zero_of_dvd h)]
theorem leg_ne {a : Int} {p : Nat} (h : ¬ (p : Int) ∣ a) : leg a p = 1 ∨ leg a p = -1 := by
  unfold leg; rw [if_neg (fun e => h (Int.dvd_of_emod_eq_zero e))]; split <;> simp
theorem leg_sq {a : Int} {p : Nat} (h : ¬ (p : Int) ∣ a) : leg a p * leg a p = 1 := by
  rcases leg_ne h with e | e <;> rw [e] <;> rfl

theorem half_pow {p : Nat} (hp : IsP p) (h2 : p ≠ 2) {a : Int} (ha : ¬ (p : Int) ∣ a) :
    Cg p (a ^ ((p - 1) / 2)) 1 ∨ Cg p (a ^ ((p - 1) / 2)) (-1) := by
  have ho := hp.odd h2
  have e : a ^ (p - 1) = a ^ ((p - 1) / 2) * a ^ ((p - 1) / 2) := by rw [← Int.pow_add]; congr 1; omega
  have hf := fermat hp ha
  rw [e] at hf
  exact hf.sq_one hp

theorem leg_cg {p : Nat} (hp : IsP p) (h2 : p ≠ 2) (a : Int) : Cg p (leg a p) (a ^ ((p - 1) / 2)) := by
  have ho := hp.odd h2
  have hp2 := hp.1
  have hpp : (1 : Int) < p := by omega
  by_cases ha : (p : Int) ∣ a
  · rw [leg_zero ha]
    have hh : 1 ≤ (p - 1) / 2 := by omega
    obtain ⟨n, hn⟩ : ∃ n, (p - 1) / 2 = n + 1 := ⟨(p - 1) / 2 - 1, by omega⟩
    rw [hn, Int.pow_succ]
    exact (Cg.zero_iff.2 (Int.dvd_mul_of_dvd_right ha)).symm
  · rcases half_pow hp h2 ha with h | h
    · have : leg a p = 1 := by
        unfold leg; rw [if_neg (fun e => ha (Int.dvd_of_emod_eq_zero e)), if_pos]
        rw [h.emod_eq]; exact Int.emod_eq_of_lt (by omega) hpp
      rw [this]; exact h.symm
    · have : leg a p = -1 := by
        unfold leg; rw [if_neg (fun e => ha (Int.dvd_of_emod_eq_zero e)), if_neg]
        rw [h.emod_eq]
        intro e
        have e2 : Cg p (-1) 1 := Cg.of_emod (by rw [e]; exact (Int.emod_eq_of_lt (by omega) hpp).symm)
        have e3 : (p : Int) ∣ 2 := by have := e2.symm; unfold Cg at this; exact this
        have := Int.le_of_dvd (by omega) e3
        omega
      rw [this]; exact h.symm

/-- numbers of size at most 1 that are congruent modulo an odd prime are the same -/
theorem small_eq {p : Nat} (hp : IsP p) (h2 : p ≠ 2) {x y : Int} (hx : -1 ≤ x ∧ x ≤ 1) (hy : -1 ≤ y ∧ y ≤ 1) (h : Cg p x y) : x = y := by
  have ho := hp.odd h2
  have hp2 := hp.1
  obtain ⟨k, hk⟩ := h
  have : k = 0 := by
    rcases Int.lt_trichotomy k 0 with h | h | h
    · have : (p : Int) * k ≤ (p : Int) * (-1) := Int.mul_le_mul_of_nonneg_left (by omega) (by omega)
      omega
    · exact h
    · have : (p : Int) * 1 ≤ (p : Int) * k := Int.mul_le_mul_of_nonneg_left (by omega) (by omega)
      omega
  subst this; omega

theorem leg_bound (a : Int) (p : Nat) : -1 ≤ leg a p ∧ leg a p ≤ 1 := by
  unfold leg; split
  · omega
  · split <;> omega

theorem leg_mul {p : Nat} (hp : IsP p) (h2 : p ≠ 2) (a b : Int) : leg (a * b) p = leg a p * leg b p := by
  refine small_eq hp h2 (leg_bound _ _) ?_ ?_
  · have := leg_bound a p; have := leg_bound b p
    have h1 : leg a p = -1 ∨ leg a p = 0 ∨ leg a p = 1 := by omega
    rcases h1 with e | e | e <;> rw [e] <;> omega
  · have := leg_cg hp h2 (a * b)
    rw [Int.mul_pow] at this
    exact this.trans ((leg_cg hp h2 a).mul (leg_cg hp h2 b)).symm

theorem leg_congr {p : Nat} {a b : Int} (h : Cg p a b) : leg a p = leg b p := by
  unfold leg; rw [h.emod_eq, (h.pow _).emod_eq]

theorem leg_one {p : Nat} (hp : IsP p) : leg 1 p = 1 := by
  have := hp.1
  unfold leg; rw [Int.one_pow, Int.emod_eq_of_lt (by omega) (by omega)]; simp

theorem leg_neg_one {p : Nat} (hp : IsP p) (h2 : p ≠ 2) : leg (-1) p = sg ((p - 1) / 2) := by
  refine small_eq hp h2 (leg_bound _ _) ?_ ?_
  · rcases sg_cases ((p - 1) / 2) with e | e <;> rw [e] <;> omega
  · refine (leg_cg hp h2 (-1)).trans (Cg.of_eq ?_)
    generalize (p - 1) / 2 = n
    induction n with
    | zero => rfl
    | succ n ih => rw [Int.pow_succ, ih, sg_add]; rfl

section gauss
variable {p : Nat} (a : Int)
/-- the residue of a k -/
def gres (p : Nat) (a : Int) (k : Nat) : Int := (a * (k : Int)) % (p : Int)
/-- its distance from the multiples of p -/
def gdist (p : Nat) (a : Int) (k : Nat) : Nat := if gres p a k ≤ (((p - 1) / 2 : Nat) : Int) then (gres p a k).toNat else ((p : Int) - gres p a k).toNat
/-- 1 if the residue is in the upper half -/
def gup (p : Nat) (a : Int) (k : Nat) : Nat := if gres p a k ≤ (((p - 1) / 2 : Nat) : Int) then 0 else 1

theorem gres_pos (hp : IsP p) (ha : ¬ (p : Int) ∣ a) {k : Nat} (h1 : 1 ≤ k) (h2 : k < p) : 0 < gres p a k ∧ gres p a k < p := by
  have hp2 := hp.1
  have h3 : ¬ (p : Int) ∣ a * (k : Int) := fun hd => by
    rcases hp.idvd_mul hd with e | e
    · exact ha e
    · exact nat_lt_not_dvd h1 h2 e
  have h4 : (a * (k : Int)) % (p : Int) ≠ 0 := fun e => h3 (Int.dvd_of_emod_eq_zero e)
  have h5 := Int.emod_nonneg (a * (k : Int)) (b := (p : Int)) (by omega)
  have h6 := Int.emod_lt_of_pos (a * (k : Int)) (b := (p : Int)) (by omega)
  unfold gres; omega

theorem gdist_cg (hp : IsP p) (ha : ¬ (p : Int) ∣ a) {k : Nat} (h1 : 1 ≤ k) (h2 : k < p) :
    Cg p (sg (gup p a k) * (gdist p a k : Int)) (a * (k : Int)) := by
  have h := gres_pos a hp ha h1 h2
  have h3 : Cg p (gres p a k) (a * (k : Int)) := Cg.emod _ _
  unfold gup gdist
  split
  · rw [Int.toNat_of_nonneg (by omega)]; simpa [sg] using h3
  · rw [Int.toNat_of_nonneg (by omega)]
    have : Cg p (-((p : Int) - gres p a k)) (gres p a k) := ⟨-1, by omega⟩
    simpa [sg] using this.trans h3

theorem gdist_bounds (hp : IsP p) (ho : p % 2 = 1) (ha : ¬ (p : Int) ∣ a) {k : Nat} (h1 : 1 ≤ k) (h2 : k < p) :
    1 ≤ gdist p a k ∧ gdist p a k ≤ (p - 1) / 2 := by
  have h := gres_pos a hp ha h1 h2
  unfold gdist; split <;> omega

theorem gdist_perm (hp : IsP p) (h2 : p ≠ 2) (ha : ¬ (p : Int) ∣ a) :
    ((upTo ((p - 1) / 2)).map (gdist p a)).Perm (upTo ((p - 1) / 2)) := by
  have ho := hp.odd h2
  refine perm_of_maps (nodup_upTo _) _ ?_ ?_
  · intro k hk
    rw [mem_upTo] at *
    exact gdist_bounds a hp ho ha hk.1 (by omega)
  · intro i hi j hj he
    rw [mem_upTo] at *
    have g1 := gdist_cg a hp ha hi.1 (by omega)
    have g2 := gdist_cg a hp ha hj.1 (by omega)
    rw [he] at g1
    generalize (gdist p a j : Int) = d at g1 g2
    have key : Cg p (i : Int) (j : Int) ∨ Cg p (i : Int) (-(j : Int)) := by
      rcases sg_cases (gup p a i) with e1 | e1 <;> rcases sg_cases (gup p a j) with e2 | e2 <;> rw [e1] at g1 <;> rw [e2] at g2
      · exact Or.inl ((g1.symm.trans g2).cancel hp ha)
      · have g3 := g2.neg
        rw [show -(-1 * d) = 1 * d by omega, show -(a * (j : Int)) = a * (-(j : Int)) by grind] at g3
        exact Or.inr ((g1.symm.trans g3).cancel hp ha)
      · have g3 := g2.neg
        rw [show -(1 * d) = -1 * d by omega, show -(a * (j : Int)) = a * (-(j : Int)) by grind] at g3
        exact Or.inr ((g1.symm.trans g3).cancel hp ha)
      · exact Or.inl ((g1.symm.trans g2).cancel hp ha)
    rcases key with h | h
    · have := h.eq_of_bounds (by omega) (by omega) (by omega) (by omega); omega
    · exfalso
      have h' : (p : Int) ∣ ((i + j : Nat) : Int) := by
        unfold Cg at h; rw [show ((i + j : Nat) : Int) = (i : Int) - -(j : Int) by omega]; exact h
      exact nat_lt_not_dvd (by omega) (by omega) h'

/-- Gauss's lemma -/
theorem gauss (hp : IsP p) (h2 : p ≠ 2) (ha : ¬ (p : Int) ∣ a) :
    leg a p = prodL (fun k => sg (gup p a k)) (upTo ((p - 1) / 2)) := by
  have ho := hp.odd h2
  have e1 := prodL_perm (fun k => (k : Int)) (gdist_perm a hp h2 ha)
  rw [prodL_map] at e1
  have e2 : Cg p (prodL (fun k => sg (gup p a k) * (gdist p a k : Int)) (upTo ((p - 1) / 2))) (prodL (fun k => a * (k : Int)) (upTo ((p - 1) / 2))) :=
    prodL_congr _ _ _ _ (fun k hk => by rw [mem_upTo] at hk; exact gdist_cg a hp ha hk.1 (by omega))
  rw [prodL_mul, prodL_mul, e1, prodL_const, length_upTo] at e2
  have hnd : ¬ (p : Int) ∣ prodL (fun k => (k : Int)) (upTo ((p - 1) / 2)) :=
    prodL_not_dvd hp _ _ (fun k hk => by rw [mem_upTo] at hk; exact nat_lt_not_dvd hk.1 (by omega))
  have e3 := e2.cancel_right hp hnd
  refine small_eq hp h2 (leg_bound _ _) ?_ ((leg_cg hp h2 a).trans e3.symm)
  have : ∀ l : List Nat, prodL (fun k => sg (gup p a k)) l = 1 ∨ prodL (fun k => sg (gup p a k)) l = -1 := by
    intro l; induction l with
    | nil => left; rfl
    | cons k l ih =>
      simp only [prodL]
      rcases sg_cases (gup p a k) with e | e <;> rcases ih with f | f <;> rw [e, f] <;> simp
  rcases this (upTo ((p - 1) / 2)) with e | e <;> rw [e] <;> omega

theorem prod_sg (f : Nat → Nat) (l : List Nat) : prodL (fun k => sg (f k)) l = sg ((sumL (fun k => (f k : Int)) l).toNat) := by
  induction l with
  | nil => rfl
  | cons k l ih =>
    simp only [prodL, sumL]
    have := sumL_nonneg (fun k => (f k : Int)) l (fun k _ => by omega)
    rw [ih, show ((f k : Int) + sumL (fun k => (f k : Int)) l).toNat = f k + (sumL (fun k => (f k : Int)) l).toNat by omega, sg_add]

/-- the parity of the count in Gauss's lemma -/
theorem gup_parity (hp : IsP p) (h2 : p ≠ 2) (ha : ¬ (p : Int) ∣ a) :
    sumL (fun k => (gup p a k : Int)) (upTo ((p - 1) / 2)) % 2 =
      ((a - 1) * sumL (fun k => (k : Int)) (upTo ((p - 1) / 2)) + sumL (fun k => (a * (k : Int)) / (p : Int)) (upTo ((p - 1) / 2))) % 2 := by
  have ho := hp.odd h2
  have e1 := sumL_perm (fun k => (k : Int)) (gdist_perm a hp h2 ha)
  rw [sumL_map] at e1
  -- each row
  have row : ∀ k, k ∈ upTo ((p - 1) / 2) → ∃ z : Int, a * (k : Int) = (p : Int) * ((a * (k : Int)) / (p : Int)) + (gdist p a k : Int) + (gup p a k : Int) + 2 * z := by
    intro k hk
    rw [mem_upTo] at hk
    have h := gres_pos a hp ha hk.1 (by omega)
    have h3 : (p : Int) * ((a * (k : Int)) / (p : Int)) + gres p a k = a * (k : Int) := Int.mul_ediv_add_emod _ _
    unfold gdist gup
    split
    · exact ⟨0, by omega⟩
    · exact ⟨gres p a k - (p + 1) / 2, by omega⟩
  have hsum : ∀ l : List Nat, (∀ k, k ∈ l → k ∈ upTo ((p - 1) / 2)) → ∃ z : Int, a * sumL (fun k => (k : Int)) l =
      (p : Int) * sumL (fun k => (a * (k : Int)) / (p : Int)) l + sumL (fun k => (gdist p a k : Int)) l + sumL (fun k => (gup p a k : Int)) l + 2 * z := by
    intro l
    induction l with
    | nil => intro _; exact ⟨0, by simp [sumL]⟩
    | cons k l ih =>
      intro hl
      obtain ⟨z1, h1⟩ := row k (hl k (by simp))
      obtain ⟨z2, h2⟩ := ih (fun j hj => hl j (by simp [hj]))
      refine ⟨z1 + z2, ?_⟩
      simp only [sumL]
      rw [Int.mul_add, Int.mul_add, h2]
      generalize (p : Int) * (a * (k : Int) / (p : Int)) = u at *
      omega
  obtain ⟨z, hz⟩ := hsum (upTo ((p - 1) / 2)) (fun _ h => h)
  rw [e1] at hz
  generalize sumL (fun k => (k : Int)) (upTo ((p - 1) / 2)) = S at *
  generalize sumL (fun k => (a * (k : Int)) / (p : Int)) (upTo ((p - 1) / 2)) = F at *
  generalize sumL (fun k => (gup p a k : Int)) (upTo ((p - 1) / 2)) = G at *
  obtain ⟨t, ht⟩ : ∃ t : Int, (p : Int) = 2 * t + 1 := ⟨(p : Int) / 2, by omega⟩
  rw [ht] at hz
  have e2 : (a - 1) * S = a * S - S := by rw [Int.sub_mul]; omega
  have e3 : (2 * t + 1) * F = 2 * (t * F) + F := by grind
  rw [e2, hz, e3]
  omega

theorem sum_upTo (n : Nat) : 2 * sumL (fun k => (k : Int)) (upTo n) = n * (n + 1) := by
  induction n with
  | zero => rfl
  | succ n ih =>
    rw [upTo_succ, sumL_append]
    simp only [sumL]
    rw [Int.mul_add, ih]; push_cast; grind

theorem leg_two (hp : IsP p) (h2 : p ≠ 2) : leg 2 p = sg ((p * p - 1) / 8) := by
  have ho := hp.odd h2
  have hp2 := hp.1
  have ha : ¬ (p : Int) ∣ 2 := fun hd => by have := Int.le_of_dvd (by omega) hd; omega
  rw [gauss 2 hp h2 ha, prod_sg]
  have hpar := gup_parity 2 hp h2 ha
  have hz : sumL (fun k => (2 * (k : Int)) / (p : Int)) (upTo ((p - 1) / 2)) = 0 := by
    rw [sumL_congr _ (fun _ => 0) _ (fun k hk => by rw [mem_upTo] at hk; exact Int.ediv_eq_zero_of_lt (by omega) (by omega)), sumL_zero]
  rw [hz] at hpar
  have hs := sum_upTo ((p - 1) / 2)
  have hn := sumL_nonneg (fun k => (gup p 2 k : Int)) (upTo ((p - 1) / 2)) (fun k _ => by omega)
  obtain ⟨t, ht⟩ : ∃ t, p = 2 * t + 1 := ⟨p / 2, by omega⟩
  have ht2 : (p - 1) / 2 = t := by omega
  rw [ht2] at hpar hs hn ⊢
  generalize sumL (fun k => (gup p 2 k : Int)) (upTo t) = G at *
  generalize sumL (fun k => (k : Int)) (upTo t) = S at *
  have e1 : (p * p - 1) = 4 * (t * (t + 1)) := by
    rw [ht]; rw [show (2 * t + 1) * (2 * t + 1) = 4 * (t * (t + 1)) + 1 by grind]; omega
  have e2 : ((t * (t + 1) : Nat) : Int) = 2 * S := by rw [hs]; push_cast; rfl
  rw [e1]
  generalize t * (t + 1) = T at *
  apply sg_congr
  omega

/-- how many j from 1 to m have p j at most x -/
theorem count_le (p x : Nat) (hp : 0 < p) (m : Nat) : sumL (fun j => if p * j ≤ x then 1 else 0) (upTo m) = (min m (x / p) : Nat) := by
  induction m with
  | zero => simp [upTo, sumL]
  | succ m ih =>
    rw [upTo_succ, sumL_append, ih]
    simp only [sumL]
    have : p * (m + 1) ≤ x ↔ m + 1 ≤ x / p := by rw [Nat.le_div_iff_mul_le hp, Nat.mul_comm]
    split <;> omega

theorem eisenstein (p q h m : Nat) (hp : p = 2 * h + 1) (hq : q = 2 * m + 1) (hc : Nat.Coprime p q) :
    sumL (fun k => ((q * k / p : Nat) : Int)) (upTo h) + sumL (fun j => ((p * j / q : Nat) : Int)) (upTo m) = (h * m : Nat) := by
  have e1 : sumL (fun k => ((q * k / p : Nat) : Int)) (upTo h) = sumL (fun k => sumL (fun j => if p * j ≤ q * k then 1 else 0) (upTo m)) (upTo h) := by
    apply sumL_congr
    intro k hk
    rw [mem_upTo] at hk
    rw [count_le p (q * k) (by omega)]
    have : q * k / p ≤ m := by
      apply Nat.le_of_lt_succ
      rw [Nat.div_lt_iff_lt_mul (by omega)]
      have h1 : q * k ≤ q * h := Nat.mul_le_mul_left _ hk.2
      have h2 : q * h < (m + 1) * p := by rw [hp, hq]; grind
      exact Nat.lt_of_le_of_lt h1 h2
    rw [Nat.min_eq_right this]
  have e2 : sumL (fun j => ((p * j / q : Nat) : Int)) (upTo m) = sumL (fun j => sumL (fun k => if q * k ≤ p * j then 1 else 0) (upTo h)) (upTo m) := by
    apply sumL_congr
    intro j hj
    rw [mem_upTo] at hj
    rw [count_le q (p * j) (by omega)]
    have : p * j / q ≤ h := by
      apply Nat.le_of_lt_succ
      rw [Nat.div_lt_iff_lt_mul (by omega)]
      have h1 : p * j ≤ p * m := Nat.mul_le_mul_left _ hj.2
      have h2 : p * m < (h + 1) * q := by rw [hp, hq]; grind
      exact Nat.lt_of_le_of_lt h1 h2
    rw [Nat.min_eq_right this]
  rw [e1, e2, sumL_swap (fun j k => if q * k ≤ p * j then 1 else 0), ← sumL_add]
  have e3 : sumL (fun k => sumL (fun j => if p * j ≤ q * k then 1 else 0) (upTo m) + sumL (fun j => if q * k ≤ p * j then 1 else 0) (upTo m)) (upTo h) = sumL (fun _ => (m : Int)) (upTo h) := by
    apply sumL_congr
    intro k hk
    rw [mem_upTo] at hk
    rw [← sumL_add, sumL_congr _ (fun _ => 1), sumL_const, length_upTo]
    · omega
    · intro j hj
      rw [mem_upTo] at hj
      have hne : p * j ≠ q * k := by
        intro he
        have : p ∣ q * k := ⟨j, he.symm⟩
        have := hc.dvd_of_dvd_mul_left this
        have := Nat.le_of_dvd (by omega) this
        omega
      split <;> split <;> omega
  rw [e3, sumL_const, length_upTo]; push_cast; grind

theorem leg_odd (hp : IsP p) (h2 : p ≠ 2) {q : Nat} (hq : q % 2 = 1) (ha : ¬ p ∣ q) :
    leg (q : Int) p = sg (sumL (fun k => ((q * k / p : Nat) : Int)) (upTo ((p - 1) / 2))).toNat := by
  have ha' : ¬ (p : Int) ∣ (q : Int) := fun h => ha (Int.natCast_dvd_natCast.1 h)
  rw [gauss (q : Int) hp h2 ha', prod_sg]
  have hpar := gup_parity (q : Int) hp h2 ha'
  have e : sumL (fun k => ((q : Int) * (k : Int)) / (p : Int)) (upTo ((p - 1) / 2)) = sumL (fun k => ((q * k / p : Nat) : Int)) (upTo ((p - 1) / 2)) := by
    apply sumL_congr; intro k _; push_cast; rfl
  rw [e] at hpar
  have hn := sumL_nonneg (fun k => (gup p (q : Int) k : Int)) (upTo ((p - 1) / 2)) (fun k _ => by omega)
  have hn2 := sumL_nonneg (fun k => ((q * k / p : Nat) : Int)) (upTo ((p - 1) / 2)) (fun k _ => Int.natCast_nonneg _)
  generalize sumL (fun k => (gup p (q : Int) k : Int)) (upTo ((p - 1) / 2)) = G at *
  generalize sumL (fun k => ((q * k / p : Nat) : Int)) (upTo ((p - 1) / 2)) = F at *
  generalize sumL (fun k => (k : Int)) (upTo ((p - 1) / 2)) = S at *
  obtain ⟨t, ht⟩ : ∃ t : Int, (q : Int) - 1 = 2 * t := ⟨(q : Int) / 2, by omega⟩
  rw [ht, show 2 * t * S = 2 * (t * S) by grind] at hpar
  apply sg_congr
  omega

/-- quadratic reciprocity for odd primes -/
theorem reciprocity {p q : Nat} (hp : IsP p) (hq : IsP q) (hp2 : p ≠ 2) (hq2 : q ≠ 2) (hne : p ≠ q) :
    leg (q : Int) p * leg (p : Int) q = sg ((p - 1) / 2 * ((q - 1) / 2)) := by
  have hop := hp.odd hp2
  have hoq := hq.odd hq2
  have h1 : ¬ p ∣ q := fun h => hne (hp.eq_of_dvd hq h)
  have h2 : ¬ q ∣ p := fun h => hne (hq.eq_of_dvd hp h).symm
  rw [leg_odd hp hp2 hoq h1, leg_odd hq hq2 hop h2, ← sg_add]
  have he := eisenstein p q ((p - 1) / 2) ((q - 1) / 2) (by omega) (by omega) (hp.coprime h1)
  have n1 := sumL_nonneg (fun k => ((q * k / p : Nat) : Int)) (upTo ((p - 1) / 2)) (fun k _ => Int.natCast_nonneg _)
  have n2 := sumL_nonneg (fun k => ((p * k / q : Nat) : Int)) (upTo ((q - 1) / 2)) (fun k _ => Int.natCast_nonneg _)
  congr 1
  omega
end gauss

end FF
