/- Strong pseudoprimes: the test as the program makes it; the reckoning is sound. -/
import Derived.Test.YtmlkiddkgikdhaaNt
import Derived.Test.YtmlkiddkgikdhaaSpA
namespace FF

def witGo (n : Int) : Nat → Int → Bool
  | 0, _ => true
  | f + 1, x => if x * x % n = n - 1 then false else witGo n f (x * x % n)
def witW (a n o : Int) (k : Nat) : Bool :=
  if a ^ o.toNat % n = 1 ∨ a ^ o.toNat % n = n - 1 then false else witGo n (k - 1) (a ^ o.toNat % n)
/-- the base a shows that n is composite -/
def witB (a n : Int) : Bool := witW a n (rest 2 (n - 1)) (vp 2 (n - 1))
def isPGo (n : Int) : List Int → Bool
  | [] => true
  | a :: l => if n = a then true else if n % a = 0 ∨ witB a n = true then false else isPGo n l
/-- the test of the program -/
def isPM (n : Int) : Bool := if n < 2 ∨ 1000000000 < n then false else isPGo n [2, 3, 5, 7]

/-! the small functions -/
theorem force_eq {α : Type} (x : Nat) (f : Nat → α) : force x f = f x := by cases x <;> rfl
theorem beq_true {a b : Nat} : Nat.beq a b = true ↔ a = b := by rw [Nat.beq_eq]
theorem cond_ite {α : Type} (b : Bool) (x y : α) : cond b x y = if b = true then x else y := by cases b <;> rfl
theorem cond_beq {α : Type} (a b : Nat) (x y : α) : cond (Nat.beq a b) x y = if a = b then x else y := by
  rw [cond_ite]; by_cases h : a = b
  · rw [if_pos (beq_true.2 h), if_pos h]
  · rw [if_neg (fun e => h (beq_true.1 e)), if_neg h]

theorem cond_and {b x : Bool} : cond b x false = true ↔ b = true ∧ x = true := by cases b <;> simp
theorem cond_imp {b x : Bool} : cond b x true = true ↔ (b = true → x = true) := by cases b <;> simp

theorem pmF_spec (a n : Nat) (f : Nat) : ∀ e, e < 32 ^ f → pmF a n f e % n = a ^ e % n := by
  induction f with
  | zero => intro e he; simp at he; subst he; rfl
  | succ f ih =>
    intro e he
    have hd : pmF a n (f + 1) e = cond (Nat.beq e 0) 1 (force (e / 32) fun e2 => (pmF a n f e2 ^ 32 * a ^ (e % 32)) % n) := rfl
    rw [hd, cond_beq, force_eq]
    split
    · rename_i h; subst h; rfl
    · have h1 := ih (e / 32) (by rw [Nat.pow_succ] at he; omega)
      rw [Nat.mod_mod, Nat.mul_mod, Nat.pow_mod, h1, ← Nat.pow_mod, ← Nat.mul_mod, ← Nat.pow_mul, ← Nat.pow_add]
      congr 2; omega
theorem pm_eq {a e n : Nat} (hn : 1 < n) (he : e ≤ 1000000000) : pm a e n = a ^ e % n := by
  have h := pmF_spec a n 7 e (by omega)
  have hd : pm a e n = cond (Nat.beq e 0) 1 (force (e / 32) fun e2 => (pmF a n 6 e2 ^ 32 * a ^ (e % 32)) % n) := rfl
  rw [← h]
  show pm a e n = pm a e n % n
  rw [hd, cond_beq, force_eq]
  split
  · exact (Nat.mod_eq_of_lt hn).symm
  · rw [Nat.mod_mod]

theorem oddp_spec {o : Nat} (ho : o % 2 = 1) (h : Nat) : ∀ f, h < f → oddp f (o * 2 ^ h) = o := by
  induction h with
  | zero =>
    intro f hf
    obtain ⟨g, rfl⟩ : ∃ g, f = g + 1 := ⟨f - 1, by omega⟩
    have hd : oddp (g + 1) (o * 2 ^ 0) = cond (Nat.beq (o * 2 ^ 0 % 2) 0) (force (o * 2 ^ 0 / 2) (oddp g)) (o * 2 ^ 0) := rfl
    rw [hd, cond_beq, if_neg (by simp; omega)]; simp
  | succ h ih =>
    intro f hf
    obtain ⟨g, rfl⟩ : ∃ g, f = g + 1 := ⟨f - 1, by omega⟩
    have hd : oddp (g + 1) (o * 2 ^ (h + 1)) = cond (Nat.beq (o * 2 ^ (h + 1) % 2) 0) (force (o * 2 ^ (h + 1) / 2) (oddp g)) (o * 2 ^ (h + 1)) := rfl
    have e : o * 2 ^ (h + 1) = 2 * (o * 2 ^ h) := by rw [Nat.pow_succ]; grind
    rw [hd, cond_beq, force_eq, e, if_pos (by omega), Nat.mul_div_cancel_left _ (by omega)]
    exact ih g (by omega)

theorem sq_spec (n : Nat) (f : Nat) : ∀ x i, i < f → x < n → x ^ (2 ^ i) % n = n - 1 → sq n f x = true := by
  induction f with
  | zero => intro x i hi; omega
  | succ f ih =>
    intro x i hi hx h
    have hd : sq n (f + 1) x = cond (Nat.beq x (n - 1)) true (force (x * x % n) (sq n f)) := rfl
    rw [hd, cond_beq, force_eq]
    split
    · rfl
    · rename_i hne
      cases i with
      | zero => rw [Nat.pow_zero, Nat.pow_one, Nat.mod_eq_of_lt hx] at h; exact absurd h hne
      | succ i =>
        refine ih _ i (by omega) (Nat.mod_lt _ (by omega)) ?_
        rw [← Nat.pow_mod, ← Nat.pow_two, ← Nat.pow_mul, Nat.mul_comm, ← Nat.pow_succ]; exact h

/-- n passes the test with the base a -/
def Sprp (a n : Nat) : Prop := ∃ h o, o % 2 = 1 ∧ n - 1 = o * 2 ^ h ∧ (a ^ o % n = 1 ∨ ∃ i, i < h ∧ a ^ (o * 2 ^ i) % n = n - 1)

theorem two_pow_lt {o h n : Nat} (ho : o % 2 = 1) (hn : o * 2 ^ h ≤ n) (hm : n ≤ 1000000000) : h < 31 := by
  have h1 : 1 * 2 ^ h ≤ o * 2 ^ h := Nat.mul_le_mul_right _ (by omega)
  have h2 : 2 ^ h < 2 ^ 31 := by omega
  exact (Nat.pow_lt_pow_iff_right (by omega)).1 h2

theorem sprpB_of {a n : Nat} (hn : 1 < n) (hm : n ≤ 1000000000) (h : Sprp a n) : sprpB a n = true := by
  obtain ⟨h, o, ho, he, hc⟩ := h
  have hl := two_pow_lt (h := h) (n := n) ho (by omega) hm
  have ho2 : o ≤ 1000000000 := by
    have : o * 1 ≤ o * 2 ^ h := Nat.mul_le_mul_left _ (Nat.pos_of_ne_zero (by simp))
    omega
  have hd : sprpB a n = force (oddp 64 (n - 1)) fun o => force (pm a o n) fun x => cond (Nat.beq x 1) true (sq n 64 x) := rfl
  rw [hd, force_eq, he, oddp_spec ho h 64 (by omega), force_eq, pm_eq hn ho2, cond_beq]
  split
  · rfl
  · rename_i hne
    rcases hc with hc | ⟨i, hi, hc⟩
    · exact absurd hc hne
    · refine sq_spec n 64 _ i (by omega) (Nat.mod_lt _ (by omega)) ?_
      rw [← Nat.pow_mod, ← Nat.pow_mul]; exact hc

theorem sprp_fermat {a n : Nat} (hn : 2 < n) (h : Sprp a n) : a ^ (n - 1) % n = 1 := by
  obtain ⟨h, o, ho, he, hc⟩ := h
  rw [he]
  rcases hc with hc | ⟨i, hi, hc⟩
  · rw [Nat.pow_mul, Nat.pow_mod, hc, Nat.one_pow, Nat.mod_eq_of_lt (by omega)]
  · have e : o * 2 ^ h = o * 2 ^ i * 2 * 2 ^ (h - i - 1) := by
      rw [show h = i + 1 + (h - i - 1) by omega, Nat.pow_add, Nat.pow_succ]
      rw [show i + 1 + (h - i - 1) - i - 1 = h - i - 1 by omega]; grind
    have e2 : a ^ (o * 2 ^ i * 2) % n = 1 := by
      rw [Nat.pow_mul, Nat.pow_mod, hc, Nat.pow_two]
      have : (n - 1) * (n - 1) = 1 + n * (n - 2) := by
        obtain ⟨m, rfl⟩ : ∃ m, n = m + 2 := ⟨n - 2, by omega⟩
        simp only [Nat.add_sub_cancel]; rw [show m + 2 - 1 = m + 1 by omega]; grind
      rw [this, Nat.add_mul_mod_self_left, Nat.mod_eq_of_lt (by omega)]
    rw [e, Nat.pow_mul, Nat.pow_mod, e2, Nat.one_pow, Nat.mod_eq_of_lt (by omega)]

theorem bad_false {n : Nat} (hn : 2 < n) (hm : n ≤ 1000000000) (h2 : Sprp 2 n) (h3 : Sprp 3 n) (h5 : Sprp 5 n) (h7 : Sprp 7 n) : bad n = false := by
  have hd : bad n = cond (Nat.beq (pm 2 (n - 1) n) 1) (cond (sprpB 2 n) (cond (sprpB 3 n) (cond (sprpB 5 n) (not (sprpB 7 n)) true) true) true) true := rfl
  rw [hd, pm_eq (by omega) (by omega), sprp_fermat hn h2, sprpB_of (by omega) hm h2, sprpB_of (by omega) hm h3, sprpB_of (by omega) hm h5, sprpB_of (by omega) hm h7]
  rfl

/-! congruences of natural numbers -/
theorem cg_nat {n a e b : Nat} : Cg n ((a : Int) ^ e) b ↔ a ^ e % n = b % n := by
  rw [Cg.iff_emod]
  have : ((a : Int) ^ e % (n : Int)) = ((a ^ e % n : Nat) : Int) := by push_cast; rfl
  have h2 : ((b : Int) % (n : Int)) = ((b % n : Nat) : Int) := by push_cast; rfl
  rw [this, h2]; omega

/-- all four bases have the power 1 -/
def Four (p e : Nat) : Prop := Cg p ((2 : Int) ^ e) 1 ∧ Cg p ((3 : Int) ^ e) 1 ∧ Cg p ((5 : Int) ^ e) 1 ∧ Cg p ((7 : Int) ^ e) 1
theorem Four.gcd {p d e : Nat} (h : Four p d) (g : Four p e) : Four p (Nat.gcd d e) :=
  ⟨pow_gcd_one d e h.1 g.1, pow_gcd_one d e h.2.1 g.2.1, pow_gcd_one d e h.2.2.1 g.2.2.1, pow_gcd_one d e h.2.2.2 g.2.2.2⟩
theorem Four.dvd {p d e : Nat} (h : Four p d) (hd : d ∣ e) : Four p e :=
  ⟨pow_dvd_one hd h.1, pow_dvd_one hd h.2.1, pow_dvd_one hd h.2.2.1, pow_dvd_one hd h.2.2.2⟩
theorem pm_one {a e p : Nat} (hp : 1 < p) (he : e ≤ 1000000000) : pm a e p = 1 ↔ Cg p ((a : Int) ^ e) 1 := by
  rw [pm_eq hp he]
  have := cg_nat (n := p) (a := a) (e := e) (b := 1)
  rw [Nat.mod_eq_of_lt hp] at this; exact this.symm
theorem all4_iff {p e : Nat} (hp : 1 < p) (he : e ≤ 1000000000) : all4 e p = true ↔ Four p e := by
  have hd : all4 e p = cond (Nat.beq (pm 2 e p) 1) (cond (Nat.beq (pm 3 e p) 1) (cond (Nat.beq (pm 5 e p) 1) (Nat.beq (pm 7 e p) 1) false) false) false := rfl
  have h2 := pm_one (a := 2) hp he
  have h3 := pm_one (a := 3) hp he
  have h5 := pm_one (a := 5) hp he
  have h7 := pm_one (a := 7) hp he
  rw [hd, cond_beq, cond_beq, cond_beq]
  unfold Four
  constructor
  · intro h
    split at h
    · split at h
      · split at h
        · rename_i e2 e3 e5; exact ⟨h2.1 e2, h3.1 e3, h5.1 e5, h7.1 (beq_true.1 h)⟩
        · exact absurd h (by simp)
      · exact absurd h (by simp)
    · exact absurd h (by simp)
  · rintro ⟨g2, g3, g5, g7⟩
    rw [if_pos (h2.2 g2), if_pos (h3.2 g3), if_pos (h5.2 g5)]; exact beq_true.2 (h7.2 g7)

/-! the small primes -/
def primeB (n : Nat) : Bool := decide (2 ≤ n) && (List.range n).all fun d => decide (d < 2) || decide (n % d ≠ 0)
theorem primeB_iff {n : Nat} : primeB n = true ↔ IsP n := by
  unfold primeB
  rw [Bool.and_eq_true, decide_eq_true_iff, List.all_eq_true]
  constructor
  · rintro ⟨h2, h⟩
    refine isP_of_trial h2 fun d hd hdd hdn => ?_
    have hlt : d < n := by
      have : d * 2 ≤ d * d := Nat.mul_le_mul_left _ hd
      omega
    have := h d (List.mem_range.2 hlt)
    simp only [Bool.or_eq_true, decide_eq_true_eq] at this
    rcases this with h1 | h1
    · omega
    · exact h1 (Nat.mod_eq_zero_of_dvd hdn)
  · intro h
    refine ⟨h.1, fun d hd => ?_⟩
    rw [List.mem_range] at hd
    simp only [Bool.or_eq_true, decide_eq_true_eq]
    by_cases h2 : d < 2
    · exact Or.inl h2
    · exact Or.inr fun e => h.not_dvd_of_lt (by omega) hd (Nat.dvd_of_mod_eq_zero e)

theorem ls_prime : ∀ q, q ∈ ls → IsP q := by
  intro q hq
  have h : ls.all primeB = true := by decide +kernel
  exact primeB_iff.1 (List.all_eq_true.1 h q hq)
theorem ls_all {q : Nat} (hq : IsP q) (hl : q < 179) : q ∈ ls := by
  have h : (List.range 179).all (fun q => !primeB q || ls.contains q) = true := by decide +kernel
  have h1 := List.all_eq_true.1 h q (List.mem_range.2 hl)
  rw [primeB_iff.2 hq] at h1
  simpa using h1
theorem prod_dvd {l : List Nat} {q : Nat} (hq : IsP q) (hd : q ∣ l.foldr (· * ·) 1) : ∃ x, x ∈ l ∧ q ∣ x := by
  induction l with
  | nil => exact absurd hd hq.not_dvd_one
  | cons x l ih =>
    rcases hq.dvd_mul hd with h | h
    · exact ⟨x, by simp, h⟩
    · obtain ⟨y, hy, h⟩ := ih h; exact ⟨y, by simp [hy], h⟩
theorem MM_prod : MM = ls.foldr (· * ·) 1 := by decide +kernel
theorem dvd_MM {q : Nat} (hq : IsP q) : q ∣ MM ↔ q ∈ ls := by
  constructor
  · intro h
    rw [MM_prod] at h
    obtain ⟨x, hx, hd⟩ := prod_dvd hq h
    rw [hq.eq_of_dvd (ls_prime x hx) hd]; exact hx
  · intro h
    have : ls.all (fun x => decide (MM % x = 0)) = true := by decide +kernel
    have := List.all_eq_true.1 this q h
    exact Nat.dvd_of_mod_eq_zero (of_decide_eq_true this)
theorem big_coprime {q : Nat} (hq : IsP q) (hl : 179 ≤ q) : Nat.gcd q MM = 1 := by
  refine hq.coprime fun h => ?_
  have := (dvd_MM hq).1 h
  have h2 : ls.all (fun x => decide (x < 179)) = true := by decide +kernel
  have := of_decide_eq_true (List.all_eq_true.1 h2 q this)
  omega

/-! orders -/
theorem ordL_spec {p d : Nat} : ∀ l : List Nat, ordL p d l = true → ∀ q, q ∈ l → d % q = 0 → all4 (d / q) p = false := by
  intro l
  induction l with
  | nil => intro _ q hq; simp at hq
  | cons x l ih =>
    intro h q hq hd
    have hdef : ordL p d (x :: l) = cond (Nat.beq (d % x) 0) (cond (all4 (d / x) p) false (ordL p d l)) (ordL p d l) := rfl
    rw [hdef, cond_beq] at h
    rcases List.mem_cons.1 hq with rfl | hq
    · rw [if_pos hd] at h
      cases h4 : all4 (d / q) p
      · rfl
      · rw [h4] at h; exact absurd h (by simp)
    · split at h
      · cases h4 : all4 (d / x) p
        · rw [h4] at h; exact ih h q hq hd
        · rw [h4] at h; exact absurd h (by simp)
      · exact ih h q hq hd

theorem chkOrd_spec {p d e : Nat} (hp : 1 < p) (hd0 : 0 < d) (hd : d < 32041) (h : chkOrd p d = true) (he : Four p e) : d ∣ e := by
  have hdef : chkOrd p d = cond (all4 d p) (cond (ordL p d ls) (force (d / Nat.gcd d (MM ^ 15)) fun r => cond (Nat.beq (Nat.gcd r MM) 1) (cond (Nat.beq r 1) true (not (all4 (d / r) p))) false) false) false := rfl
  rw [hdef, force_eq] at h
  have h1 : all4 d p = true := by
    cases h1 : all4 d p
    · rw [h1] at h; exact absurd h (by simp)
    · rfl
  rw [h1, cond_true] at h
  have h2 : ordL p d ls = true := by
    cases h2 : ordL p d ls
    · rw [h2] at h; exact absurd h (by simp)
    · rfl
  rw [h2, cond_true, cond_beq] at h
  have h3 : Nat.gcd (d / Nat.gcd d (MM ^ 15)) MM = 1 := by
    apply Classical.byContradiction; intro hx; rw [if_neg hx] at h; exact absurd h (by simp)
  rw [if_pos h3, cond_beq] at h
  have hF := (all4_iff hp (by omega)).1 h1
  have hg := he.gcd hF
  apply Classical.byContradiction
  intro hnd
  have hgd : Nat.gcd e d ∣ d := Nat.gcd_dvd_right e d
  have hne : Nat.gcd e d ≠ d := fun hx => hnd (hx ▸ Nat.gcd_dvd_left e d)
  obtain ⟨t, ht⟩ := hgd
  have ht0 : t ≠ 0 := by rintro rfl; simp at ht; omega
  have ht1 : t ≠ 1 := by rintro rfl; rw [Nat.mul_one] at ht; exact hne ht.symm
  obtain ⟨l, hl, u, hu⟩ := exists_prime_dvd t (by omega)
  have hld : l ∣ d := ⟨Nat.gcd e d * u, by rw [← Nat.mul_assoc, Nat.mul_comm l, Nat.mul_assoc, ← hu]; exact ht⟩
  have hq : d / l = Nat.gcd e d * u := by
    refine Nat.div_eq_of_eq_mul_right hl.pos ?_
    rw [← Nat.mul_assoc, Nat.mul_comm l, Nat.mul_assoc, ← hu]; exact ht
  have h4 : all4 (d / l) p = true := (all4_iff hp (Nat.le_trans (Nat.div_le_self _ _) (by omega))).2 (hq ▸ hg.dvd ⟨u, rfl⟩)
  by_cases hin : l ∈ ls
  · have := ordL_spec ls h2 l hin (Nat.mod_eq_zero_of_dvd hld)
    rw [this] at h4; exact absurd h4 (by simp)
  · have hnM : ¬ l ∣ MM := fun hx => hin ((dvd_MM hl).1 hx)
    have hnG : ¬ l ∣ Nat.gcd d (MM ^ 15) := fun hx => hnM (hl.dvd_pow (Nat.dvd_trans hx (Nat.gcd_dvd_right _ _)))
    obtain ⟨r, hr⟩ := Nat.gcd_dvd_left d (MM ^ 15)
    have hG0 : 0 < Nat.gcd d (MM ^ 15) := Nat.gcd_pos_of_pos_left _ hd0
    have hrr : d / Nat.gcd d (MM ^ 15) = r := Nat.div_eq_of_eq_mul_right hG0 hr
    rw [hrr] at h h3
    have hlr : l ∣ r := by
      have h5 := hld; rw [hr] at h5
      rcases hl.dvd_mul h5 with h6 | h6
      · exact absurd h6 hnG
      · exact h6
    have hl179 : 179 ≤ l := by
      apply Classical.byContradiction; intro hx; exact hin (ls_all hl (by omega))
    have hr0 : 0 < r := by apply Nat.pos_of_ne_zero; rintro rfl; simp at hr; omega
    have hrd : r ≤ d := Nat.le_of_dvd hd0 ⟨Nat.gcd d (MM ^ 15), by rw [Nat.mul_comm]; exact hr⟩
    obtain ⟨v, hv⟩ := hlr
    have hv1 : v = 1 := by
      apply Classical.byContradiction; intro hv1
      have hv0 : v ≠ 0 := by rintro rfl; simp at hv; omega
      obtain ⟨q, hq1, hq2⟩ := exists_prime_dvd v (by omega)
      have hqr : q ∣ r := by rw [hv]; exact Nat.dvd_trans hq2 ⟨l, Nat.mul_comm _ _⟩
      have hqM : ¬ q ∣ MM := fun hx => hq1.not_dvd_one (h3 ▸ Nat.dvd_gcd hqr hx)
      have hq179 : 179 ≤ q := by
        apply Classical.byContradiction; intro hx; exact hqM ((dvd_MM hq1).2 (ls_all hq1 (by omega)))
      have hqv := Nat.le_of_dvd (by omega) hq2
      have : 179 * 179 ≤ l * v := Nat.mul_le_mul hl179 (by omega)
      omega
    rw [hv1, Nat.mul_one] at hv
    have hr1 : r ≠ 1 := by have := hl.1; omega
    rw [if_neg hr1, hv, h4] at h
    exact absurd h (by simp)

/-! candidates -/
theorem candGo_spec {p d : Nat} (f : Nat) : ∀ s, candGo p d f s = true → ∀ j, j < f → Nat.gcd (s + d * j) 210 = 1 → bad (p * (s + d * j)) = true := by
  induction f with
  | zero => intro s _ j hj; omega
  | succ f ih =>
    intro s h j hj hg
    have hdef : candGo p d (f + 1) s = cond (cond (Nat.beq (Nat.gcd s 210) 1) (bad (p * s)) true) (force (s + d) (candGo p d f)) false := rfl
    rw [hdef, force_eq, cond_and, cond_imp, beq_true] at h
    obtain ⟨hc, h⟩ := h
    cases j with
    | zero => rw [Nat.mul_zero, Nat.add_zero] at *; exact hc hg
    | succ j =>
      have e : s + d * (j + 1) = s + d + d * j := by rw [Nat.mul_succ]; omega
      rw [e] at hg ⊢
      exact ih (s + d) h j (by omega) hg

theorem tryIdx_spec {p i s : Nat} (hp : 2 < p) (hp2 : p < 32041) (h : tryIdx p i = true) (hs : 1 < s) (hn : p * s ≤ 1000000000) (hg : Nat.gcd s 210 = 1)
    (he : Four p (s - 1)) : bad (p * s) = true := by
  have hdef : tryIdx p i = force ((p - 1) / i) fun d => cond (Nat.beq (d * i) (p - 1)) (cond (chkOrd p d) (cands p d) false) false := rfl
  rw [hdef, force_eq, cond_beq] at h
  split at h
  · rename_i hdi
    generalize (p - 1) / i = d at *
    have hd0 : 0 < d := by apply Nat.pos_of_ne_zero; rintro rfl; simp at hdi; omega
    have hi0 : 0 < i := by apply Nat.pos_of_ne_zero; rintro rfl; simp at hdi; omega
    have hd1 : d ≤ p - 1 := by rw [← hdi]; exact Nat.le_mul_of_pos_right _ hi0
    cases h1 : chkOrd p d
    · rw [h1] at h; exact absurd h (by simp)
    · rw [h1, cond_true] at h
      obtain ⟨k, hk⟩ := chkOrd_spec (by omega) hd0 (by omega) h1 he
      have hk0 : k ≠ 0 := by rintro rfl; simp at hk; omega
      have hdef2 : cands p d = candGo p d ((1000000000 / p - 1) / d) (1 + d) := rfl
      rw [hdef2] at h
      have hk1 : k - 1 < (1000000000 / p - 1) / d := by
        have h2 : s ≤ 1000000000 / p := by rw [Nat.le_div_iff_mul_le (by omega), Nat.mul_comm]; exact hn
        have h3 : k ≤ (1000000000 / p - 1) / d := by rw [Nat.le_div_iff_mul_le hd0, Nat.mul_comm]; omega
        omega
      have e : 1 + d + d * (k - 1) = s := by
        have : d * k = d * (k - 1) + d := by rw [← Nat.mul_succ]; congr 1; omega
        omega
      have := candGo_spec _ _ h (k - 1) hk1 (by rw [e]; exact hg)
      rwa [e] at this
  · exact absurd h (by simp)

theorem chk3_spec {p s : Nat} (hp : IsP p) (hp1 : 179 ≤ p) (hp2 : p < 32041) (h : chk3 p = true) (hs : 1 < s) (hn : p * s ≤ 1000000000) (hg : Nat.gcd s 210 = 1)
    (he : Four p (s - 1)) : bad (p * s) = true := by
  have hdef : chk3 p = cond (Nat.beq (Nat.gcd p MM) 1) (cond (tryIdx p 1) true (cond (tryIdx p 2) true (cond (tryIdx p 3) true (tryIdx p 4)))) true := rfl
  rw [hdef, cond_beq, if_pos (big_coprime hp hp1)] at h
  cases h1 : tryIdx p 1
  · rw [h1] at h
    cases h2 : tryIdx p 2
    · rw [h2] at h
      cases h3 : tryIdx p 3
      · rw [h3] at h; exact tryIdx_spec (i := 4) (by omega) hp2 h hs hn hg he
      · exact tryIdx_spec (i := 3) (by omega) hp2 h3 hs hn hg he
    · exact tryIdx_spec (i := 2) (by omega) hp2 h2 hs hn hg he
  · exact tryIdx_spec (i := 1) (by omega) hp2 h1 hs hn hg he

theorem go3_spec (f : Nat) : ∀ m, go3 f m = true → ∀ j, j < f → chk3 (m + 2 * j) = true := by
  induction f with
  | zero => intro m _ j hj; omega
  | succ f ih =>
    intro m h j hj
    have hdef : go3 (f + 1) m = cond (chk3 m) (force (m + 2) (go3 f)) false := rfl
    rw [hdef, force_eq, cond_ite] at h
    split at h
    · rename_i hc
      cases j with
      | zero => exact hc
      | succ j => rw [show m + 2 * (j + 1) = m + 2 + 2 * j by omega]; exact ih (m + 2) h j (by omega)
    · exact absurd h (by simp)

/-! the greatest primes -/
theorem prodGo_spec {p : Nat} (hp : IsP p) (f : Nat) : ∀ m acc, 0 < m → m + 2 * f ≤ p + 1 → ¬ p ∣ acc → ¬ p ∣ prodGo f m acc := by
  induction f with
  | zero => intro m acc _ _ h; exact h
  | succ f ih =>
    intro m acc hm hl h
    have hdef : prodGo (f + 1) m acc = force (m + 2) fun m2 => cond (Nat.beq (Nat.gcd m MM) 1) (force (acc * m) (prodGo f m2)) (prodGo f m2 acc) := rfl
    rw [hdef, force_eq, cond_beq, force_eq]
    split
    · refine ih _ _ (by omega) (by omega) fun hd => ?_
      rcases hp.dvd_mul hd with h1 | h1
      · exact h h1
      · have := Nat.le_of_dvd hm h1; omega
    · exact ih _ _ (by omega) (by omega) h

theorem strip_spec {p M : Nat} (hp : IsP p) (hM : ¬ p ∣ M) (f : Nat) : ∀ g, g ≠ 0 → p ∣ g → p ∣ strip M f g ∧ strip M f g ≠ 0 := by
  induction f with
  | zero => intro g h0 h; exact ⟨h, h0⟩
  | succ f ih =>
    intro g h0 h
    have hdef : strip M (f + 1) g = force (Nat.gcd g M) fun x => cond (Nat.beq x 1) g (force (g / x) (strip M f)) := rfl
    rw [hdef, force_eq, cond_beq, force_eq]
    split
    · exact ⟨h, h0⟩
    · have hG0 : 0 < Nat.gcd g M := Nat.gcd_pos_of_pos_left _ (by omega)
      obtain ⟨r, hr⟩ := Nat.gcd_dvd_left g M
      have hq : g / Nat.gcd g M = r := Nat.div_eq_of_eq_mul_right hG0 hr
      rw [hq]
      refine ih r (by rintro rfl; simp at hr; omega) ?_
      rw [hr] at h
      rcases hp.dvd_mul h with h1 | h1
      · exact absurd (Nat.dvd_trans h1 (Nat.gcd_dvd_right _ _)) hM
      · exact h1

theorem okP_spec {s p : Nat} (h : okP s p = true) (hn : p * s ≤ 1000000000) : bad (p * s) = true := by
  have hdef : okP s p = cond (Nat.ble (p * s) 1000000000) (bad (p * s)) true := rfl
  rw [hdef, Nat.ble_eq_true_of_le hn] at h; exact h

theorem loopT_spec {s g : Nat} (f : Nat) : ∀ t0, loopT s g f t0 = true → ∀ j, j < f → g % (t0 + j) = 0 → okP s (g / (t0 + j)) = true := by
  induction f with
  | zero => intro m _ j hj; omega
  | succ f ih =>
    intro m h j hj hd
    have hdef : loopT s g (f + 1) m = cond (cond (Nat.beq (g % m) 0) (okP s (g / m)) true) (force (m + 1) (loopT s g f)) false := rfl
    rw [hdef, force_eq, cond_and, cond_imp, beq_true] at h
    obtain ⟨hc, h⟩ := h
    cases j with
    | zero => rw [Nat.add_zero] at *; exact hc hd
    | succ j => rw [show m + (j + 1) = m + 1 + j by omega] at *; exact ih (m + 1) h j (by omega) hd
theorem loopP_spec {s g : Nat} (f : Nat) : ∀ t0, loopP s g f t0 = true → ∀ j, j < f → g % (t0 + j) = 0 → okP s (t0 + j) = true := by
  induction f with
  | zero => intro m _ j hj; omega
  | succ f ih =>
    intro m h j hj hd
    have hdef : loopP s g (f + 1) m = cond (cond (Nat.beq (g % m) 0) (okP s m) true) (force (m + 1) (loopP s g f)) false := rfl
    rw [hdef, force_eq, cond_and, cond_imp, beq_true] at h
    obtain ⟨hc, h⟩ := h
    cases j with
    | zero => rw [Nat.add_zero] at *; exact hc hd
    | succ j => rw [show m + (j + 1) = m + 1 + j by omega] at *; exact ih (m + 1) h j (by omega) hd

theorem dvd_pow_sub {a p e : Nat} (ha : 1 ≤ a) (h : Cg p ((a : Int) ^ e) 1) : p ∣ a ^ e - 1 := by
  have h1 : 1 ≤ a ^ e := Nat.one_le_pow _ _ ha
  obtain ⟨k, hk⟩ := h
  apply Int.natCast_dvd_natCast.1
  refine ⟨k, ?_⟩
  rw [← hk]; push_cast [h1]; rfl

theorem hard_spec {s g p : Nat} (hp : IsP p) (hp1 : 31623 ≤ p) (hg0 : g ≠ 0) (hg : p ∣ g) (h : hard s g = true) (hs : 1 < s) (hn : p * s ≤ 1000000000)
    (he : Four p (s - 1)) : bad (p * s) = true := by
  have hdef : hard s g = force (Nat.gcd g (Nat.gcd (5 ^ (s - 1) - 1) (7 ^ (s - 1) - 1))) fun g2 =>
    cond (Nat.beq g2 1) true (cond (Nat.ble g2 1000000) (loopT s g2 (g2 / 31622) 1) (loopP s g2 (1000000000 / s - 31622) 31623)) := rfl
  rw [hdef, force_eq] at h
  have h5 : p ∣ 5 ^ (s - 1) - 1 := dvd_pow_sub (by omega) he.2.2.1
  have h7 : p ∣ 7 ^ (s - 1) - 1 := dvd_pow_sub (by omega) he.2.2.2
  have hG : p ∣ Nat.gcd g (Nat.gcd (5 ^ (s - 1) - 1) (7 ^ (s - 1) - 1)) := Nat.dvd_gcd hg (Nat.dvd_gcd h5 h7)
  have hG0 : Nat.gcd g (Nat.gcd (5 ^ (s - 1) - 1) (7 ^ (s - 1) - 1)) ≠ 0 := Nat.gcd_ne_zero_left hg0
  generalize Nat.gcd g (Nat.gcd (5 ^ (s - 1) - 1) (7 ^ (s - 1) - 1)) = g2 at *
  have hne : g2 ≠ 1 := by rintro rfl; exact hp.not_dvd_one hG
  rw [cond_beq, if_neg hne, cond_ite] at h
  obtain ⟨t, ht⟩ := hG
  have ht0 : t ≠ 0 := by rintro rfl; simp at ht; exact hG0 ht
  split at h
  · have h1 : t ≤ g2 / 31622 := by
      rw [Nat.le_div_iff_mul_le (by omega), ht, Nat.mul_comm t]; exact Nat.mul_le_mul_right _ (by omega)
    have h2 := loopT_spec _ _ h (t - 1) (by omega) (by rw [show 1 + (t - 1) = t by omega, ht]; exact Nat.mul_mod_left p t)
    rw [show 1 + (t - 1) = t by omega, ht, Nat.mul_div_cancel _ (by omega)] at h2
    exact okP_spec h2 hn
  · have h1 : p ≤ 1000000000 / s := by rw [Nat.le_div_iff_mul_le (by omega)]; exact hn
    have h2 := loopP_spec _ _ h (p - 31623) (by omega) (by rw [show 31623 + (p - 31623) = p by omega, ht]; exact Nat.mul_mod_right p t)
    rw [show 31623 + (p - 31623) = p by omega] at h2
    exact okP_spec h2 hn

theorem chk4_spec {M s p : Nat} (hp : IsP p) (hM : ¬ p ∣ M) (hp1 : 31623 ≤ p) (h : chk4 M s = true) (hs : 1 < s) (hn : p * s ≤ 1000000000) (hg : Nat.gcd s 105 = 1)
    (he : Four p (s - 1)) : bad (p * s) = true := by
  have hdef : chk4 M s = cond (Nat.beq (Nat.gcd s 105) 1) (force (strip M 60 (Nat.gcd (2 ^ (s - 1) - 1) (3 ^ (s - 1) - 1))) fun g => cond (Nat.beq g 1) true (hard s g)) true := rfl
  rw [hdef, cond_beq, if_pos hg, force_eq] at h
  have h2 : p ∣ 2 ^ (s - 1) - 1 := dvd_pow_sub (by omega) he.1
  have h3 : p ∣ 3 ^ (s - 1) - 1 := dvd_pow_sub (by omega) he.2.1
  have h20 : 2 ^ (s - 1) - 1 ≠ 0 := by
    have : 2 ^ 1 ≤ 2 ^ (s - 1) := Nat.pow_le_pow_right (by omega) (by omega)
    omega
  obtain ⟨g1, g2⟩ := strip_spec hp hM 60 _ (Nat.gcd_ne_zero_left h20) (Nat.dvd_gcd h2 h3)
  generalize strip M 60 (Nat.gcd (2 ^ (s - 1) - 1) (3 ^ (s - 1) - 1)) = g at *
  rw [cond_beq, if_neg (by rintro rfl; exact hp.not_dvd_one g1)] at h
  exact hard_spec hp hp1 g2 g1 h hs hn he

theorem go4_spec {M : Nat} (f : Nat) : ∀ m, go4 M f m = true → ∀ j, j < f → chk4 M (m + 2 * j) = true := by
  induction f with
  | zero => intro m _ j hj; omega
  | succ f ih =>
    intro m h j hj
    have hdef : go4 M (f + 1) m = cond (chk4 M m) (force (m + 2) (go4 M f)) false := rfl
    rw [hdef, force_eq, cond_ite] at h
    split at h
    · rename_i hc
      cases j with
      | zero => exact hc
      | succ j => rw [show m + 2 * (j + 1) = m + 2 + 2 * j by omega]; exact ih (m + 2) h j (by omega)
    · exact absurd h (by simp)

/-! the signature -/
theorem cnt_spec {p : Nat} (hp : 1 < p) (t : Nat) : ∀ f x, t < f → x < p → x ^ (2 ^ t) % p = 1 → (∀ j, j < t → x ^ (2 ^ j) % p ≠ 1) → cnt p f x = t := by
  induction t with
  | zero =>
    intro f x hf hx h1 _
    obtain ⟨g, rfl⟩ : ∃ g, f = g + 1 := ⟨f - 1, by omega⟩
    have hdef : cnt p (g + 1) x = cond (Nat.beq x 1) 0 (1 + force (x * x % p) (cnt p g)) := rfl
    rw [Nat.pow_zero, Nat.pow_one, Nat.mod_eq_of_lt hx] at h1
    rw [hdef, cond_beq, if_pos h1]
  | succ t ih =>
    intro f x hf hx h1 h2
    obtain ⟨g, rfl⟩ : ∃ g, f = g + 1 := ⟨f - 1, by omega⟩
    have hdef : cnt p (g + 1) x = cond (Nat.beq x 1) 0 (1 + force (x * x % p) (cnt p g)) := rfl
    have h3 := h2 0 (by omega)
    rw [Nat.pow_zero, Nat.pow_one, Nat.mod_eq_of_lt hx] at h3
    have key : ∀ j, (x * x % p) ^ (2 ^ j) % p = x ^ (2 ^ (j + 1)) % p := by
      intro j; rw [← Nat.pow_mod, ← Nat.pow_two, ← Nat.pow_mul, Nat.mul_comm, ← Nat.pow_succ]
    rw [hdef, cond_beq, if_neg h3, force_eq, ih g (x * x % p) (by omega) (Nat.mod_lt _ (by omega)) (by rw [key]; exact h1) (fun j hj => by rw [key]; exact h2 (j + 1) (by omega))]
    omega

/-- what the test tells of the order of a modulo each prime that divides n -/
theorem tA_of {a n p : Nat} (hp : IsP p) (hp2 : p ≠ 2) (hpl : p ≤ 1000000000) (hn : 2 < n) (hpn : p ∣ n) (ha : ¬ p ∣ a) {h o : Nat} (ho : o % 2 = 1) (he : n - 1 = o * 2 ^ h) (hh : h < 31) :
    (a ^ o % n = 1 → tA a p = 0) ∧ ∀ i, i < h → a ^ (o * 2 ^ i) % n = n - 1 → tA a p = i + 1 := by
  have hodd := hp.odd hp2
  have hp1 := hp.1
  -- the odd part of p - 1
  have hr := eq_pow_rest (p := 2) (n := ((p - 1 : Nat) : Int)) (by omega) (by omega)
  have hr2 := not_dvd_rest (p := 2) (n := ((p - 1 : Nat) : Int)) (by omega) (by omega)
  have hr3 := rest_pos (p := 2) (n := ((p - 1 : Nat) : Int)) (by omega) (by omega)
  generalize rest 2 ((p - 1 : Nat) : Int) = u' at *
  generalize vp 2 ((p - 1 : Nat) : Int) = e at *
  obtain ⟨u, rfl⟩ : ∃ u : Nat, u' = (u : Int) := ⟨u'.toNat, by omega⟩
  have hu : u % 2 = 1 := by omega
  have hpe : p - 1 = u * 2 ^ e := by
    have : ((p - 1 : Nat) : Int) = ((2 ^ e * u : Nat) : Int) := by rw [hr]; push_cast; rfl
    rw [Nat.mul_comm]; omega
  have hel := two_pow_lt (h := e) (n := p) hu (by omega) hpl
  have hu2 : u ≤ 1000000000 := by
    have : u * 1 ≤ u * 2 ^ e := Nat.mul_le_mul_left _ (Nat.pos_of_ne_zero (by simp))
    omega
  have hta : tA a p = cnt p 40 (a ^ u % p) := by
    have hdef : tA a p = force (oddp 64 (p - 1)) fun o => force (pm a o p) (cnt p 40) := rfl
    rw [hdef, force_eq, hpe, oddp_spec hu e 64 (by omega), force_eq, pm_eq (by omega) hu2]
  have ha' : ¬ (p : Int) ∣ (a : Int) := fun hd => ha (Int.natCast_dvd_natCast.1 hd)
  have hf : Cg p ((a : Int) ^ (u * 2 ^ e)) 1 := by rw [← hpe]; exact fermat hp ha'
  have toP : ∀ j, (a ^ u % p) ^ (2 ^ j) % p = 1 ↔ Cg p ((a : Int) ^ (u * 2 ^ j)) 1 := by
    intro j
    rw [← Nat.pow_mod, ← Nat.pow_mul]
    have := cg_nat (n := p) (a := a) (e := u * 2 ^ j) (b := 1)
    rw [Nat.mod_eq_of_lt (show 1 < p by omega)] at this; exact this.symm
  have hpn' : (p : Int) ∣ (n : Int) := Int.natCast_dvd_natCast.2 hpn
  constructor
  · intro h1
    rw [hta]
    have h2 : Cg p ((a : Int) ^ o) 1 := (cg_nat (b := 1).2 (by rw [h1, Nat.mod_eq_of_lt (by omega)]) : Cg n ((a : Int) ^ o) 1).of_dvd hpn'
    have h3 := pow_gcd_one o (u * 2 ^ e) h2 hf
    have h4 : Nat.gcd o (u * 2 ^ e) ∣ u := by
      have hc : Nat.Coprime (Nat.gcd o (u * 2 ^ e)) (2 ^ e) := by
        apply Nat.Coprime.pow_right
        apply Nat.Coprime.coprime_dvd_left (Nat.gcd_dvd_left o _)
        exact ((isP_two.coprime (a := o) (by omega))).symm
      exact hc.dvd_of_dvd_mul_right (Nat.gcd_dvd_right o _)
    refine cnt_spec (by omega) 0 40 _ (by omega) (Nat.mod_lt _ (by omega)) ((toP 0).2 ?_) (fun j hj => by omega)
    rw [Nat.pow_zero, Nat.mul_one]; exact pow_dvd_one h4 h3
  · intro i hi h1
    rw [hta]
    have h2 : Cg p ((a : Int) ^ (o * 2 ^ i)) (-1) := by
      have h3 : Cg n ((a : Int) ^ (o * 2 ^ i)) ((n - 1 : Nat) : Int) := cg_nat.2 (by rw [h1, Nat.mod_eq_of_lt (by omega)])
      have h4 : Cg n ((n - 1 : Nat) : Int) (-1) := ⟨1, by omega⟩
      exact (h3.trans h4).of_dvd hpn'
    have h5 : Cg p ((a : Int) ^ (o * 2 ^ (i + 1))) 1 := by
      have := h2.mul h2
      rw [← Int.pow_add] at this
      rw [Nat.pow_succ, show o * (2 ^ i * 2) = o * 2 ^ i + o * 2 ^ i by grind]; exact this
    have h3 := pow_gcd_one (o * 2 ^ (i + 1)) (u * 2 ^ e) h5 hf
    have h4 : Nat.gcd (o * 2 ^ (i + 1)) (u * 2 ^ e) ∣ u * 2 ^ (i + 1) := by
      obtain ⟨k1, k2, g1, g2, g3⟩ := Nat.dvd_mul.1 (Nat.gcd_dvd_right (o * 2 ^ (i + 1)) (u * 2 ^ e))
      have g4 : k2 ∣ o * 2 ^ (i + 1) := Nat.dvd_trans ⟨k1, by rw [Nat.mul_comm k2]; exact g3.symm⟩ (Nat.gcd_dvd_left _ _)
      have g5 : Nat.Coprime k2 o := by
        apply Nat.Coprime.coprime_dvd_left g2
        apply Nat.Coprime.pow_left
        exact isP_two.coprime (a := o) (by omega)
      rw [← g3]
      exact Nat.mul_dvd_mul g1 (g5.dvd_of_dvd_mul_left g4)
    refine cnt_spec (by omega) (i + 1) 40 _ (by omega) (Nat.mod_lt _ (by omega)) ((toP (i + 1)).2 (pow_dvd_one h4 h3)) ?_
    intro j hj hx
    have h6 := (toP j).1 hx
    have h7 : Cg p ((a : Int) ^ (u * 2 ^ i)) 1 := pow_dvd_one (Nat.mul_dvd_mul_left _ (Nat.pow_dvd_pow 2 (by omega))) h6
    have h8 := h7.pow o
    have h9 := h2.pow u
    rw [Int.one_pow, ← Int.pow_mul] at h8
    rw [← Int.pow_mul, show o * 2 ^ i * u = u * 2 ^ i * o by grind] at h9
    have h10 : ((-1 : Int)) ^ u = -1 := by
      rw [show u = 2 * (u / 2) + 1 by omega, Int.pow_succ, Int.pow_mul, show ((-1 : Int)) ^ 2 = 1 by decide, Int.one_pow]; simp
    rw [h10] at h9
    have h11 := h8.symm.trans h9
    have h12 : (p : Int) ∣ 2 := h11
    have := Int.le_of_dvd (by omega) h12
    omega

theorem sig_eq {n p q : Nat} (hp : IsP p) (hq : IsP q) (hp7 : 11 ≤ p) (hq7 : 11 ≤ q) (hn : 2 < n) (hm : n ≤ 1000000000) (hpn : p ∣ n) (hqn : q ∣ n)
    (h2 : Sprp 2 n) (h3 : Sprp 3 n) (h5 : Sprp 5 n) (h7 : Sprp 7 n) : sigOf p = sigOf q := by
  have hpm := Nat.le_of_dvd (by omega) hpn
  have hqm := Nat.le_of_dvd (by omega) hqn
  have one : ∀ a, 1 < a → a < 11 → Sprp a n → tA a p = tA a q := by
    intro a ha ha' hs
    obtain ⟨h, o, ho, he, hc⟩ := hs
    have hh := two_pow_lt (h := h) (n := n) ho (by omega) hm
    have n1 : ∀ r, 11 ≤ r → ¬ r ∣ a := fun r hr hd => by have := Nat.le_of_dvd (by omega) hd; omega
    obtain ⟨p0, p1⟩ := tA_of hp (by omega) (by omega) hn hpn (n1 p hp7) ho he hh
    obtain ⟨q0, q1⟩ := tA_of hq (by omega) (by omega) hn hqn (n1 q hq7) ho he hh
    rcases hc with hc | ⟨i, hi, hc⟩
    · rw [p0 hc, q0 hc]
    · rw [p1 i hi hc, q1 i hi hc]
  have hd : ∀ p, sigOf p = tA 2 p + (32 * tA 3 p + (1024 * tA 5 p + 32768 * tA 7 p)) := fun _ => rfl
  rw [hd, hd, one 2 (by omega) (by omega) h2, one 3 (by omega) (by omega) h3, one 5 (by omega) (by omega) h5, one 7 (by omega) (by omega) h7]

theorem memb_spec {x : Nat} (l : List Nat) : memb x l = true ↔ x ∈ l := by
  induction l with
  | nil => simp [memb]
  | cons y l ih =>
    have hd : memb x (y :: l) = cond (Nat.beq y x) true (memb x l) := rfl
    rw [hd, cond_beq]
    split
    · rename_i h; simp [h]
    · rename_i h; rw [ih]; simp; intro e; exact absurd e.symm h
theorem hasSmall_spec {m : Nat} (hm : IsP m) (l : List Nat) (hl : ∀ x, x ∈ l → 2 ≤ x) : hasSmall m l = false := by
  induction l with
  | nil => rfl
  | cons y l ih =>
    have hd : hasSmall m (y :: l) = cond (Nat.blt y m) (cond (Nat.beq (m % y) 0) true (hasSmall m l)) false := rfl
    rw [hd, cond_beq, cond_ite]
    split
    · rename_i h
      rw [if_neg, ih fun x hx => hl x (by simp [hx])]
      intro e
      exact hm.not_dvd_of_lt (hl y (by simp)) (by simpa [Nat.blt_eq] using h) (Nat.dvd_of_mod_eq_zero e)
    · rfl

theorem visit_spec (f : Nat) : ∀ (l : List Nat) (m : Nat), visit f l m = true → ∀ x, 2 ≤ x → (∀ q, IsP q → q ∣ x → q ∈ l) → m * x ≤ 1000000000 → 0 < m → bad (m * x) = true := by
  induction f with
  | zero => intro l m h; exact absurd h (by simp [visit])
  | succ f ih =>
    intro l m h x hx hq hm hm0
    cases l with
    | nil =>
      obtain ⟨q, h1, h2⟩ := exists_prime_dvd x hx
      exact absurd (hq q h1 h2) (by simp)
    | cons q r =>
      have hd : visit (f + 1) (q :: r) m = cond (visit f r m) (cond (Nat.ble (m * q) 1000000000) (force (m * q) fun mq => cond (bad mq) (visit f (q :: r) mq) false) true) false := rfl
      rw [hd, cond_and, cond_imp, force_eq, cond_and] at h
      obtain ⟨h1, h2⟩ := h
      by_cases hqx : q ∣ x
      · obtain ⟨y, rfl⟩ := hqx
        have hy0 : y ≠ 0 := by rintro rfl; simp at hx
        have hmq : m * q ≤ 1000000000 := by
          have : m * q * 1 ≤ m * q * y := Nat.mul_le_mul_left _ (by omega)
          rw [Nat.mul_assoc, Nat.mul_assoc] at this
          rw [← Nat.mul_assoc] at this
          omega
        obtain ⟨h3, h4⟩ := h2 (Nat.ble_eq_true_of_le hmq)
        by_cases hy1 : y = 1
        · subst hy1; rw [Nat.mul_one]; exact h3
        · have hq0 : 0 < q := by apply Nat.pos_of_ne_zero; rintro rfl; simp at hx
          rw [← Nat.mul_assoc]
          exact ih (q :: r) (m * q) h4 y (by omega) (fun z hz hd => hq z hz (Nat.dvd_trans hd ⟨q, Nat.mul_comm _ _⟩)) (by rw [Nat.mul_assoc]; exact hm) (Nat.mul_pos hm0 hq0)
      · refine ih r m h1 x hx (fun z hz hzd => ?_) hm hm0
        rcases List.mem_cons.1 (hq z hz hzd) with h5 | h5
        · exact absurd (h5 ▸ hzd) hqx
        · exact h5

theorem chk2_spec {p : Nat} (hp : IsP p) (h : chk2 p = true) : p ∈ lookup (sigOf p) groups ∧ visit 100 (lookup (sigOf p) groups) p = true := by
  have hd : chk2 p = cond (hasSmall p small) true (force (sigOf p) fun c => cond (memb p (lookup c groups)) (visit 100 (lookup c groups) p) false) := rfl
  rw [hd, hasSmall_spec hp small (by decide), force_eq, cond_false, cond_and, memb_spec] at h
  exact h

theorem go2_spec (f : Nat) : ∀ m, go2 f m = true → ∀ j, j < f → chk2 (m + 2 * j) = true := by
  induction f with
  | zero => intro m _ j hj; omega
  | succ f ih =>
    intro m h j hj
    have hdef : go2 (f + 1) m = cond (chk2 m) (force (m + 2) (go2 f)) false := rfl
    rw [hdef, force_eq, cond_and] at h
    obtain ⟨hc, h⟩ := h
    cases j with
    | zero => exact hc
    | succ j => rw [show m + 2 * (j + 1) = m + 2 + 2 * j by omega]; exact ih (m + 2) h j (by omega)
end FF
