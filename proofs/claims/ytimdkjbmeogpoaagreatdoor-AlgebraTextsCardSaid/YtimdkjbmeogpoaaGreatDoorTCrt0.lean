/- Plain number theory: the list of prime powers by trial division, and what it says. Primitive roots exist; a number with a primitive root and whose predecessor's primes are known is a prime. No condition. The primes that a proof that a number is prime needs: they are few. No condition. -/
import Derived.Test.YtimdkjbmeogpoaaGreatDoorTNt
namespace FF
def NoDiv (p n : Int) : Prop := ∀ d : Int, 2 ≤ d → d < p → ¬ d ∣ n
def facF : Nat → Int → Int → List (Int × Nat)
  | 0, _, _ => []
  | f + 1, p, n => if p * p ≤ n then (if n % p = 0 then (p, vp p n) :: facF f (p + 1) (rest p n) else facF f (p + 1) n) else (if 1 < n then [(n, 1)] else [])
def facT (p n : Int) : List (Int × Nat) := facF (n.toNat + 1) p n
def facs (n : Int) : List (Int × Nat) := facT 2 n
theorem rest_le {p n : Int} (hp : 2 ≤ p) (hn : 1 ≤ n) : 1 ≤ rest p n ∧ rest p n ≤ n := by
  have h1 := rest_pos hp (show 0 < n by omega)
  have h2 := rest_natAbs_le hp (show n ≠ 0 by omega)
  omega
theorem sq_ge {p n : Int} (hp : 2 ≤ p) (h : p * p ≤ n) : 2 * p ≤ n := by
  have := Int.mul_le_mul_of_nonneg_right hp (show (0 : Int) ≤ p by omega)
  omega
theorem facF_fuel (f : Nat) : ∀ (g : Nat) (p n : Int), 2 ≤ p → 1 ≤ n → n + 1 ≤ f + p → 1 ≤ f → n + 1 ≤ g + p → 1 ≤ g → facF f p n = facF g p n := by
  induction f with
  | zero => intro g p n _ _ _ h; omega
  | succ f ih =>
    intro g p n hp hn hf _ hg hg1
    obtain ⟨g, rfl⟩ : ∃ g', g = g' + 1 := ⟨g - 1, by omega⟩
    simp only [facF]
    by_cases c : p * p ≤ n
    · have := sq_ge hp c
      obtain ⟨r1, r2⟩ := rest_le hp hn
      rw [if_pos c, if_pos c]
      by_cases d : n % p = 0
      · rw [if_pos d, if_pos d, ih g (p + 1) (rest p n) (by omega) r1 (by omega) (by omega) (by omega) (by omega)]
      · rw [if_neg d, if_neg d, ih g (p + 1) n (by omega) hn (by omega) (by omega) (by omega) (by omega)]
    · rw [if_neg c, if_neg c]
theorem facT_go {p n : Int} (hp : 2 ≤ p) (hn : 1 ≤ n) (h : p * p ≤ n) : facT p n = if n % p = 0 then (p, vp p n) :: facT (p + 1) (rest p n) else facT (p + 1) n := by
  obtain ⟨r1, r2⟩ := rest_le hp hn
  have := sq_ge hp h
  unfold facT
  rw [facF, if_pos h]
  by_cases d : n % p = 0
  · rw [if_pos d, if_pos d, facF_fuel n.toNat ((rest p n).toNat + 1) (p + 1) _ (by omega) r1 (by omega) (by omega) (by omega) (by omega)]
  · rw [if_neg d, if_neg d, facF_fuel n.toNat (n.toNat + 1) (p + 1) _ (by omega) hn (by omega) (by omega) (by omega) (by omega)]
theorem facT_end {p n : Int} (h : n < p * p) : facT p n = if 1 < n then [(n, 1)] else [] := by
  unfold facT; rw [facF, if_neg (by omega)]
theorem NoDiv.two (n : Int) : NoDiv 2 n := fun d h1 h2 => by omega
theorem NoDiv.of_dvd {p n m : Int} (h : NoDiv p n) (hd : m ∣ n) : NoDiv p m := fun d h1 h2 h3 => h d h1 h2 (Int.dvd_trans h3 hd)
theorem NoDiv.next {p n : Int} (h : NoDiv p n) (hd : ¬ p ∣ n) : NoDiv (p + 1) n := fun d h1 h2 h3 => by
  by_cases e : d = p
  · subst e; exact hd h3
  · exact h d h1 (by omega) h3
theorem NoDiv.rest {p n : Int} (h : NoDiv p n) (hp : 2 ≤ p) (hn : 1 ≤ n) : NoDiv (p + 1) (rest p n) :=
  (h.of_dvd (rest_dvd_self hp (by omega))).next (not_dvd_rest hp (by omega))
theorem NoDiv.prime {p n : Int} (h : NoDiv p n) (hp : 2 ≤ p) (hd : p ∣ n) : IsP p.toNat := by
  refine isP_of_trial (by omega) fun d h1 h2 h3 => ?_
  have h4 : (d : Int) ∣ p := by
    have : ((d : Nat) : Int) ∣ ((p.toNat : Nat) : Int) := Int.natCast_dvd_natCast.2 h3
    rwa [Int.toNat_of_nonneg (by omega)] at this
  have h5 : d < p.toNat := by
    rcases Nat.lt_or_ge d p.toNat with g | g
    · exact g
    · have := Nat.mul_le_mul h1 g; omega
  exact h d (by omega) (by omega) (Int.dvd_trans h4 hd)
theorem NoDiv.last {p n : Int} (h : NoDiv p n) (hp : 2 ≤ p) (hn : 1 < n) (hl : n < p * p) : IsP n.toNat := by
  refine isP_of_trial (by omega) fun d h1 h2 h3 => ?_
  have h4 : (d : Int) ∣ n := by
    have : ((d : Nat) : Int) ∣ ((n.toNat : Nat) : Int) := Int.natCast_dvd_natCast.2 h3
    rwa [Int.toNat_of_nonneg (by omega)] at this
  refine h d (by omega) ?_ h4
  rcases Int.lt_or_le (d : Int) p with g | g
  · exact g
  · exfalso
    have h5 : p * p ≤ (d : Int) * d := Int.mul_le_mul g g (by omega) (by omega)
    have h6 : ((d * d : Nat) : Int) ≤ n := by omega
    push_cast at h6
    omega
theorem fac_induction {Q : Int → Int → Prop} (hgo : ∀ p n, 2 ≤ p → 1 ≤ n → NoDiv p n → p * p ≤ n → n % p = 0 → Q (p + 1) (rest p n) → Q p n)
    (hskip : ∀ p n, 2 ≤ p → 1 ≤ n → NoDiv p n → p * p ≤ n → n % p ≠ 0 → Q (p + 1) n → Q p n) (hend : ∀ p n, 2 ≤ p → 1 ≤ n → NoDiv p n → n < p * p → Q p n) :
    ∀ (f : Nat) (p n : Int), 2 ≤ p → 1 ≤ n → NoDiv p n → n + 1 ≤ f + p → Q p n := by
  intro f
  induction f with
  | zero =>
    intro p n hp hn hd hf
    refine hend p n hp hn hd ?_
    have := Int.mul_le_mul_of_nonneg_right hp (show (0 : Int) ≤ p by omega)
    omega
  | succ f ih =>
    intro p n hp hn hd hf
    by_cases c : p * p ≤ n
    · have := sq_ge hp c
      obtain ⟨r1, r2⟩ := rest_le hp hn
      by_cases d : n % p = 0
      · exact hgo p n hp hn hd c d (ih _ _ (by omega) r1 (hd.rest hp hn) (by omega))
      · exact hskip p n hp hn hd c d (ih _ _ (by omega) hn (hd.next (fun h => d (Int.emod_eq_zero_of_dvd h))) (by omega))
    · exact hend p n hp hn hd (by omega)
def prodF : List (Int × Nat) → Int
  | [] => 1
  | x :: l => x.1 ^ x.2 * prodF l
def jacL (a : Int) : List (Int × Nat) → Int
  | [] => 1
  | x :: l => leg a x.1.toNat ^ x.2 * jacL a l
theorem vp_pos {p n : Int} (hp : 2 ≤ p) (hn : 1 ≤ n) (h : n % p = 0) : 1 ≤ vp p n := by
  rw [vp_dvd hp (by omega) (Int.dvd_of_emod_eq_zero h)]; omega
structure FacOk (p n : Int) (l : List (Int × Nat)) : Prop where
  prime : ∀ x ∈ l, IsP x.1.toNat ∧ 1 ≤ x.2 ∧ p ≤ x.1 ∧ x.1 ≤ n
  asc : l.Pairwise fun x y => x.1 < y.1
  prod : prodF l = n
  len : 2 ^ l.length ≤ n
  jac : ∀ a, jacL a l = Jac a n.toNat
theorem pow_toNat {p : Int} (hp : 0 ≤ p) (k : Nat) : (p ^ k).toNat = p.toNat ^ k := by
  obtain ⟨q, rfl⟩ := Int.eq_ofNat_of_zero_le hp
  rw [Int.toNat_natCast, ← Int.natCast_pow, Int.toNat_natCast]
theorem jac_pow_mul {q : Nat} (hq : IsP q) (a : Int) (m : Nat) (hm : 1 ≤ m) : ∀ k : Nat, Jac a (q ^ k * m) = leg a q ^ k * Jac a m
  | 0 => by simp
  | k + 1 => by
    have h1 : 1 ≤ q ^ k * m := Nat.mul_pos (Nat.pow_pos hq.pos) hm
    rw [Nat.pow_succ, Nat.mul_comm (q ^ k) q, Nat.mul_assoc, jac_prime_mul a _ _ q (Nat.le_refl _) h1 hq, jac_pow_mul hq a m hm k, Int.pow_succ, ← Int.mul_assoc, Int.mul_comm (leg a q)]
theorem facT_ok : ∀ (f : Nat) (p n : Int), 2 ≤ p → 1 ≤ n → NoDiv p n → n + 1 ≤ f + p → FacOk p n (facT p n) := by
  refine fac_induction (Q := fun p n => FacOk p n (facT p n)) ?_ ?_ ?_
  · intro p n hp hn hd hl hm ih
    obtain ⟨r1, r2⟩ := rest_le hp hn
    have hdv := Int.dvd_of_emod_eq_zero hm
    have hpp := hd.prime hp hdv
    have hv := vp_pos hp hn hm
    have he := eq_pow_rest hp (show n ≠ 0 by omega)
    rw [facT_go hp hn hl, if_pos hm]
    refine ⟨?_, ?_, ?_, ?_, ?_⟩
    · intro x hx
      rcases List.mem_cons.1 hx with rfl | hx
      · exact ⟨hpp, hv, Int.le_refl _, Int.le_of_dvd (by omega) hdv⟩
      · obtain ⟨h1, h2, h3, h4⟩ := ih.prime x hx
        exact ⟨h1, h2, by omega, by omega⟩
    · refine List.pairwise_cons.2 ⟨fun x hx => ?_, ih.asc⟩
      have := (ih.prime x hx).2.2.1
      show p < x.1; omega
    · show p ^ vp p n * prodF _ = n
      rw [ih.prod]; exact he.symm
    · rw [List.length_cons, Int.pow_succ]
      have h2 : (2 : Int) ≤ p ^ vp p n := by
        have : vp p n = (vp p n - 1) + 1 := by omega
        rw [this, Int.pow_succ]
        have h3 : 1 ≤ p ^ (vp p n - 1) := Int.pow_pos (n := p) (m := vp p n - 1) (by omega)
        have := Int.mul_le_mul h3 hp (by omega) (by omega)
        omega
      have h4 : rest p n * 2 ≤ rest p n * p ^ vp p n := Int.mul_le_mul_of_nonneg_left h2 (by omega)
      have h5 := ih.len
      rw [Int.mul_comm (rest p n) (p ^ _), ← he] at h4
      omega
    · intro a
      show leg a p.toNat ^ vp p n * jacL a _ = _
      rw [ih.jac a]
      conv => rhs; rw [he]
      rw [Int.toNat_mul (Int.le_of_lt (Int.pow_pos (by omega))) (by omega), pow_toNat (by omega)]
      exact (jac_pow_mul hpp a _ (by omega) _).symm
  · intro p n hp hn hd hl hm ih
    rw [facT_go hp hn hl, if_neg hm]
    exact ⟨fun x hx => by obtain ⟨h1, h2, h3, h4⟩ := ih.prime x hx; exact ⟨h1, h2, by omega, h4⟩, ih.asc, ih.prod, ih.len, ih.jac⟩
  · intro p n hp hn hd hl
    rw [facT_end hl]
    by_cases h1 : 1 < n
    · rw [if_pos h1]
      have hpr := hd.last hp h1 hl
      refine ⟨?_, List.pairwise_singleton _ _, by show n ^ 1 * 1 = n; rw [Int.pow_succ, Int.pow_zero]; omega, by show (2 : Int) ^ 1 ≤ n; omega, fun a => by show leg a n.toNat ^ 1 * 1 = _; rw [Int.pow_succ, Int.pow_zero, Int.one_mul, Int.mul_one]; exact (jac_prime hpr a).symm⟩
      intro x hx
      rw [List.mem_singleton] at hx; subst hx
      refine ⟨hpr, Nat.le_refl _, ?_, Int.le_refl _⟩
      rcases Int.lt_or_le n p with g | g
      · exact absurd (Int.dvd_refl n) (hd n (by omega) g)
      · exact g
    · have : n = 1 := by omega
      subst this
      rw [if_neg h1]
      exact ⟨fun x hx => (by cases hx), List.Pairwise.nil, rfl, by simp, fun a => by simp [jacL, jac_one]⟩
theorem facs_ok {n : Int} (hn : 1 ≤ n) : FacOk 2 n (facs n) := facT_ok n.toNat 2 n (by omega) hn (NoDiv.two n) (by omega)
theorem facs_len {n : Int} (hn : 1 ≤ n) (h : n ≤ 1000000000) : (facs n).length ≤ 30 := by
  have h1 := (facs_ok hn).len
  rcases Nat.lt_or_ge 30 (facs n).length with g | g
  · exfalso
    have h2 : 2 ^ 31 ≤ 2 ^ (facs n).length := Nat.pow_le_pow_right (by omega) g
    have h3 : ((2 ^ (facs n).length : Nat) : Int) ≤ n := by push_cast; exact h1
    omega
  · exact g
def FacRel (N : Int) (l : List (Int × Nat)) (p n : Int) : Prop := l ++ facT p n = facs N ∧ 2 ≤ p ∧ 1 ≤ n ∧ n ≤ N ∧ NoDiv p n
theorem FacRel.start {N : Int} (h : 1 ≤ N) : FacRel N [] 2 N := ⟨rfl, by omega, h, Int.le_refl _, NoDiv.two N⟩
theorem FacRel.go {N p n : Int} {l : List (Int × Nat)} (h : FacRel N l p n) (hl : p * p ≤ n) (hm : n % p = 0) : FacRel N (l ++ [(p, vp p n)]) (p + 1) (rest p n) := by
  obtain ⟨h1, h2, h3, h4, h5⟩ := h
  obtain ⟨r1, r2⟩ := rest_le h2 h3
  rw [facT_go h2 h3 hl, if_pos hm] at h1
  exact ⟨by rw [List.append_assoc]; exact h1, by omega, r1, by omega, h5.rest h2 h3⟩
theorem FacRel.skip {N p n : Int} {l : List (Int × Nat)} (h : FacRel N l p n) (hl : p * p ≤ n) (hm : n % p ≠ 0) : FacRel N l (p + 1) n := by
  obtain ⟨h1, h2, h3, h4, h5⟩ := h
  rw [facT_go h2 h3 hl, if_neg hm] at h1
  exact ⟨h1, by omega, h3, h4, h5.next (fun h => hm (Int.emod_eq_zero_of_dvd h))⟩
theorem FacRel.last {N p n : Int} {l : List (Int × Nat)} (h : FacRel N l p n) (hl : n < p * p) (h1 : 1 < n) : l ++ [(n, 1)] = facs N := by
  rw [← h.1, facT_end hl, if_pos h1]
theorem FacRel.done {N p n : Int} {l : List (Int × Nat)} (h : FacRel N l p n) (hl : n < p * p) (h1 : ¬ 1 < n) : l = facs N := by
  rw [← h.1, facT_end hl, if_neg h1, List.append_nil]
theorem FacRel.len {N p n : Int} {l : List (Int × Nat)} (h : FacRel N l p n) (hN : N ≤ 1000000000) : l.length ≤ 30 := by
  have h1 := facs_len (n := N) (by have := h.2.2.1; have := h.2.2.2.1; omega) hN
  rw [← h.1, List.length_append] at h1
  omega
theorem sq_bound {p n : Int} (hp : 0 ≤ p) (h : p * p ≤ n) (hn : n ≤ 1000000000) : p ≤ 31622 := by
  rcases Int.lt_or_le 31622 p with g | g
  · have : (31623 : Int) * 31623 ≤ p * p := Int.mul_le_mul g g (by omega) (by omega)
    omega
  · exact g
end FF
namespace FF
def primesOf (m : Int) : List Int := (facs m).map fun x => x.1
theorem primesOf_mem {m q : Int} (hm : 1 ≤ m) : q ∈ primesOf m ↔ IsP q.toNat ∧ 0 ≤ q ∧ q ∣ m := by
  have ok := facs_ok hm
  unfold primesOf
  rw [List.mem_map]
  constructor
  · rintro ⟨x, hx, rfl⟩
    obtain ⟨h1, h2, h3, h4⟩ := ok.prime x hx
    refine ⟨h1, by omega, ?_⟩
    rw [← ok.prod]
    have : ∀ l : List (Int × Nat), x ∈ l → x.1 ∣ prodF l := by
      intro l
      induction l with
      | nil => intro h; cases h
      | cons y l ih =>
        intro h
        rcases List.mem_cons.1 h with rfl | h
        · obtain ⟨k, hk⟩ : ∃ k, x.2 = k + 1 := ⟨x.2 - 1, by omega⟩
          show x.1 ∣ x.1 ^ x.2 * prodF l
          rw [hk, Int.pow_succ, Int.mul_comm (x.1 ^ k), Int.mul_assoc]
          exact ⟨_, rfl⟩
        · exact Int.dvd_trans (ih h) ⟨y.1 ^ y.2, by rw [Int.mul_comm]; rfl⟩
    exact this _ hx
  · rintro ⟨h1, h2, h3⟩
    have q2 := h1.1
    rw [← ok.prod] at h3
    obtain ⟨Q, rfl⟩ : ∃ Q : Nat, q = (Q : Int) := ⟨q.toNat, by omega⟩
    rw [Int.toNat_natCast] at h1
    have : ∀ l : List (Int × Nat), (∀ x ∈ l, IsP x.1.toNat) → (Q : Int) ∣ prodF l → ∃ x ∈ l, x.1 = (Q : Int) := by
      intro l
      induction l with
      | nil =>
        intro _ h
        exfalso
        have := Int.le_of_dvd (by decide) (show (Q : Int) ∣ 1 from h)
        omega
      | cons x l ih =>
        intro hl h
        rcases h1.idvd_mul (show (Q : Int) ∣ x.1 ^ x.2 * prodF l from h) with g | g
        · have hx := hl x (by simp)
          have x2 := hx.1
          have g2 := h1.idvd_pow g
          refine ⟨x, by simp, ?_⟩
          have : Q ∣ x.1.toNat := by
            have := Int.natAbs_dvd_natAbs.2 g2
            rwa [Int.natAbs_natCast, show x.1.natAbs = x.1.toNat by omega] at this
          have := h1.eq_of_dvd hx this
          omega
        · obtain ⟨y, h2, h3⟩ := ih (fun y hy => hl y (by simp [hy])) g
          exact ⟨y, by simp [h2], h3⟩
    exact this _ (fun x hx => (ok.prime x hx).1) h3
theorem primesOf_asc {m : Int} (hm : 1 ≤ m) : (primesOf m).Pairwise (· < ·) := by
  unfold primesOf
  rw [List.pairwise_map]
  exact (facs_ok hm).asc
theorem primesOf_le {m q : Int} (hm : 1 ≤ m) (h : q ∈ primesOf m) : 2 ≤ q ∧ q ≤ m := by
  obtain ⟨h1, h2, h3⟩ := (primesOf_mem hm).1 h
  have := h1.1
  exact ⟨by omega, Int.le_of_dvd (by omega) h3⟩
def prodZ : List Int → Int
  | [] => 1
  | x :: l => x * prodZ l
theorem prodZ_pos {l : List Int} (h : ∀ x ∈ l, 1 ≤ x) : 1 ≤ prodZ l := by
  induction l with
  | nil => exact Int.le_refl _
  | cons x l ih =>
    have h1 := h x (by simp)
    have h2 := ih (fun y hy => h y (by simp [hy]))
    exact Int.le_trans h1 (by
      show x ≤ x * prodZ l
      have := Int.mul_le_mul_of_nonneg_left h2 (show 0 ≤ x by omega)
      omega)
theorem prodZ_erase {l : List Int} {x : Int} (h : x ∈ l) : prodZ l = x * prodZ (l.erase x) := by
  induction l with
  | nil => cases h
  | cons y l ih =>
    by_cases hx : y = x
    · subst hx; rw [List.erase_cons_head]; rfl
    · rw [List.erase_cons_tail (by simpa using hx)]
      have hm : x ∈ l := by rcases List.mem_cons.1 h with e | e; exact absurd e.symm hx; exact e
      show y * prodZ l = x * (y * prodZ (l.erase x))
      rw [ih hm]; grind
theorem prodZ_le {l : List (Int × Nat)} (h : ∀ x ∈ l, 2 ≤ x.1 ∧ 1 ≤ x.2) : prodZ (l.map fun x => x.1) ≤ prodF l := by
  induction l with
  | nil => exact Int.le_refl _
  | cons x l ih =>
    obtain ⟨h1, h2⟩ := h x (by simp)
    have h3 := ih (fun y hy => h y (by simp [hy]))
    have h4 : 1 ≤ prodZ (l.map fun x => x.1) := prodZ_pos (fun y hy => by
      obtain ⟨z, hz, rfl⟩ := List.mem_map.1 hy
      have := h z (by simp [hz]); omega)
    have h5 : x.1 ≤ x.1 ^ x.2 := by
      obtain ⟨k, hk⟩ : ∃ k, x.2 = k + 1 := ⟨x.2 - 1, by omega⟩
      rw [hk, Int.pow_succ]
      have : 1 ≤ x.1 ^ k := Int.pow_pos (n := x.1) (m := k) (by omega)
      have := Int.mul_le_mul_of_nonneg_right this (show 0 ≤ x.1 by omega)
      omega
    exact Int.mul_le_mul h5 h3 (by omega) (by omega)
theorem asc_unique : ∀ {l k : List Int}, l.Pairwise (· < ·) → k.Pairwise (· < ·) → (∀ x, x ∈ l ↔ x ∈ k) → l = k
  | [], [], _, _, _ => rfl
  | [], y :: k, _, _, h => by have := (h y).2 (by simp); cases this
  | x :: l, [], _, _, h => by have := (h x).1 (by simp); cases this
  | x :: l, y :: k, hl, hk, h => by
    obtain ⟨a1, a2⟩ := List.pairwise_cons.1 hl
    obtain ⟨b1, b2⟩ := List.pairwise_cons.1 hk
    have hxy : x = y := by
      have e1 := (h x).1 (by simp)
      have e2 := (h y).2 (by simp)
      rcases List.mem_cons.1 e1 with e | e
      · exact e
      · rcases List.mem_cons.1 e2 with g | g
        · exact g.symm
        · have := a1 _ g; have := b1 _ e; omega
    subst hxy
    rw [asc_unique a2 b2 (fun z => ?_)]
    constructor
    · intro hz
      have := (h z).1 (by simp [hz])
      rcases List.mem_cons.1 this with e | e
      · have := a1 _ hz; omega
      · exact e
    · intro hz
      have := (h z).2 (by simp [hz])
      rcases List.mem_cons.1 this with e | e
      · have := b1 _ hz; omega
      · exact e
end FF
