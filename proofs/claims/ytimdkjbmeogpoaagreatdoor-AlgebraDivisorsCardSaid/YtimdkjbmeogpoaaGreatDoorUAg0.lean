/- Integer square roots: Newton's steps, and bit by bit. No condition. The Hilbert symbol: it is multiplicative, 1 where a x^2 + b y^2 is a square other than 0, and its product over all places is 1. No condition. The places of two numbers: 0, 2 and the primes that divide them. No condition. -/
import Derived.Test.YtimdkjbmeogpoaaGreatDoorUNt
import Derived.Test.YtimdkjbmeogpoaaGreatDoorUKn
section
namespace FF
def evalP : List Int → Int → Int
 | [], _ => 0
 | c :: l, x => c + x * evalP l x
def divP (r : Int) : List Int → List Int
 | [] => []
 | _ :: l => match l with
  | [] => []
  | c' :: l' => evalP (c' :: l') r :: divP r (c' :: l')
theorem divP_spec (r : Int) : ∀ l : List Int, ∀ x, evalP l x - evalP l r = (x - r) * evalP (divP r l) x
 | [], x => by simp [evalP, divP]
 | [c], x => by simp [evalP, divP]
 | c :: c' :: l, x => by
  have ih := divP_spec r (c' :: l) x
  show c + x * evalP (c' :: l) x - (c + r * evalP (c' :: l) r) = (x - r) * (evalP (c' :: l) r + x * evalP (divP r (c' :: l)) x)
  have e1 : x * (evalP (c' :: l) x - evalP (c' :: l) r) = x * ((x - r) * evalP (divP r (c' :: l)) x) := by rw [ih]
  rw [Int.mul_sub] at e1
  rw [Int.mul_add, Int.sub_mul (x) r (evalP (c' :: l) r)]
  have e2 : (x - r) * (x * evalP (divP r (c' :: l)) x) = x * ((x - r) * evalP (divP r (c' :: l)) x) := by
   rw [← Int.mul_assoc, Int.mul_comm (x - r) x, Int.mul_assoc]
  omega
theorem divP_len (r : Int) : ∀ l : List Int, l ≠ [] → (divP r l).length + 1 = l.length
 | [], h => absurd rfl h
 | [c], _ => rfl
 | c :: c' :: l, _ => by show (divP r (c' :: l)).length + 1 + 1 = (c' :: l).length + 1; rw [divP_len r (c' :: l) (by simp)]
theorem divP_last (r : Int) : ∀ l : List Int, 2 ≤ l.length → (divP r l).getLast? = l.getLast?
 | [], h => by simp at h
 | [c], h => by simp at h
 | [c, c'], _ => by simp [divP, evalP]
 | c :: c' :: c'' :: l, _ => by
  have ih := divP_last r (c' :: c'' :: l) (by simp)
  show (evalP _ r :: evalP _ r :: divP r (c'' :: l)).getLast? = _
  rw [List.getLast?_cons_cons]
  rw [show (c :: c' :: c'' :: l).getLast? = (c' :: c'' :: l).getLast? from List.getLast?_cons_cons, ← ih]
  rfl
theorem roots_le {p : Nat} (hp : IsP p) : ∀ (R l : List Int) (c : Int), l.getLast? = some c → ¬ (p : Int) ∣ c → R.Pairwise (fun x y => ¬ Cg p x y) → (∀ x ∈ R, (p : Int) ∣ evalP l x) → R.length < l.length := by
 intro R
 induction R with
 | nil => intro l c hl _ _ _; cases l with
  | nil => simp at hl
  | cons _ _ => simp
 | cons r R ih =>
  intro l c hl hc hpw hr
  have hne : l ≠ [] := by rintro rfl; simp at hl
  have hlen := divP_len r l hne
  by_cases h1 : l.length = 1
  ·exfalso
   match l, h1 with
   | [c0], _ =>
    simp at hl; subst hl
    have := hr r (by simp)
    simp [evalP] at this
    exact hc this
  ·have h2 : 2 ≤ l.length := by
    have : l.length ≠ 0 := fun h => hne (List.eq_nil_of_length_eq_zero h)
    omega
   have := ih (divP r l) c (by rw [divP_last r l h2]; exact hl) hc (List.pairwise_cons.1 hpw).2 (fun x hx => by
    have d1 := hr x (by simp [hx])
    have d2 := hr r (by simp)
    have d3 : (p : Int) ∣ (x - r) * evalP (divP r l) x := by rw [← divP_spec]; exact Int.dvd_sub d1 d2
    rcases hp.idvd_mul d3 with d | d
    ·exact absurd (Cg.symm (n := (p : Int)) (a := x) (b := r) d) ((List.pairwise_cons.1 hpw).1 x hx)
    ·exact d)
   rw [List.length_cons]; omega
def powP (n : Nat) : List Int := (-1) :: (List.replicate (n - 1) 0 ++ [1])
theorem evalP_rep (m : Nat) (x : Int) : evalP (List.replicate m 0 ++ [1]) x = x ^ m := by
 induction m with
 | zero => simp [evalP]
 | succ m ih =>
  rw [List.replicate_succ, List.cons_append]
  show 0 + x * evalP _ x = _
  rw [ih, Int.pow_succ, Int.mul_comm]; omega
theorem evalP_pow {n : Nat} (hn : 1 ≤ n) (x : Int) : evalP (powP n) x = x ^ n - 1 := by
 show -1 + x * evalP _ x = _
 rw [evalP_rep]
 have : n = n - 1 + 1 := by omega
 conv => rhs; rw [this, Int.pow_succ]
 rw [Int.mul_comm]; omega
theorem pow_roots_le {p : Nat} (hp : IsP p) {n : Nat} (hn : 1 ≤ n) (R : List Int) (hpw : R.Pairwise (fun x y => ¬ Cg p x y)) (hr : ∀ x ∈ R, Cg p (x ^ n) 1) : R.length ≤ n := by
 have := roots_le hp R (powP n) 1 (by show ((-1 :: List.replicate (n - 1) 0) ++ [1]).getLast? = some 1; exact List.getLast?_concat) (fun h => by have := hp.1; have := Int.le_of_dvd (by omega) h; omega) hpw (fun x hx => by rw [evalP_pow hn]; exact hr x hx)
 simp [powP] at this
 omega
end FF
namespace FF
theorem sq_pow (x : Int) (n : Nat) : (x * x) ^ n = x ^ n * x ^ n := Int.mul_pow ..
end FF
end
section
namespace FF
def NoDiv (p n : Int) : Prop := ∀ d : Int, 2 ≤ d → d < p → ¬ d ∣ n
def facF : Nat → Int → Int → List (Int × Nat)
 | 0, _, _ => []
 | f + 1, p, n => if p * p ≤ n then (if n % p = 0 then (p, vp p n) :: facF f (p + 1) (rest p n) else facF f (p + 1) n) else (if 1 < n then [(n, 1)] else [])
def facT (p n : Int) : List (Int × Nat) := facF (n.toNat + 1) p n
def facs (n : Int) : List (Int × Nat) := facT 2 n
theorem rest_le {p n : Int} (hp : 2 ≤ p) (hn : 1 ≤ n) : 1 ≤ rest p n ∧ rest p n ≤ n := by
 have h1 := rest_pos hp (show 0 < n by omega)
 have h2 := rest_natAbs_le hp (show n ≠ 0 by omega)
 omega
theorem sq_ge {p n : Int} (hp : 2 ≤ p) (h : p * p ≤ n) : 2 * p ≤ n := by
 have := Int.mul_le_mul_of_nonneg_right hp (show (0 : Int) ≤ p by omega)
 omega
theorem facF_fuel (f : Nat) : ∀ (g : Nat) (p n : Int), 2 ≤ p → 1 ≤ n → n + 1 ≤ f + p → 1 ≤ f → n + 1 ≤ g + p → 1 ≤ g → facF f p n = facF g p n := by
 induction f with
 | zero => intro g p n _ _ _ h; omega
 | succ f ih =>
  intro g p n hp hn hf _ hg hg1
  obtain ⟨g, rfl⟩ : ∃ g', g = g' + 1 := ⟨g - 1, by omega⟩
  simp only [facF]
  by_cases c : p * p ≤ n
  ·have := sq_ge hp c
   obtain ⟨r1, r2⟩ := rest_le hp hn
   rw [if_pos c, if_pos c]
   by_cases d : n % p = 0
   ·rw [if_pos d, if_pos d, ih g (p + 1) (rest p n) (by omega) r1 (by omega) (by omega) (by omega) (by omega)]
   ·rw [if_neg d, if_neg d, ih g (p + 1) n (by omega) hn (by omega) (by omega) (by omega) (by omega)]
  ·rw [if_neg c, if_neg c]
theorem facT_go {p n : Int} (hp : 2 ≤ p) (hn : 1 ≤ n) (h : p * p ≤ n) : facT p n = if n % p = 0 then (p, vp p n) :: facT (p + 1) (rest p n) else facT (p + 1) n := by
 obtain ⟨r1, r2⟩ := rest_le hp hn
 have := sq_ge hp h
 unfold facT
 rw [facF, if_pos h]
 by_cases d : n % p = 0
 ·rw [if_pos d, if_pos d, facF_fuel n.toNat ((rest p n).toNat + 1) (p + 1) _ (by omega) r1 (by omega) (by omega) (by omega) (by omega)]
 ·rw [if_neg d, if_neg d, facF_fuel n.toNat (n.toNat + 1) (p + 1) _ (by omega) hn (by omega) (by omega) (by omega) (by omega)]
theorem facT_end {p n : Int} (h : n < p * p) : facT p n = if 1 < n then [(n, 1)] else [] := by
 unfold facT; rw [facF, if_neg (by omega)]
theorem NoDiv.two (n : Int) : NoDiv 2 n := fun d h1 h2 => by omega
theorem NoDiv.of_dvd {p n m : Int} (h : NoDiv p n) (hd : m ∣ n) : NoDiv p m := fun d h1 h2 h3 => h d h1 h2 (Int.dvd_trans h3 hd)
theorem NoDiv.next {p n : Int} (h : NoDiv p n) (hd : ¬ p ∣ n) : NoDiv (p + 1) n := fun d h1 h2 h3 => by
 by_cases e : d = p
 ·subst e; exact hd h3
 ·exact h d h1 (by omega) h3
theorem NoDiv.rest {p n : Int} (h : NoDiv p n) (hp : 2 ≤ p) (hn : 1 ≤ n) : NoDiv (p + 1) (rest p n) :=
 (h.of_dvd (rest_dvd_self hp (by omega))).next (not_dvd_rest hp (by omega))
theorem NoDiv.prime {p n : Int} (h : NoDiv p n) (hp : 2 ≤ p) (hd : p ∣ n) : IsP p.toNat := by
 refine isP_of_trial (by omega) fun d h1 h2 h3 => ?_
 have h4 : (d : Int) ∣ p := by
  have : ((d : Nat) : Int) ∣ ((p.toNat : Nat) : Int) := Int.natCast_dvd_natCast.2 h3
  rwa [Int.toNat_of_nonneg (by omega)] at this
 have h5 : d < p.toNat := by
  rcases Nat.lt_or_ge d p.toNat with g | g
  ·exact g
  ·have := Nat.mul_le_mul h1 g; omega
 exact h d (by omega) (by omega) (Int.dvd_trans h4 hd)
theorem NoDiv.last {p n : Int} (h : NoDiv p n) (hp : 2 ≤ p) (hn : 1 < n) (hl : n < p * p) : IsP n.toNat := by
 refine isP_of_trial (by omega) fun d h1 h2 h3 => ?_
 have h4 : (d : Int) ∣ n := by
  have : ((d : Nat) : Int) ∣ ((n.toNat : Nat) : Int) := Int.natCast_dvd_natCast.2 h3
  rwa [Int.toNat_of_nonneg (by omega)] at this
 refine h d (by omega) ?_ h4
 rcases Int.lt_or_le (d : Int) p with g | g
 ·exact g
 ·exfalso
  have h5 : p * p ≤ (d : Int) * d := Int.mul_le_mul g g (by omega) (by omega)
  have h6 : ((d * d : Nat) : Int) ≤ n := by omega
  push_cast at h6
  omega
theorem fac_induction {Q : Int → Int → Prop} (hgo : ∀ p n, 2 ≤ p → 1 ≤ n → NoDiv p n → p * p ≤ n → n % p = 0 → Q (p + 1) (rest p n) → Q p n)
  (hskip : ∀ p n, 2 ≤ p → 1 ≤ n → NoDiv p n → p * p ≤ n → n % p ≠ 0 → Q (p + 1) n → Q p n) (hend : ∀ p n, 2 ≤ p → 1 ≤ n → NoDiv p n → n < p * p → Q p n) :
  ∀ (f : Nat) (p n : Int), 2 ≤ p → 1 ≤ n → NoDiv p n → n + 1 ≤ f + p → Q p n := by
 intro f
 induction f with
 | zero =>
  intro p n hp hn hd hf
  refine hend p n hp hn hd ?_
  have := Int.mul_le_mul_of_nonneg_right hp (show (0 : Int) ≤ p by omega)
  omega
 | succ f ih =>
  intro p n hp hn hd hf
  by_cases c : p * p ≤ n
  ·have := sq_ge hp c
   obtain ⟨r1, r2⟩ := rest_le hp hn
   by_cases d : n % p = 0
   ·exact hgo p n hp hn hd c d (ih _ _ (by omega) r1 (hd.rest hp hn) (by omega))
   ·exact hskip p n hp hn hd c d (ih _ _ (by omega) hn (hd.next (fun h => d (Int.emod_eq_zero_of_dvd h))) (by omega))
  ·exact hend p n hp hn hd (by omega)
def prodF : List (Int × Nat) → Int
 | [] => 1
 | x :: l => x.1 ^ x.2 * prodF l
def jacL (a : Int) : List (Int × Nat) → Int
 | [] => 1
 | x :: l => leg a x.1.toNat ^ x.2 * jacL a l
theorem vp_pos {p n : Int} (hp : 2 ≤ p) (hn : 1 ≤ n) (h : n % p = 0) : 1 ≤ vp p n := by
 rw [vp_dvd hp (by omega) (Int.dvd_of_emod_eq_zero h)]; omega
structure FacOk (p n : Int) (l : List (Int × Nat)) : Prop where
 prime : ∀ x ∈ l, IsP x.1.toNat ∧ 1 ≤ x.2 ∧ p ≤ x.1 ∧ x.1 ≤ n
 asc : l.Pairwise fun x y => x.1 < y.1
 prod : prodF l = n
 len : 2 ^ l.length ≤ n
 jac : ∀ a, jacL a l = Jac a n.toNat
theorem pow_toNat {p : Int} (hp : 0 ≤ p) (k : Nat) : (p ^ k).toNat = p.toNat ^ k := by
 obtain ⟨q, rfl⟩ := Int.eq_ofNat_of_zero_le hp
 rw [Int.toNat_natCast, ← Int.natCast_pow, Int.toNat_natCast]
theorem jac_pow_mul {q : Nat} (hq : IsP q) (a : Int) (m : Nat) (hm : 1 ≤ m) : ∀ k : Nat, Jac a (q ^ k * m) = leg a q ^ k * Jac a m
 | 0 => by simp
 | k + 1 => by
  have h1 : 1 ≤ q ^ k * m := Nat.mul_pos (Nat.pow_pos hq.pos) hm
  rw [Nat.pow_succ, Nat.mul_comm (q ^ k) q, Nat.mul_assoc, jac_prime_mul a _ _ q (Nat.le_refl _) h1 hq, jac_pow_mul hq a m hm k, Int.pow_succ, ← Int.mul_assoc, Int.mul_comm (leg a q)]
theorem facT_ok : ∀ (f : Nat) (p n : Int), 2 ≤ p → 1 ≤ n → NoDiv p n → n + 1 ≤ f + p → FacOk p n (facT p n) := by
 refine fac_induction (Q := fun p n => FacOk p n (facT p n)) ?_ ?_ ?_
 ·intro p n hp hn hd hl hm ih
  obtain ⟨r1, r2⟩ := rest_le hp hn
  have hdv := Int.dvd_of_emod_eq_zero hm
  have hpp := hd.prime hp hdv
  have hv := vp_pos hp hn hm
  have he := eq_pow_rest hp (show n ≠ 0 by omega)
  rw [facT_go hp hn hl, if_pos hm]
  refine ⟨?_, ?_, ?_, ?_, ?_⟩
  ·intro x hx
   rcases List.mem_cons.1 hx with rfl | hx
   ·exact ⟨hpp, hv, Int.le_refl _, Int.le_of_dvd (by omega) hdv⟩
   ·obtain ⟨h1, h2, h3, h4⟩ := ih.prime x hx
    exact ⟨h1, h2, by omega, by omega⟩
  ·refine List.pairwise_cons.2 ⟨fun x hx => ?_, ih.asc⟩
   have := (ih.prime x hx).2.2.1
   show p < x.1; omega
  ·show p ^ vp p n * prodF _ = n
   rw [ih.prod]; exact he.symm
  ·rw [List.length_cons, Int.pow_succ]
   have h2 : (2 : Int) ≤ p ^ vp p n := by
    have : vp p n = (vp p n - 1) + 1 := by omega
    rw [this, Int.pow_succ]
    have h3 : 1 ≤ p ^ (vp p n - 1) := Int.pow_pos (n := p) (m := vp p n - 1) (by omega)
    have := Int.mul_le_mul h3 hp (by omega) (by omega)
    omega
   have h4 : rest p n * 2 ≤ rest p n * p ^ vp p n := Int.mul_le_mul_of_nonneg_left h2 (by omega)
   have h5 := ih.len
   rw [Int.mul_comm (rest p n) (p ^ _), ← he] at h4
   omega
  ·intro a
   show leg a p.toNat ^ vp p n * jacL a _ = _
   rw [ih.jac a]
   conv => rhs; rw [he]
   rw [Int.toNat_mul (Int.le_of_lt (Int.pow_pos (by omega))) (by omega), pow_toNat (by omega)]
   exact (jac_pow_mul hpp a _ (by omega) _).symm
 ·intro p n hp hn hd hl hm ih
  rw [facT_go hp hn hl, if_neg hm]
  exact ⟨fun x hx => by obtain ⟨h1, h2, h3, h4⟩ := ih.prime x hx; exact ⟨h1, h2, by omega, h4⟩, ih.asc, ih.prod, ih.len, ih.jac⟩
 ·intro p n hp hn hd hl
  rw [facT_end hl]
  by_cases h1 : 1 < n
  ·rw [if_pos h1]
   have hpr := hd.last hp h1 hl
   refine ⟨?_, List.pairwise_singleton _ _, by show n ^ 1 * 1 = n; rw [Int.pow_succ, Int.pow_zero]; omega, by show (2 : Int) ^ 1 ≤ n; omega, fun a => by show leg a n.toNat ^ 1 * 1 = _; rw [Int.pow_succ, Int.pow_zero, Int.one_mul, Int.mul_one]; exact (jac_prime hpr a).symm⟩
   intro x hx
   rw [List.mem_singleton] at hx; subst hx
   refine ⟨hpr, Nat.le_refl _, ?_, Int.le_refl _⟩
   rcases Int.lt_or_le n p with g | g
   ·exact absurd (Int.dvd_refl n) (hd n (by omega) g)
   ·exact g
  ·have : n = 1 := by omega
   subst this
   rw [if_neg h1]
   exact ⟨fun x hx => (by cases hx), List.Pairwise.nil, rfl, by simp, fun a => by simp [jacL, jac_one]⟩
theorem facs_ok {n : Int} (hn : 1 ≤ n) : FacOk 2 n (facs n) := facT_ok n.toNat 2 n (by omega) hn (NoDiv.two n) (by omega)
theorem facs_len {n : Int} (hn : 1 ≤ n) (h : n ≤ 1000000000) : (facs n).length ≤ 30 := by
 have h1 := (facs_ok hn).len
 rcases Nat.lt_or_ge 30 (facs n).length with g | g
 ·exfalso
  have h2 : 2 ^ 31 ≤ 2 ^ (facs n).length := Nat.pow_le_pow_right (by omega) g
  have h3 : ((2 ^ (facs n).length : Nat) : Int) ≤ n := by push_cast; exact h1
  omega
 ·exact g
def FacRel (N : Int) (l : List (Int × Nat)) (p n : Int) : Prop := l ++ facT p n = facs N ∧ 2 ≤ p ∧ 1 ≤ n ∧ n ≤ N ∧ NoDiv p n
theorem FacRel.start {N : Int} (h : 1 ≤ N) : FacRel N [] 2 N := ⟨rfl, by omega, h, Int.le_refl _, NoDiv.two N⟩
theorem FacRel.go {N p n : Int} {l : List (Int × Nat)} (h : FacRel N l p n) (hl : p * p ≤ n) (hm : n % p = 0) : FacRel N (l ++ [(p, vp p n)]) (p + 1) (rest p n) := by
 obtain ⟨h1, h2, h3, h4, h5⟩ := h
 obtain ⟨r1, r2⟩ := rest_le h2 h3
 rw [facT_go h2 h3 hl, if_pos hm] at h1
 exact ⟨by rw [List.append_assoc]; exact h1, by omega, r1, by omega, h5.rest h2 h3⟩
theorem FacRel.skip {N p n : Int} {l : List (Int × Nat)} (h : FacRel N l p n) (hl : p * p ≤ n) (hm : n % p ≠ 0) : FacRel N l (p + 1) n := by
 obtain ⟨h1, h2, h3, h4, h5⟩ := h
 rw [facT_go h2 h3 hl, if_neg hm] at h1
 exact ⟨h1, by omega, h3, h4, h5.next (fun h => hm (Int.emod_eq_zero_of_dvd h))⟩
theorem FacRel.last {N p n : Int} {l : List (Int × Nat)} (h : FacRel N l p n) (hl : n < p * p) (h1 : 1 < n) : l ++ [(n, 1)] = facs N := by
 rw [← h.1, facT_end hl, if_pos h1]
theorem FacRel.done {N p n : Int} {l : List (Int × Nat)} (h : FacRel N l p n) (hl : n < p * p) (h1 : ¬ 1 < n) : l = facs N := by
 rw [← h.1, facT_end hl, if_neg h1, List.append_nil]
theorem FacRel.len {N p n : Int} {l : List (Int × Nat)} (h : FacRel N l p n) (hN : N ≤ 1000000000) : l.length ≤ 30 := by
 have h1 := facs_len (n := N) (by have := h.2.2.1; have := h.2.2.2.1; omega) hN
 rw [← h.1, List.length_append] at h1
 omega
theorem sq_bound {p n : Int} (hp : 0 ≤ p) (h : p * p ≤ n) (hn : n ≤ 1000000000) : p ≤ 31622 := by
 rcases Int.lt_or_le 31622 p with g | g
 ·have : (31623 : Int) * 31623 ≤ p * p := Int.mul_le_mul g g (by omega) (by omega)
  omega
 ·exact g
end FF
namespace FF
def primesOf (m : Int) : List Int := (facs m).map fun x => x.1
theorem primesOf_mem {m q : Int} (hm : 1 ≤ m) : q ∈ primesOf m ↔ IsP q.toNat ∧ 0 ≤ q ∧ q ∣ m := by
 have ok := facs_ok hm
 unfold primesOf
 rw [List.mem_map]
 constructor
 ·rintro ⟨x, hx, rfl⟩
  obtain ⟨h1, h2, h3, h4⟩ := ok.prime x hx
  refine ⟨h1, by omega, ?_⟩
  rw [← ok.prod]
  have : ∀ l : List (Int × Nat), x ∈ l → x.1 ∣ prodF l := by
   intro l
   induction l with
   | nil => intro h; cases h
   | cons y l ih =>
    intro h
    rcases List.mem_cons.1 h with rfl | h
    ·obtain ⟨k, hk⟩ : ∃ k, x.2 = k + 1 := ⟨x.2 - 1, by omega⟩
     show x.1 ∣ x.1 ^ x.2 * prodF l
     rw [hk, Int.pow_succ, Int.mul_comm (x.1 ^ k), Int.mul_assoc]
     exact ⟨_, rfl⟩
    ·exact Int.dvd_trans (ih h) ⟨y.1 ^ y.2, by rw [Int.mul_comm]; rfl⟩
  exact this _ hx
 ·rintro ⟨h1, h2, h3⟩
  have q2 := h1.1
  rw [← ok.prod] at h3
  obtain ⟨Q, rfl⟩ : ∃ Q : Nat, q = (Q : Int) := ⟨q.toNat, by omega⟩
  rw [Int.toNat_natCast] at h1
  have : ∀ l : List (Int × Nat), (∀ x ∈ l, IsP x.1.toNat) → (Q : Int) ∣ prodF l → ∃ x ∈ l, x.1 = (Q : Int) := by
   intro l
   induction l with
   | nil =>
    intro _ h
    exfalso
    have := Int.le_of_dvd (by decide) (show (Q : Int) ∣ 1 from h)
    omega
   | cons x l ih =>
    intro hl h
    rcases h1.idvd_mul (show (Q : Int) ∣ x.1 ^ x.2 * prodF l from h) with g | g
    ·have hx := hl x (by simp)
     have x2 := hx.1
     have g2 := h1.idvd_pow g
     refine ⟨x, by simp, ?_⟩
     have : Q ∣ x.1.toNat := by
      have := Int.natAbs_dvd_natAbs.2 g2
      rwa [Int.natAbs_natCast, show x.1.natAbs = x.1.toNat by omega] at this
     have := h1.eq_of_dvd hx this
     omega
    ·obtain ⟨y, h2, h3⟩ := ih (fun y hy => hl y (by simp [hy])) g
     exact ⟨y, by simp [h2], h3⟩
  exact this _ (fun x hx => (ok.prime x hx).1) h3
theorem primesOf_asc {m : Int} (hm : 1 ≤ m) : (primesOf m).Pairwise (· < ·) := by
 unfold primesOf
 rw [List.pairwise_map]
 exact (facs_ok hm).asc
theorem primesOf_le {m q : Int} (hm : 1 ≤ m) (h : q ∈ primesOf m) : 2 ≤ q ∧ q ≤ m := by
 obtain ⟨h1, h2, h3⟩ := (primesOf_mem hm).1 h
 have := h1.1
 exact ⟨by omega, Int.le_of_dvd (by omega) h3⟩
def prodZ : List Int → Int
 | [] => 1
 | x :: l => x * prodZ l
theorem prodZ_pos {l : List Int} (h : ∀ x ∈ l, 1 ≤ x) : 1 ≤ prodZ l := by
 induction l with
 | nil => exact Int.le_refl _
 | cons x l ih =>
  have h1 := h x (by simp)
  have h2 := ih (fun y hy => h y (by simp [hy]))
  exact Int.le_trans h1 (by
   show x ≤ x * prodZ l
   have := Int.mul_le_mul_of_nonneg_left h2 (show 0 ≤ x by omega)
   omega)
theorem prodZ_erase {l : List Int} {x : Int} (h : x ∈ l) : prodZ l = x * prodZ (l.erase x) := by
 induction l with
 | nil => cases h
 | cons y l ih =>
  by_cases hx : y = x
  ·subst hx; rw [List.erase_cons_head]; rfl
  ·rw [List.erase_cons_tail (by simpa using hx)]
   have hm : x ∈ l := by rcases List.mem_cons.1 h with e | e; exact absurd e.symm hx; exact e
   show y * prodZ l = x * (y * prodZ (l.erase x))
   rw [ih hm]; grind
theorem prodZ_le {l : List (Int × Nat)} (h : ∀ x ∈ l, 2 ≤ x.1 ∧ 1 ≤ x.2) : prodZ (l.map fun x => x.1) ≤ prodF l := by
 induction l with
 | nil => exact Int.le_refl _
 | cons x l ih =>
  obtain ⟨h1, h2⟩ := h x (by simp)
  have h3 := ih (fun y hy => h y (by simp [hy]))
  have h4 : 1 ≤ prodZ (l.map fun x => x.1) := prodZ_pos (fun y hy => by
   obtain ⟨z, hz, rfl⟩ := List.mem_map.1 hy
   have := h z (by simp [hz]); omega)
  have h5 : x.1 ≤ x.1 ^ x.2 := by
   obtain ⟨k, hk⟩ : ∃ k, x.2 = k + 1 := ⟨x.2 - 1, by omega⟩
   rw [hk, Int.pow_succ]
   have : 1 ≤ x.1 ^ k := Int.pow_pos (n := x.1) (m := k) (by omega)
   have := Int.mul_le_mul_of_nonneg_right this (show 0 ≤ x.1 by omega)
   omega
  exact Int.mul_le_mul h5 h3 (by omega) (by omega)
theorem asc_unique : ∀ {l k : List Int}, l.Pairwise (· < ·) → k.Pairwise (· < ·) → (∀ x, x ∈ l ↔ x ∈ k) → l = k
 | [], [], _, _, _ => rfl
 | [], y :: k, _, _, h => by have := (h y).2 (by simp); cases this
 | x :: l, [], _, _, h => by have := (h x).1 (by simp); cases this
 | x :: l, y :: k, hl, hk, h => by
  obtain ⟨a1, a2⟩ := List.pairwise_cons.1 hl
  obtain ⟨b1, b2⟩ := List.pairwise_cons.1 hk
  have hxy : x = y := by
   have e1 := (h x).1 (by simp)
   have e2 := (h y).2 (by simp)
   rcases List.mem_cons.1 e1 with e | e
   ·exact e
   ·rcases List.mem_cons.1 e2 with g | g
    ·exact g.symm
    ·have := a1 _ g; have := b1 _ e; omega
  subst hxy
  rw [asc_unique a2 b2 (fun z => ?_)]
  constructor
  ·intro hz
   have := (h z).1 (by simp [hz])
   rcases List.mem_cons.1 this with e | e
   ·have := a1 _ hz; omega
   ·exact e
  ·intro hz
   have := (h z).2 (by simp [hz])
   rcases List.mem_cons.1 this with e | e
   ·have := b1 _ hz; omega
   ·exact e
end FF
end
section
namespace FF
theorem three_mul {u v : Int} (hu : u % 2 = 1) (hv : v % 2 = 1) : three (u * v) = (three u != three v) := by
 unfold three
 have e := Int.mul_emod u v 4
 have a1 : u % 4 = 1 ∨ u % 4 = 3 := by omega
 have a2 : v % 4 = 1 ∨ v % 4 = 3 := by omega
 rcases a1 with h | h <;> rcases a2 with g | g <;> rw [h, g] at e <;> rw [e, h, g] <;> rfl
theorem far_mul {u v : Int} (hu : u % 2 = 1) (hv : v % 2 = 1) : far (u * v) = (far u != far v) := by
 unfold far
 have e := Int.mul_emod u v 8
 have a1 : u % 8 = 1 ∨ u % 8 = 3 ∨ u % 8 = 5 ∨ u % 8 = 7 := by omega
 have a2 : v % 8 = 1 ∨ v % 8 = 3 ∨ v % 8 = 5 ∨ v % 8 = 7 := by omega
 rcases a1 with h | h | h | h <;> rcases a2 with g | g | g | g <;> rw [h, g] at e <;> rw [e, h, g] <;> rfl
theorem oddB_add (s t : Nat) : oddB (s + t) = (oddB s != oddB t) := by
 unfold oddB
 rcases Nat.mod_two_eq_zero_or_one s with h | h <;> rcases Nat.mod_two_eq_zero_or_one t with g | g
 ·rw [show (((s + t : Nat) : Int) % 2) = 0 by omega, show ((s : Int) % 2) = 0 by omega, show ((t : Int) % 2) = 0 by omega]; rfl
 ·rw [show (((s + t : Nat) : Int) % 2) = 1 by omega, show ((s : Int) % 2) = 0 by omega, show ((t : Int) % 2) = 1 by omega]; rfl
 ·rw [show (((s + t : Nat) : Int) % 2) = 1 by omega, show ((s : Int) % 2) = 1 by omega, show ((t : Int) % 2) = 0 by omega]; rfl
 ·rw [show (((s + t : Nat) : Int) % 2) = 0 by omega, show ((s : Int) % 2) = 1 by omega, show ((t : Int) % 2) = 1 by omega]; rfl
theorem hil2_mul : ∀ (tu tv tv' oi fv fv' ok ok' fu : Bool), hil2 tu (tv != tv') oi (fv != fv') (ok != ok') fu = hil2 tu tv oi fv ok fu * hil2 tu tv' oi fv' ok' fu := by decide
theorem hilp_mul (oi ok ok' p3 : Bool) (ju jv jv' : Int) (h : ju * ju = 1) : hilp oi (ok != ok') p3 ju (jv * jv') = hilp oi ok p3 ju jv * hilp oi ok' p3 ju jv' := by
 unfold hilp
 cases oi <;> cases ok <;> cases ok' <;> cases p3 <;> simp <;> grind
theorem vp2_mul {m n : Int} (hm : m ≠ 0) (hn : n ≠ 0) : vp 2 (m * n) = vp 2 m + vp 2 n ∧ rest 2 (m * n) = rest 2 m * rest 2 n := vp_mul isP_two hm hn
theorem hil_mul_right {a b c p : Int} (ha : a ≠ 0) (hb : b ≠ 0) (hc : c ≠ 0) (hp : p = 0 ∨ IsP p.toNat) : Hil a (b * c) p = Hil a b p * Hil a c p := by
 unfold Hil
 by_cases h0 : p = 0
 ·rw [if_pos h0, if_pos h0, if_pos h0]
  rcases Int.lt_or_gt_of_ne hb with hb | hb <;> rcases Int.lt_or_gt_of_ne hc with hc | hc
  ·have := Int.mul_pos_of_neg_of_neg hb hc
   by_cases h : a < 0
   ·rw [if_neg (by omega), if_pos ⟨h, hb⟩, if_pos ⟨h, hc⟩]; rfl
   ·rw [if_neg (by omega), if_neg (by omega), if_neg (by omega)]; rfl
  ·have := Int.mul_neg_of_neg_of_pos hb hc
   by_cases h : a < 0
   ·rw [if_pos ⟨h, this⟩, if_pos ⟨h, hb⟩, if_neg (by omega)]; rfl
   ·rw [if_neg (by omega), if_neg (by omega), if_neg (by omega)]; rfl
  ·have := Int.mul_neg_of_pos_of_neg hb hc
   by_cases h : a < 0
   ·rw [if_pos ⟨h, this⟩, if_neg (by omega), if_pos ⟨h, hc⟩]; rfl
   ·rw [if_neg (by omega), if_neg (by omega), if_neg (by omega)]; rfl
  ·have := Int.mul_pos hb hc
   rw [if_neg (by omega), if_neg (by omega), if_neg (by omega)]; rfl
 ·have hpr : IsP p.toNat := by rcases hp with h | h; exact absurd h h0; exact h
  rw [if_neg h0, if_neg h0, if_neg h0]
  by_cases h2 : p = 2
  ·rw [if_pos h2, if_pos h2, if_pos h2]
   obtain ⟨e1, e2⟩ := vp2_mul hb hc
   rw [e1, e2, three_mul (odd_rest_two hb) (odd_rest_two hc), far_mul (odd_rest_two hb) (odd_rest_two hc), oddB_add]
   exact hil2_mul ..
  ·rw [if_neg h2, if_neg h2, if_neg h2]
   have hp2 := hpr.1
   obtain ⟨P, rfl⟩ : ∃ P : Nat, p = (P : Int) := ⟨p.toNat, by omega⟩
   rw [Int.toNat_natCast] at *
   have hP2 : P ≠ 2 := by rintro rfl; exact h2 rfl
   obtain ⟨e1, e2⟩ := vp_mul hpr hb hc
   rw [e1, e2, leg_mul hpr hP2, oddB_add]
   exact hilp_mul _ _ _ _ _ _ _ (leg_sq (not_dvd_rest (by omega) ha))
theorem hil_cases {a b p : Int} (ha : a ≠ 0) (hb : b ≠ 0) (hp : p = 0 ∨ IsP p.toNat) : Hil a b p = 1 ∨ Hil a b p = -1 := by
 unfold Hil
 by_cases h0 : p = 0
 ·rw [if_pos h0]; split <;> simp
 ·have hpr : IsP p.toNat := by rcases hp with h | h; exact absurd h h0; exact h
  rw [if_neg h0]
  by_cases h2 : p = 2
  ·rw [if_pos h2]; unfold hil2; split <;> simp
  ·rw [if_neg h2]
   have hp2 := hpr.1
   obtain ⟨P, rfl⟩ : ∃ P : Nat, p = (P : Int) := ⟨p.toNat, by omega⟩
   rw [Int.toNat_natCast] at *
   have hP2 : P ≠ 2 := by rintro rfl; exact h2 rfl
   have l1 := leg_ne (p := P) (a := rest P a) (not_dvd_rest (by omega) ha)
   have l2 := leg_ne (p := P) (a := rest P b) (not_dvd_rest (by omega) hb)
   unfold hilp
   rcases l1 with l1 | l1 <;> rcases l2 with l2 | l2 <;> rw [l1, l2] <;> cases oddB (vp P a) <;> cases oddB (vp P b) <;> cases three P <;> simp
theorem hil_self {a b p : Int} (ha : a ≠ 0) (hb : b ≠ 0) (hp : p = 0 ∨ IsP p.toNat) : Hil a b p * Hil a b p = 1 := by
 rcases hil_cases ha hb hp with h | h <;> rw [h] <;> rfl
theorem hil_sq_right {a b v p : Int} (ha : a ≠ 0) (hb : b ≠ 0) (hv : v ≠ 0) (hp : p = 0 ∨ IsP p.toNat) : Hil a (b * (v * v)) p = Hil a b p := by
 rw [hil_mul_right ha hb (Int.mul_ne_zero hv hv) hp, hil_mul_right ha hv hv hp, hil_self ha hv hp, Int.mul_one]
theorem norm_cases {P : Nat} (hP : IsP P) {A B w : Int} (hA : A ≠ 0) (hB : B ≠ 0) (hw : w ≠ 0) (h : A + B = w * w) :
  (∃ d, vp P B = vp P A + (d + 1) ∧ vp P A = vp P w + vp P w ∧ rest P A + P ^ (d + 1) * rest P B = rest P w * rest P w) ∨
  (∃ d, vp P A = vp P B + (d + 1) ∧ vp P B = vp P w + vp P w ∧ rest P B + P ^ (d + 1) * rest P A = rest P w * rest P w) ∨
  (vp P A = vp P B ∧ ∃ j, rest P A + rest P B = P ^ j * (rest P w * rest P w) ∧ vp P A + j = vp P w + vp P w) := by
 have hp2 : (2 : Int) ≤ P := by have := hP.1; omega
 have e1 := eq_pow_rest hp2 hA
 have e2 := eq_pow_rest hp2 hB
 have n1 := not_dvd_rest hp2 hA
 have n2 := not_dvd_rest hp2 hB
 obtain ⟨q1, q2⟩ := vp_mul hP hw hw
 have step : ∀ (i d : Nat) (u v : Int), ¬ (P : Int) ∣ u → (P : Int) ^ i * u + P ^ (i + (d + 1)) * v = w * w → i = vp P w + vp P w ∧ u + P ^ (d + 1) * v = rest P w * rest P w := by
  intro i d u v hu he
  have hn : ¬ (P : Int) ∣ u + P ^ (d + 1) * v := fun hd => hu (by
   have : (P : Int) ∣ P ^ (d + 1) * v := by rw [Int.pow_succ, Int.mul_comm (_ ^ d), Int.mul_assoc]; exact Int.dvd_mul_right ..
   exact (Int.dvd_add_left this).1 hd)
  obtain ⟨r1, r2⟩ := vp_unique hp2 (k := i) hn
  rw [show (P : Int) ^ i * (u + P ^ (d + 1) * v) = w * w by rw [← he, Int.pow_add _ i (d + 1), Int.mul_add, Int.mul_assoc]] at r1 r2
  exact ⟨by rw [← r1, q1], by rw [← r2, q2]⟩
 rcases Nat.lt_trichotomy (vp P A) (vp P B) with hl | hl | hl
 ·left
  obtain ⟨d, hd⟩ : ∃ d, vp P B = vp P A + (d + 1) := ⟨vp P B - vp P A - 1, by omega⟩
  obtain ⟨s1, s2⟩ := step (vp P A) d _ (rest P B) n1 (by rw [← hd, ← e1, ← e2, h])
  exact ⟨d, hd, s1, s2⟩
 ·right; right
  refine ⟨hl, ?_⟩
  have hs : rest P A + rest P B ≠ 0 := by
   intro h0
   have : w * w = 0 := by
    rw [← h, e1, e2, ← hl, ← Int.mul_add, h0, Int.mul_zero]
   exact Int.mul_ne_zero hw hw this
  have e3 := eq_pow_rest hp2 hs
  obtain ⟨r1, r2⟩ := vp_unique hp2 (k := vp P A + vp P (rest P A + rest P B)) (not_dvd_rest hp2 hs)
  rw [Int.pow_add, Int.mul_assoc, ← e3, Int.mul_add, ← e1, show (P : Int) ^ vp P A * rest P B = B by rw [hl, ← e2], h] at r1 r2
  exact ⟨_, by rw [← q2, r2]; exact e3, by rw [← r1, q1]⟩
 ·right; left
  obtain ⟨d, hd⟩ : ∃ d, vp P A = vp P B + (d + 1) := ⟨vp P A - vp P B - 1, by omega⟩
  obtain ⟨s1, s2⟩ := step (vp P B) d _ (rest P A) n2 (by rw [← hd, ← e1, ← e2, Int.add_comm, h])
  exact ⟨d, hd, s1, s2⟩
theorem oddB_even {k : Nat} (m : Nat) (h : k = m + m) : oddB k = false := by
 unfold oddB; exact beq_eq_false_iff_ne.2 (by omega)
theorem oddB_true {k : Nat} (h : k % 2 = 1) : oddB k = true := by unfold oddB; exact beq_iff_eq.2 (by omega)
theorem oddB_false {k : Nat} (h : k % 2 = 0) : oddB k = false := by unfold oddB; exact beq_eq_false_iff_ne.2 (by omega)
theorem hilp_norm {P : Nat} (hP : IsP P) (hP2 : P ≠ 2) {A B w : Int} (hA : A ≠ 0) (hB : B ≠ 0) (hw : w ≠ 0) (h : A + B = w * w) :
  hilp (oddB (vp P A)) (oddB (vp P B)) (three P) (leg (rest P A) P) (leg (rest P B) P) = 1 := by
 have hp2 : (2 : Int) ≤ P := by have := hP.1; omega
 have nw := not_dvd_rest hp2 hw
 have nA := not_dvd_rest hp2 hA
 have nB := not_dvd_rest hp2 hB
 have key : ∀ (d : Nat) (u v : Int), u + P ^ (d + 1) * v = rest P w * rest P w → leg u P = 1 := by
  intro d u v he
  have hc : Cg P u (rest P w * rest P w) := by
   rw [← he]
   refine ⟨-(P ^ d * v), ?_⟩
   rw [Int.pow_succ]; grind
  rw [leg_congr hc, leg_mul hP hP2, leg_sq nw]
 rcases norm_cases hP hA hB hw h with ⟨d, h1, h2, h3⟩ | ⟨d, h1, h2, h3⟩ | ⟨h1, j, h2, h3⟩
 ·rw [oddB_even _ h2, key d _ _ h3]
  unfold hilp; cases oddB (vp P B) <;> simp
 ·rw [oddB_even _ h2, key d _ _ h3]
  unfold hilp; cases oddB (vp P A) <;> simp
 ·rw [← h1]
  by_cases hk : vp P A % 2 = 0
  ·rw [oddB_false hk]; unfold hilp; simp
  ·rw [oddB_true (by omega)]
   obtain ⟨i, rfl⟩ : ∃ i, j = i + 1 := ⟨j - 1, by omega⟩
   have hc : Cg P (rest P A) (-rest P B) := by
    refine ⟨P ^ i * (rest P w * rest P w), ?_⟩
    rw [show rest P A - -rest P B = rest P A + rest P B by omega, h2, Int.pow_succ]; grind
   rw [leg_congr hc, leg_neg hP hP2, three_prime hP hP2]
   have := leg_sq (p := P) (a := rest P B) nB
   unfold hilp
   generalize leg (rest P B) P = x at *
   cases three P <;> simp <;> grind
theorem sq_mod8 {t : Int} (h : t % 2 = 1) : t * t % 8 = 1 := by
 have e := Int.mul_emod t t 8
 have a1 : t % 8 = 1 ∨ t % 8 = 3 ∨ t % 8 = 5 ∨ t % 8 = 7 := by omega
 rcases a1 with h | h | h | h <;> rw [h] at e <;> rw [e] <;> rfl
theorem hil2_half {u v s : Int} {d : Nat} (hu : u % 2 = 1) (hv : v % 2 = 1) (hs : s % 8 = 1) (h : u + 2 ^ (d + 1) * v = s) : hil2 (three u) (three v) false (far v) (oddB (d + 1)) (far u) = 1 := by
 have t4 : ∀ x : Int, three x = (x % 8 % 4 == 3) := by
  intro x; unfold three; rw [Bool.eq_iff_iff, beq_iff_eq, beq_iff_eq]; omega
 have f8 : ∀ x : Int, far x = (x % 8 == 3 || x % 8 == 5) := fun _ => rfl
 rw [t4, t4, f8, f8]
 match d, h with
 | 0, h =>
  rw [oddB_true (by omega)]
  have a1 : u % 8 = 1 ∨ u % 8 = 3 ∨ u % 8 = 5 ∨ u % 8 = 7 := by omega
  have a2 : v % 8 = 1 ∨ v % 8 = 3 ∨ v % 8 = 5 ∨ v % 8 = 7 := by omega
  simp at h
  rcases a1 with x | x | x | x <;> rcases a2 with y | y | y | y <;> first | (rw [x, y]; rfl) | (exfalso; omega)
 | 1, h =>
  rw [oddB_false (by omega)]
  have : u % 8 = 5 := by simp at h; omega
  rw [this]; simp [hil2]
 | d + 2, h =>
  have : u % 8 = 1 := by
   rw [show d + 2 + 1 = d + 3 by omega, Int.pow_add] at h
   generalize (2 : Int) ^ d = e at *
   have h2 : e * 2 ^ 3 * v = 8 * (e * v) := by grind
   rw [h2] at h
   omega
  rw [this]; simp [hil2]
theorem hil2_norm {A B w : Int} (hA : A ≠ 0) (hB : B ≠ 0) (hw : w ≠ 0) (h : A + B = w * w) :
  hil2 (three (rest 2 A)) (three (rest 2 B)) (oddB (vp 2 A)) (far (rest 2 B)) (oddB (vp 2 B)) (far (rest 2 A)) = 1 := by
 have ow := sq_mod8 (odd_rest_two hw)
 have oA := odd_rest_two hA
 have oB := odd_rest_two hB
 have hn : (∃ d, vp 2 B = vp 2 A + (d + 1) ∧ vp 2 A = vp 2 w + vp 2 w ∧ rest 2 A + 2 ^ (d + 1) * rest 2 B = rest 2 w * rest 2 w) ∨
  (∃ d, vp 2 A = vp 2 B + (d + 1) ∧ vp 2 B = vp 2 w + vp 2 w ∧ rest 2 B + 2 ^ (d + 1) * rest 2 A = rest 2 w * rest 2 w) ∨
  (vp 2 A = vp 2 B ∧ ∃ j, rest 2 A + rest 2 B = 2 ^ j * (rest 2 w * rest 2 w) ∧ vp 2 A + j = vp 2 w + vp 2 w) := norm_cases isP_two hA hB hw h
 have par : ∀ i d m : Nat, i = m + m → oddB (i + (d + 1)) = oddB (d + 1) := by
  intro i d m hi; rw [oddB_add, oddB_even m hi]; cases oddB (d + 1) <;> rfl
 rcases hn with ⟨d, h1, h2, h3⟩ | ⟨d, h1, h2, h3⟩ | ⟨h1, j, h2, h3⟩
 ·rw [h1, par _ _ _ h2, oddB_even _ h2]
  exact hil2_half oA oB ow h3
 ·rw [h1, par _ _ _ h2, oddB_even _ h2, hil2_comm]
  exact hil2_half oB oA ow h3
 ·rw [← h1]
  generalize rest 2 w * rest 2 w = s at *
  generalize rest 2 A = u at *
  generalize rest 2 B = v at *
  have t4 : ∀ x : Int, three x = (x % 8 % 4 == 3) := by
   intro x; unfold three; rw [Bool.eq_iff_iff, beq_iff_eq, beq_iff_eq]; omega
  have f8 : ∀ x : Int, far x = (x % 8 == 3 || x % 8 == 5) := fun _ => rfl
  have a1 : u % 8 = 1 ∨ u % 8 = 3 ∨ u % 8 = 5 ∨ u % 8 = 7 := by omega
  have a2 : v % 8 = 1 ∨ v % 8 = 3 ∨ v % 8 = 5 ∨ v % 8 = 7 := by omega
  by_cases hk : vp 2 A % 2 = 0
  ·rw [oddB_false hk, t4, t4]
   have : (u + v) % 4 = 0 := by
    match j, h2, h3 with
    | 0, h2, h3 => simp at h2; omega
    | 1, h2, h3 => omega
    | j + 2, h2, h3 =>
     rw [Int.pow_add] at h2
     have : (2 : Int) ^ j * 2 ^ 2 * s = 4 * (2 ^ j * s) := by grind
     rw [this] at h2
     omega
   rcases a1 with x | x | x | x <;> rcases a2 with y | y | y | y <;> first | (exfalso; omega) | (rw [x, y]; simp [hil2])
  ·rw [oddB_true (by omega), t4, t4, f8, f8]
   have : (u + v) % 8 = 2 ∨ (u + v) % 8 = 0 := by
    match j, h2, h3 with
    | 0, h2, h3 => omega
    | 1, h2, h3 => left; simp at h2; omega
    | 2, h2, h3 => omega
    | j + 3, h2, h3 =>
     right
     rw [Int.pow_add] at h2
     have : (2 : Int) ^ j * 2 ^ 3 * s = 8 * (2 ^ j * s) := by grind
     rw [this] at h2
     omega
   rcases a1 with x | x | x | x <;> rcases a2 with y | y | y | y <;> first | (rw [x, y]; rfl) | (exfalso; omega)
theorem hil_norm {A B w p : Int} (hA : A ≠ 0) (hB : B ≠ 0) (hw : w ≠ 0) (h : A + B = w * w) (hp : p = 0 ∨ IsP p.toNat) : Hil A B p = 1 := by
 unfold Hil
 by_cases h0 : p = 0
 ·rw [if_pos h0, if_neg]
  intro hc
  have : 0 ≤ w * w := by rw [← Int.natAbs_mul_self]; exact Int.natCast_nonneg _
  omega
 ·have hpr : IsP p.toNat := by rcases hp with h | h; exact absurd h h0; exact h
  rw [if_neg h0]
  by_cases h2 : p = 2
  ·rw [if_pos h2]; exact hil2_norm hA hB hw h
  ·rw [if_neg h2]
   have hp2 := hpr.1
   obtain ⟨P, rfl⟩ : ∃ P : Nat, p = (P : Int) := ⟨p.toNat, by omega⟩
   rw [Int.toNat_natCast] at *
   exact hilp_norm hpr (by rintro rfl; exact h2 rfl) hA hB hw h
def prodH (a b : Int) : List Int → Int
 | [] => 1
 | p :: l => Hil a b p * prodH a b l
structure Places (L : List Int) : Prop where
 nodup : L.Nodup
 zero : 0 ∈ L
 two : 2 ∈ L
 ok : ∀ p ∈ L, p = 0 ∨ IsP p.toNat
theorem prodH_comm (a b : Int) (L : List Int) : prodH a b L = prodH b a L := by
 induction L with
 | nil => rfl
 | cons p l ih => unfold prodH; rw [hil_comm, ih]
theorem prodH_append (a b : Int) (l m : List Int) : prodH a b (l ++ m) = prodH a b l * prodH a b m := by
 induction l with
 | nil => simp [prodH]
 | cons p l ih => simp only [List.cons_append, prodH]; rw [ih, Int.mul_assoc]
theorem prodH_mul {a b c : Int} (ha : a ≠ 0) (hb : b ≠ 0) (hc : c ≠ 0) {L : List Int} (hL : ∀ p ∈ L, p = 0 ∨ IsP p.toNat) : prodH a (b * c) L = prodH a b L * prodH a c L := by
 induction L with
 | nil => rfl
 | cons p l ih =>
  unfold prodH
  rw [hil_mul_right ha hb hc (hL p (by simp)), ih (fun q hq => hL q (by simp [hq]))]
  grind
theorem prodH_erase {a b x : Int} {L : List Int} (h : x ∈ L) : prodH a b L = Hil a b x * prodH a b (L.erase x) := by
 induction L with
 | nil => cases h
 | cons p l ih =>
  by_cases hx : p = x
  ·subst hx; rw [List.erase_cons_head]; rfl
  ·rw [List.erase_cons_tail (by simpa using hx)]
   have hm : x ∈ l := by rcases List.mem_cons.1 h with e | e; exact absurd e.symm hx; exact e
   unfold prodH
   rw [ih hm]; grind
theorem prodH_one {a b : Int} {L : List Int} (h : ∀ p ∈ L, Hil a b p = 1) : prodH a b L = 1 := by
 induction L with
 | nil => rfl
 | cons p l ih => unfold prodH; rw [h p (by simp), ih (fun q hq => h q (by simp [hq]))]; rfl
theorem prodH_neg {a : Int} (ha : a ≠ 0) {L : List Int} (hL : ∀ p ∈ L, p = 0 ∨ IsP p.toNat) : prodH a (-a) L = 1 := prodH_one fun p hp => hil_neg ha (hL p hp)
theorem hil_unit {a b p : Int} (hp : IsP p.toNat) (h2 : p ≠ 2) (ha : ¬ p ∣ a) (hb : ¬ p ∣ b) : Hil a b p = 1 := by
 have hp2 := hp.1
 unfold Hil
 rw [if_neg (by omega), if_neg h2, vp_not ha, vp_not hb]
 simp [hilp, oddB]
theorem vp_self {p : Int} (hp : 2 ≤ p) : vp p p = 1 ∧ rest p p = 1 := by
 have h1 : ¬ p ∣ 1 := fun hd => by have := Int.le_of_dvd (by omega) hd; omega
 have := vp_unique hp (k := 1) h1
 rw [Int.mul_one, Int.pow_succ, Int.pow_zero, Int.one_mul] at this
 exact this
theorem two_not {x : Int} (h : x % 2 = 1) : vp 2 x = 0 ∧ rest 2 x = x := ⟨vp_not (by omega), rest_not (by omega)⟩
theorem places_pull {L : List Int} (h : Places L) {a b : Int} (hr : ∀ p ∈ (L.erase 0).erase 2, Hil a b p = 1) : prodH a b L = Hil a b 0 * Hil a b 2 := by
 rw [prodH_erase h.zero, prodH_erase (L := L.erase 0) ((h.nodup.mem_erase_iff).2 ⟨by decide, h.two⟩), prodH_one hr, Int.mul_one]
theorem places_rest {L : List Int} (h : Places L) {p : Int} (hp : p ∈ (L.erase 0).erase 2) : IsP p.toNat ∧ p ≠ 2 ∧ p ∈ L := by
 obtain ⟨h1, h2⟩ := ((h.nodup.erase 0).mem_erase_iff).1 hp
 obtain ⟨h3, h4⟩ := (h.nodup.mem_erase_iff).1 h2
 rcases h.ok p h4 with e | e
 ·exact absurd e h3
 ·exact ⟨e, h1, h4⟩
theorem not_dvd_unit {p u : Int} (hp : IsP p.toNat) (h : u = 1 ∨ u = -1) : ¬ p ∣ u := by
 intro hd
 have hp2 := hp.1
 have : p ∣ 1 := by rcases h with rfl | rfl; exact hd; exact Int.dvd_neg.1 hd
 have := Int.le_of_dvd (by omega) this
 omega
theorem not_dvd_prime {p q : Int} (hp : IsP p.toNat) (hq : IsP q.toNat) (h : p ≠ q) : ¬ p ∣ q := by
 intro hd
 have hp2 := hp.1
 have hq2 := hq.1
 apply h
 have : p.toNat ∣ q.toNat := by
  have := Int.natAbs_dvd_natAbs.2 hd
  rwa [show p.natAbs = p.toNat by omega, show q.natAbs = q.toNat by omega] at this
 have := hp.eq_of_dvd hq this
 omega
theorem isP_toNat_two : IsP (2 : Int).toNat := isP_two
theorem places_neg_neg {L : List Int} (h : Places L) : prodH (-1) (-1) L = 1 := by
 rw [places_pull h fun p hp => by
  obtain ⟨h1, h2, -⟩ := places_rest h hp
  exact hil_unit h1 h2 (not_dvd_unit h1 (.inr rfl)) (not_dvd_unit h1 (.inr rfl))]
 have e := two_not (x := -1) (by decide)
 simp [Hil, e.1, e.2, hil2, three, far, oddB]
theorem places_neg_two {L : List Int} (h : Places L) : prodH (-1) 2 L = 1 := by
 rw [places_pull h fun p hp => by
  obtain ⟨h1, h2, -⟩ := places_rest h hp
  exact hil_unit h1 h2 (not_dvd_unit h1 (.inr rfl)) (not_dvd_prime h1 isP_toNat_two h2)]
 have e := two_not (x := -1) (by decide)
 have f := vp_self (p := 2) (by decide)
 simp [Hil, e.1, e.2, f.1, f.2, hil2, three, far, oddB]
theorem places_pull3 {L : List Int} (h : Places L) {a b q : Int} (hq : IsP q.toNat) (h2 : q ≠ 2) (hm : q ∈ L) (hr : ∀ p ∈ L, IsP p.toNat → p ≠ 2 → p ≠ q → Hil a b p = 1) : prodH a b L = Hil a b 0 * Hil a b 2 * Hil a b q := by
 have hq2 := hq.1
 have n0 : q ∈ L.erase 0 := (h.nodup.mem_erase_iff).2 ⟨by rintro rfl; exact absurd hq2 (by decide), hm⟩
 have n2 : q ∈ (L.erase 0).erase 2 := ((h.nodup.erase 0).mem_erase_iff).2 ⟨h2, n0⟩
 rw [prodH_erase h.zero, prodH_erase (L := L.erase 0) ((h.nodup.mem_erase_iff).2 ⟨by decide, h.two⟩), prodH_erase n2, prodH_one fun p hp => by
  obtain ⟨h3, h4⟩ := (((h.nodup.erase 0).erase 2).mem_erase_iff).1 hp
  obtain ⟨h5, h6, h7⟩ := places_rest h h4
  exact hr p h7 h5 h6 h3]
 grind
theorem three_nat {q : Int} (h : IsP q.toNat) (h2 : q ≠ 2) : q % 2 = 1 := by
 have := h.odd (by omega); have := h.1; omega
theorem places_neg_p {L : List Int} (h : Places L) {q : Int} (hq : IsP q.toNat) (h2 : q ≠ 2) (hm : q ∈ L) : prodH (-1) q L = 1 := by
 have hq2 := hq.1
 rw [places_pull3 h hq h2 hm fun p _ h1 h3 h4 => hil_unit h1 h3 (not_dvd_unit h1 (.inr rfl)) (not_dvd_prime h1 hq h4)]
 have e := two_not (x := -1) (by decide)
 have f := two_not (x := q) (three_nat hq h2)
 have g := vp_self (p := q) (by omega)
 have k := vp_not (not_dvd_unit hq (u := -1) (.inr rfl))
 have k' := rest_not (not_dvd_unit hq (u := -1) (.inr rfl))
 have t := three_prime hq (show q.toNat ≠ 2 by omega)
 rw [show ((q.toNat : Nat) : Int) = q by omega] at t
 have e0 : Hil (-1) q 0 = 1 := by unfold Hil; rw [if_pos rfl, if_neg (by omega)]
 have e2 : Hil (-1) q 2 = if three q = true then -1 else 1 := by
  unfold Hil
  rw [if_neg (by decide), if_pos rfl, e.1, e.2, f.1, f.2]
  unfold hil2
  rw [show three (-1) = true from rfl, show oddB 0 = false from rfl]
  simp
 have ep : Hil (-1) q q = leg (-1) q.toNat := by
  unfold Hil
  rw [if_neg (by omega), if_neg h2, g.1, k, k']
  simp [hilp, oddB]
 rw [e0, e2, ep, t]
 cases three q <;> rfl
theorem places_two_p {L : List Int} (h : Places L) {q : Int} (hq : IsP q.toNat) (h2 : q ≠ 2) (hm : q ∈ L) : prodH 2 q L = 1 := by
 have hq2 := hq.1
 rw [places_pull3 h hq h2 hm fun p _ h1 h3 h4 => hil_unit h1 h3 (not_dvd_prime h1 isP_toNat_two h3) (not_dvd_prime h1 hq h4)]
 have f := two_not (x := q) (three_nat hq h2)
 have g := vp_self (p := q) (by omega)
 have e := vp_self (p := 2) (by decide)
 have k := vp_not (not_dvd_prime hq isP_toNat_two h2)
 have k' := rest_not (not_dvd_prime hq isP_toNat_two h2)
 have t := jac_two_mod (n := q.toNat) (by have := three_nat hq h2; omega)
 rw [jac_prime hq] at t
 have e0 : Hil 2 q 0 = 1 := by unfold Hil; rw [if_pos rfl, if_neg (by omega)]
 have e2 : Hil 2 q 2 = if far q = true then -1 else 1 := by
  unfold Hil
  rw [if_neg (by decide), if_pos rfl, e.1, e.2, f.1, f.2]
  unfold hil2
  rw [show three 1 = false from rfl, show oddB 0 = false from rfl, show oddB 1 = true from rfl]
  simp
 have ep : Hil 2 q q = leg 2 q.toNat := by
  unfold Hil
  rw [if_neg (by omega), if_neg h2, g.1, k, k']
  simp [hilp, oddB]
 rw [e0, e2, ep, t]
 unfold far
 by_cases c : q.toNat % 8 = 3 ∨ q.toNat % 8 = 5
 ·rw [if_pos c, if_pos (by simp; omega)]; rfl
 ·rw [if_neg c, if_neg (by simp; omega)]; rfl
theorem places_p_q {L : List Int} (h : Places L) {p q : Int} (hp : IsP p.toNat) (hp2 : p ≠ 2) (hpm : p ∈ L) (hq : IsP q.toNat) (hq2 : q ≠ 2) (hqm : q ∈ L) (hne : p ≠ q) : prodH p q L = 1 := by
 have p2 := hp.1
 have q2 := hq.1
 have n0 : q ∈ L.erase 0 := (h.nodup.mem_erase_iff).2 ⟨by omega, hqm⟩
 have n2 : q ∈ (L.erase 0).erase 2 := ((h.nodup.erase 0).mem_erase_iff).2 ⟨hq2, n0⟩
 have m0 : p ∈ L.erase 0 := (h.nodup.mem_erase_iff).2 ⟨by omega, hpm⟩
 have m2 : p ∈ (L.erase 0).erase 2 := ((h.nodup.erase 0).mem_erase_iff).2 ⟨hp2, m0⟩
 have m3 : p ∈ ((L.erase 0).erase 2).erase q := (((h.nodup.erase 0).erase 2).mem_erase_iff).2 ⟨hne, m2⟩
 rw [prodH_erase h.zero, prodH_erase (L := L.erase 0) ((h.nodup.mem_erase_iff).2 ⟨by decide, h.two⟩), prodH_erase n2, prodH_erase m3, prodH_one fun r hr => by
  obtain ⟨h3, h4⟩ := ((((h.nodup.erase 0).erase 2).erase q).mem_erase_iff).1 hr
  obtain ⟨h5, h6⟩ := (((h.nodup.erase 0).erase 2).mem_erase_iff).1 h4
  obtain ⟨h7, h8, -⟩ := places_rest h h6
  exact hil_unit h7 h8 (not_dvd_prime h7 hp h3) (not_dvd_prime h7 hq h5)]
 have f := two_not (x := q) (three_nat hq hq2)
 have e := two_not (x := p) (three_nat hp hp2)
 have g := vp_self (p := q) (by omega)
 have g' := vp_self (p := p) (by omega)
 have k := vp_not (not_dvd_prime hq hp (Ne.symm hne))
 have k' := rest_not (not_dvd_prime hq hp (Ne.symm hne))
 have l := vp_not (not_dvd_prime hp hq hne)
 have l' := rest_not (not_dvd_prime hp hq hne)
 have e0 : Hil p q 0 = 1 := by unfold Hil; rw [if_pos rfl, if_neg (by omega)]
 have e2 : Hil p q 2 = if (three p && three q) = true then -1 else 1 := by
  unfold Hil
  rw [if_neg (by decide), if_pos rfl, e.1, e.2, f.1, f.2]
  unfold hil2
  rw [show oddB 0 = false from rfl]
  simp
 have eq : Hil p q q = leg p q.toNat := by
  unfold Hil
  rw [if_neg (by omega), if_neg hq2, g.1, k, k']
  simp [hilp, oddB]
 have ep : Hil p q p = leg q p.toNat := by
  unfold Hil
  rw [if_neg (by omega), if_neg hp2, g'.1, l, l']
  simp [hilp, oddB]
 have rc := reciprocity hp hq (show p.toNat ≠ 2 by omega) (show q.toNat ≠ 2 by omega) (show p.toNat ≠ q.toNat by omega)
 rw [e0, e2, eq, ep]
 rw [show ((p.toNat : Nat) : Int) = p by omega, show ((q.toNat : Nat) : Int) = q by omega] at rc
 have o1 := three_nat hp hp2
 have o2 := three_nat hq hq2
 have t1 : sg ((p.toNat - 1) / 2 * ((q.toNat - 1) / 2)) = if (three p && three q) = true then -1 else 1 := by
  unfold three
  by_cases c1 : p % 4 = 3
  ·rw [sg_mul_odd (by omega)]
   by_cases c2 : q % 4 = 3
   ·rw [sg_odd (by omega), if_pos (by simp [c1, c2])]
   ·rw [sg_even (by omega), if_neg (by simp [c2])]
  ·rw [Nat.mul_comm]
   by_cases c2 : q % 4 = 3
   ·rw [sg_mul_odd (by omega), sg_even (by omega), if_neg (by simp [c1])]
   ·rw [if_neg (by simp [c1]), sg_even]
    rw [Nat.mul_mod, show (p.toNat - 1) / 2 % 2 = 0 by omega, Nat.mul_zero]
 rw [← t1]
 have := sg_sq ((p.toNat - 1) / 2 * ((q.toNat - 1) / 2))
 grind
theorem places_all {a : Int} (ha : a ≠ 0) {L : List Int} (h : Places L) (h1 : prodH a (-1) L = 1) (hq : ∀ q : Int, IsP q.toNat → q ∈ L → prodH a q L = 1) :
  ∀ (n : Nat) (b : Int), b.natAbs ≤ n → b ≠ 0 → (∀ q : Int, IsP q.toNat → q ∣ b → q ∈ L) → prodH a b L = 1 := by
 intro n
 induction n with
 | zero => intro b hb h0; omega
 | succ n ih =>
  intro b hb h0 hd
  by_cases hs : b.natAbs < 2
  ·have : b = 1 ∨ b = -1 := by omega
   rcases this with rfl | rfl
   ·have := prodH_mul ha (b := -1) (c := -1) (by decide) (by decide) h.ok
    rw [h1] at this; exact this
   ·exact h1
  ·obtain ⟨p, pp, pd⟩ := exists_prime_dvd b.natAbs (by omega)
   have hdv : (p : Int) ∣ b := Int.ofNat_dvd_left.2 pd
   obtain ⟨c, rfl⟩ := hdv
   have p2 := pp.1
   have hc : c ≠ 0 := by rintro rfl; simp at h0
   rw [prodH_mul ha (by omega) hc h.ok, hq p (by rwa [Int.toNat_natCast]) (hd p (by rwa [Int.toNat_natCast]) (Int.dvd_mul_right ..)), ih c ?_ hc fun q h1 h2 => hd q h1 (Int.dvd_trans h2 (Int.dvd_mul_left ..))]
   ·rfl
   ·rw [Int.natAbs_mul, Int.natAbs_natCast] at hb
    have : 2 * c.natAbs ≤ p * c.natAbs := Nat.mul_le_mul_right _ p2
    have : 0 < c.natAbs := by omega
    omega
theorem places_prime {L : List Int} (h : Places L) {q : Int} (hq : IsP q.toNat) (hm : q ∈ L) : prodH q (-1) L = 1 ∧ ∀ p : Int, IsP p.toNat → p ∈ L → prodH q p L = 1 := by
 have q2 := hq.1
 have hq0 : q ≠ 0 := by omega
 have n1 : prodH q (-1) L = 1 := by
  rw [prodH_comm]
  by_cases e : q = 2
  ·rw [e]; exact places_neg_two h
  ·exact places_neg_p h hq e hm
 refine ⟨n1, fun p hp hpm => ?_⟩
 have p2 := hp.1
 by_cases hpq : q = p
 ·subst hpq
  have := prodH_mul hq0 (b := -1) (c := -q) (by decide) (by omega) h.ok
  rw [n1, prodH_neg hq0 h.ok, show -1 * -q = q by omega] at this
  exact this
 ·by_cases e : q = 2
  ·subst e
   exact places_two_p h hp (fun e => hpq e.symm) hpm
  ·by_cases f : p = 2
   ·subst f
    rw [prodH_comm]; exact places_two_p h hq e hm
   ·exact places_p_q h hq e hm hp f hpm hpq
theorem product_formula {a b : Int} (ha : a ≠ 0) (hb : b ≠ 0) {L : List Int} (h : Places L) (hA : ∀ q : Int, IsP q.toNat → q ∣ a → q ∈ L) (hB : ∀ q : Int, IsP q.toNat → q ∣ b → q ∈ L) : prodH a b L = 1 := by
 refine places_all ha h ?_ (fun q h1 h2 => ?_) _ b (Nat.le_refl _) hb hB
 ·rw [prodH_comm]
  refine places_all (by decide) h (places_neg_neg h) (fun q h1 h2 => ?_) _ a (Nat.le_refl _) ha hA
  rw [prodH_comm]; exact (places_prime h h1 h2).1
 ·have q2 := h1.1
  rw [prodH_comm]
  exact places_all (by omega) h (places_prime h h1 h2).1 (places_prime h h1 h2).2 _ a (Nat.le_refl _) ha hA
end FF
end
