/- Plain: numbers as lists of digits, the least first. Half words and words: the digits of a number to the base 2^16 and to the base 2^32. -/
import Derived.Test.YtimdkjbmeogpoaaGreatDoorRows
import Derived.WalkKit
import Derived.WalkSpells
import Derived.WalkLawsBesides
import Derived.IntWalk
import Derived.Outline
import Derived.Deep.QuietTactic
import Derived.BigQuiet
import Derived.Lib.Hide
section
namespace FF
def IsP (p : Nat) : Prop := 2 ≤ p ∧ ∀ d, d ∣ p → d = 1 ∨ d = p
theorem IsP.two_le {p : Nat} (h : IsP p) : 2 ≤ p := h.1
theorem IsP.pos {p : Nat} (h : IsP p) : 0 < p := by have := h.1; omega
theorem IsP.coprime {p a : Nat} (h : IsP p) (ha : ¬ p ∣ a) : Nat.Coprime p a := by
 rcases h.2 (Nat.gcd p a) (Nat.gcd_dvd_left p a) with e | e
 ·exact e
 ·exact absurd (e ▸ Nat.gcd_dvd_right p a) ha
theorem IsP.dvd_mul {p a b : Nat} (h : IsP p) (hd : p ∣ a * b) : p ∣ a ∨ p ∣ b := by
 by_cases ha : p ∣ a
 ·exact Or.inl ha
 ·exact Or.inr ((h.coprime ha).dvd_of_dvd_mul_left hd)
theorem IsP.dvd_pow {p a n : Nat} (h : IsP p) (hd : p ∣ a ^ n) : p ∣ a := by
  induction n with
  | zero => rw [Nat.pow_zero] at hd; have := Nat.le_of_dvd (by omega) hd; have := h.1; omega
  | succ n ih => rw [Nat.pow_succ] at hd; rcases h.dvd_mul hd with h1 | h1
                 · exact ih h1
                 · exact h1
theorem IsP.not_dvd_one {p : Nat} (h : IsP p) : ¬ p ∣ 1 := by
 intro hd; have := Nat.le_of_dvd (by omega) hd; have := h.1; omega
theorem IsP.eq_of_dvd {p q : Nat} (hp : IsP p) (hq : IsP q) (hd : p ∣ q) : p = q := by
 rcases hq.2 p hd with e | e
 ·have := hp.1; omega
 ·exact e
theorem exists_prime_dvd (n : Nat) : 2 ≤ n → ∃ p, IsP p ∧ p ∣ n := by
 induction n using Nat.strongRecOn with
 | ind n ih =>
  intro hn
  by_cases hp : IsP n
  ·exact ⟨n, hp, Nat.dvd_refl n⟩
  ·have : ∃ d, d ∣ n ∧ d ≠ 1 ∧ d ≠ n := by
    apply Classical.byContradiction
    intro hc
    exact hp ⟨hn, fun d hd => by
     apply Classical.byContradiction; intro hx
     exact hc ⟨d, hd, fun e => hx (Or.inl e), fun e => hx (Or.inr e)⟩⟩
   obtain ⟨d, hd, h1, h2⟩ := this
   have hle := Nat.le_of_dvd (by omega) hd
   have h0 : d ≠ 0 := by rintro rfl; have := Nat.eq_zero_of_zero_dvd hd; omega
   obtain ⟨p, hp, hpd⟩ := ih d (by omega) (by omega)
   exact ⟨p, hp, Nat.dvd_trans hpd hd⟩
theorem exists_small_prime_dvd {n : Nat} (hn : 2 ≤ n) (hc : ¬ IsP n) : ∃ p, IsP p ∧ p ∣ n ∧ p * p ≤ n := by
 have : ∃ d, d ∣ n ∧ d ≠ 1 ∧ d ≠ n := by
  apply Classical.byContradiction
  intro hx
  exact hc ⟨hn, fun d hd => by
   apply Classical.byContradiction; intro hy
   exact hx ⟨d, hd, fun e => hy (Or.inl e), fun e => hy (Or.inr e)⟩⟩
 obtain ⟨d, ⟨e, rfl⟩, h1, h2⟩ := this
 have hd0 : d ≠ 0 := by rintro rfl; simp at hn
 have he0 : e ≠ 0 := by rintro rfl; simp at hn
 have he1 : e ≠ 1 := by rintro rfl; simp at h2
 by_cases hle : d ≤ e
 ·obtain ⟨p, hp, hpd⟩ := exists_prime_dvd d (by omega)
  have := Nat.le_of_dvd (by omega) hpd
  exact ⟨p, hp, Nat.dvd_trans hpd ⟨e, rfl⟩, Nat.mul_le_mul this (by omega)⟩
 ·obtain ⟨p, hp, hpd⟩ := exists_prime_dvd e (by omega)
  have := Nat.le_of_dvd (by omega) hpd
  exact ⟨p, hp, Nat.dvd_trans hpd ⟨d, Nat.mul_comm d e⟩, Nat.mul_le_mul (by omega) this⟩
theorem isP_of_trial {n : Nat} (hn : 2 ≤ n) (h : ∀ d, 2 ≤ d → d * d ≤ n → ¬ d ∣ n) : IsP n := by
 apply Classical.byContradiction; intro hc
 obtain ⟨p, hp, hd, hl⟩ := exists_small_prime_dvd hn hc
 exact h p hp.1 hl hd
theorem IsP.not_dvd_of_lt {p d : Nat} (h : IsP p) (h2 : 2 ≤ d) (hl : d < p) : ¬ d ∣ p := by
 intro hd; rcases h.2 d hd with e | e <;> omega
theorem IsP.odd {p : Nat} (h : IsP p) (h2 : p ≠ 2) : p % 2 = 1 := by
 have := h.1
 have h3 : ¬ 2 ∣ p := fun hd => by rcases h.2 2 hd with e | e <;> omega
 omega
theorem isP_two : IsP 2 := ⟨by omega, fun d hd => by have := Nat.le_of_dvd (by omega) hd; have : d ≠ 0 := (by rintro rfl; simp at hd); omega⟩
theorem isP_three : IsP 3 := isP_of_trial (by omega) (fun d h1 h2 => by have := Nat.mul_le_mul h1 h1; omega)
theorem isP_five : IsP 5 := isP_of_trial (by omega) (fun d h1 h2 => by
 have : d < 3 := by rcases Nat.lt_or_ge d 3 with h | h; exact h; have := Nat.mul_le_mul h h; omega
 have : d = 2 := by omega
 subst this; omega)
theorem isP_seven : IsP 7 := isP_of_trial (by omega) (fun d h1 h2 => by
 have : d < 3 := by rcases Nat.lt_or_ge d 3 with h | h; exact h; have := Nat.mul_le_mul h h; omega
 have : d = 2 := by omega
 subst this; omega)
def Cg (n a b : Int) : Prop := n ∣ a - b
namespace Cg
variable {n a b c d : Int}
theorem refl (n a : Int) : Cg n a a := by unfold Cg; rw [Int.sub_self]; exact Int.dvd_zero n
theorem of_eq (h : a = b) : Cg n a b := h ▸ refl n a
theorem symm (h : Cg n a b) : Cg n b a := by
 obtain ⟨k, hk⟩ := h; exact ⟨-k, by rw [Int.mul_neg, ← hk]; omega⟩
theorem trans (h : Cg n a b) (g : Cg n b c) : Cg n a c := by
 obtain ⟨k, hk⟩ := h; obtain ⟨l, hl⟩ := g; exact ⟨k + l, by rw [Int.mul_add, ← hk, ← hl]; omega⟩
theorem add (h : Cg n a b) (g : Cg n c d) : Cg n (a + c) (b + d) := by
 obtain ⟨k, hk⟩ := h; obtain ⟨l, hl⟩ := g; exact ⟨k + l, by rw [Int.mul_add, ← hk, ← hl]; omega⟩
theorem neg (h : Cg n a b) : Cg n (-a) (-b) := by
 obtain ⟨k, hk⟩ := h; exact ⟨-k, by rw [Int.mul_neg, ← hk]; omega⟩
theorem mul (h : Cg n a b) (g : Cg n c d) : Cg n (a * c) (b * d) := by
 obtain ⟨k, hk⟩ := h; obtain ⟨l, hl⟩ := g
 exact ⟨k * c + b * l, by
  have e1 : a = b + n * k := by omega
  have e2 : c = d + n * l := by omega
  subst e1; subst e2; grind⟩
theorem mul_left (c : Int) (h : Cg n a b) : Cg n (c * a) (c * b) := (refl n c).mul h
theorem mul_right (c : Int) (h : Cg n a b) : Cg n (a * c) (b * c) := h.mul (refl n c)
theorem pow (k : Nat) (h : Cg n a b) : Cg n (a ^ k) (b ^ k) := by
 induction k with
 | zero => simpa using refl n 1
 | succ k ih => rw [Int.pow_succ, Int.pow_succ]; exact ih.mul h
theorem emod (n a : Int) : Cg n (a % n) a := ⟨-(a / n), by have := Int.mul_ediv_add_emod a n; rw [Int.mul_neg]; omega⟩
theorem iff_emod : Cg n a b ↔ a % n = b % n := (Int.emod_eq_emod_iff_emod_sub_eq_zero.trans Int.dvd_iff_emod_eq_zero.symm).symm
theorem emod_eq (h : Cg n a b) : a % n = b % n := iff_emod.1 h
theorem of_emod (h : a % n = b % n) : Cg n a b := iff_emod.2 h
theorem zero_iff : Cg n a 0 ↔ n ∣ a := by unfold Cg; rw [Int.sub_zero]
theorem of_dvd {m : Int} (hm : m ∣ n) (h : Cg n a b) : Cg m a b := Int.dvd_trans hm h
theorem eq_of_bounds (h : Cg n a b) (ha : 0 ≤ a) (ha' : a < n) (hb : 0 ≤ b) (hb' : b < n) : a = b := by
 have := h.emod_eq; rwa [Int.emod_eq_of_lt ha ha', Int.emod_eq_of_lt hb hb'] at this
end Cg
theorem IsP.idvd_mul {p : Nat} {a b : Int} (h : IsP p) (hd : (p : Int) ∣ a * b) : (p : Int) ∣ a ∨ (p : Int) ∣ b := by
 rw [← Int.natAbs_dvd_natAbs, Int.natAbs_mul, Int.natAbs_natCast] at hd
 rcases h.dvd_mul hd with e | e
 ·left; rwa [← Int.natAbs_dvd_natAbs, Int.natAbs_natCast]
 ·right; rwa [← Int.natAbs_dvd_natAbs, Int.natAbs_natCast]
theorem IsP.idvd_pow {p n : Nat} {a : Int} (h : IsP p) (hd : (p : Int) ∣ a ^ n) : (p : Int) ∣ a := by
 rw [← Int.natAbs_dvd_natAbs, Int.natAbs_natCast] at *
 rw [Int.natAbs_pow] at hd
 exact h.dvd_pow hd
theorem Cg.cancel {p : Nat} {a b c : Int} (hp : IsP p) (hc : ¬ (p : Int) ∣ c) (h : Cg p (c * a) (c * b)) : Cg p a b := by
 have h' : (p : Int) ∣ c * (a - b) := by rw [Int.mul_sub]; exact h
 rcases hp.idvd_mul h' with e | e
 ·exact absurd e hc
 ·exact e
theorem Cg.cancel_right {p : Nat} {a b c : Int} (hp : IsP p) (hc : ¬ (p : Int) ∣ c) (h : Cg p (a * c) (b * c)) : Cg p a b := by
 rw [Int.mul_comm a c, Int.mul_comm b c] at h; exact h.cancel hp hc
theorem Cg.sq_one {p : Nat} {x : Int} (hp : IsP p) (h : Cg p (x * x) 1) : Cg p x 1 ∨ Cg p x (-1) := by
 have h' : (p : Int) ∣ (x - 1) * (x + 1) := by
  have e : (x - 1) * (x + 1) = x * x - 1 := by grind
  rw [e]; exact h
 rcases hp.idvd_mul h' with e | e
 ·exact Or.inl e
 ·exact Or.inr (by unfold Cg; rw [show x - -1 = x + 1 by omega]; exact e)
end FF
namespace FF
theorem perm_of_maps {l : List Nat} (hn : l.Nodup) (f : Nat → Nat) (hm : ∀ k, k ∈ l → f k ∈ l)
  (hi : ∀ i, i ∈ l → ∀ j, j ∈ l → f i = f j → i = j) : (l.map f).Perm l := by
 have hnod : (l.map f).Nodup := by
  unfold List.Nodup at *
  rw [List.pairwise_map]
  exact hn.imp_of_mem (fun {a b} ha hb hab he => hab (hi a ha b hb he))
 have hsub : l.map f ⊆ l := by
  intro x hx
  obtain ⟨k, hk, rfl⟩ := List.mem_map.1 hx
  exact hm k hk
 refine (List.perm_ext_iff_of_nodup hnod hn).2 (fun x => ⟨fun h => hsub h, fun h => ?_⟩)
 apply Classical.byContradiction
 intro hx
 have h1 : (x :: l.map f).Nodup := List.nodup_cons.2 ⟨hx, hnod⟩
 have h2 : (x :: l.map f) ⊆ l := by
  intro y hy
  rcases List.mem_cons.1 hy with rfl | hy
  ·exact h
  ·exact hsub hy
 have := h1.length_le_of_subset h2
 simp at this; omega
def prodL (f : Nat → Int) : List Nat → Int
 | [] => 1
 | k :: l => f k * prodL f l
theorem prodL_perm (f : Nat → Int) {l m : List Nat} (h : l.Perm m) : prodL f l = prodL f m := by
 induction h with
 | nil => rfl
 | cons x _ ih => simp only [prodL, ih]
 | swap x y l => simp only [prodL]; grind
 | trans _ _ ih1 ih2 => exact ih1.trans ih2
theorem prodL_map (f : Nat → Int) (g : Nat → Nat) (l : List Nat) : prodL f (l.map g) = prodL (fun k => f (g k)) l := by
 induction l with
 | nil => rfl
 | cons k l ih => simp only [List.map, prodL, ih]
theorem prodL_mul (f g : Nat → Int) (l : List Nat) : prodL (fun k => f k * g k) l = prodL f l * prodL g l := by
 induction l with
 | nil => rfl
 | cons k l ih => simp only [prodL, ih]; grind
theorem prodL_const (c : Int) (l : List Nat) : prodL (fun _ => c) l = c ^ l.length := by
 induction l with
 | nil => simp [prodL]
 | cons k l ih => simp only [prodL, ih, List.length_cons, Int.pow_succ]; grind
theorem prodL_congr (n : Int) (f g : Nat → Int) (l : List Nat) (h : ∀ k, k ∈ l → Cg n (f k) (g k)) : Cg n (prodL f l) (prodL g l) := by
 induction l with
 | nil => exact Cg.refl _ _
 | cons k l ih => exact (h k (by simp)).mul (ih fun j hj => h j (by simp [hj]))
theorem prodL_not_dvd {p : Nat} (hp : IsP p) (f : Nat → Int) (l : List Nat) (h : ∀ k, k ∈ l → ¬ (p : Int) ∣ f k) : ¬ (p : Int) ∣ prodL f l := by
 induction l with
 | nil => intro hd; exact hp.not_dvd_one (by have : (p : Int) ∣ ((1 : Nat) : Int) := hd; exact Int.natCast_dvd_natCast.1 this)
 | cons k l ih =>
  intro hd
  rcases hp.idvd_mul hd with e | e
  ·exact h k (by simp) e
  ·exact ih (fun j hj => h j (by simp [hj])) e
def upTo (n : Nat) : List Nat := List.range' 1 n
theorem mem_upTo {n k : Nat} : k ∈ upTo n ↔ 1 ≤ k ∧ k ≤ n := by
 unfold upTo; rw [List.mem_range'_1]; omega
theorem nodup_upTo (n : Nat) : (upTo n).Nodup := List.nodup_range'
theorem length_upTo (n : Nat) : (upTo n).length = n := by simp [upTo]
theorem nat_lt_not_dvd {p k : Nat} (h1 : 1 ≤ k) (h2 : k < p) : ¬ (p : Int) ∣ (k : Int) := by
 intro hd; have := Nat.le_of_dvd (by omega) (Int.natCast_dvd_natCast.1 hd); omega
theorem fermat {p : Nat} (hp : IsP p) {a : Int} (ha : ¬ (p : Int) ∣ a) : Cg p (a ^ (p - 1)) 1 := by
 have hp2 := hp.1
 have hp0 : (p : Int) ≠ 0 := by omega
 have hpp : (0 : Int) < p := by omega
 let f : Nat → Nat := fun k => ((a * (k : Int)) % (p : Int)).toNat
 have hf : ∀ k, ((f k : Nat) : Int) = (a * (k : Int)) % (p : Int) := fun k => Int.toNat_of_nonneg (Int.emod_nonneg _ hp0)
 have hperm : ((upTo (p - 1)).map f).Perm (upTo (p - 1)) := by
  refine perm_of_maps (nodup_upTo _) f ?_ ?_
  ·intro k hk
   rw [mem_upTo] at *
   have h1 := hf k
   have h2 := Int.emod_lt_of_pos (a * (k : Int)) hpp
   have h3 : ¬ (p : Int) ∣ a * (k : Int) := fun hd => by
    rcases hp.idvd_mul hd with e | e
    ·exact ha e
    ·exact nat_lt_not_dvd hk.1 (by omega) e
   have h4 : (a * (k : Int)) % (p : Int) ≠ 0 := fun e => h3 (Int.dvd_of_emod_eq_zero e)
   have h5 := Int.emod_nonneg (a * (k : Int)) hp0
   omega
  ·intro i hi j hj he
   rw [mem_upTo] at *
   have h1 := hf i; rw [he, hf j] at h1
   have h2 : Cg p (a * (i : Int)) (a * (j : Int)) := (Cg.of_emod h1).symm
   have h3 := h2.cancel hp ha
   have := h3.eq_of_bounds (by omega) (by omega) (by omega) (by omega)
   omega
 have e1 := prodL_perm (fun k => (k : Int)) hperm
 rw [prodL_map] at e1
 have e2 : Cg p (prodL (fun k => ((f k : Nat) : Int)) (upTo (p - 1))) (prodL (fun k => a * (k : Int)) (upTo (p - 1))) :=
  prodL_congr _ _ _ _ (fun k _ => by rw [hf k]; exact Cg.emod _ _)
 rw [prodL_mul, prodL_const, length_upTo, e1] at e2
 have hnd : ¬ (p : Int) ∣ prodL (fun k => (k : Int)) (upTo (p - 1)) :=
  prodL_not_dvd hp _ _ (fun k hk => by rw [mem_upTo] at hk; exact nat_lt_not_dvd hk.1 (by omega))
 refine (Cg.cancel_right hp hnd ?_).symm
 rw [Int.one_mul]; exact e2
theorem pow_gcd_one {n a : Int} (i j : Nat) : Cg n (a ^ i) 1 → Cg n (a ^ j) 1 → Cg n (a ^ (Nat.gcd i j)) 1 := by
 induction i, j using Nat.gcd.induction with
 | H0 j => intro _ h; simpa using h
 | H1 i j hi ih =>
  intro h1 h2
  rw [Nat.gcd_rec]
  refine ih ?_ h1
  have e : a ^ j = (a ^ i) ^ (j / i) * a ^ (j % i) := by
   rw [← Int.pow_mul, ← Int.pow_add, Nat.div_add_mod]
  rw [e] at h2
  have h3 : Cg n ((a ^ i) ^ (j / i) * a ^ (j % i)) (1 ^ (j / i) * a ^ (j % i)) := (h1.pow _).mul_right _
  rw [Int.one_pow, Int.one_mul] at h3
  exact h3.symm.trans h2
theorem pow_mul_one {n a : Int} {i : Nat} (j : Nat) (h : Cg n (a ^ i) 1) : Cg n (a ^ (i * j)) 1 := by
 rw [Int.pow_mul]; have := h.pow j; rwa [Int.one_pow] at this
theorem pow_dvd_one {n a : Int} {i j : Nat} (hd : i ∣ j) (h : Cg n (a ^ i) 1) : Cg n (a ^ j) 1 := by
 obtain ⟨k, rfl⟩ := hd; exact pow_mul_one k h
end FF
namespace FF
def sg (n : Nat) : Int := if n % 2 = 0 then 1 else -1
theorem sg_add (m n : Nat) : sg (m + n) = sg m * sg n := by
 unfold sg; split <;> split <;> split <;> first | rfl | omega
theorem sg_sq (n : Nat) : sg n * sg n = 1 := by unfold sg; split <;> rfl
theorem sg_cases (n : Nat) : sg n = 1 ∨ sg n = -1 := by unfold sg; split <;> simp
theorem sg_congr {m n : Nat} (h : m % 2 = n % 2) : sg m = sg n := by unfold sg; rw [h]
theorem sg_mul_odd {m n : Nat} (h : m % 2 = 1) : sg (m * n) = sg n := by
 apply sg_congr; rw [Nat.mul_mod, h]; omega
theorem sg_even {n : Nat} (h : n % 2 = 0) : sg n = 1 := by unfold sg; rw [if_pos h]
theorem sg_odd {n : Nat} (h : n % 2 = 1) : sg n = -1 := by unfold sg; rw [if_neg (by omega)]
def sumL (f : Nat → Int) : List Nat → Int
 | [] => 0
 | k :: l => f k + sumL f l
theorem sumL_perm (f : Nat → Int) {l m : List Nat} (h : l.Perm m) : sumL f l = sumL f m := by
 induction h with
 | nil => rfl
 | cons x _ ih => simp only [sumL, ih]
 | swap x y l => simp only [sumL]; omega
 | trans _ _ ih1 ih2 => exact ih1.trans ih2
theorem sumL_map (f : Nat → Int) (g : Nat → Nat) (l : List Nat) : sumL f (l.map g) = sumL (fun k => f (g k)) l := by
 induction l with
 | nil => rfl
 | cons k l ih => simp only [List.map, sumL, ih]
theorem sumL_add (f g : Nat → Int) (l : List Nat) : sumL (fun k => f k + g k) l = sumL f l + sumL g l := by
 induction l with
 | nil => rfl
 | cons k l ih => simp only [sumL, ih]; omega
theorem sumL_congr (f g : Nat → Int) (l : List Nat) (h : ∀ k, k ∈ l → f k = g k) : sumL f l = sumL g l := by
 induction l with
 | nil => rfl
 | cons k l ih => simp only [sumL]; rw [h k (by simp), ih fun j hj => h j (by simp [hj])]
theorem sumL_zero (l : List Nat) : sumL (fun _ => 0) l = 0 := by
 induction l with
 | nil => rfl
 | cons k l ih => simp only [sumL, ih]; omega
theorem sumL_const (c : Int) (l : List Nat) : sumL (fun _ => c) l = c * l.length := by
 induction l with
 | nil => simp [sumL]
 | cons k l ih => simp only [sumL, ih, List.length_cons]; push_cast; grind
theorem sumL_append (f : Nat → Int) (l m : List Nat) : sumL f (l ++ m) = sumL f l + sumL f m := by
 induction l with
 | nil => simp [sumL]
 | cons k l ih => simp only [List.cons_append, sumL, ih]; omega
theorem sumL_swap (f : Nat → Nat → Int) (l m : List Nat) : sumL (fun k => sumL (fun j => f k j) m) l = sumL (fun j => sumL (fun k => f k j) l) m := by
 induction l with
 | nil => simp only [sumL]; rw [sumL_zero]
 | cons k l ih => simp only [sumL]; rw [ih, ← sumL_add]
theorem sumL_nonneg (f : Nat → Int) (l : List Nat) (h : ∀ k, k ∈ l → 0 ≤ f k) : 0 ≤ sumL f l := by
 induction l with
 | nil => simp [sumL]
 | cons k l ih => simp only [sumL]; have := h k (by simp); have := ih fun j hj => h j (by simp [hj]); omega
theorem upTo_succ (n : Nat) : upTo (n + 1) = upTo n ++ [n + 1] := by
 unfold upTo; rw [List.range'_concat]; simp [Nat.add_comm]
def leg (a : Int) (p : Nat) : Int := if a % (p : Int) = 0 then 0 else if a ^ ((p - 1) / 2) % (p : Int) = 1 then 1 else -1
theorem leg_zero {a : Int} {p : Nat} (h : (p : Int) ∣ a) : leg a p = 0 := by
 unfold leg; rw [if_pos (Int.emod_eq_zero_of_dvd h)]
theorem leg_ne {a : Int} {p : Nat} (h : ¬ (p : Int) ∣ a) : leg a p = 1 ∨ leg a p = -1 := by
 unfold leg; rw [if_neg (fun e => h (Int.dvd_of_emod_eq_zero e))]; split <;> simp
theorem leg_sq {a : Int} {p : Nat} (h : ¬ (p : Int) ∣ a) : leg a p * leg a p = 1 := by
 rcases leg_ne h with e | e <;> rw [e] <;> rfl
theorem half_pow {p : Nat} (hp : IsP p) (h2 : p ≠ 2) {a : Int} (ha : ¬ (p : Int) ∣ a) :
  Cg p (a ^ ((p - 1) / 2)) 1 ∨ Cg p (a ^ ((p - 1) / 2)) (-1) := by
 have ho := hp.odd h2
 have e : a ^ (p - 1) = a ^ ((p - 1) / 2) * a ^ ((p - 1) / 2) := by rw [← Int.pow_add]; congr 1; omega
 have hf := fermat hp ha
 rw [e] at hf
 exact hf.sq_one hp
theorem leg_cg {p : Nat} (hp : IsP p) (h2 : p ≠ 2) (a : Int) : Cg p (leg a p) (a ^ ((p - 1) / 2)) := by
 have ho := hp.odd h2
 have hp2 := hp.1
 have hpp : (1 : Int) < p := by omega
 by_cases ha : (p : Int) ∣ a
 ·rw [leg_zero ha]
  have hh : 1 ≤ (p - 1) / 2 := by omega
  obtain ⟨n, hn⟩ : ∃ n, (p - 1) / 2 = n + 1 := ⟨(p - 1) / 2 - 1, by omega⟩
  rw [hn, Int.pow_succ]
  exact (Cg.zero_iff.2 (Int.dvd_mul_of_dvd_right ha)).symm
 ·rcases half_pow hp h2 ha with h | h
  ·have : leg a p = 1 := by
    unfold leg; rw [if_neg (fun e => ha (Int.dvd_of_emod_eq_zero e)), if_pos]
    rw [h.emod_eq]; exact Int.emod_eq_of_lt (by omega) hpp
   rw [this]; exact h.symm
  ·have : leg a p = -1 := by
    unfold leg; rw [if_neg (fun e => ha (Int.dvd_of_emod_eq_zero e)), if_neg]
    rw [h.emod_eq]
    intro e
    have e2 : Cg p (-1) 1 := Cg.of_emod (by rw [e]; exact (Int.emod_eq_of_lt (by omega) hpp).symm)
    have e3 : (p : Int) ∣ 2 := by have := e2.symm; unfold Cg at this; exact this
    have := Int.le_of_dvd (by omega) e3
    omega
   rw [this]; exact h.symm
theorem small_eq {p : Nat} (hp : IsP p) (h2 : p ≠ 2) {x y : Int} (hx : -1 ≤ x ∧ x ≤ 1) (hy : -1 ≤ y ∧ y ≤ 1) (h : Cg p x y) : x = y := by
 have ho := hp.odd h2
 have hp2 := hp.1
 obtain ⟨k, hk⟩ := h
 have : k = 0 := by
  rcases Int.lt_trichotomy k 0 with h | h | h
  ·have : (p : Int) * k ≤ (p : Int) * (-1) := Int.mul_le_mul_of_nonneg_left (by omega) (by omega)
   omega
  ·exact h
  ·have : (p : Int) * 1 ≤ (p : Int) * k := Int.mul_le_mul_of_nonneg_left (by omega) (by omega)
   omega
 subst this; omega
theorem leg_bound (a : Int) (p : Nat) : -1 ≤ leg a p ∧ leg a p ≤ 1 := by
 unfold leg; split
 ·omega
 ·split <;> omega
theorem leg_mul {p : Nat} (hp : IsP p) (h2 : p ≠ 2) (a b : Int) : leg (a * b) p = leg a p * leg b p := by
 refine small_eq hp h2 (leg_bound _ _) ?_ ?_
 ·have := leg_bound a p; have := leg_bound b p
  have h1 : leg a p = -1 ∨ leg a p = 0 ∨ leg a p = 1 := by omega
  rcases h1 with e | e | e <;> rw [e] <;> omega
 ·have := leg_cg hp h2 (a * b)
  rw [Int.mul_pow] at this
  exact this.trans ((leg_cg hp h2 a).mul (leg_cg hp h2 b)).symm
theorem leg_congr {p : Nat} {a b : Int} (h : Cg p a b) : leg a p = leg b p := by
 unfold leg; rw [h.emod_eq, (h.pow _).emod_eq]
theorem leg_one {p : Nat} (hp : IsP p) : leg 1 p = 1 := by
 have := hp.1
 unfold leg; rw [Int.one_pow, Int.emod_eq_of_lt (by omega) (by omega)]; simp
theorem leg_neg_one {p : Nat} (hp : IsP p) (h2 : p ≠ 2) : leg (-1) p = sg ((p - 1) / 2) := by
 refine small_eq hp h2 (leg_bound _ _) ?_ ?_
 ·rcases sg_cases ((p - 1) / 2) with e | e <;> rw [e] <;> omega
 ·refine (leg_cg hp h2 (-1)).trans (Cg.of_eq ?_)
  generalize (p - 1) / 2 = n
  induction n with
  | zero => rfl
  | succ n ih => rw [Int.pow_succ, ih, sg_add]; rfl
section gauss
variable {p : Nat} (a : Int)
def gres (p : Nat) (a : Int) (k : Nat) : Int := (a * (k : Int)) % (p : Int)
def gdist (p : Nat) (a : Int) (k : Nat) : Nat := if gres p a k ≤ (((p - 1) / 2 : Nat) : Int) then (gres p a k).toNat else ((p : Int) - gres p a k).toNat
def gup (p : Nat) (a : Int) (k : Nat) : Nat := if gres p a k ≤ (((p - 1) / 2 : Nat) : Int) then 0 else 1
theorem gres_pos (hp : IsP p) (ha : ¬ (p : Int) ∣ a) {k : Nat} (h1 : 1 ≤ k) (h2 : k < p) : 0 < gres p a k ∧ gres p a k < p := by
 have hp2 := hp.1
 have h3 : ¬ (p : Int) ∣ a * (k : Int) := fun hd => by
  rcases hp.idvd_mul hd with e | e
  ·exact ha e
  ·exact nat_lt_not_dvd h1 h2 e
 have h4 : (a * (k : Int)) % (p : Int) ≠ 0 := fun e => h3 (Int.dvd_of_emod_eq_zero e)
 have h5 := Int.emod_nonneg (a * (k : Int)) (b := (p : Int)) (by omega)
 have h6 := Int.emod_lt_of_pos (a * (k : Int)) (b := (p : Int)) (by omega)
 unfold gres; omega
theorem gdist_cg (hp : IsP p) (ha : ¬ (p : Int) ∣ a) {k : Nat} (h1 : 1 ≤ k) (h2 : k < p) :
  Cg p (sg (gup p a k) * (gdist p a k : Int)) (a * (k : Int)) := by
 have h := gres_pos a hp ha h1 h2
 have h3 : Cg p (gres p a k) (a * (k : Int)) := Cg.emod _ _
 unfold gup gdist
 split
 ·rw [Int.toNat_of_nonneg (by omega)]; simpa [sg] using h3
 ·rw [Int.toNat_of_nonneg (by omega)]
  have : Cg p (-((p : Int) - gres p a k)) (gres p a k) := ⟨-1, by omega⟩
  simpa [sg] using this.trans h3
theorem gdist_bounds (hp : IsP p) (ho : p % 2 = 1) (ha : ¬ (p : Int) ∣ a) {k : Nat} (h1 : 1 ≤ k) (h2 : k < p) :
  1 ≤ gdist p a k ∧ gdist p a k ≤ (p - 1) / 2 := by
 have h := gres_pos a hp ha h1 h2
 unfold gdist; split <;> omega
theorem gdist_perm (hp : IsP p) (h2 : p ≠ 2) (ha : ¬ (p : Int) ∣ a) :
  ((upTo ((p - 1) / 2)).map (gdist p a)).Perm (upTo ((p - 1) / 2)) := by
 have ho := hp.odd h2
 refine perm_of_maps (nodup_upTo _) _ ?_ ?_
 ·intro k hk
  rw [mem_upTo] at *
  exact gdist_bounds a hp ho ha hk.1 (by omega)
 ·intro i hi j hj he
  rw [mem_upTo] at *
  have g1 := gdist_cg a hp ha hi.1 (by omega)
  have g2 := gdist_cg a hp ha hj.1 (by omega)
  rw [he] at g1
  generalize (gdist p a j : Int) = d at g1 g2
  have key : Cg p (i : Int) (j : Int) ∨ Cg p (i : Int) (-(j : Int)) := by
   rcases sg_cases (gup p a i) with e1 | e1 <;> rcases sg_cases (gup p a j) with e2 | e2 <;> rw [e1] at g1 <;> rw [e2] at g2
   ·exact Or.inl ((g1.symm.trans g2).cancel hp ha)
   ·have g3 := g2.neg
    rw [show -(-1 * d) = 1 * d by omega, show -(a * (j : Int)) = a * (-(j : Int)) by grind] at g3
    exact Or.inr ((g1.symm.trans g3).cancel hp ha)
   ·have g3 := g2.neg
    rw [show -(1 * d) = -1 * d by omega, show -(a * (j : Int)) = a * (-(j : Int)) by grind] at g3
    exact Or.inr ((g1.symm.trans g3).cancel hp ha)
   ·exact Or.inl ((g1.symm.trans g2).cancel hp ha)
  rcases key with h | h
  ·have := h.eq_of_bounds (by omega) (by omega) (by omega) (by omega); omega
  ·exfalso
   have h' : (p : Int) ∣ ((i + j : Nat) : Int) := by
    unfold Cg at h; rw [show ((i + j : Nat) : Int) = (i : Int) - -(j : Int) by omega]; exact h
   exact nat_lt_not_dvd (by omega) (by omega) h'
theorem gauss (hp : IsP p) (h2 : p ≠ 2) (ha : ¬ (p : Int) ∣ a) :
  leg a p = prodL (fun k => sg (gup p a k)) (upTo ((p - 1) / 2)) := by
 have ho := hp.odd h2
 have e1 := prodL_perm (fun k => (k : Int)) (gdist_perm a hp h2 ha)
 rw [prodL_map] at e1
 have e2 : Cg p (prodL (fun k => sg (gup p a k) * (gdist p a k : Int)) (upTo ((p - 1) / 2))) (prodL (fun k => a * (k : Int)) (upTo ((p - 1) / 2))) :=
  prodL_congr _ _ _ _ (fun k hk => by rw [mem_upTo] at hk; exact gdist_cg a hp ha hk.1 (by omega))
 rw [prodL_mul, prodL_mul, e1, prodL_const, length_upTo] at e2
 have hnd : ¬ (p : Int) ∣ prodL (fun k => (k : Int)) (upTo ((p - 1) / 2)) :=
  prodL_not_dvd hp _ _ (fun k hk => by rw [mem_upTo] at hk; exact nat_lt_not_dvd hk.1 (by omega))
 have e3 := e2.cancel_right hp hnd
 refine small_eq hp h2 (leg_bound _ _) ?_ ((leg_cg hp h2 a).trans e3.symm)
 have : ∀ l : List Nat, prodL (fun k => sg (gup p a k)) l = 1 ∨ prodL (fun k => sg (gup p a k)) l = -1 := by
  intro l; induction l with
  | nil => left; rfl
  | cons k l ih =>
   simp only [prodL]
   rcases sg_cases (gup p a k) with e | e <;> rcases ih with f | f <;> rw [e, f] <;> simp
 rcases this (upTo ((p - 1) / 2)) with e | e <;> rw [e] <;> omega
theorem prod_sg (f : Nat → Nat) (l : List Nat) : prodL (fun k => sg (f k)) l = sg ((sumL (fun k => (f k : Int)) l).toNat) := by
 induction l with
 | nil => rfl
 | cons k l ih =>
  simp only [prodL, sumL]
  have := sumL_nonneg (fun k => (f k : Int)) l (fun k _ => by omega)
  rw [ih, show ((f k : Int) + sumL (fun k => (f k : Int)) l).toNat = f k + (sumL (fun k => (f k : Int)) l).toNat by omega, sg_add]
theorem gup_parity (hp : IsP p) (h2 : p ≠ 2) (ha : ¬ (p : Int) ∣ a) :
  sumL (fun k => (gup p a k : Int)) (upTo ((p - 1) / 2)) % 2 =
   ((a - 1) * sumL (fun k => (k : Int)) (upTo ((p - 1) / 2)) + sumL (fun k => (a * (k : Int)) / (p : Int)) (upTo ((p - 1) / 2))) % 2 := by
 have ho := hp.odd h2
 have e1 := sumL_perm (fun k => (k : Int)) (gdist_perm a hp h2 ha)
 rw [sumL_map] at e1
 have row : ∀ k, k ∈ upTo ((p - 1) / 2) → ∃ z : Int, a * (k : Int) = (p : Int) * ((a * (k : Int)) / (p : Int)) + (gdist p a k : Int) + (gup p a k : Int) + 2 * z := by
  intro k hk
  rw [mem_upTo] at hk
  have h := gres_pos a hp ha hk.1 (by omega)
  have h3 : (p : Int) * ((a * (k : Int)) / (p : Int)) + gres p a k = a * (k : Int) := Int.mul_ediv_add_emod _ _
  unfold gdist gup
  split
  ·exact ⟨0, by omega⟩
  ·exact ⟨gres p a k - (p + 1) / 2, by omega⟩
 have hsum : ∀ l : List Nat, (∀ k, k ∈ l → k ∈ upTo ((p - 1) / 2)) → ∃ z : Int, a * sumL (fun k => (k : Int)) l =
   (p : Int) * sumL (fun k => (a * (k : Int)) / (p : Int)) l + sumL (fun k => (gdist p a k : Int)) l + sumL (fun k => (gup p a k : Int)) l + 2 * z := by
  intro l
  induction l with
  | nil => intro _; exact ⟨0, by simp [sumL]⟩
  | cons k l ih =>
   intro hl
   obtain ⟨z1, h1⟩ := row k (hl k (by simp))
   obtain ⟨z2, h2⟩ := ih (fun j hj => hl j (by simp [hj]))
   refine ⟨z1 + z2, ?_⟩
   simp only [sumL]
   rw [Int.mul_add, Int.mul_add, h2]
   generalize (p : Int) * (a * (k : Int) / (p : Int)) = u at *
   omega
 obtain ⟨z, hz⟩ := hsum (upTo ((p - 1) / 2)) (fun _ h => h)
 rw [e1] at hz
 generalize sumL (fun k => (k : Int)) (upTo ((p - 1) / 2)) = S at *
 generalize sumL (fun k => (a * (k : Int)) / (p : Int)) (upTo ((p - 1) / 2)) = F at *
 generalize sumL (fun k => (gup p a k : Int)) (upTo ((p - 1) / 2)) = G at *
 obtain ⟨t, ht⟩ : ∃ t : Int, (p : Int) = 2 * t + 1 := ⟨(p : Int) / 2, by omega⟩
 rw [ht] at hz
 have e2 : (a - 1) * S = a * S - S := by rw [Int.sub_mul]; omega
 have e3 : (2 * t + 1) * F = 2 * (t * F) + F := by grind
 rw [e2, hz, e3]
 omega
theorem sum_upTo (n : Nat) : 2 * sumL (fun k => (k : Int)) (upTo n) = n * (n + 1) := by
 induction n with
 | zero => rfl
 | succ n ih =>
  rw [upTo_succ, sumL_append]
  simp only [sumL]
  rw [Int.mul_add, ih]; push_cast; grind
theorem leg_two (hp : IsP p) (h2 : p ≠ 2) : leg 2 p = sg ((p * p - 1) / 8) := by
 have ho := hp.odd h2
 have hp2 := hp.1
 have ha : ¬ (p : Int) ∣ 2 := fun hd => by have := Int.le_of_dvd (by omega) hd; omega
 rw [gauss 2 hp h2 ha, prod_sg]
 have hpar := gup_parity 2 hp h2 ha
 have hz : sumL (fun k => (2 * (k : Int)) / (p : Int)) (upTo ((p - 1) / 2)) = 0 := by
  rw [sumL_congr _ (fun _ => 0) _ (fun k hk => by rw [mem_upTo] at hk; exact Int.ediv_eq_zero_of_lt (by omega) (by omega)), sumL_zero]
 rw [hz] at hpar
 have hs := sum_upTo ((p - 1) / 2)
 have hn := sumL_nonneg (fun k => (gup p 2 k : Int)) (upTo ((p - 1) / 2)) (fun k _ => by omega)
 obtain ⟨t, ht⟩ : ∃ t, p = 2 * t + 1 := ⟨p / 2, by omega⟩
 have ht2 : (p - 1) / 2 = t := by omega
 rw [ht2] at hpar hs hn ⊢
 generalize sumL (fun k => (gup p 2 k : Int)) (upTo t) = G at *
 generalize sumL (fun k => (k : Int)) (upTo t) = S at *
 have e1 : (p * p - 1) = 4 * (t * (t + 1)) := by
  rw [ht]; rw [show (2 * t + 1) * (2 * t + 1) = 4 * (t * (t + 1)) + 1 by grind]; omega
 have e2 : ((t * (t + 1) : Nat) : Int) = 2 * S := by rw [hs]; push_cast; rfl
 rw [e1]
 generalize t * (t + 1) = T at *
 apply sg_congr
 omega
theorem count_le (p x : Nat) (hp : 0 < p) (m : Nat) : sumL (fun j => if p * j ≤ x then 1 else 0) (upTo m) = (min m (x / p) : Nat) := by
 induction m with
 | zero => simp [upTo, sumL]
 | succ m ih =>
  rw [upTo_succ, sumL_append, ih]
  simp only [sumL]
  have : p * (m + 1) ≤ x ↔ m + 1 ≤ x / p := by rw [Nat.le_div_iff_mul_le hp, Nat.mul_comm]
  split <;> omega
theorem eisenstein (p q h m : Nat) (hp : p = 2 * h + 1) (hq : q = 2 * m + 1) (hc : Nat.Coprime p q) :
  sumL (fun k => ((q * k / p : Nat) : Int)) (upTo h) + sumL (fun j => ((p * j / q : Nat) : Int)) (upTo m) = (h * m : Nat) := by
 have e1 : sumL (fun k => ((q * k / p : Nat) : Int)) (upTo h) = sumL (fun k => sumL (fun j => if p * j ≤ q * k then 1 else 0) (upTo m)) (upTo h) := by
  apply sumL_congr
  intro k hk
  rw [mem_upTo] at hk
  rw [count_le p (q * k) (by omega)]
  have : q * k / p ≤ m := by
   apply Nat.le_of_lt_succ
   rw [Nat.div_lt_iff_lt_mul (by omega)]
   have h1 : q * k ≤ q * h := Nat.mul_le_mul_left _ hk.2
   have h2 : q * h < (m + 1) * p := by rw [hp, hq]; grind
   exact Nat.lt_of_le_of_lt h1 h2
  rw [Nat.min_eq_right this]
 have e2 : sumL (fun j => ((p * j / q : Nat) : Int)) (upTo m) = sumL (fun j => sumL (fun k => if q * k ≤ p * j then 1 else 0) (upTo h)) (upTo m) := by
  apply sumL_congr
  intro j hj
  rw [mem_upTo] at hj
  rw [count_le q (p * j) (by omega)]
  have : p * j / q ≤ h := by
   apply Nat.le_of_lt_succ
   rw [Nat.div_lt_iff_lt_mul (by omega)]
   have h1 : p * j ≤ p * m := Nat.mul_le_mul_left _ hj.2
   have h2 : p * m < (h + 1) * q := by rw [hp, hq]; grind
   exact Nat.lt_of_le_of_lt h1 h2
  rw [Nat.min_eq_right this]
 rw [e1, e2, sumL_swap (fun j k => if q * k ≤ p * j then 1 else 0), ← sumL_add]
 have e3 : sumL (fun k => sumL (fun j => if p * j ≤ q * k then 1 else 0) (upTo m) + sumL (fun j => if q * k ≤ p * j then 1 else 0) (upTo m)) (upTo h) = sumL (fun _ => (m : Int)) (upTo h) := by
  apply sumL_congr
  intro k hk
  rw [mem_upTo] at hk
  rw [← sumL_add, sumL_congr _ (fun _ => 1), sumL_const, length_upTo]
  ·omega
  ·intro j hj
   rw [mem_upTo] at hj
   have hne : p * j ≠ q * k := by
    intro he
    have : p ∣ q * k := ⟨j, he.symm⟩
    have := hc.dvd_of_dvd_mul_left this
    have := Nat.le_of_dvd (by omega) this
    omega
   split <;> split <;> omega
 rw [e3, sumL_const, length_upTo]; push_cast; grind
theorem leg_odd (hp : IsP p) (h2 : p ≠ 2) {q : Nat} (hq : q % 2 = 1) (ha : ¬ p ∣ q) :
  leg (q : Int) p = sg (sumL (fun k => ((q * k / p : Nat) : Int)) (upTo ((p - 1) / 2))).toNat := by
 have ha' : ¬ (p : Int) ∣ (q : Int) := fun h => ha (Int.natCast_dvd_natCast.1 h)
 rw [gauss (q : Int) hp h2 ha', prod_sg]
 have hpar := gup_parity (q : Int) hp h2 ha'
 have e : sumL (fun k => ((q : Int) * (k : Int)) / (p : Int)) (upTo ((p - 1) / 2)) = sumL (fun k => ((q * k / p : Nat) : Int)) (upTo ((p - 1) / 2)) := by
  apply sumL_congr; intro k _; push_cast; rfl
 rw [e] at hpar
 have hn := sumL_nonneg (fun k => (gup p (q : Int) k : Int)) (upTo ((p - 1) / 2)) (fun k _ => by omega)
 have hn2 := sumL_nonneg (fun k => ((q * k / p : Nat) : Int)) (upTo ((p - 1) / 2)) (fun k _ => Int.natCast_nonneg _)
 generalize sumL (fun k => (gup p (q : Int) k : Int)) (upTo ((p - 1) / 2)) = G at *
 generalize sumL (fun k => ((q * k / p : Nat) : Int)) (upTo ((p - 1) / 2)) = F at *
 generalize sumL (fun k => (k : Int)) (upTo ((p - 1) / 2)) = S at *
 obtain ⟨t, ht⟩ : ∃ t : Int, (q : Int) - 1 = 2 * t := ⟨(q : Int) / 2, by omega⟩
 rw [ht, show 2 * t * S = 2 * (t * S) by grind] at hpar
 apply sg_congr
 omega
theorem reciprocity {p q : Nat} (hp : IsP p) (hq : IsP q) (hp2 : p ≠ 2) (hq2 : q ≠ 2) (hne : p ≠ q) :
  leg (q : Int) p * leg (p : Int) q = sg ((p - 1) / 2 * ((q - 1) / 2)) := by
 have hop := hp.odd hp2
 have hoq := hq.odd hq2
 have h1 : ¬ p ∣ q := fun h => hne (hp.eq_of_dvd hq h)
 have h2 : ¬ q ∣ p := fun h => hne (hq.eq_of_dvd hp h).symm
 rw [leg_odd hp hp2 hoq h1, leg_odd hq hq2 hop h2, ← sg_add]
 have he := eisenstein p q ((p - 1) / 2) ((q - 1) / 2) (by omega) (by omega) (hp.coprime h1)
 have n1 := sumL_nonneg (fun k => ((q * k / p : Nat) : Int)) (upTo ((p - 1) / 2)) (fun k _ => Int.natCast_nonneg _)
 have n2 := sumL_nonneg (fun k => ((p * k / q : Nat) : Int)) (upTo ((q - 1) / 2)) (fun k _ => Int.natCast_nonneg _)
 congr 1
 omega
end gauss
end FF
namespace FF
def vpF : Nat → Int → Int → Nat
 | 0, _, _ => 0
 | f + 1, p, n => if p ∣ n then vpF f p (n / p) + 1 else 0
def vp (p n : Int) : Nat := vpF n.natAbs p n
theorem natAbs_div_lt {p n : Int} (hp : 2 ≤ p) (hn : n ≠ 0) (hd : p ∣ n) : (n / p).natAbs < n.natAbs ∧ n / p ≠ 0 := by
 obtain ⟨k, rfl⟩ := hd
 have hk : k ≠ 0 := by rintro rfl; simp at hn
 rw [Int.mul_ediv_cancel_left _ (by omega), Int.natAbs_mul]
 refine ⟨?_, hk⟩
 have : 2 * k.natAbs ≤ p.natAbs * k.natAbs := Nat.mul_le_mul_right _ (by omega)
 omega
theorem vpF_fuel {p : Int} (hp : 2 ≤ p) (f g : Nat) : ∀ n : Int, n ≠ 0 → n.natAbs ≤ f → n.natAbs ≤ g → vpF f p n = vpF g p n := by
 induction f generalizing g with
 | zero => intro n h0 hf _; omega
 | succ f ih =>
  intro n h0 hf hg
  cases g with
  | zero => omega
  | succ g =>
   simp only [vpF]
   split
   ·rename_i hd
    have := natAbs_div_lt hp h0 hd
    rw [ih g (n / p) this.2 (by omega) (by omega)]
   ·rfl
theorem vp_dvd {p n : Int} (hp : 2 ≤ p) (hn : n ≠ 0) (hd : p ∣ n) : vp p n = vp p (n / p) + 1 := by
 have := natAbs_div_lt hp hn hd
 obtain ⟨f, hf⟩ : ∃ f, n.natAbs = f + 1 := ⟨n.natAbs - 1, by omega⟩
 unfold vp
 rw [hf]
 simp only [vpF, if_pos hd]
 rw [vpF_fuel hp f (n / p).natAbs (n / p) this.2 (by omega) (Nat.le_refl _)]
theorem vp_not {p n : Int} (hd : ¬ p ∣ n) : vp p n = 0 := by
 unfold vp
 cases n.natAbs with
 | zero => rfl
 | succ f => simp only [vpF, if_neg hd]
def rest (p n : Int) : Int := n / p ^ vp p n
theorem rest_dvd {p n : Int} (hp : 2 ≤ p) (hn : n ≠ 0) (hd : p ∣ n) : rest p n = rest p (n / p) := by
 unfold rest
 rw [vp_dvd hp hn hd, Int.pow_succ, Int.mul_comm, Int.ediv_ediv_of_nonneg (by omega)]
theorem rest_not {p n : Int} (hd : ¬ p ∣ n) : rest p n = n := by
 unfold rest; rw [vp_not hd]; simp
theorem vp_spec {p : Int} (hp : 2 ≤ p) : ∀ (f : Nat) (n : Int), n.natAbs ≤ f → n ≠ 0 → n = p ^ vp p n * rest p n ∧ ¬ p ∣ rest p n := by
 intro f
 induction f with
 | zero => intro n hf hn; omega
 | succ f ih =>
  intro n hf hn
  by_cases hd : p ∣ n
  ·have hl := natAbs_div_lt hp hn hd
   obtain ⟨h1, h2⟩ := ih (n / p) (by omega) hl.2
   rw [vp_dvd hp hn hd, rest_dvd hp hn hd]
   refine ⟨?_, h2⟩
   rw [Int.pow_succ, Int.mul_comm (p ^ _) p, Int.mul_assoc, ← h1, Int.mul_ediv_cancel' hd]
  ·rw [vp_not hd, rest_not hd]; exact ⟨by simp, hd⟩
theorem eq_pow_rest {p n : Int} (hp : 2 ≤ p) (hn : n ≠ 0) : n = p ^ vp p n * rest p n := (vp_spec hp _ n (Nat.le_refl _) hn).1
theorem not_dvd_rest {p n : Int} (hp : 2 ≤ p) (hn : n ≠ 0) : ¬ p ∣ rest p n := (vp_spec hp _ n (Nat.le_refl _) hn).2
theorem rest_ne {p n : Int} (hp : 2 ≤ p) (hn : n ≠ 0) : rest p n ≠ 0 := fun h => not_dvd_rest hp hn (h ▸ Int.dvd_zero p)
theorem rest_dvd_self {p n : Int} (hp : 2 ≤ p) (hn : n ≠ 0) : rest p n ∣ n := ⟨p ^ vp p n, by rw [Int.mul_comm]; exact eq_pow_rest hp hn⟩
theorem rest_natAbs_le {p n : Int} (hp : 2 ≤ p) (hn : n ≠ 0) : (rest p n).natAbs ≤ n.natAbs := Nat.le_of_dvd (by omega) (Int.natAbs_dvd_natAbs.2 (rest_dvd_self hp hn))
theorem vp_lt {p n : Int} (hp : 2 ≤ p) (hn : n ≠ 0) : 2 ^ vp p n ≤ n.natAbs := by
 have h := congrArg Int.natAbs (eq_pow_rest hp hn)
 rw [Int.natAbs_mul, Int.natAbs_pow] at h
 have h1 : 2 ^ vp p n ≤ p.natAbs ^ vp p n := Nat.pow_le_pow_left (by omega) _
 have h2 : 1 ≤ (rest p n).natAbs := by have := rest_ne hp hn; omega
 have h3 : p.natAbs ^ vp p n * 1 ≤ p.natAbs ^ vp p n * (rest p n).natAbs := Nat.mul_le_mul_left _ h2
 omega
theorem vp_unique {p : Int} (hp : 2 ≤ p) {k : Nat} {r : Int} (hr : ¬ p ∣ r) : vp p (p ^ k * r) = k ∧ rest p (p ^ k * r) = r := by
 have hr0 : r ≠ 0 := by rintro rfl; exact hr (Int.dvd_zero p)
 induction k with
 | zero => simp only [Int.pow_zero, Int.one_mul]; exact ⟨vp_not hr, rest_not hr⟩
 | succ k ih =>
  have e : p ^ (k + 1) * r = p * (p ^ k * r) := by rw [Int.pow_succ]; grind
  have hn : p ^ (k + 1) * r ≠ 0 := Int.mul_ne_zero (Int.pow_ne_zero (by omega)) hr0
  have hd : p ∣ p ^ (k + 1) * r := ⟨_, e⟩
  have hq : p ^ (k + 1) * r / p = p ^ k * r := by rw [e, Int.mul_ediv_cancel_left _ (by omega)]
  rw [vp_dvd hp hn hd, rest_dvd hp hn hd, hq, ih.1, ih.2]; exact ⟨rfl, rfl⟩
theorem rest_nonneg {p n : Int} (hp : 2 ≤ p) (hn : 0 < n) : 0 ≤ rest p n := by
 apply Classical.byContradiction; intro hc
 have e := eq_pow_rest hp (n := n) (by omega)
 have h1 : 0 < p ^ vp p n := Int.pow_pos (by omega)
 have h2 : p ^ vp p n * rest p n ≤ p ^ vp p n * 0 := Int.mul_le_mul_of_nonneg_left (by omega) (by omega)
 omega
theorem rest_pos {p n : Int} (hp : 2 ≤ p) (hn : 0 < n) : 0 < rest p n := by
 have := rest_nonneg hp hn; have := rest_ne hp (n := n) (by omega); omega
theorem cancel_gcd {a m b c : Int} (h : Int.gcd a m = 1) (hc : Cg m (a * b) (a * c)) : Cg m b c := by
 have h1 : m ∣ a * (b - c) := by rw [Int.mul_sub]; exact hc
 have h2 : Nat.Coprime m.natAbs a.natAbs := by
  have : Int.gcd m a = 1 := by rw [Int.gcd_comm]; exact h
  exact this
 rw [← Int.natAbs_dvd_natAbs, Int.natAbs_mul] at h1
 exact Int.natAbs_dvd_natAbs.1 (h2.dvd_of_dvd_mul_left h1)
theorem inv_exists {a m : Int} (hm : 0 < m) (h : Int.gcd a m = 1) : ∃ x : Nat, (x : Int) < m ∧ Cg m (a * (x : Int)) 1 := by
 let f : Nat → Nat := fun k => ((a * (k : Int)) % m).toNat
 have hf : ∀ k, ((f k : Nat) : Int) = (a * (k : Int)) % m := fun k => Int.toNat_of_nonneg (Int.emod_nonneg _ (by omega))
 have hperm : ((List.range m.toNat).map f).Perm (List.range m.toNat) := by
  refine perm_of_maps List.nodup_range f ?_ ?_
  ·intro k _
   rw [List.mem_range]
   have h1 := hf k
   have h2 := Int.emod_lt_of_pos (a * (k : Int)) hm
   omega
  ·intro i hi j hj he
   rw [List.mem_range] at hi hj
   have h1 := hf i; rw [he, hf j] at h1
   have h2 : Cg m (a * (i : Int)) (a * (j : Int)) := (Cg.of_emod h1).symm
   have := (cancel_gcd h h2).eq_of_bounds (by omega) (by omega) (by omega) (by omega)
   omega
 have h1 := Int.emod_nonneg 1 (b := m) (by omega)
 have h2 := Int.emod_lt_of_pos 1 hm
 have : (1 % m).toNat ∈ (List.range m.toNat).map f := hperm.mem_iff.2 (List.mem_range.2 (by omega))
 obtain ⟨k, hk, he⟩ := List.mem_map.1 this
 rw [List.mem_range] at hk
 have h3 := hf k
 rw [he] at h3
 exact ⟨k, by omega, Cg.of_emod (by omega)⟩
end FF
namespace FF
def minFac (n : Nat) : Nat := ((List.range (n + 1)).find? (fun d => decide (2 ≤ d) && decide (n % d = 0))).getD 0
theorem minFac_spec {n : Nat} (hn : 2 ≤ n) : IsP (minFac n) ∧ minFac n ∣ n := by
 unfold minFac
 cases h : (List.range (n + 1)).find? (fun d => decide (2 ≤ d) && decide (n % d = 0)) with
 | none =>
  rw [List.find?_eq_none] at h
  exact absurd (by simp; omega) (h n (List.mem_range.2 (by omega)))
 | some d =>
  simp only [Option.getD_some]
  have h1 := List.find?_some h
  simp only [Bool.and_eq_true, decide_eq_true_eq] at h1
  have hdn := Nat.dvd_of_mod_eq_zero h1.2
  refine ⟨?_, hdn⟩
  apply Classical.byContradiction; intro hc
  obtain ⟨p, hp, hpd, hpp⟩ := exists_small_prime_dvd h1.1 hc
  have hp2 := hp.1
  have hlt : p < d := by
   have : p * 2 ≤ p * p := Nat.mul_le_mul_left _ hp2
   omega
  rw [List.find?_range_eq_some] at h
  have := h.2.2 p hlt
  simp only [Bool.not_eq_true', Bool.and_eq_false_iff, decide_eq_false_iff_not] at this
  rcases this with h3 | h3
  ·omega
  ·exact h3 (Nat.mod_eq_zero_of_dvd (Nat.dvd_trans hpd hdn))
def jacF : Nat → Int → Nat → Int
 | 0, _, _ => 1
 | f + 1, a, n => if n < 2 then 1 else leg a (minFac n) * jacF f a (n / minFac n)
def Jac (a : Int) (n : Nat) : Int := jacF n a n
theorem div_minFac {n : Nat} (hn : 2 ≤ n) : n / minFac n < n ∧ 1 ≤ n / minFac n := by
 obtain ⟨h1, h2⟩ := minFac_spec hn
 have := h1.1
 exact ⟨Nat.div_lt_self (by omega) (by omega), Nat.div_pos (Nat.le_of_dvd (by omega) h2) (by omega)⟩
theorem jacF_fuel (a : Int) (f : Nat) : ∀ g n, n ≤ f → n ≤ g → jacF f a n = jacF g a n := by
  induction f with
  | zero => intro g n h1 h2; have : n = 0 := by omega
            subst this; cases g <;> simp [jacF]
  | succ f ih =>
    intro g n h1 h2
    cases g with
    | zero => have : n = 0 := by omega
              subst this; simp [jacF]
    | succ g =>
      simp only [jacF]
      split
      · rfl
      · have := div_minFac (n := n) (by omega)
        rw [ih g _ (by omega) (by omega)]
theorem jac_rec {n : Nat} (hn : 2 ≤ n) (a : Int) : Jac a n = leg a (minFac n) * Jac a (n / minFac n) := by
 unfold Jac
 obtain ⟨f, rfl⟩ : ∃ f, n = f + 1 := ⟨n - 1, by omega⟩
 have := div_minFac hn
 conv => lhs; unfold jacF
 rw [if_neg (by omega), jacF_fuel a f _ _ (by omega) (Nat.le_refl _)]
theorem jac_one (a : Int) : Jac a 1 = 1 := by simp [Jac, jacF]
theorem jac_prime_mul (a : Int) : ∀ b n p : Nat, n ≤ b → 1 ≤ n → IsP p → Jac a (p * n) = leg a p * Jac a n := by
 intro b
 induction b with
 | zero => intro n p h1 h2; omega
 | succ b ih =>
  intro n p hb hn hp
  have hp2 := hp.1
  have hpn : 2 ≤ p * n := by
   have : 2 * 1 ≤ p * n := Nat.mul_le_mul hp2 hn
   omega
  obtain ⟨hq, hqd⟩ := minFac_spec hpn
  rw [jac_rec hpn]
  generalize minFac (p * n) = q at *
  by_cases hqp : q = p
  ·subst hqp; rw [Nat.mul_div_cancel_left _ hq.pos]
  ·have hqn : q ∣ n := by
    rcases hq.dvd_mul hqd with h | h
    ·exact absurd (hq.eq_of_dvd hp h) hqp
    ·exact h
   obtain ⟨m, rfl⟩ := hqn
   have hm : 1 ≤ m := by apply Nat.pos_of_ne_zero; rintro rfl; simp at hn
   have hmq : m < q * m := by
    have h1 := hq.1
    have : 2 * m ≤ q * m := Nat.mul_le_mul_right _ h1
    omega
   have e : p * (q * m) / q = p * m := by
    refine Nat.div_eq_of_eq_mul_right hq.pos ?_
    grind
   rw [e, ih m p (by omega) hm hp, ih m q (by omega) hm hq]; grind
theorem odd_induction {P : Nat → Prop} (h1 : P 1) (hm : ∀ p n, IsP p → p ≠ 2 → n % 2 = 1 → P n → P (p * n)) : ∀ b n, n ≤ b → n % 2 = 1 → P n := by
 intro b
 induction b with
 | zero => intro n h1 h2; omega
 | succ b ih =>
  intro n hb hn
  by_cases hn1 : n = 1
  ·subst hn1; exact h1
  ·obtain ⟨hq, hqd⟩ := minFac_spec (n := n) (by omega)
   have hl := div_minFac (n := n) (by omega)
   generalize minFac n = q at *
   obtain ⟨k, rfl⟩ := hqd
   rw [Nat.mul_div_cancel_left _ hq.pos] at hl
   have hq2 : q ≠ 2 := by rintro rfl; omega
   have hk : k % 2 = 1 := by
    apply Classical.byContradiction; intro hc
    have : q * k % 2 = 0 := by rw [Nat.mul_mod, show k % 2 = 0 by omega]; simp
    omega
   exact hm q k hq hq2 hk (ih k (by omega) hk)
theorem jac_mul_left {n : Nat} (hn : n % 2 = 1) (a b : Int) : Jac (a * b) n = Jac a n * Jac b n := by
 refine odd_induction (P := fun n => Jac (a * b) n = Jac a n * Jac b n) ?_ ?_ n n (Nat.le_refl _) hn
 ·rw [jac_one, jac_one, jac_one]; rfl
 ·intro p n hp hp2 hn ih
  rw [jac_prime_mul _ n n p (Nat.le_refl _) (by omega) hp, jac_prime_mul _ n n p (Nat.le_refl _) (by omega) hp, jac_prime_mul _ n n p (Nat.le_refl _) (by omega) hp, ih, leg_mul hp hp2]; grind
theorem jac_congr {n : Nat} (hn : n % 2 = 1) {a b : Int} (h : Cg n a b) : Jac a n = Jac b n := by
 refine odd_induction (P := fun n => Cg n a b → Jac a n = Jac b n) ?_ ?_ n n (Nat.le_refl _) hn h
 ·intro _; rw [jac_one, jac_one]
 ·intro p n hp hp2 hn ih h
  rw [jac_prime_mul _ n n p (Nat.le_refl _) (by omega) hp, jac_prime_mul _ n n p (Nat.le_refl _) (by omega) hp]
  rw [leg_congr (h.of_dvd ⟨(n : Int), by push_cast; rfl⟩), ih (h.of_dvd ⟨(p : Int), by push_cast; rw [Int.mul_comm]⟩)]
theorem jac_one_left {n : Nat} (hn : n % 2 = 1) : Jac 1 n = 1 := by
 refine odd_induction (P := fun n => Jac 1 n = 1) (jac_one 1) ?_ n n (Nat.le_refl _) hn
 intro p n hp hp2 hn ih
 rw [jac_prime_mul _ n n p (Nat.le_refl _) (by omega) hp, ih, leg_one hp]; rfl
theorem jac_neg_one {n : Nat} (hn : n % 2 = 1) : Jac (-1) n = sg ((n - 1) / 2) := by
 refine odd_induction (P := fun n => Jac (-1) n = sg ((n - 1) / 2)) (jac_one _) ?_ n n (Nat.le_refl _) hn
 intro p n hp hp2 hn ih
 have ho := hp.odd hp2
 rw [jac_prime_mul _ n n p (Nat.le_refl _) (by omega) hp, ih, leg_neg_one hp hp2, ← sg_add]
 apply sg_congr
 obtain ⟨x, rfl⟩ : ∃ x, p = 2 * x + 1 := ⟨p / 2, by omega⟩
 obtain ⟨y, rfl⟩ : ∃ y, n = 2 * y + 1 := ⟨n / 2, by omega⟩
 have : (2 * x + 1) * (2 * y + 1) = 2 * (2 * (x * y) + x + y) + 1 := by grind
 rw [this]; omega
theorem sq_odd {n : Nat} (hn : n % 2 = 1) : ∃ x, n * n = 8 * x + 1 := by
 obtain ⟨y, rfl⟩ : ∃ y, n = 2 * y + 1 := ⟨n / 2, by omega⟩
 have : (y * (y + 1)) % 2 = 0 := by
  rcases Nat.mod_two_eq_zero_or_one y with h | h
  ·rw [Nat.mul_mod, h]; simp
  ·rw [Nat.mul_mod, show (y + 1) % 2 = 0 by omega]; simp
 refine ⟨y * (y + 1) / 2, ?_⟩
 have e : (2 * y + 1) * (2 * y + 1) = 4 * (y * (y + 1)) + 1 := by grind
 omega
theorem jac_two {n : Nat} (hn : n % 2 = 1) : Jac 2 n = sg ((n * n - 1) / 8) := by
 refine odd_induction (P := fun n => Jac 2 n = sg ((n * n - 1) / 8)) (jac_one _) ?_ n n (Nat.le_refl _) hn
 intro p n hp hp2 hn ih
 have ho := hp.odd hp2
 rw [jac_prime_mul _ n n p (Nat.le_refl _) (by omega) hp, ih, leg_two hp hp2, ← sg_add]
 apply sg_congr
 obtain ⟨x, hx⟩ := sq_odd ho
 obtain ⟨y, hy⟩ := sq_odd hn
 have : p * n * (p * n) = 8 * (8 * (x * y) + x + y) + 1 := by
  rw [show p * n * (p * n) = (p * p) * (n * n) by grind, hx, hy]; grind
 rw [this, hx, hy]; omega
theorem jac_two_mod {n : Nat} (hn : n % 2 = 1) : Jac 2 n = if n % 8 = 3 ∨ n % 8 = 5 then -1 else 1 := by
 rw [jac_two hn]
 have h : n * n % 16 = (n % 16) * (n % 16) % 16 := Nat.mul_mod n n 16
 have key : ∀ r, r < 16 → n % 16 = r → n * n % 16 = r * r % 16 := by intro r _ e; rw [h, e]
 have h2 : n % 16 = 1 ∨ n % 16 = 3 ∨ n % 16 = 5 ∨ n % 16 = 7 ∨ n % 16 = 9 ∨ n % 16 = 11 ∨ n % 16 = 13 ∨ n % 16 = 15 := by omega
 obtain ⟨x, hx⟩ := sq_odd hn
 rcases h2 with e | e | e | e | e | e | e | e <;> have k := key _ (by omega) e <;> rw [hx] at k ⊢
 ·rw [if_neg (by omega), sg_even (by omega)]
 ·rw [if_pos (by omega), sg_odd (by omega)]
 ·rw [if_pos (by omega), sg_odd (by omega)]
 ·rw [if_neg (by omega), sg_even (by omega)]
 ·rw [if_neg (by omega), sg_even (by omega)]
 ·rw [if_pos (by omega), sg_odd (by omega)]
 ·rw [if_pos (by omega), sg_odd (by omega)]
 ·rw [if_neg (by omega), sg_even (by omega)]
theorem jac_zero_of {n : Nat} (hn : n % 2 = 1) {a : Int} (h : Int.gcd a n ≠ 1) : Jac a n = 0 := by
 refine odd_induction (P := fun n => Int.gcd a n ≠ 1 → Jac a n = 0) ?_ ?_ n n (Nat.le_refl _) hn h
 ·intro h; exact absurd (by simp) h
 ·intro p n hp hp2 hn ih h
  rw [jac_prime_mul _ n n p (Nat.le_refl _) (by omega) hp]
  by_cases hpa : (p : Int) ∣ a
  ·rw [leg_zero hpa, Int.zero_mul]
  ·rw [ih, Int.mul_zero]
   intro hg
   apply h
   have c1 : Nat.Coprime p a.natAbs := hp.coprime (fun hd => hpa (by rw [← Int.natAbs_dvd_natAbs, Int.natAbs_natCast]; exact hd))
   have c2 : Nat.Coprime n a.natAbs := by
    have : Int.gcd a n = Nat.gcd a.natAbs n := rfl
    rw [this] at hg; exact Nat.Coprime.symm hg
   exact (c1.mul_left c2).symm
theorem jac_ne {n : Nat} (hn : n % 2 = 1) {a : Int} (h : Int.gcd a n = 1) : Jac a n = 1 ∨ Jac a n = -1 := by
 refine odd_induction (P := fun n => Int.gcd a n = 1 → Jac a n = 1 ∨ Jac a n = -1) ?_ ?_ n n (Nat.le_refl _) hn h
 ·intro _; left; exact jac_one a
 ·intro p n hp hp2 hn ih h
  have c : Nat.Coprime a.natAbs (p * n) := h
  have c1 : Nat.Coprime a.natAbs p := c.coprime_mul_right_right
  have c2 : Nat.Coprime a.natAbs n := c.coprime_mul_left_right
  have hpa : ¬ (p : Int) ∣ a := fun hd => by
   rw [← Int.natAbs_dvd_natAbs, Int.natAbs_natCast] at hd
   have := Nat.dvd_gcd hd (Nat.dvd_refl p)
   rw [c1] at this; exact hp.not_dvd_one this
  rw [jac_prime_mul _ n n p (Nat.le_refl _) (by omega) hp]
  rcases leg_ne hpa with e | e <;> rcases ih c2 with f | f <;> rw [e, f] <;> simp
theorem jac_sq {n : Nat} (hn : n % 2 = 1) {a : Int} (h : Int.gcd a n = 1) : Jac a n * Jac a n = 1 := by
 rcases jac_ne hn h with e | e <;> rw [e] <;> rfl
theorem jac_prime {p : Nat} (hp : IsP p) (a : Int) : Jac a p = leg a p := by
 have := jac_prime_mul a 1 1 p (Nat.le_refl _) (Nat.le_refl _) hp
 rw [Nat.mul_one, jac_one, Int.mul_one] at this; exact this
theorem half_mul {x y : Nat} (hx : x % 2 = 1) (hy : y % 2 = 1) : (x * y - 1) / 2 % 2 = ((x - 1) / 2 + (y - 1) / 2) % 2 := by
 obtain ⟨a, rfl⟩ : ∃ a, x = 2 * a + 1 := ⟨x / 2, by omega⟩
 obtain ⟨b, rfl⟩ : ∃ b, y = 2 * b + 1 := ⟨y / 2, by omega⟩
 have : (2 * a + 1) * (2 * b + 1) = 2 * (2 * (a * b) + a + b) + 1 := by grind
 rw [this]; omega
theorem sg_mul_half {x y z : Nat} (hx : x % 2 = 1) (hy : y % 2 = 1) : sg (z * ((x * y - 1) / 2)) = sg (z * ((x - 1) / 2)) * sg (z * ((y - 1) / 2)) := by
 rw [← sg_add]
 apply sg_congr
 rw [← Nat.mul_add, Nat.mul_mod, half_mul hx hy, ← Nat.mul_mod]
theorem jac_rec_prime {p : Nat} (hp : IsP p) (hp2 : p ≠ 2) {n : Nat} (hn : n % 2 = 1) (hd : ¬ p ∣ n) :
  leg (n : Int) p * Jac (p : Int) n = sg ((p - 1) / 2 * ((n - 1) / 2)) := by
 refine odd_induction (P := fun n => ¬ p ∣ n → leg (n : Int) p * Jac (p : Int) n = sg ((p - 1) / 2 * ((n - 1) / 2))) ?_ ?_ n n (Nat.le_refl _) hn hd
 ·intro _; rw [jac_one]; have := leg_one hp; simp only [Int.mul_one]; rw [show ((1 : Nat) : Int) = 1 by rfl, this]; rfl
 ·intro q n hq hq2 hn ih hd
  have h1 : ¬ p ∣ n := fun h => hd (Nat.dvd_trans h ⟨q, Nat.mul_comm _ _⟩)
  have h2 : p ≠ q := by rintro rfl; exact hd ⟨n, rfl⟩
  have hr := reciprocity hp hq hp2 hq2 h2
  rw [jac_prime_mul _ n n q (Nat.le_refl _) (by omega) hq, Int.natCast_mul, leg_mul hp hp2, sg_mul_half (hq.odd hq2) hn, ← ih h1, ← hr]; grind
theorem jac_reciprocity {m n : Nat} (hm : m % 2 = 1) (hn : n % 2 = 1) (hc : Nat.Coprime m n) :
  Jac (m : Int) n * Jac (n : Int) m = sg ((m - 1) / 2 * ((n - 1) / 2)) := by
 refine odd_induction (P := fun m => Nat.Coprime m n → Jac (m : Int) n * Jac (n : Int) m = sg ((m - 1) / 2 * ((n - 1) / 2))) ?_ ?_ m m (Nat.le_refl _) hm hc
 ·intro _; rw [jac_one, show ((1 : Nat) : Int) = 1 by rfl, jac_one_left hn]; simp [sg]
 ·intro q m hq hq2 hm ih hc
  have c1 : Nat.Coprime m n := hc.coprime_mul_left
  have c2 : Nat.Coprime q n := hc.coprime_mul_right
  have hqn : ¬ q ∣ n := fun h => by
   have := Nat.dvd_gcd (Nat.dvd_refl q) h
   rw [c2] at this; exact hq.not_dvd_one this
  have hr := jac_rec_prime hq hq2 hn hqn
  rw [Int.natCast_mul, jac_mul_left hn, jac_prime_mul _ m m q (Nat.le_refl _) (by omega) hq]
  have h3 : sg ((q * m - 1) / 2 * ((n - 1) / 2)) = sg ((q - 1) / 2 * ((n - 1) / 2)) * sg ((m - 1) / 2 * ((n - 1) / 2)) := by
   rw [Nat.mul_comm, sg_mul_half (hq.odd hq2) hm, Nat.mul_comm, Nat.mul_comm ((n - 1) / 2) ((m - 1) / 2)]
  rw [h3, ← ih c1, ← hr]; grind
theorem jac_flip {m n : Nat} (hm : m % 2 = 1) (hn : n % 2 = 1) :
  Jac (m : Int) n = Jac (n : Int) m * (if m % 4 = 3 ∧ n % 4 = 3 then -1 else 1) := by
 by_cases hc : Nat.Coprime m n
 ·have h1 := jac_reciprocity hm hn hc
  have h2 : Jac (n : Int) m * Jac (n : Int) m = 1 := jac_sq hm (by show Nat.gcd _ _ = 1; simpa using hc.symm)
  have h3 : sg ((m - 1) / 2 * ((n - 1) / 2)) = if m % 4 = 3 ∧ n % 4 = 3 then -1 else 1 := by
   by_cases c1 : m % 4 = 3
   ·rw [sg_mul_odd (by omega)]
    by_cases c2 : n % 4 = 3
    ·rw [if_pos ⟨c1, c2⟩, sg_odd (by omega)]
    ·rw [if_neg (fun h => c2 h.2), sg_even (by omega)]
   ·rw [if_neg (fun h => c1 h.1), sg_even]
    rw [Nat.mul_mod, show (m - 1) / 2 % 2 = 0 by omega]; simp
  rw [← h3, ← h1]
  calc Jac (m : Int) n = Jac (m : Int) n * (Jac (n : Int) m * Jac (n : Int) m) := by rw [h2, Int.mul_one]
   _ = _ := by grind
 ·rw [jac_zero_of hn (a := (m : Int)) (by show Nat.gcd _ _ ≠ 1; simpa using hc), jac_zero_of hm (a := (n : Int)) (by show Nat.gcd _ _ ≠ 1; rw [Nat.gcd_comm]; simpa using hc), Int.zero_mul]
theorem jac_zero_left {n : Nat} (hn : n % 2 = 1) : Jac 0 n = if n = 1 then 1 else 0 := by
 split
 ·rename_i h; subst h; exact jac_one 0
 ·rename_i h; apply jac_zero_of hn; simp; omega
theorem jac_pow {n : Nat} (hn : n % 2 = 1) (a : Int) (k : Nat) : Jac (a ^ k) n = Jac a n ^ k := by
 induction k with
 | zero => simp [jac_one_left hn]
 | succ k ih => rw [Int.pow_succ, jac_mul_left hn, ih, Int.pow_succ]
end FF
namespace FF
theorem jac_step {x n : Int} (hx : 0 < x) (hn : 0 < n) (ho : n % 2 = 1) :
  Jac x n.toNat = (if vp 2 x % 2 = 1 ∧ (n % 8 = 3 ∨ n % 8 = 5) then -1 else 1) * (if rest 2 x % 4 = 3 ∧ n % 4 = 3 then -1 else 1) * Jac (n % rest 2 x) (rest 2 x).toNat := by
 have e := eq_pow_rest (p := 2) (n := x) (by omega) (by omega)
 have hr := not_dvd_rest (p := 2) (n := x) (by omega) (by omega)
 have h0 : 0 < rest 2 x := by
  apply Classical.byContradiction; intro hc
  have h1 : (0 : Int) < 2 ^ vp 2 x := Int.pow_pos (by omega)
  have h2 : 2 ^ vp 2 x * rest 2 x ≤ 2 ^ vp 2 x * 0 := Int.mul_le_mul_of_nonneg_left (by omega) (by omega)
  omega
 generalize rest 2 x = r at *
 generalize vp 2 x = k at *
 obtain ⟨N, rfl⟩ : ∃ N : Nat, n = (N : Int) := ⟨n.toNat, by omega⟩
 obtain ⟨R, rfl⟩ : ∃ R : Nat, r = (R : Int) := ⟨r.toNat, by omega⟩
 rw [Int.toNat_natCast, Int.toNat_natCast]
 have hN : N % 2 = 1 := by omega
 have hR : R % 2 = 1 := by omega
 rw [e, jac_mul_left hN, jac_pow hN, jac_two_mod hN, jac_flip hR hN, jac_congr hR (Cg.emod (R : Int) (N : Int))]
 have e1 : (if N % 8 = 3 ∨ N % 8 = 5 then (-1 : Int) else 1) ^ k = if k % 2 = 1 ∧ ((N : Int) % 8 = 3 ∨ (N : Int) % 8 = 5) then -1 else 1 := by
  by_cases c : N % 8 = 3 ∨ N % 8 = 5
  ·rw [if_pos c]
   by_cases c2 : k % 2 = 1
   ·rw [if_pos ⟨c2, by omega⟩, show k = 2 * (k / 2) + 1 by omega, Int.pow_succ, Int.pow_mul, show ((-1 : Int)) ^ 2 = 1 by decide, Int.one_pow]; rfl
   ·rw [if_neg (fun h => c2 h.1), show k = 2 * (k / 2) by omega, Int.pow_mul, show ((-1 : Int)) ^ 2 = 1 by decide, Int.one_pow]
  ·rw [if_neg c, if_neg (by omega), Int.one_pow]
 have e2 : (if R % 4 = 3 ∧ N % 4 = 3 then (-1 : Int) else 1) = if (R : Int) % 4 = 3 ∧ (N : Int) % 4 = 3 then -1 else 1 := by
  by_cases c : R % 4 = 3 ∧ N % 4 = 3
  ·rw [if_pos c, if_pos (by omega)]
  ·rw [if_neg c, if_neg (by omega)]
 rw [e1, e2]; grind
end FF
namespace FF
def three (n : Int) : Bool := n % 4 == 3
def far (n : Int) : Bool := n % 8 == 3 || n % 8 == 5
def oddB (k : Nat) : Bool := (k : Int) % 2 == 1
def hil2 (tu tv oi fv ok fu : Bool) : Int := if (((tu && tv) != (oi && fv)) != (ok && fu)) = true then -1 else 1
def hilp (oi ok p3 : Bool) (ju jv : Int) : Int := (if (oi && ok && p3) = true then -1 else 1) * (if ok = true then ju else 1) * (if oi = true then jv else 1)
def Hil (a b p : Int) : Int :=
 if p = 0 then (if a < 0 ∧ b < 0 then -1 else 1)
 else if p = 2 then hil2 (three (rest 2 a)) (three (rest 2 b)) (oddB (vp 2 a)) (far (rest 2 b)) (oddB (vp 2 b)) (far (rest 2 a))
 else hilp (oddB (vp p a)) (oddB (vp p b)) (three p) (leg (rest p a) p.toNat) (leg (rest p b) p.toNat)
theorem hil2_comm (a b c d e f : Bool) : hil2 a b c d e f = hil2 b a e f c d := by
 revert a b c d e f; decide
theorem hilp_comm (a b c : Bool) (x y : Int) : hilp a b c x y = hilp b a c y x := by
 unfold hilp; cases a <;> cases b <;> cases c <;> simp <;> grind
theorem hil_comm (a b p : Int) : Hil a b p = Hil b a p := by
 unfold Hil
 by_cases h0 : p = 0
 ·rw [if_pos h0, if_pos h0]; by_cases h : a < 0 <;> by_cases g : b < 0 <;> simp [h, g]
 ·rw [if_neg h0, if_neg h0]
  by_cases h2 : p = 2
  ·rw [if_pos h2, if_pos h2]; exact hil2_comm ..
  ·rw [if_neg h2, if_neg h2]; exact hilp_comm ..
theorem vp_neg {p n : Int} (hp : 2 ≤ p) (hn : n ≠ 0) : vp p (-n) = vp p n ∧ rest p (-n) = -rest p n := by
 have e := eq_pow_rest hp hn
 have h := not_dvd_rest hp hn
 have h2 : ¬ p ∣ -rest p n := fun hd => h (Int.dvd_neg.1 hd)
 have := vp_unique hp (k := vp p n) h2
 rw [Int.mul_neg, ← e] at this; exact this
theorem vp_mul {p : Nat} (hp : IsP p) {m n : Int} (hm : m ≠ 0) (hn : n ≠ 0) :
  vp p (m * n) = vp p m + vp p n ∧ rest p (m * n) = rest p m * rest p n := by
 have hp2 : (2 : Int) ≤ p := by have := hp.1; omega
 have e1 := eq_pow_rest hp2 hm
 have e2 := eq_pow_rest hp2 hn
 have h : ¬ (p : Int) ∣ rest p m * rest p n := fun hd => by
  rcases hp.idvd_mul hd with h | h
  ·exact not_dvd_rest hp2 hm h
  ·exact not_dvd_rest hp2 hn h
 have := vp_unique hp2 (k := vp p m + vp p n) h
 have e3 : (p : Int) ^ (vp p m + vp p n) * (rest p m * rest p n) = m * n := by
  rw [Int.pow_add]
  calc _ = (p ^ vp p m * rest p m) * (p ^ vp p n * rest p n) := by grind
   _ = m * n := by rw [← e1, ← e2]
 rw [e3] at this; exact this
theorem odd_rest_two {n : Int} (hn : n ≠ 0) : rest 2 n % 2 = 1 := by
 have := not_dvd_rest (p := 2) (n := n) (by omega) hn; omega
theorem leg_neg {p : Nat} (hp : IsP p) (h2 : p ≠ 2) (u : Int) : leg (-u) p = leg (-1) p * leg u p := by
 rw [← leg_mul hp h2]; congr 1; omega
theorem three_prime {p : Nat} (hp : IsP p) (h2 : p ≠ 2) : leg (-1) p = if three p = true then -1 else 1 := by
 have ho := hp.odd h2
 rw [leg_neg_one hp h2]
 unfold three
 by_cases h : (p : Int) % 4 = 3
 ·rw [if_pos (beq_iff_eq.2 h), sg_odd (by omega)]
 ·rw [if_neg (fun e => h (beq_iff_eq.1 e)), sg_even (by omega)]
theorem hil_neg {a p : Int} (ha : a ≠ 0) (hp : p = 0 ∨ IsP p.toNat) : Hil a (-a) p = 1 := by
 unfold Hil
 by_cases h0 : p = 0
 ·rw [if_pos h0, if_neg (by omega)]
 ·rw [if_neg h0]
  have hpr : IsP p.toNat := by rcases hp with h | h; exact absurd h h0; exact h
  have hp2 := hpr.1
  by_cases h2 : p = 2
  ·subst h2
   rw [if_pos rfl]
   obtain ⟨e1, e2⟩ := vp_neg (p := 2) (by omega) ha
   have ho := odd_rest_two ha
   rw [e1, e2]
   generalize rest 2 a = u at *
   have f1 : (three u && three (-u)) = false := by
    unfold three
    by_cases h : u % 4 = 3
    ·rw [show ((-u) % 4 == 3) = false from beq_eq_false_iff_ne.2 (by omega), Bool.and_false]
    ·rw [show (u % 4 == 3) = false from beq_eq_false_iff_ne.2 h, Bool.false_and]
   have f2 : far (-u) = far u := by
    unfold far
    rw [Bool.eq_iff_iff]; simp only [Bool.or_eq_true, beq_iff_eq]; omega
   unfold hil2
   rw [f1, f2]
   cases oddB (vp 2 a) <;> cases far u <;> rfl
  ·rw [if_neg h2]
   obtain ⟨e1, e2⟩ := vp_neg (p := p) (by omega) ha
   obtain ⟨P, rfl⟩ : ∃ P : Nat, p = (P : Int) := ⟨p.toNat, by omega⟩
   rw [Int.toNat_natCast] at *
   have hP2 : P ≠ 2 := by rintro rfl; exact h2 rfl
   rw [e1, e2, leg_neg hpr hP2, three_prime hpr hP2]
   have hsq := leg_sq (p := P) (a := rest P a) (not_dvd_rest (by omega) ha)
   unfold hilp
   generalize leg (rest P a) P = x at *
   cases oddB (vp P a) <;> cases three P <;> simp <;> grind
theorem hilp_sum {s t h : Nat} {ju jv : Int} {p : Int} (hju : ju = 1 ∨ ju = -1) (hjv : jv = 1 ∨ jv = -1) (hh : h % 2 = 1 ↔ three p = true) :
  hilp (oddB s) (oddB t) (three p) ju jv = if (s * t * h + (if ju < 0 then t else 0) + (if jv < 0 then s else 0)) % 2 = 1 then -1 else 1 := by
 unfold hilp oddB
 have e1 : (((s : Int) % 2 == 1) = true) ↔ s % 2 = 1 := by rw [beq_iff_eq]; omega
 have e2 : (((t : Int) % 2 == 1) = true) ↔ t % 2 = 1 := by rw [beq_iff_eq]; omega
 have e3 : s * t * h % 2 = (s % 2) * (t % 2) * (h % 2) % 2 := by
  rw [Nat.mul_mod (s * t), Nat.mul_mod s t, Nat.mod_mul_mod]
 simp only [Bool.and_eq_true, e1, e2, ← hh]
 generalize s * t * h = q at *
 rcases Nat.mod_two_eq_zero_or_one s with a | a <;> rcases Nat.mod_two_eq_zero_or_one t with b | b <;> rcases Nat.mod_two_eq_zero_or_one h with c | c <;>
  rw [a, b, c] at e3 <;> simp at e3 <;> rcases hju with rfl | rfl <;> rcases hjv with rfl | rfl <;> simp [a, b, c] <;> omega
end FF
namespace FF
theorem hil2_sum {a b : Int} {s t : Nat} (ha : a % 2 = 1) (hb : b % 2 = 1) :
  hil2 (three a) (three b) (oddB s) (far b) (oddB t) (far a) =
   if ((a % 8 - 1) / 2 * ((b % 8 - 1) / 2) + (s : Int) * ((b % 8 * (b % 8) - 1) / 8) + (t : Int) * ((a % 8 * (a % 8) - 1) / 8)) % 2 = 1 then -1 else 1 := by
 have ea : a % 8 = 1 ∨ a % 8 = 3 ∨ a % 8 = 5 ∨ a % 8 = 7 := by omega
 have eb : b % 8 = 1 ∨ b % 8 = 3 ∨ b % 8 = 5 ∨ b % 8 = 7 := by omega
 have t4 : ∀ x : Int, three x = (x % 8 % 4 == 3) := by
  intro x; unfold three; rw [Bool.eq_iff_iff, beq_iff_eq, beq_iff_eq]; omega
 have f8 : ∀ x : Int, far x = (x % 8 == 3 || x % 8 == 5) := fun _ => rfl
 rw [t4, t4, f8, f8]
 have os : ∀ k : Nat, oddB k = decide (k % 2 = 1) := by
  intro k; unfold oddB; rw [Bool.eq_iff_iff, beq_iff_eq, decide_eq_true_iff]; omega
 rw [os, os]
 rcases Nat.mod_two_eq_zero_or_one s with p1 | p1 <;> rcases Nat.mod_two_eq_zero_or_one t with p2 | p2 <;>
  rcases ea with e1 | e1 | e1 | e1 <;> rcases eb with e2 | e2 | e2 | e2 <;> rw [e1, e2, p1, p2] <;> simp [hil2] <;> omega
end FF
end
section
namespace Go.Proofs.YtimdkjbmeogpoaaGreatDoor
open Go.RowKit FF
theorem ret_int {k : IntKind} {a b : Int} (h : a = b) : Ending.returned (.int k a) = .returned (.int k b) := by rw [h]
theorem ret_bool {a b : Bool} (h : a = b) : Ending.returned (.bool a) = .returned (.bool b) := by rw [h]
theorem ret_two {k l : IntKind} {a b c d : Int} (h : a = b) (g : c = d) : Ending.returned (.tuple #[.int k a, .int l c]) = .returned (.tuple #[.int k b, .int l d]) := by rw [h, g]
def I64 (a : Int) : Prop := -9223372036854775808 ≤ a ∧ a ≤ 9223372036854775807
def Ret (w : World) (v : Value) (e : Ending) (w' : World) : Prop := e = .returned v ∧ ∃ n, w' = w.drewN n
theorem Ret.mk {w : World} {v : Value} (n : Nat) : Ret w v (.returned v) (w.drewN n) := ⟨rfl, n, rfl⟩
theorem Ret.eq {w : World} {v v' : Value} (n : Nat) (h : Ending.returned v = .returned v') : Ret w v' (.returned v) (w.drewN n) := ⟨h, n, rfl⟩
theorem Ret.eq0 {w : World} {v v' : Value} (h : Ending.returned v = .returned v') : Ret w v' (.returned v) w := ⟨h, 0, rfl⟩
theorem Ret.eqqq {w : World} {v v' : Value} (a b c : Nat) (h : Ending.returned v = .returned v') : Ret w v' (.returned v) (((w.drewN a).drewN b).drewN c) := ⟨h, a + (b + c), by rw [World.drewN_drewN, World.drewN_drewN]⟩
theorem beq_t {a b : Int} (h : (a == b) = true) : a = b := beq_iff_eq.1 h
theorem beq_f {a b : Int} (h : (a == b) = false) : a ≠ b := beq_eq_false_iff_ne.1 h
theorem t_beq {a b : Int} (h : a = b) : (a == b) = true := beq_iff_eq.2 h
theorem f_beq {a b : Int} (h : a ≠ b) : (a == b) = false := beq_eq_false_iff_ne.2 h
theorem tmod_emod {a m : Int} (hm : 0 < m) : a % m = if a.tmod m < 0 then a.tmod m + m else a.tmod m := by
 have h := Int.emod_eq_tmod (a := a) (b := m)
 have e0 := Int.emod_nonneg a (b := m) (by omega)
 have e1 := Int.emod_lt_of_pos a hm
 have t1 := Int.tmod_lt_of_pos a hm
 have t2 := Int.lt_tmod_of_pos a hm
 by_cases hc : 0 ≤ a ∨ m ∣ a
 ·rw [if_pos hc] at h; rw [if_neg (by omega)]; omega
 ·rw [if_neg hc] at h; rw [if_pos (by omega)]; omega
theorem gcd_tmod (a b : Int) : Int.gcd b (a.tmod b) = Int.gcd a b := by
 unfold Int.gcd; rw [Int.natAbs_tmod, Nat.gcd_comm, ← Nat.gcd_rec, Nat.gcd_comm]
end Go.Proofs.YtimdkjbmeogpoaaGreatDoor
namespace Go.Proofs.YtimdkjbmeogpoaaGreatDoor
theorem lm0 {α : Type _} {a : α} {l : List α} : a ∈ a :: l := List.mem_cons_self ..
theorem lm1 {α : Type _} {a b0 : α} {l : List α} : a ∈ b0 :: a :: l := List.mem_cons_of_mem _ lm0
theorem lm2 {α : Type _} {a b0 b1 : α} {l : List α} : a ∈ b0 :: b1 :: a :: l := List.mem_cons_of_mem _ lm1
theorem lm3 {α : Type _} {a b0 b1 b2 : α} {l : List α} : a ∈ b0 :: b1 :: b2 :: a :: l := List.mem_cons_of_mem _ lm2
theorem lm4 {α : Type _} {a b0 b1 b2 b3 : α} {l : List α} : a ∈ b0 :: b1 :: b2 :: b3 :: a :: l := List.mem_cons_of_mem _ lm3
theorem lm5 {α : Type _} {a b0 b1 b2 b3 b4 : α} {l : List α} : a ∈ b0 :: b1 :: b2 :: b3 :: b4 :: a :: l := List.mem_cons_of_mem _ lm4
theorem lm6 {α : Type _} {a b0 b1 b2 b3 b4 b5 : α} {l : List α} : a ∈ b0 :: b1 :: b2 :: b3 :: b4 :: b5 :: a :: l := List.mem_cons_of_mem _ lm5
theorem lhd {p : Prop} (h : p) : RowKit.Hid p := h
end Go.Proofs.YtimdkjbmeogpoaaGreatDoor
end
section
namespace FF
def val (B : Nat) : List Nat → Nat
 | [] => 0
 | x :: xs => x + B * val B xs
def Dig (B : Nat) (xs : List Nat) : Prop := ∀ x, x ∈ xs → x < B
def digF (B : Nat) : Nat → Nat → List Nat
 | 0, _ => []
 | f + 1, n => if n = 0 then [] else n % B :: digF B f (n / B)
def digs (B n : Nat) : List Nat := digF B n n
theorem digF_fuel {B : Nat} (hB : 2 ≤ B) (f : Nat) : ∀ g n, n ≤ f → n ≤ g → digF B f n = digF B g n := by
  induction f with
  | zero => intro g n h1 h2; have : n = 0 := by omega
            subst this; cases g <;> simp [digF]
  | succ f ih =>
    intro g n h1 h2
    cases g with
    | zero => have : n = 0 := by omega
              subst this; simp [digF]
    | succ g =>
      simp only [digF]
      split
      · rfl
      · have : n / B < n := Nat.div_lt_self (by omega) (by omega)
        rw [ih g (n / B) (by omega) (by omega)]
theorem digs_zero (B : Nat) : digs B 0 = [] := rfl
theorem digs_pos {B : Nat} (hB : 2 ≤ B) {n : Nat} (hn : n ≠ 0) : digs B n = n % B :: digs B (n / B) := by
 unfold digs
 obtain ⟨f, rfl⟩ : ∃ f, n = f + 1 := ⟨n - 1, by omega⟩
 have : (f + 1) / B < f + 1 := Nat.div_lt_self (by omega) (by omega)
 conv => lhs; unfold digF
 rw [if_neg hn, digF_fuel hB f _ _ (by omega) (Nat.le_refl _)]
theorem digs_add {B : Nat} (hB : 2 ≤ B) {x n : Nat} (hx : x < B) (h : x ≠ 0 ∨ n ≠ 0) : digs B (x + B * n) = x :: digs B n := by
 have h0 : x + B * n ≠ 0 := by
  rcases h with h | h
  ·omega
  ·have : 0 < B * n := Nat.mul_pos (by omega) (by omega)
   omega
 rw [digs_pos hB h0, Nat.add_mul_mod_self_left, Nat.mod_eq_of_lt hx, Nat.add_mul_div_left _ _ (by omega), Nat.div_eq_of_lt hx, Nat.zero_add]
theorem val_digs {B : Nat} (hB : 2 ≤ B) : ∀ b n, n ≤ b → val B (digs B n) = n := by
  intro b
  induction b with
  | zero => intro n h; have : n = 0 := by omega
            subst this; rfl
  | succ b ih =>
    intro n h
    by_cases h0 : n = 0
    · subst h0; rfl
    · rw [digs_pos hB h0]
      simp only [val]
      have : n / B < n := Nat.div_lt_self (by omega) (by omega)
      rw [ih (n / B) (by omega), Nat.mod_add_div]
theorem val_digs' {B : Nat} (hB : 2 ≤ B) (n : Nat) : val B (digs B n) = n := val_digs hB n n (Nat.le_refl _)
theorem dig_digs {B : Nat} (hB : 2 ≤ B) : ∀ b n, n ≤ b → Dig B (digs B n) := by
  intro b
  induction b with
  | zero => intro n h; have : n = 0 := by omega
            subst this; intro x hx; simp [digs, digF] at hx
  | succ b ih =>
    intro n h
    by_cases h0 : n = 0
    · subst h0; intro x hx; simp [digs, digF] at hx
    · rw [digs_pos hB h0]
      have : n / B < n := Nat.div_lt_self (by omega) (by omega)
      intro x hx
      rcases List.mem_cons.1 hx with rfl | hx
      · exact Nat.mod_lt _ (by omega)
      · exact ih (n / B) (by omega) x hx
theorem dig_digs' {B : Nat} (hB : 2 ≤ B) (n : Nat) : Dig B (digs B n) := dig_digs hB n n (Nat.le_refl _)
theorem Dig.tail {B x : Nat} {xs : List Nat} (h : Dig B (x :: xs)) : Dig B xs := fun y hy => h y (by simp [hy])
theorem Dig.head {B x : Nat} {xs : List Nat} (h : Dig B (x :: xs)) : x < B := h x (by simp)
theorem val_append (B : Nat) (xs ys : List Nat) : val B (xs ++ ys) = val B xs + B ^ xs.length * val B ys := by
 induction xs with
 | nil => simp [val]
 | cons x xs ih => simp only [List.cons_append, val, ih, List.length_cons, Nat.pow_succ]; grind
theorem val_snoc_zero (B : Nat) (xs : List Nat) : val B (xs ++ [0]) = val B xs := by
 rw [val_append]; simp [val]
theorem val_lt {B : Nat} {xs : List Nat} (h : Dig B xs) : val B xs < B ^ xs.length := by
 induction xs with
 | nil => simp [val]
 | cons x xs ih =>
  simp only [val, List.length_cons, Nat.pow_succ]
  have h1 := h.head
  have h2 := ih h.tail
  have h3 : B * val B xs + B ≤ B * B ^ xs.length := by
   rw [← Nat.mul_succ]; exact Nat.mul_le_mul_left _ h2
  rw [Nat.mul_comm (B ^ xs.length)]; omega
theorem digs_val {B : Nat} (hB : 2 ≤ B) {xs : List Nat} (h : Dig B xs) (hl : xs.getLast? ≠ some 0) : digs B (val B xs) = xs := by
 induction xs with
 | nil => rfl
 | cons x xs ih =>
  have hx := h.head
  cases xs with
  | nil =>
   have : x ≠ 0 := by intro e; rw [e] at hl; simp at hl
   simp only [val, Nat.mul_zero, Nat.add_zero]
   have := digs_add hB hx (n := 0) (Or.inl this)
   simpa [digs_zero] using this
  | cons y ys =>
   have hl' : (y :: ys).getLast? ≠ some 0 := by rw [List.getLast?_cons_cons] at hl; exact hl
   have hi := ih h.tail hl'
   show digs B (x + B * val B (y :: ys)) = _
   have hne : val B (y :: ys) ≠ 0 := by
    intro e; rw [e, digs_zero] at hi; simp at hi
   rw [digs_add hB hx (Or.inr hne), hi]
theorem digs_length_le {B : Nat} (hB : 2 ≤ B) {n k : Nat} (h : n < B ^ k) : (digs B n).length ≤ k := by
  induction k generalizing n with
  | zero => have : n = 0 := by simp at h; omega
            subst this; simp [digs, digF]
  | succ k ih =>
    by_cases h0 : n = 0
    · subst h0; simp [digs, digF]
    · rw [digs_pos hB h0, List.length_cons]
      have : n / B < B ^ k := by rw [Nat.div_lt_iff_lt_mul (by omega)]; rw [Nat.pow_succ] at h; exact h
      have := ih this; omega
theorem lt_pow_digs {B : Nat} (hB : 2 ≤ B) (n : Nat) : n < B ^ (digs B n).length := by
 have := val_lt (B := B) (dig_digs' hB n)
 rwa [val_digs' hB] at this
theorem pow_le_digs {B : Nat} (hB : 2 ≤ B) {n : Nat} (hn : n ≠ 0) : B ^ ((digs B n).length - 1) ≤ n := by
 apply Classical.byContradiction; intro hc
 have h1 := digs_length_le hB (Nat.lt_of_not_le hc)
 have h2 : (digs B n).length ≠ 0 := by rw [digs_pos hB hn]; simp
 omega
theorem digs_nil {B : Nat} (hB : 2 ≤ B) {n : Nat} : (digs B n).length = 0 ↔ n = 0 := by
 constructor
 ·intro h
  apply Classical.byContradiction; intro hn
  rw [digs_pos hB hn] at h; simp at h
 ·rintro rfl; rfl
theorem take_trim {B : Nat} (hB : 2 ≤ B) {xs : List Nat} (h : Dig B xs) {k : Nat} (hk : k ≤ xs.length) (hv : val B (xs.take k) = val B xs)
  (hl : 0 < k → xs.getD (k - 1) 0 ≠ 0) : xs.take k = digs B (val B xs) := by
 have hd : Dig B (xs.take k) := fun x hx => h x (List.mem_of_mem_take hx)
 rw [← hv, digs_val hB hd]
 by_cases h0 : k = 0
 ·subst h0; simp
 ·have h1 := hl (by omega)
  rw [List.getLast?_eq_getElem?, List.length_take, Nat.min_eq_left hk, List.getElem?_take_of_lt (by omega)]
  intro e
  rw [List.getD_eq_getElem?_getD, e] at h1; simp at h1
theorem val_take_zero {B : Nat} {xs : List Nat} {k : Nat} (hk : k < xs.length) (h0 : xs.getD k 0 = 0) (hv : val B (xs.take (k + 1)) = val B xs) : val B (xs.take k) = val B xs := by
 rw [← hv, List.take_succ_eq_append_getElem hk]
 have : xs[k] = 0 := by rw [List.getD_eq_getElem?_getD, List.getElem?_eq_getElem hk] at h0; simpa using h0
 rw [this, val_snoc_zero]
theorem Dig.getD {B : Nat} (hB : 0 < B) {xs : List Nat} (h : Dig B xs) (i : Nat) : xs.getD i 0 < B := by
 rw [List.getD_eq_getElem?_getD]
 by_cases hi : i < xs.length
 ·rw [List.getElem?_eq_getElem hi]; exact h _ (List.getElem_mem hi)
 ·rw [List.getElem?_eq_none (by omega)]; simpa using hB
theorem val_split (B : Nat) (xs : List Nat) (i : Nat) : val B xs = val B (xs.take i) + B ^ (min i xs.length) * val B (xs.drop i) := by
 conv => lhs; rw [← List.take_append_drop i xs, val_append, List.length_take]
theorem val_take_succ {B : Nat} {xs : List Nat} {i : Nat} (hi : i < xs.length) : val B (xs.take (i + 1)) = val B (xs.take i) + B ^ i * xs.getD i 0 := by
 rw [List.take_succ_eq_append_getElem hi, val_append, List.length_take, Nat.min_eq_left (by omega)]
 have : xs.getD i 0 = xs[i] := by rw [List.getD_eq_getElem?_getD, List.getElem?_eq_getElem hi]; rfl
 rw [this]; simp [val]
theorem val_take_succ' {B : Nat} (xs : List Nat) (i : Nat) : val B (xs.take (i + 1)) = val B (xs.take i) + B ^ i * xs.getD i 0 := by
 by_cases hi : i < xs.length
 ·exact val_take_succ hi
 ·rw [List.take_of_length_le (by omega), List.take_of_length_le (by omega), List.getD_eq_getElem?_getD, List.getElem?_eq_none (by omega)]; simp
end FF
namespace FF
def cmpN (a b : Nat) : Int := if a < b then -1 else if a = b then 0 else 1
theorem cmp_len {B a b : Nat} (hB : 2 ≤ B) (h : (digs B a).length < (digs B b).length) : a < b := by
 apply Classical.byContradiction; intro hc
 have h1 := lt_pow_digs hB a
 have hb : b ≠ 0 := by rintro rfl; simp [digs, digF] at h
 have h2 := pow_le_digs hB hb
 have h3 : B ^ (digs B a).length ≤ B ^ ((digs B b).length - 1) := Nat.pow_le_pow_right (by omega) (by omega)
 omega
theorem cmp_top {B : Nat} {xs ys : List Nat} {i : Nat} (hx : Dig B xs) (hl : xs.length = ys.length) (hi : i < xs.length)
  (hd : xs.drop (i + 1) = ys.drop (i + 1)) (h : xs.getD i 0 < ys.getD i 0) : val B xs < val B ys := by
 rw [val_split B xs (i + 1), val_split B ys (i + 1), val_take_succ hi, val_take_succ (xs := ys) (by omega), hd, ← hl]
 have h1 : val B (xs.take i) < B ^ i := by
  have := val_lt (B := B) (xs := xs.take i) (fun x hx' => hx x (List.mem_of_mem_take hx'))
  rwa [List.length_take, Nat.min_eq_left (by omega)] at this
 have h2 : B ^ i * xs.getD i 0 + B ^ i ≤ B ^ i * ys.getD i 0 := by rw [← Nat.mul_succ]; exact Nat.mul_le_mul_left _ h
 omega
theorem drop_step {xs ys : List Nat} {i : Nat} (hl : xs.length = ys.length) (hi : i < xs.length) (hd : xs.drop (i + 1) = ys.drop (i + 1)) (h : xs.getD i 0 = ys.getD i 0) : xs.drop i = ys.drop i := by
 have hi2 : i < ys.length := by omega
 rw [List.drop_eq_getElem_cons hi, List.drop_eq_getElem_cons hi2, hd]
 rw [List.getD_eq_getElem?_getD, List.getD_eq_getElem?_getD, List.getElem?_eq_getElem hi, List.getElem?_eq_getElem hi2] at h
 have h2 : xs[i] = ys[i] := h
 rw [h2]
theorem cmpN_lt {a b : Nat} (h : a < b) : cmpN a b = -1 := if_pos h
theorem cmpN_gt {a b : Nat} (h : b < a) : cmpN a b = 1 := by unfold cmpN; rw [if_neg (by omega), if_neg (by omega)]
theorem cmpN_eq {a b : Nat} (h : a = b) : cmpN a b = 0 := by unfold cmpN; rw [if_neg (by omega), if_pos h]
end FF
namespace FF
theorem drop_len {xs ys : List Nat} (h : xs.length = ys.length) : xs.drop xs.length = ys.drop xs.length := by
 rw [List.drop_length, h, List.drop_length]
end FF
namespace FF
theorem getD_snoc (ds : List Nat) (d j : Nat) : (ds ++ [d]).getD j 0 = if j = ds.length then d else ds.getD j 0 := by
 rw [List.getD_eq_getElem?_getD, List.getD_eq_getElem?_getD, List.getElem?_append]
 split
 ·rename_i h; rw [if_neg (by omega)]
 ·rename_i h
  by_cases e : j = ds.length
  ·subst e; simp
  ·rw [if_neg e, List.getElem?_eq_none (by simp; omega), List.getElem?_eq_none (by omega)]
theorem dig_snoc {B : Nat} {ds : List Nat} {d : Nat} (h : Dig B ds) (hd : d < B) : Dig B (ds ++ [d]) := by
 intro x hx
 rcases List.mem_append.1 hx with h1 | h1
 ·exact h x h1
 ·rw [List.mem_singleton.1 h1]; exact hd
theorem plus_step {B i c s : Nat} {ds xs ys : List Nat} (hl : ds.length = i) (h : val B ds + B ^ i * c = val B (xs.take i) + val B (ys.take i))
  (hs : s = xs.getD i 0 + ys.getD i 0 + c) : val B (ds ++ [s % B]) + B ^ (i + 1) * (s / B) = val B (xs.take (i + 1)) + val B (ys.take (i + 1)) := by
 rw [val_append, val_take_succ', val_take_succ', hl]
 simp only [val, Nat.mul_zero, Nat.add_zero]
 have e : B ^ i * s = B ^ i * (s % B) + B ^ (i + 1) * (s / B) := by
  have := Nat.mod_add_div s B
  calc B ^ i * s = B ^ i * (s % B + B * (s / B)) := by rw [this]
   _ = _ := by rw [Nat.pow_succ]; grind
 have e2 : B ^ i * s = B ^ i * xs.getD i 0 + B ^ i * ys.getD i 0 + B ^ i * c := by rw [hs]; grind
 omega
theorem minus_step {B i c c' d : Nat} {ds xs ys : List Nat} (hl : ds.length = i) (h : val B ds + val B (ys.take i) = val B (xs.take i) + B ^ i * c)
  (hs : xs.getD i 0 + B * c' = d + ys.getD i 0 + c) : val B (ds ++ [d]) + val B (ys.take (i + 1)) = val B (xs.take (i + 1)) + B ^ (i + 1) * c' := by
 rw [val_append, val_take_succ', val_take_succ', hl]
 simp only [val, Nat.mul_zero, Nat.add_zero]
 have e : B ^ i * xs.getD i 0 + B ^ (i + 1) * c' = B ^ i * d + B ^ i * ys.getD i 0 + B ^ i * c := by
  have := congrArg (B ^ i * ·) hs
  simp only [Nat.mul_add] at this
  rw [Nat.pow_succ]
  rw [← Nat.mul_assoc] at this
  exact this
 omega
end FF
namespace FF
theorem digs_mono {B a b : Nat} (hB : 2 ≤ B) (h : a ≤ b) : (digs B a).length ≤ (digs B b).length :=
 digs_length_le hB (Nat.lt_of_le_of_lt h (lt_pow_digs hB b))
def sval (b : Bool) (n : Nat) : Int := if b = true then -(n : Int) else n
end FF
namespace FF
def HB : Nat := 65536
theorem HB2 : 2 ≤ HB := by decide
def hl (n : Nat) : Nat := (digs HB n).length
theorem half_word : ∀ (b v : Nat), v ≤ b → (digs (HB * HB) v).length = (hl v + 1) / 2 ∧ ∀ i, (digs (HB * HB) v).getD i 0 = (digs HB v).getD (2 * i) 0 + HB * (digs HB v).getD (2 * i + 1) 0 := by
  have hW : 2 ≤ HB * HB := by decide
  intro b
  induction b with
  | zero => intro v hv
            obtain rfl : v = 0 := by omega
            refine ⟨rfl, fun i => ?_⟩
            simp [digs_zero]
  | succ b ih =>
    intro v hv
    by_cases h0 : v = 0
    · subst h0
      refine ⟨rfl, fun i => ?_⟩
      simp [digs_zero]
    · have hdd : v / HB / HB = v / (HB * HB) := Nat.div_div_eq_div_mul v HB HB
      have hlt : v / (HB * HB) ≤ b := by
        have := Nat.div_lt_self (Nat.pos_of_ne_zero h0) (show 1 < HB * HB by decide)
        omega
      obtain ⟨i1, i2⟩ := ih _ hlt
      have hmm : v % (HB * HB) = v % HB + HB * (v / HB % HB) := Nat.mod_mul
      unfold hl at *
      rw [digs_pos hW h0, digs_pos HB2 h0, List.length_cons, i1]
      by_cases h1 : v / HB = 0
      · have h2 : v / (HB * HB) = 0 := by rw [← hdd, h1]; rfl
        rw [h1, h2, digs_zero, digs_zero]
        refine ⟨by simp, fun i => ?_⟩
        rw [hmm, h1]
        cases i with
        | zero => simp
        | succ i => simp [show 2 * (i + 1) = 2 * i + 1 + 1 by omega]
      · rw [digs_pos HB2 h1, hdd]
        refine ⟨by simp only [List.length_cons]; omega, fun i => ?_⟩
        cases i with
        | zero => simp [hmm]
        | succ i =>
          rw [show 2 * (i + 1) = 2 * i + 1 + 1 by omega]
          simp only [List.getD_cons_succ]
          exact i2 i
theorem half_len (v : Nat) : (digs (HB * HB) v).length = (hl v + 1) / 2 := (half_word v v (Nat.le_refl _)).1
theorem half_get (v i : Nat) : (digs (HB * HB) v).getD i 0 = (digs HB v).getD (2 * i) 0 + HB * (digs HB v).getD (2 * i + 1) 0 := (half_word v v (Nat.le_refl _)).2 i
theorem take_snoc {α : Type} {xs : List α} {i : Nat} (d : α) (h : i < xs.length) : xs.take (i + 1) = xs.take i ++ [xs.getD i d] := by
 rw [List.take_add_one, List.getElem?_eq_getElem h, List.getD_eq_getElem?_getD, List.getElem?_eq_getElem h]; rfl
end FF
end
