/- Plain number theory, part H: the Hilbert symbol by exponents and rests. -/
import Derived.Test.YtmlkiddkgikdhaaNtG
namespace FF

def three (n : Int) : Bool := n % 4 == 3
def far (n : Int) : Bool := n % 8 == 3 || n % 8 == 5
def oddB (k : Nat) : Bool := (k : Int) % 2 == 1
/-- the symbol at 2, of exponents and rests -/
def hil2 (tu tv oi fv ok fu : Bool) : Int := if (((tu && tv) != (oi && fv)) != (ok && fu)) = true then -1 else 1
/-- the symbol at an odd prime -/
def hilp (oi ok p3 : Bool) (ju jv : Int) : Int := (if (oi && ok && p3) = true then -1 else 1) * (if ok = true then ju else 1) * (if oi = true then jv else 1)
/-- the Hilbert symbol -/
def Hil (a b p : Int) : Int :=
  if p = 0 then (if a < 0 ∧ b < 0 then -1 else 1)
  else if p = 2 then hil2 (three (rest 2 a)) (three (rest 2 b)) (oddB (vp 2 a)) (far (rest 2 b)) (oddB (vp 2 b)) (far (rest 2 a))
  else hilp (oddB (vp p a)) (oddB (vp p b)) (three p) (leg (rest p a) p.toNat) (leg (rest p b) p.toNat)

theorem hil2_comm (a b c d e f : Bool) : hil2 a b c d e f = hil2 b a e f c d := by
  revert a b c d e f; decide
theorem hilp_comm (a b c : Bool) (x y : Int) : hilp a b c x y = hilp b a c y x := by
  unfold hilp; cases a <;> cases b <;> cases c <;> simp <;> grind
theorem hil_comm (a b p : Int) : Hil a b p = Hil b a p := by
  unfold Hil
  by_cases h0 : p = 0
  · rw [if_pos h0, if_pos h0]; by_cases h : a < 0 <;> by_cases g : b < 0 <;> simp [h, g]
  · rw [if_neg h0, if_neg h0]
    by_cases h2 : p = 2
    · rw [if_pos h2, if_pos h2]; exact hil2_comm ..
    · rw [if_neg h2, if_neg h2]; exact hilp_comm ..

theorem vp_neg {p n : Int} (hp : 2 ≤ p) (hn : n ≠ 0) : vp p (-n) = vp p n ∧ rest p (-n) = -rest p n := by
  have e := eq_pow_rest hp hn
  have h := not_dvd_rest hp hn
  have h2 : ¬ p ∣ -rest p n := fun hd => h (Int.dvd_neg.1 hd)
  have := vp_unique hp (k := vp p n) h2
  rw [Int.mul_neg, ← e] at this; exact this
theorem vp_mul {p : Nat} (hp : IsP p) {m n : Int} (hm : m ≠ 0) (hn : n ≠ 0) :
    vp p (m * n) = vp p m + vp p n ∧ rest p (m * n) = rest p m * rest p n := by
  have hp2 : (2 : Int) ≤ p := by have := hp.1; omega
  have e1 := eq_pow_rest hp2 hm
  have e2 := eq_pow_rest hp2 hn
  have h : ¬ (p : Int) ∣ rest p m * rest p n := fun hd => by
    rcases hp.idvd_mul hd with h | h
    · exact not_dvd_rest hp2 hm h
    · exact not_dvd_rest hp2 hn h
  have := vp_unique hp2 (k := vp p m + vp p n) h
  have e3 : (p : Int) ^ (vp p m + vp p n) * (rest p m * rest p n) = m * n := by
    rw [Int.pow_add]
    calc _ = (p ^ vp p m * rest p m) * (p ^ vp p n * rest p n) := by grind
      _ = m * n := by rw [← e1, ← e2]
  rw [e3] at this; exact this

theorem odd_rest_two {n : Int} (hn : n ≠ 0) : rest 2 n % 2 = 1 := by
  have := not_dvd_rest (p := 2) (n := n) (by omega) hn; omega

theorem leg_neg {p : Nat} (hp : IsP p) (h2 : p ≠ 2) (u : Int) : leg (-u) p = leg (-1) p * leg u p := by
  rw [← leg_mul hp h2]; congr 1; omega

theorem three_prime {p : Nat} (hp : IsP p) (h2 : p ≠ 2) : leg (-1) p = if three p = true then -1 else 1 := by
  have ho := hp.odd h2
  rw [leg_neg_one hp h2]
  unfold three
  by_cases h : (p : Int) % 4 = 3
  · rw [if_pos (beq_iff_eq.2 h), sg_odd (by omega)]
  · rw [if_neg (fun e => h (beq_iff_eq.1 e)), sg_even (by omega)]

theorem hil_neg {a p : Int} (ha : a ≠ 0) (hp : p = 0 ∨ IsP p.toNat) : Hil a (-a) p = 1 := by
  unfold Hil
  by_cases h0 : p = 0
  · rw [if_pos h0, if_neg (by omega)]
  · rw [if_neg h0]
    have hpr : IsP p.toNat := by rcases hp with h | h; exact absurd h h0; exact h
    have hp2 := hpr.1
    by_cases h2 : p = 2
    · subst h2
      rw [if_pos rfl]
      obtain ⟨e1, e2⟩ := vp_neg (p := 2) (by omega) ha
      have ho := odd_rest_two ha
      rw [e1, e2]
      generalize rest 2 a = u at *
      have f1 : (three u && three (-u)) = false := by
        unfold three
        by_cases h : u % 4 = 3
        · rw [show ((-u) % 4 == 3) = false from beq_eq_false_iff_ne.2 (by omega), Bool.and_false]
        · rw [show (u % 4 == 3) = false from beq_eq_false_iff_ne.2 h, Bool.false_and]
      have f2 : far (-u) = far u := by
        unfold far
        rw [Bool.eq_iff_iff]; simp only [Bool.or_eq_true, beq_iff_eq]; omega
      unfold hil2
      rw [f1, f2]
      cases oddB (vp 2 a) <;> cases far u <;> rfl
    · rw [if_neg h2]
      obtain ⟨e1, e2⟩ := vp_neg (p := p) (by omega) ha
      obtain ⟨P, rfl⟩ : ∃ P : Nat, p = (P : Int) := ⟨p.toNat, by omega⟩
      rw [Int.toNat_natCast] at *
      have hP2 : P ≠ 2 := by rintro rfl; exact h2 rfl
      rw [e1, e2, leg_neg hpr hP2, three_prime hpr hP2]
      have hsq := leg_sq (p := P) (a := rest P a) (not_dvd_rest (by omega) ha)
      unfold hilp
      generalize leg (rest P a) P = x at *
      cases oddB (vp P a) <;> cases three P <;> simp <;> grind

/-- the reference's formula at an odd prime: the parity of a sum -/
theorem hilp_sum {s t h : Nat} {ju jv : Int} {p : Int} (hju : ju = 1 ∨ ju = -1) (hjv : jv = 1 ∨ jv = -1) (hh : h % 2 = 1 ↔ three p = true) :
    hilp (oddB s) (oddB t) (three p) ju jv = if (s * t * h + (if ju < 0 then t else 0) + (if jv < 0 then s else 0)) % 2 = 1 then -1 else 1 := by
  unfold hilp oddB
  have e1 : (((s : Int) % 2 == 1) = true) ↔ s % 2 = 1 := by rw [beq_iff_eq]; omega
  have e2 : (((t : Int) % 2 == 1) = true) ↔ t % 2 = 1 := by rw [beq_iff_eq]; omega
  have e3 : s * t * h % 2 = (s % 2) * (t % 2) * (h % 2) % 2 := by
    rw [Nat.mul_mod (s * t), Nat.mul_mod s t, Nat.mod_mul_mod]
  simp only [Bool.and_eq_true, e1, e2, ← hh]
  generalize s * t * h = q at *
  rcases Nat.mod_two_eq_zero_or_one s with a | a <;> rcases Nat.mod_two_eq_zero_or_one t with b | b <;> rcases Nat.mod_two_eq_zero_or_one h with c | c <;>
    rw [a, b, c] at e3 <;> simp at e3 <;> rcases hju with rfl | rfl <;> rcases hjv with rfl | rfl <;> simp [a, b, c] <;> omega
end FF
namespace FF
/-- the reference's formula at 2 -/
theorem hil2_sum {a b : Int} {s t : Nat} (ha : a % 2 = 1) (hb : b % 2 = 1) :
    hil2 (three a) (three b) (oddB s) (far b) (oddB t) (far a) =
      if ((a % 8 - 1) / 2 * ((b % 8 - 1) / 2) + (s : Int) * ((b % 8 * (b % 8) - 1) / 8) + (t : Int) * ((a % 8 * (a % 8) - 1) / 8)) % 2 = 1 then -1 else 1 := by
  have ea : a % 8 = 1 ∨ a % 8 = 3 ∨ a % 8 = 5 ∨ a % 8 = 7 := by omega
  have eb : b % 8 = 1 ∨ b % 8 = 3 ∨ b % 8 = 5 ∨ b % 8 = 7 := by omega
  have t4 : ∀ x : Int, three x = (x % 8 % 4 == 3) := by
    intro x; unfold three; rw [Bool.eq_iff_iff, beq_iff_eq, beq_iff_eq]; omega
  have f8 : ∀ x : Int, far x = (x % 8 == 3 || x % 8 == 5) := fun _ => rfl
  rw [t4, t4, f8, f8]
  have os : ∀ k : Nat, oddB k = decide (k % 2 = 1) := by
    intro k; unfold oddB; rw [Bool.eq_iff_iff, beq_iff_eq, decide_eq_true_iff]; omega
  rw [os, os]
  rcases Nat.mod_two_eq_zero_or_one s with p1 | p1 <;> rcases Nat.mod_two_eq_zero_or_one t with p2 | p2 <;>
    rcases ea with e1 | e1 | e1 | e1 <;> rcases eb with e2 | e2 | e2 | e2 <;> rw [e1, e2, p1, p2] <;> simp [hil2] <;> omega
end FF
