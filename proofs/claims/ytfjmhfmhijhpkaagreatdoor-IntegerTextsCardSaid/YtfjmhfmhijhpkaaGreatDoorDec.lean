/- Decimal numerals: written in parts of nine digits, written digit by digit, read. -/
import Derived.Lib.ItoaMem
namespace FF
open Go Go.Lib

/-- at least k digits -/
def padK (k m : Nat) : List UInt8 := List.replicate (k - (decDigits m).length) 48 ++ decDigits m
theorem dec_small {m : Nat} (h : m < 10) : decDigits m = [UInt8.ofNat (48 + m)] := decDigits_one h
theorem dec_big {m : Nat} (h : 10 ≤ m) : decDigits m = decDigits (m / 10) ++ [UInt8.ofNat (48 + m % 10)] := by
  rw [decDigits, dif_neg (by omega)]
theorem dec_pos (m : Nat) : 1 ≤ (decDigits m).length := by
  rcases Nat.lt_or_ge m 10 with h | h
  · rw [dec_small h]; simp
  · rw [dec_big h]; simp
theorem padK_len (k : Nat) : ∀ m, 1 ≤ k → m < 10 ^ k → (decDigits m).length ≤ k := by
  induction k with
  | zero => intro m h; omega
  | succ k ih =>
    intro m _ hm
    rcases Nat.lt_or_ge m 10 with h | h
    · rw [dec_small h]; simp
    · rw [dec_big h]
      have h1 : m / 10 < 10 ^ k := by
        rw [Nat.pow_succ] at hm
        omega
      have hk : 1 ≤ k := by
        rcases Nat.eq_zero_or_pos k with rfl | hk
        · simp at hm; omega
        · exact hk
      have := ih (m / 10) hk h1
      simp; omega
theorem padK_succ {k m : Nat} (hk : 1 ≤ k) : padK (k + 1) m = padK k (m / 10) ++ [UInt8.ofNat (48 + m % 10)] := by
  unfold padK
  rcases Nat.lt_or_ge m 10 with h | h
  · rw [dec_small h, show m / 10 = 0 by omega, dec_small (show 0 < 10 by decide), show m % 10 = m by omega]
    have : k + 1 - 1 = (k - 1) + 1 := by omega
    simp only [List.length_singleton, this, List.replicate_succ']
    rfl
  · rw [dec_big h]
    have := dec_pos (m / 10)
    simp only [List.length_append, List.length_singleton, List.append_assoc]
    rw [show k + 1 - ((decDigits (m / 10)).length + 1) = k - (decDigits (m / 10)).length by omega]
/-- a great numeral is its head and k digits more -/
theorem dec_split (k : Nat) : ∀ n, 1 ≤ k → n / 10 ^ k ≠ 0 → decDigits n = decDigits (n / 10 ^ k) ++ padK k (n % 10 ^ k) := by
  induction k with
  | zero => intro n h; omega
  | succ k ih =>
    intro n _ hn
    have h10 : 10 ≤ n := by
      apply Classical.byContradiction
      intro hc
      apply hn
      apply Nat.div_eq_of_lt
      have : 10 ^ 1 ≤ 10 ^ (k + 1) := Nat.pow_le_pow_right (by decide) (by omega)
      omega
    have e1 : n / 10 ^ (k + 1) = n / 10 / 10 ^ k := by rw [Nat.pow_succ, Nat.mul_comm, Nat.div_div_eq_div_mul]
    have e2 : n % 10 ^ (k + 1) / 10 = n / 10 % 10 ^ k := by
      rw [Nat.pow_succ, Nat.mul_comm (10 ^ k) 10, Nat.mod_mul_right_div_self]
    have e3 : n % 10 ^ (k + 1) % 10 = n % 10 := by
      rw [Nat.pow_succ, Nat.mul_comm (10 ^ k) 10, Nat.mod_mul_right_mod]
    rcases Nat.eq_zero_or_pos k with rfl | hk
    · rw [dec_big h10]
      unfold padK
      rw [show (10 : Nat) ^ (0 + 1) = 10 from rfl, dec_small (show n % 10 < 10 by omega)]
      rfl
    · rw [dec_big h10, padK_succ hk, e2, e3, e1, ih (n / 10) hk (by rw [← e1]; exact hn), List.append_assoc]
/-- a digit -/
def isDig (c : UInt8) : Bool := decide (48 ≤ c.toNat) && decide (c.toNat ≤ 57)
def decVal (l : List UInt8) : Nat := l.foldl (fun a c => 10 * a + (c.toNat - 48)) 0
theorem decVal_snoc (l : List UInt8) (c : UInt8) : decVal (l ++ [c]) = 10 * decVal l + (c.toNat - 48) := by simp [decVal]
theorem dig_toNat {d : Nat} (h : d < 10) : (UInt8.ofNat (48 + d)).toNat = 48 + d := by
  rw [UInt8.toNat_ofNat']; omega
theorem decVal_dec : ∀ n, decVal (decDigits n) = n := by
  intro n
  induction n using Nat.strongRecOn with
  | ind n ih =>
    rcases Nat.lt_or_ge n 10 with h | h
    · rw [dec_small h]
      show 10 * 0 + ((UInt8.ofNat (48 + n)).toNat - 48) = n
      rw [dig_toNat h]; omega
    · rw [dec_big h, decVal_snoc, ih (n / 10) (by omega), dig_toNat (show n % 10 < 10 by omega)]; omega
theorem dec_dig : ∀ n, ∀ c ∈ decDigits n, isDig c = true := by
  intro n
  induction n using Nat.strongRecOn with
  | ind n ih =>
    intro c hc
    rcases Nat.lt_or_ge n 10 with h | h
    · rw [dec_small h, List.mem_singleton] at hc
      subst hc
      unfold isDig
      rw [dig_toNat h]; simp; omega
    · rw [dec_big h, List.mem_append, List.mem_singleton] at hc
      rcases hc with hc | rfl
      · exact ih (n / 10) (by omega) c hc
      · unfold isDig
        rw [dig_toNat (show n % 10 < 10 by omega)]; simp; omega
theorem dec_head (n : Nat) : ∀ r, decDigits n ≠ 45 :: r := by
  intro r e
  have := dec_dig n 45 (by rw [e]; exact List.mem_cons_self ..)
  revert this; decide
theorem dec_len_le {k n : Nat} (hk : 1 ≤ k) (h : n < 10 ^ k) : (decDigits n).length ≤ k := padK_len k n hk h
theorem itoa_len {k : Nat} {z : Int} (hk : 1 ≤ k) (h : z.natAbs < 10 ^ k) : (itoa z).length ≤ k + 1 := by
  unfold itoa
  split
  · have := dec_len_le hk h
    simp; omega
  · have := dec_len_le hk (show z.toNat < 10 ^ k by omega)
    omega
/-- the text without its sign -/
def cutS (l : List UInt8) : List UInt8 := match l with | c :: r => if c = 45 then r else c :: r | [] => []
def negS (l : List UInt8) : Bool := match l with | c :: _ => decide (c = 45) | [] => false
def zOf (neg : Bool) (v : Nat) : Int := if neg then -(v : Int) else v
/-- what a text is read as if it is a numeral -/
def candP (l : List UInt8) : Int := zOf (negS l) (decVal (cutS l))
theorem itoa_cut (z : Int) : cutS (itoa z) = decDigits z.natAbs ∧ negS (itoa z) = decide (z < 0) := by
  unfold itoa
  by_cases h : z < 0
  · rw [if_pos h]; simp [cutS, negS, h]
  · rw [if_neg h]
    have e : z.toNat = z.natAbs := by omega
    rw [e]
    have hne := dec_head z.natAbs
    cases hd : decDigits z.natAbs with
    | nil => simp [cutS, negS]; omega
    | cons c r =>
      have : c ≠ 45 := fun e => hne r (by rw [hd, e])
      simp [cutS, negS, this]; omega
theorem candP_itoa (z : Int) : candP (itoa z) = z := by
  unfold candP zOf
  obtain ⟨h1, h2⟩ := itoa_cut z
  rw [h1, h2, decVal_dec]
  by_cases h : z < 0
  · simp [h]; omega
  · simp [h]; omega
/-- what is written has digits behind its sign -/
theorem itoa_digits {z : Int} {l : List UInt8} (h : itoa z = l) : ∀ c ∈ cutS l, isDig c = true := by
  rw [← h, (itoa_cut z).1]
  exact dec_dig _
/-- the digits of a text, other signs passed over -/
def digFl (l : List UInt8) : List UInt8 := l.filter isDig
theorem decVal_filter_all {l : List UInt8} (h : ∀ c ∈ l, isDig c = true) : digFl l = l := List.filter_eq_self.2 h
/-- what the reference reads -/
def candR (l : List UInt8) : Int := zOf (negS l) (decVal (digFl (cutS l)))
theorem cand_same {l : List UInt8} (h : ∀ c ∈ cutS l, isDig c = true) : candR l = candP l := by
  unfold candR candP
  rw [decVal_filter_all h]
/-- the reading of a text: the number and the error -/
def prsE (l : List UInt8) : Int := if itoa (candP l) = l then 0 else 1
theorem prs_ref (l : List UInt8) : itoa (candR l) = l ↔ itoa (candP l) = l := by
  constructor
  · intro h
    rw [cand_same (itoa_digits h)] at h; exact h
  · intro h
    rw [cand_same (itoa_digits h)]; exact h
theorem prs_eq {l : List UInt8} (h : itoa (candP l) = l) : candR l = candP l := cand_same (itoa_digits h)
end FF
