/- Decimal numerals: written in parts of nine digits, written digit by digit, read. -/
import Derived.Lib.ItoaMem
namespace FF
open Go Go.Lib
theorem dec_small {m : Nat} (h : m < 10) : decDigits m = [UInt8.ofNat (48 + m)] := decDigits_one h
theorem dec_big {m : Nat} (h : 10 ≤ m) : decDigits m = decDigits (m / 10) ++ [UInt8.ofNat (48 + m % 10)] := by
  rw [decDigits, dif_neg (by omega)]
theorem dec_pos (m : Nat) : 1 ≤ (decDigits m).length := by
  rcases Nat.lt_or_ge m 10 with h | h
  · rw [dec_small h]; simp
  · rw [dec_big h]; simp
theorem padK_len (k : Nat) : ∀ m, 1 ≤ k → m < 10 ^ k → (decDigits m).length ≤ k := by
  induction k with
  | zero => intro m h; omega
  | succ k ih =>
    intro m _ hm
    rcases Nat.lt_or_ge m 10 with h | h
    · rw [dec_small h]; simp
    · rw [dec_big h]
      have h1 : m / 10 < 10 ^ k := by
        rw [Nat.pow_succ] at hm
        omega
      have hk : 1 ≤ k := by
        rcases Nat.eq_zero_or_pos k with rfl | hk
        · simp at hm; omega
        · exact hk
      have := ih (m / 10) hk h1
      simp; omega
def isDig (c : UInt8) : Bool := decide (48 ≤ c.toNat) && decide (c.toNat ≤ 57)
def decVal (l : List UInt8) : Nat := l.foldl (fun a c => 10 * a + (c.toNat - 48)) 0
theorem decVal_snoc (l : List UInt8) (c : UInt8) : decVal (l ++ [c]) = 10 * decVal l + (c.toNat - 48) := by simp [decVal]
theorem dig_toNat {d : Nat} (h : d < 10) : (UInt8.ofNat (48 + d)).toNat = 48 + d := by
  rw [UInt8.toNat_ofNat']; omega
theorem decVal_dec : ∀ n, decVal (decDigits n) = n := by
  intro n
  induction n using Nat.strongRecOn with
  | ind n ih =>
    rcases Nat.lt_or_ge n 10 with h | h
    · rw [dec_small h]
      show 10 * 0 + ((UInt8.ofNat (48 + n)).toNat - 48) = n
      rw [dig_toNat h]; omega
    · rw [dec_big h, decVal_snoc, ih (n / 10) (by omega), dig_toNat (show n % 10 < 10 by omega)]; omega
theorem dec_dig : ∀ n, ∀ c ∈ decDigits n, isDig c = true := by
  intro n
  induction n using Nat.strongRecOn with
  | ind n ih =>
    intro c hc
    rcases Nat.lt_or_ge n 10 with h | h
    · rw [dec_small h, List.mem_singleton] at hc
      subst hc
      unfold isDig
      rw [dig_toNat h]; simp; omega
    · rw [dec_big h, List.mem_append, List.mem_singleton] at hc
      rcases hc with hc | rfl
      · exact ih (n / 10) (by omega) c hc
      · unfold isDig
        rw [dig_toNat (show n % 10 < 10 by omega)]; simp; omega
theorem dec_head (n : Nat) : ∀ r, decDigits n ≠ 45 :: r := by
  intro r e
  have := dec_dig n 45 (by rw [e]; exact List.mem_cons_self ..)
  revert this; decide
theorem dec_len_le {k n : Nat} (hk : 1 ≤ k) (h : n < 10 ^ k) : (decDigits n).length ≤ k := padK_len k n hk h
def cutS (l : List UInt8) : List UInt8 := match l with | c :: r => if c = 45 then r else c :: r | [] => []
def negS (l : List UInt8) : Bool := match l with | c :: _ => decide (c = 45) | [] => false
def zOf (neg : Bool) (v : Nat) : Int := if neg then -(v : Int) else v
theorem itoa_cut (z : Int) : cutS (itoa z) = decDigits z.natAbs ∧ negS (itoa z) = decide (z < 0) := by
  unfold itoa
  by_cases h : z < 0
  · rw [if_pos h]; simp [cutS, negS, h]
  · rw [if_neg h]
    have e : z.toNat = z.natAbs := by omega
    rw [e]
    have hne := dec_head z.natAbs
    cases hd : decDigits z.natAbs with
    | nil => simp [cutS, negS]; omega
    | cons c r =>
      have : c ≠ 45 := fun e => hne r (by rw [hd, e])
      simp [cutS, negS, this]; omega
end FF
