/- Integer square roots: Newton's steps, and bit by bit. No condition. -/
import Derived.Test.YtmlkiddkgikdhaaKn
namespace FF

/-- the greatest number up to f whose square is at most n -/
def sqF : Nat → Nat → Nat
  | 0, _ => 0
  | f + 1, n => if (f + 1) * (f + 1) ≤ n then f + 1 else sqF f n
/-- the integer square root -/
def sqN (n : Nat) : Nat := sqF n n

theorem sqF_le (f n : Nat) : sqF f n * sqF f n ≤ n := by
  induction f with
  | zero => simp [sqF]
  | succ f ih =>
    unfold sqF
    split
    · assumption
    · exact ih
theorem sqF_gt (f n : Nat) (h : n < (f + 1) * (f + 1)) : n < (sqF f n + 1) * (sqF f n + 1) := by
  induction f with
  | zero => simpa [sqF] using h
  | succ f ih =>
    unfold sqF
    split
    · exact h
    · exact ih (by omega)
theorem sqN_le (n : Nat) : sqN n * sqN n ≤ n := sqF_le n n
theorem sqN_gt (n : Nat) : n < (sqN n + 1) * (sqN n + 1) := by
  refine sqF_gt n n ?_
  rw [Nat.succ_mul]
  have := Nat.zero_le (n * (n + 1))
  omega
theorem sq_le_of {r s n : Nat} (h1 : r * r ≤ n) (h2 : n < (s + 1) * (s + 1)) : r ≤ s := by
  apply Nat.le_of_not_lt
  intro h
  have : (s + 1) * (s + 1) ≤ r * r := Nat.mul_le_mul h h
  omega
theorem sqN_of {r n : Nat} (h1 : r * r ≤ n) (h2 : n < (r + 1) * (r + 1)) : r = sqN n :=
  Nat.le_antisymm (sq_le_of h1 (sqN_gt n)) (sq_le_of (sqN_le n) h2)
theorem sqN_self_le (n : Nat) : sqN n ≤ n := by
  have h := sqN_le n
  by_cases h0 : sqN n = 0
  · omega
  · exact Nat.le_trans (Nat.le_mul_of_pos_left _ (by omega)) h

theorem four_mul_le (u v : Nat) : 4 * (u * v) ≤ (u + v) * (u + v) := by
  rcases Nat.le_total u v with h | h
  · obtain ⟨d, rfl⟩ := Nat.le.dest h
    simp only [Nat.mul_add, Nat.add_mul]
    have := Nat.mul_comm d u
    have := Nat.zero_le (d * d)
    omega
  · obtain ⟨d, rfl⟩ := Nat.le.dest h
    simp only [Nat.mul_add, Nat.add_mul]
    have := Nat.mul_comm d v
    have := Nat.zero_le (d * d)
    omega
/-- Newton's step stays above -/
theorem newton_above {a r : Nat} (hr : 0 < r) : a < ((r + a / r) / 2 + 1) * ((r + a / r) / 2 + 1) := by
  have h1 : a < r * (a / r + 1) := by
    have := Nat.div_add_mod a r
    have := Nat.mod_lt a hr
    rw [Nat.mul_succ]; omega
  have h2 := four_mul_le r (a / r + 1)
  generalize a / r = q at *
  have h3 : r + (q + 1) ≤ 2 * ((r + q) / 2 + 1) := by omega
  generalize (r + q) / 2 + 1 = m at *
  have h4 : (r + (q + 1)) * (r + (q + 1)) ≤ 2 * m * (2 * m) := Nat.mul_le_mul h3 h3
  rw [show 2 * m * (2 * m) = 4 * (m * m) by rw [Nat.mul_mul_mul_comm]] at h4
  omega
/-- where Newton's step does not descend, the root is found -/
theorem newton_stop {a r : Nat} (h : r ≤ (r + a / r) / 2) : r * r ≤ a := by
  have h1 : r ≤ a / r := by omega
  exact Nat.le_trans (Nat.mul_le_mul_left r h1) (Nat.mul_div_le a r)
theorem newton_down {a r : Nat} (h : ¬ r ≤ (r + a / r) / 2) : (r + a / r) / 2 < r := by omega
theorem newton_pos {a r : Nat} (ha : 0 < a) (h : a < ((r + a / r) / 2 + 1) * ((r + a / r) / 2 + 1)) (hn : (r + a / r) / 2 = 0) : a = 0 ∨ False := by
  rw [hn] at h; omega
/-- the start of Newton's steps -/
theorem newton_start {B a n : Nat} (hB : 0 < B) (h : a < B ^ n) : a < (B ^ (n / 2 + 1) + 1) * (B ^ (n / 2 + 1) + 1) := by
  have h1 : B ^ n ≤ B ^ (n / 2 + 1) * B ^ (n / 2 + 1) := by
    rw [← Nat.pow_add]
    exact Nat.pow_le_pow_right hB (by omega)
  have h2 : B ^ (n / 2 + 1) * B ^ (n / 2 + 1) ≤ (B ^ (n / 2 + 1) + 1) * (B ^ (n / 2 + 1) + 1) := Nat.mul_le_mul (Nat.le_succ _) (Nat.le_succ _)
  omega

/-- one bit of the root is decided -/
theorem bit_take {a r V : Nat} (h : (r + V) * (r + V) ≤ a) (h2 : a < (r + 2 * V) * (r + 2 * V)) : (r + V) * (r + V) ≤ a ∧ a < (r + V + V) * (r + V + V) :=
  ⟨h, by rwa [show r + V + V = r + 2 * V by omega]⟩

/-- the digits of B^k: zeros and a one -/
theorem val_zeros (B k x : Nat) : val B (List.replicate k 0 ++ [x]) = x * B ^ k := by
  induction k with
  | zero => simp [val]
  | succ k ih =>
    rw [List.replicate_succ, List.cons_append]
    simp only [val]
    rw [ih, Nat.pow_succ, Nat.zero_add, Nat.mul_comm B, Nat.mul_assoc]
theorem dig_zeros {B k x : Nat} (hx : x < B) : Dig B (List.replicate k 0 ++ [x]) := by
  intro y hy
  rcases List.mem_append.1 hy with h | h
  · rw [List.eq_of_mem_replicate h]; omega
  · rw [List.mem_singleton.1 h]; exact hx
theorem digs_pow {B k : Nat} (hB : 2 ≤ B) : digs B (B ^ k) = List.replicate k 0 ++ [1] := by
  have h := digs_val hB (dig_zeros (B := B) (k := k) (x := 1) (by omega)) (by simp)
  rw [val_zeros, Nat.one_mul] at h
  exact h
end FF
