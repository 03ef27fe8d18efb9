/- Integer square roots: Newton's steps, and bit by bit. No condition. The Hilbert symbol: it is multiplicative, 1 where a x^2 + b y^2 is a square other than 0, and its product over all places is 1. No condition. The places of two numbers: 0, 2 and the primes that divide them. No condition. -/
import Derived.Test.YtfjmhfmhijhpkaaKn
import Derived.Test.YtfjmhfmhijhpkaaNt
import Derived.Test.YtfjmhfmhijhpkaaCrt0
namespace FF

/-- the greatest number up to f whose square is at most n -/
def sqF : Nat → Nat → Nat
  | 0, _ => 0
  | f + 1, n => if (f + 1) * (f + 1) ≤ n then f + 1 else sqF f n
/-- the integer square root -/
def sqN (n : Nat) : Nat := sqF n n

theorem sqF_le (f n : Nat) : sqF f n * sqF f n ≤ n := by
  induction f with
  | zero => simp [sqF]
  | succ f ih =>
    unfold sqF
    split
    · assumption
    · exact ih
theorem sqF_gt (f n : Nat) (h : n < (f + 1) * (f + 1)) : n < (sqF f n + 1) * (sqF f n + 1) := by
  induction f with
  | zero => simpa [sqF] using h
  | succ f ih =>
    unfold sqF
    split
    · exact h
    · exact ih (by omega)
theorem sqN_le (n : Nat) : sqN n * sqN n ≤ n := sqF_le n n
theorem sqN_gt (n : Nat) : n < (sqN n + 1) * (sqN n + 1) := by
  refine sqF_gt n n ?_
  rw [Nat.succ_mul]
  have := Nat.zero_le (n * (n + 1))
  omega
theorem sq_le_of {r s n : Nat} (h1 : r * r ≤ n) (h2 : n < (s + 1) * (s + 1)) : r ≤ s := by
  apply Nat.le_of_not_lt
  intro h
  have : (s + 1) * (s + 1) ≤ r * r := Nat.mul_le_mul h h
  omega
theorem sqN_of {r n : Nat} (h1 : r * r ≤ n) (h2 : n < (r + 1) * (r + 1)) : r = sqN n :=
  Nat.le_antisymm (sq_le_of h1 (sqN_gt n)) (sq_le_of (sqN_le n) h2)
theorem sqN_self_le (n : Nat) : sqN n ≤ n := by
  have h := sqN_le n
  by_cases h0 : sqN n = 0
  · omega
  · exact Nat.le_trans (Nat.le_mul_of_pos_left _ (by omega)) h

theorem four_mul_le (u v : Nat) : 4 * (u * v) ≤ (u + v) * (u + v) := by
  rcases Nat.le_total u v with h | h
  · obtain ⟨d, rfl⟩ := Nat.le.dest h
    simp only [Nat.mul_add, Nat.add_mul]
    have := Nat.mul_comm d u
    have := Nat.zero_le (d * d)
    omega
  · obtain ⟨d, rfl⟩ := Nat.le.dest h
    simp only [Nat.mul_add, Nat.add_mul]
    have := Nat.mul_comm d v
    have := Nat.zero_le (d * d)
    omega
/-- Newton's step stays above -/
theorem newton_above {a r : Nat} (hr : 0 < r) : a < ((r + a / r) / 2 + 1) * ((r + a / r) / 2 + 1) := by
  have h1 : a < r * (a / r + 1) := by
    have := Nat.div_add_mod a r
    have := Nat.mod_lt a hr
    rw [Nat.mul_succ]; omega
  have h2 := four_mul_le r (a / r + 1)
  generalize a / r = q at *
  have h3 : r + (q + 1) ≤ 2 * ((r + q) / 2 + 1) := by omega
  generalize (r + q) / 2 + 1 = m at *
  have h4 : (r + (q + 1)) * (r + (q + 1)) ≤ 2 * m * (2 * m) := Nat.mul_le_mul h3 h3
  rw [show 2 * m * (2 * m) = 4 * (m * m) by rw [Nat.mul_mul_mul_comm]] at h4
  omega
/-- where Newton's step does not descend, the root is found -/
theorem newton_stop {a r : Nat} (h : r ≤ (r + a / r) / 2) : r * r ≤ a := by
  have h1 : r ≤ a / r := by omega
  exact Nat.le_trans (Nat.mul_le_mul_left r h1) (Nat.mul_div_le a r)
theorem newton_down {a r : Nat} (h : ¬ r ≤ (r + a / r) / 2) : (r + a / r) / 2 < r := by omega
theorem newton_pos {a r : Nat} (ha : 0 < a) (h : a < ((r + a / r) / 2 + 1) * ((r + a / r) / 2 + 1)) (hn : (r + a / r) / 2 = 0) : a = 0 ∨ False := by
  rw [hn] at h; omega
/-- the start of Newton's steps -/
theorem newton_start {B a n : Nat} (hB : 0 < B) (h : a < B ^ n) : a < (B ^ (n / 2 + 1) + 1) * (B ^ (n / 2 + 1) + 1) := by
  have h1 : B ^ n ≤ B ^ (n / 2 + 1) * B ^ (n / 2 + 1) := by
    rw [← Nat.pow_add]
    exact Nat.pow_le_pow_right hB (by omega)
  have h2 : B ^ (n / 2 + 1) * B ^ (n / 2 + 1) ≤ (B ^ (n / 2 + 1) + 1) * (B ^ (n / 2 + 1) + 1) := Nat.mul_le_mul (Nat.le_succ _) (Nat.le_succ _)
  omega

/-- one bit of the root is decided -/
theorem bit_take {a r V : Nat} (h : (r + V) * (r + V) ≤ a) (h2 : a < (r + 2 * V) * (r + 2 * V)) : (r + V) * (r + V) ≤ a ∧ a < (r + V + V) * (r + V + V) :=
  ⟨h, by rwa [show r + V + V = r + 2 * V by omega]⟩

/-- the digits of B^k: zeros and a one -/
theorem val_zeros (B k x : Nat) : val B (List.replicate k 0 ++ [x]) = x * B ^ k := by
  induction k with
  | zero => simp [val]
  | succ k ih =>
    rw [List.replicate_succ, List.cons_append]
    simp only [val]
    rw [ih, Nat.pow_succ, Nat.zero_add, Nat.mul_comm B, Nat.mul_assoc]
theorem dig_zeros {B k x : Nat} (hx : x < B) : Dig B (List.replicate k 0 ++ [x]) := by
  intro y hy
  rcases List.mem_append.1 hy with h | h
  · rw [List.eq_of_mem_replicate h]; omega
  · rw [List.mem_singleton.1 h]; exact hx
theorem digs_pow {B k : Nat} (hB : 2 ≤ B) : digs B (B ^ k) = List.replicate k 0 ++ [1] := by
  have h := digs_val hB (dig_zeros (B := B) (k := k) (x := 1) (by omega)) (by simp)
  rw [val_zeros, Nat.one_mul] at h
  exact h
end FF
namespace FF

theorem three_mul {u v : Int} (hu : u % 2 = 1) (hv : v % 2 = 1) : three (u * v) = (three u != three v) := by
  unfold three
  have e := Int.mul_emod u v 4
  have a1 : u % 4 = 1 ∨ u % 4 = 3 := by omega
  have a2 : v % 4 = 1 ∨ v % 4 = 3 := by omega
  rcases a1 with h | h <;> rcases a2 with g | g <;> rw [h, g] at e <;> rw [e, h, g] <;> rfl
theorem far_mul {u v : Int} (hu : u % 2 = 1) (hv : v % 2 = 1) : far (u * v) = (far u != far v) := by
  unfold far
  have e := Int.mul_emod u v 8
  have a1 : u % 8 = 1 ∨ u % 8 = 3 ∨ u % 8 = 5 ∨ u % 8 = 7 := by omega
  have a2 : v % 8 = 1 ∨ v % 8 = 3 ∨ v % 8 = 5 ∨ v % 8 = 7 := by omega
  rcases a1 with h | h | h | h <;> rcases a2 with g | g | g | g <;> rw [h, g] at e <;> rw [e, h, g] <;> rfl
theorem oddB_add (s t : Nat) : oddB (s + t) = (oddB s != oddB t) := by
  unfold oddB
  rcases Nat.mod_two_eq_zero_or_one s with h | h <;> rcases Nat.mod_two_eq_zero_or_one t with g | g
  · rw [show (((s + t : Nat) : Int) % 2) = 0 by omega, show ((s : Int) % 2) = 0 by omega, show ((t : Int) % 2) = 0 by omega]; rfl
  · rw [show (((s + t : Nat) : Int) % 2) = 1 by omega, show ((s : Int) % 2) = 0 by omega, show ((t : Int) % 2) = 1 by omega]; rfl
  · rw [show (((s + t : Nat) : Int) % 2) = 1 by omega, show ((s : Int) % 2) = 1 by omega, show ((t : Int) % 2) = 0 by omega]; rfl
  · rw [show (((s + t : Nat) : Int) % 2) = 0 by omega, show ((s : Int) % 2) = 1 by omega, show ((t : Int) % 2) = 1 by omega]; rfl
theorem hil2_mul : ∀ (tu tv tv' oi fv fv' ok ok' fu : Bool), hil2 tu (tv != tv') oi (fv != fv') (ok != ok') fu = hil2 tu tv oi fv ok fu * hil2 tu tv' oi fv' ok' fu := by decide
theorem hilp_mul (oi ok ok' p3 : Bool) (ju jv jv' : Int) (h : ju * ju = 1) : hilp oi (ok != ok') p3 ju (jv * jv') = hilp oi ok p3 ju jv * hilp oi ok' p3 ju jv' := by
  unfold hilp
  cases oi <;> cases ok <;> cases ok' <;> cases p3 <;> simp <;> grind

theorem vp2_mul {m n : Int} (hm : m ≠ 0) (hn : n ≠ 0) : vp 2 (m * n) = vp 2 m + vp 2 n ∧ rest 2 (m * n) = rest 2 m * rest 2 n := vp_mul isP_two hm hn

theorem hil_mul_right {a b c p : Int} (ha : a ≠ 0) (hb : b ≠ 0) (hc : c ≠ 0) (hp : p = 0 ∨ IsP p.toNat) : Hil a (b * c) p = Hil a b p * Hil a c p := by
  unfold Hil
  by_cases h0 : p = 0
  · rw [if_pos h0, if_pos h0, if_pos h0]
    rcases Int.lt_or_gt_of_ne hb with hb | hb <;> rcases Int.lt_or_gt_of_ne hc with hc | hc
    · have := Int.mul_pos_of_neg_of_neg hb hc
      by_cases h : a < 0
      · rw [if_neg (by omega), if_pos ⟨h, hb⟩, if_pos ⟨h, hc⟩]; rfl
      · rw [if_neg (by omega), if_neg (by omega), if_neg (by omega)]; rfl
    · have := Int.mul_neg_of_neg_of_pos hb hc
      by_cases h : a < 0
      · rw [if_pos ⟨h, this⟩, if_pos ⟨h, hb⟩, if_neg (by omega)]; rfl
      · rw [if_neg (by omega), if_neg (by omega), if_neg (by omega)]; rfl
    · have := Int.mul_neg_of_pos_of_neg hb hc
      by_cases h : a < 0
      · rw [if_pos ⟨h, this⟩, if_neg (by omega), if_pos ⟨h, hc⟩]; rfl
      · rw [if_neg (by omega), if_neg (by omega), if_neg (by omega)]; rfl
    · have := Int.mul_pos hb hc
      rw [if_neg (by omega), if_neg (by omega), if_neg (by omega)]; rfl
  · have hpr : IsP p.toNat := by rcases hp with h | h; exact absurd h h0; exact h
    rw [if_neg h0, if_neg h0, if_neg h0]
    by_cases h2 : p = 2
    · rw [if_pos h2, if_pos h2, if_pos h2]
      obtain ⟨e1, e2⟩ := vp2_mul hb hc
      rw [e1, e2, three_mul (odd_rest_two hb) (odd_rest_two hc), far_mul (odd_rest_two hb) (odd_rest_two hc), oddB_add]
      exact hil2_mul ..
    · rw [if_neg h2, if_neg h2, if_neg h2]
      have hp2 := hpr.1
      obtain ⟨P, rfl⟩ : ∃ P : Nat, p = (P : Int) := ⟨p.toNat, by omega⟩
      rw [Int.toNat_natCast] at *
      have hP2 : P ≠ 2 := by rintro rfl; exact h2 rfl
      obtain ⟨e1, e2⟩ := vp_mul hpr hb hc
      rw [e1, e2, leg_mul hpr hP2, oddB_add]
      exact hilp_mul _ _ _ _ _ _ _ (leg_sq (not_dvd_rest (by omega) ha))
theorem hil_mul_left {a b c p : Int} (ha : a ≠ 0) (hb : b ≠ 0) (hc : c ≠ 0) (hp : p = 0 ∨ IsP p.toNat) : Hil (a * b) c p = Hil a c p * Hil b c p := by
  rw [hil_comm, hil_mul_right hc ha hb hp, hil_comm c a, hil_comm c b]

theorem hil_cases {a b p : Int} (ha : a ≠ 0) (hb : b ≠ 0) (hp : p = 0 ∨ IsP p.toNat) : Hil a b p = 1 ∨ Hil a b p = -1 := by
  unfold Hil
  by_cases h0 : p = 0
  · rw [if_pos h0]; split <;> simp
  · have hpr : IsP p.toNat := by rcases hp with h | h; exact absurd h h0; exact h
    rw [if_neg h0]
    by_cases h2 : p = 2
    · rw [if_pos h2]; unfold hil2; split <;> simp
    · rw [if_neg h2]
      have hp2 := hpr.1
      obtain ⟨P, rfl⟩ : ∃ P : Nat, p = (P : Int) := ⟨p.toNat, by omega⟩
      rw [Int.toNat_natCast] at *
      have hP2 : P ≠ 2 := by rintro rfl; exact h2 rfl
      have l1 := leg_ne (p := P) (a := rest P a) (not_dvd_rest (by omega) ha)
      have l2 := leg_ne (p := P) (a := rest P b) (not_dvd_rest (by omega) hb)
      unfold hilp
      rcases l1 with l1 | l1 <;> rcases l2 with l2 | l2 <;> rw [l1, l2] <;> cases oddB (vp P a) <;> cases oddB (vp P b) <;> cases three P <;> simp
theorem hil_self {a b p : Int} (ha : a ≠ 0) (hb : b ≠ 0) (hp : p = 0 ∨ IsP p.toNat) : Hil a b p * Hil a b p = 1 := by
  rcases hil_cases ha hb hp with h | h <;> rw [h] <;> rfl
theorem hil_sq_right {a b v p : Int} (ha : a ≠ 0) (hb : b ≠ 0) (hv : v ≠ 0) (hp : p = 0 ∨ IsP p.toNat) : Hil a (b * (v * v)) p = Hil a b p := by
  rw [hil_mul_right ha hb (Int.mul_ne_zero hv hv) hp, hil_mul_right ha hv hv hp, hil_self ha hv hp, Int.mul_one]
theorem hil_sq {a v p : Int} (ha : a ≠ 0) (hv : v ≠ 0) (hp : p = 0 ∨ IsP p.toNat) : Hil a (v * v) p = 1 := by
  rw [hil_mul_right ha hv hv hp, hil_self ha hv hp]

/-- two numbers whose sum is a square: their exponents -/
theorem norm_cases {P : Nat} (hP : IsP P) {A B w : Int} (hA : A ≠ 0) (hB : B ≠ 0) (hw : w ≠ 0) (h : A + B = w * w) :
    (∃ d, vp P B = vp P A + (d + 1) ∧ vp P A = vp P w + vp P w ∧ rest P A + P ^ (d + 1) * rest P B = rest P w * rest P w) ∨
    (∃ d, vp P A = vp P B + (d + 1) ∧ vp P B = vp P w + vp P w ∧ rest P B + P ^ (d + 1) * rest P A = rest P w * rest P w) ∨
    (vp P A = vp P B ∧ ∃ j, rest P A + rest P B = P ^ j * (rest P w * rest P w) ∧ vp P A + j = vp P w + vp P w) := by
  have hp2 : (2 : Int) ≤ P := by have := hP.1; omega
  have e1 := eq_pow_rest hp2 hA
  have e2 := eq_pow_rest hp2 hB
  have n1 := not_dvd_rest hp2 hA
  have n2 := not_dvd_rest hp2 hB
  obtain ⟨q1, q2⟩ := vp_mul hP hw hw
  have step : ∀ (i d : Nat) (u v : Int), ¬ (P : Int) ∣ u → (P : Int) ^ i * u + P ^ (i + (d + 1)) * v = w * w → i = vp P w + vp P w ∧ u + P ^ (d + 1) * v = rest P w * rest P w := by
    intro i d u v hu he
    have hn : ¬ (P : Int) ∣ u + P ^ (d + 1) * v := fun hd => hu (by
      have : (P : Int) ∣ P ^ (d + 1) * v := by rw [Int.pow_succ, Int.mul_comm (_ ^ d), Int.mul_assoc]; exact Int.dvd_mul_right ..
      exact (Int.dvd_add_left this).1 hd)
    obtain ⟨r1, r2⟩ := vp_unique hp2 (k := i) hn
    rw [show (P : Int) ^ i * (u + P ^ (d + 1) * v) = w * w by rw [← he, Int.pow_add _ i (d + 1), Int.mul_add, Int.mul_assoc]] at r1 r2
    exact ⟨by rw [← r1, q1], by rw [← r2, q2]⟩
  rcases Nat.lt_trichotomy (vp P A) (vp P B) with hl | hl | hl
  · left
    obtain ⟨d, hd⟩ : ∃ d, vp P B = vp P A + (d + 1) := ⟨vp P B - vp P A - 1, by omega⟩
    obtain ⟨s1, s2⟩ := step (vp P A) d _ (rest P B) n1 (by rw [← hd, ← e1, ← e2, h])
    exact ⟨d, hd, s1, s2⟩
  · right; right
    refine ⟨hl, ?_⟩
    have hs : rest P A + rest P B ≠ 0 := by
      intro h0
      have : w * w = 0 := by
        rw [← h, e1, e2, ← hl, ← Int.mul_add, h0, Int.mul_zero]
      exact Int.mul_ne_zero hw hw this
    have e3 := eq_pow_rest hp2 hs
    obtain ⟨r1, r2⟩ := vp_unique hp2 (k := vp P A + vp P (rest P A + rest P B)) (not_dvd_rest hp2 hs)
    rw [Int.pow_add, Int.mul_assoc, ← e3, Int.mul_add, ← e1, show (P : Int) ^ vp P A * rest P B = B by rw [hl, ← e2], h] at r1 r2
    exact ⟨_, by rw [← q2, r2]; exact e3, by rw [← r1, q1]⟩
  · right; left
    obtain ⟨d, hd⟩ : ∃ d, vp P A = vp P B + (d + 1) := ⟨vp P A - vp P B - 1, by omega⟩
    obtain ⟨s1, s2⟩ := step (vp P B) d _ (rest P A) n2 (by rw [← hd, ← e1, ← e2, Int.add_comm, h])
    exact ⟨d, hd, s1, s2⟩
theorem oddB_even {k : Nat} (m : Nat) (h : k = m + m) : oddB k = false := by
  unfold oddB; exact beq_eq_false_iff_ne.2 (by omega)
theorem oddB_true {k : Nat} (h : k % 2 = 1) : oddB k = true := by unfold oddB; exact beq_iff_eq.2 (by omega)
theorem oddB_false {k : Nat} (h : k % 2 = 0) : oddB k = false := by unfold oddB; exact beq_eq_false_iff_ne.2 (by omega)

theorem hilp_norm {P : Nat} (hP : IsP P) (hP2 : P ≠ 2) {A B w : Int} (hA : A ≠ 0) (hB : B ≠ 0) (hw : w ≠ 0) (h : A + B = w * w) :
    hilp (oddB (vp P A)) (oddB (vp P B)) (three P) (leg (rest P A) P) (leg (rest P B) P) = 1 := by
  have hp2 : (2 : Int) ≤ P := by have := hP.1; omega
  have nw := not_dvd_rest hp2 hw
  have nA := not_dvd_rest hp2 hA
  have nB := not_dvd_rest hp2 hB
  have key : ∀ (d : Nat) (u v : Int), u + P ^ (d + 1) * v = rest P w * rest P w → leg u P = 1 := by
    intro d u v he
    have hc : Cg P u (rest P w * rest P w) := by
      rw [← he]
      refine ⟨-(P ^ d * v), ?_⟩
      rw [Int.pow_succ]; grind
    rw [leg_congr hc, leg_mul hP hP2, leg_sq nw]
  rcases norm_cases hP hA hB hw h with ⟨d, h1, h2, h3⟩ | ⟨d, h1, h2, h3⟩ | ⟨h1, j, h2, h3⟩
  · rw [oddB_even _ h2, key d _ _ h3]
    unfold hilp; cases oddB (vp P B) <;> simp
  · rw [oddB_even _ h2, key d _ _ h3]
    unfold hilp; cases oddB (vp P A) <;> simp
  · rw [← h1]
    by_cases hk : vp P A % 2 = 0
    · rw [oddB_false hk]; unfold hilp; simp
    · rw [oddB_true (by omega)]
      obtain ⟨i, rfl⟩ : ∃ i, j = i + 1 := ⟨j - 1, by omega⟩
      have hc : Cg P (rest P A) (-rest P B) := by
        refine ⟨P ^ i * (rest P w * rest P w), ?_⟩
        rw [show rest P A - -rest P B = rest P A + rest P B by omega, h2, Int.pow_succ]; grind
      rw [leg_congr hc, leg_neg hP hP2, three_prime hP hP2]
      have := leg_sq (p := P) (a := rest P B) nB
      unfold hilp
      generalize leg (rest P B) P = x at *
      cases three P <;> simp <;> grind
theorem sq_mod8 {t : Int} (h : t % 2 = 1) : t * t % 8 = 1 := by
  have e := Int.mul_emod t t 8
  have a1 : t % 8 = 1 ∨ t % 8 = 3 ∨ t % 8 = 5 ∨ t % 8 = 7 := by omega
  rcases a1 with h | h | h | h <;> rw [h] at e <;> rw [e] <;> rfl
theorem hil2_half {u v s : Int} {d : Nat} (hu : u % 2 = 1) (hv : v % 2 = 1) (hs : s % 8 = 1) (h : u + 2 ^ (d + 1) * v = s) : hil2 (three u) (three v) false (far v) (oddB (d + 1)) (far u) = 1 := by
  have t4 : ∀ x : Int, three x = (x % 8 % 4 == 3) := by
    intro x; unfold three; rw [Bool.eq_iff_iff, beq_iff_eq, beq_iff_eq]; omega
  have f8 : ∀ x : Int, far x = (x % 8 == 3 || x % 8 == 5) := fun _ => rfl
  rw [t4, t4, f8, f8]
  match d, h with
  | 0, h =>
    rw [oddB_true (by omega)]
    have a1 : u % 8 = 1 ∨ u % 8 = 3 ∨ u % 8 = 5 ∨ u % 8 = 7 := by omega
    have a2 : v % 8 = 1 ∨ v % 8 = 3 ∨ v % 8 = 5 ∨ v % 8 = 7 := by omega
    simp at h
    rcases a1 with x | x | x | x <;> rcases a2 with y | y | y | y <;> first | (rw [x, y]; rfl) | (exfalso; omega)
  | 1, h =>
    rw [oddB_false (by omega)]
    have : u % 8 = 5 := by simp at h; omega
    rw [this]; simp [hil2]
  | d + 2, h =>
    have : u % 8 = 1 := by
      rw [show d + 2 + 1 = d + 3 by omega, Int.pow_add] at h
      generalize (2 : Int) ^ d = e at *
      have h2 : e * 2 ^ 3 * v = 8 * (e * v) := by grind
      rw [h2] at h
      omega
    rw [this]; simp [hil2]
theorem hil2_norm {A B w : Int} (hA : A ≠ 0) (hB : B ≠ 0) (hw : w ≠ 0) (h : A + B = w * w) :
    hil2 (three (rest 2 A)) (three (rest 2 B)) (oddB (vp 2 A)) (far (rest 2 B)) (oddB (vp 2 B)) (far (rest 2 A)) = 1 := by
  have ow := sq_mod8 (odd_rest_two hw)
  have oA := odd_rest_two hA
  have oB := odd_rest_two hB
  have hn : (∃ d, vp 2 B = vp 2 A + (d + 1) ∧ vp 2 A = vp 2 w + vp 2 w ∧ rest 2 A + 2 ^ (d + 1) * rest 2 B = rest 2 w * rest 2 w) ∨
    (∃ d, vp 2 A = vp 2 B + (d + 1) ∧ vp 2 B = vp 2 w + vp 2 w ∧ rest 2 B + 2 ^ (d + 1) * rest 2 A = rest 2 w * rest 2 w) ∨
    (vp 2 A = vp 2 B ∧ ∃ j, rest 2 A + rest 2 B = 2 ^ j * (rest 2 w * rest 2 w) ∧ vp 2 A + j = vp 2 w + vp 2 w) := norm_cases isP_two hA hB hw h
  have par : ∀ i d m : Nat, i = m + m → oddB (i + (d + 1)) = oddB (d + 1) := by
    intro i d m hi; rw [oddB_add, oddB_even m hi]; cases oddB (d + 1) <;> rfl
  rcases hn with ⟨d, h1, h2, h3⟩ | ⟨d, h1, h2, h3⟩ | ⟨h1, j, h2, h3⟩
  · rw [h1, par _ _ _ h2, oddB_even _ h2]
    exact hil2_half oA oB ow h3
  · rw [h1, par _ _ _ h2, oddB_even _ h2, hil2_comm]
    exact hil2_half oB oA ow h3
  · rw [← h1]
    generalize rest 2 w * rest 2 w = s at *
    generalize rest 2 A = u at *
    generalize rest 2 B = v at *
    have t4 : ∀ x : Int, three x = (x % 8 % 4 == 3) := by
      intro x; unfold three; rw [Bool.eq_iff_iff, beq_iff_eq, beq_iff_eq]; omega
    have f8 : ∀ x : Int, far x = (x % 8 == 3 || x % 8 == 5) := fun _ => rfl
    have a1 : u % 8 = 1 ∨ u % 8 = 3 ∨ u % 8 = 5 ∨ u % 8 = 7 := by omega
    have a2 : v % 8 = 1 ∨ v % 8 = 3 ∨ v % 8 = 5 ∨ v % 8 = 7 := by omega
    by_cases hk : vp 2 A % 2 = 0
    · rw [oddB_false hk, t4, t4]
      have : (u + v) % 4 = 0 := by
        match j, h2, h3 with
        | 0, h2, h3 => simp at h2; omega
        | 1, h2, h3 => omega
        | j + 2, h2, h3 =>
          rw [Int.pow_add] at h2
          have : (2 : Int) ^ j * 2 ^ 2 * s = 4 * (2 ^ j * s) := by grind
          rw [this] at h2
          omega
      rcases a1 with x | x | x | x <;> rcases a2 with y | y | y | y <;> first | (exfalso; omega) | (rw [x, y]; simp [hil2])
    · rw [oddB_true (by omega), t4, t4, f8, f8]
      have : (u + v) % 8 = 2 ∨ (u + v) % 8 = 0 := by
        match j, h2, h3 with
        | 0, h2, h3 => omega
        | 1, h2, h3 => left; simp at h2; omega
        | 2, h2, h3 => omega
        | j + 3, h2, h3 =>
          right
          rw [Int.pow_add] at h2
          have : (2 : Int) ^ j * 2 ^ 3 * s = 8 * (2 ^ j * s) := by grind
          rw [this] at h2
          omega
      rcases a1 with x | x | x | x <;> rcases a2 with y | y | y | y <;> first | (rw [x, y]; rfl) | (exfalso; omega)

/-- where the sum of two numbers is a square other than 0, their symbols are 1 -/
theorem hil_norm {A B w p : Int} (hA : A ≠ 0) (hB : B ≠ 0) (hw : w ≠ 0) (h : A + B = w * w) (hp : p = 0 ∨ IsP p.toNat) : Hil A B p = 1 := by
  unfold Hil
  by_cases h0 : p = 0
  · rw [if_pos h0, if_neg]
    intro hc
    have : 0 ≤ w * w := by rw [← Int.natAbs_mul_self]; exact Int.natCast_nonneg _
    omega
  · have hpr : IsP p.toNat := by rcases hp with h | h; exact absurd h h0; exact h
    rw [if_neg h0]
    by_cases h2 : p = 2
    · rw [if_pos h2]; exact hil2_norm hA hB hw h
    · rw [if_neg h2]
      have hp2 := hpr.1
      obtain ⟨P, rfl⟩ : ∃ P : Nat, p = (P : Int) := ⟨p.toNat, by omega⟩
      rw [Int.toNat_natCast] at *
      exact hilp_norm hpr (by rintro rfl; exact h2 rfl) hA hB hw h
theorem hil_solved {a b u v w p : Int} (ha : a ≠ 0) (hb : b ≠ 0) (hw : w ≠ 0) (h : a * (u * u) + b * (v * v) = w * w) (hp : p = 0 ∨ IsP p.toNat) : Hil a b p = 1 := by
  by_cases hu : u = 0
  · subst hu
    have hv : v ≠ 0 := by rintro rfl; exact Int.mul_ne_zero hw hw (by rw [← h]; simp)
    rw [← hil_sq_right ha hb hv hp, show b * (v * v) = w * w by rw [← h]; simp]
    exact hil_sq ha hw hp
  · by_cases hv : v = 0
    · subst hv
      rw [hil_comm, ← hil_sq_right hb ha hu hp, show a * (u * u) = w * w by rw [← h]; simp]
      exact hil_sq hb hw hp
    · have ha' := Int.mul_ne_zero ha (Int.mul_ne_zero hu hu)
      rw [← hil_sq_right ha hb hv hp, hil_comm, ← hil_sq_right (Int.mul_ne_zero hb (Int.mul_ne_zero hv hv)) ha hu hp, hil_comm]
      exact hil_norm ha' (Int.mul_ne_zero hb (Int.mul_ne_zero hv hv)) hw h hp

/-- the product of the symbols at a list of places -/
def prodH (a b : Int) : List Int → Int
  | [] => 1
  | p :: l => Hil a b p * prodH a b l
/-- a list of places that has the real one and 2 -/
structure Places (L : List Int) : Prop where
  nodup : L.Nodup
  zero : 0 ∈ L
  two : 2 ∈ L
  ok : ∀ p ∈ L, p = 0 ∨ IsP p.toNat
theorem prodH_comm (a b : Int) (L : List Int) : prodH a b L = prodH b a L := by
  induction L with
  | nil => rfl
  | cons p l ih => unfold prodH; rw [hil_comm, ih]
theorem prodH_append (a b : Int) (l m : List Int) : prodH a b (l ++ m) = prodH a b l * prodH a b m := by
  induction l with
  | nil => simp [prodH]
  | cons p l ih => simp only [List.cons_append, prodH]; rw [ih, Int.mul_assoc]
theorem prodH_mul {a b c : Int} (ha : a ≠ 0) (hb : b ≠ 0) (hc : c ≠ 0) {L : List Int} (hL : ∀ p ∈ L, p = 0 ∨ IsP p.toNat) : prodH a (b * c) L = prodH a b L * prodH a c L := by
  induction L with
  | nil => rfl
  | cons p l ih =>
    unfold prodH
    rw [hil_mul_right ha hb hc (hL p (by simp)), ih (fun q hq => hL q (by simp [hq]))]
    grind
theorem prodH_erase {a b x : Int} {L : List Int} (h : x ∈ L) : prodH a b L = Hil a b x * prodH a b (L.erase x) := by
  induction L with
  | nil => cases h
  | cons p l ih =>
    by_cases hx : p = x
    · subst hx; rw [List.erase_cons_head]; rfl
    · rw [List.erase_cons_tail (by simpa using hx)]
      have hm : x ∈ l := by rcases List.mem_cons.1 h with e | e; exact absurd e.symm hx; exact e
      unfold prodH
      rw [ih hm]; grind
theorem prodH_one {a b : Int} {L : List Int} (h : ∀ p ∈ L, Hil a b p = 1) : prodH a b L = 1 := by
  induction L with
  | nil => rfl
  | cons p l ih => unfold prodH; rw [h p (by simp), ih (fun q hq => h q (by simp [hq]))]; rfl
theorem prodH_neg {a : Int} (ha : a ≠ 0) {L : List Int} (hL : ∀ p ∈ L, p = 0 ∨ IsP p.toNat) : prodH a (-a) L = 1 := prodH_one fun p hp => hil_neg ha (hL p hp)

/-- away from 2 and the numbers the symbol is 1 -/
theorem hil_unit {a b p : Int} (hp : IsP p.toNat) (h2 : p ≠ 2) (ha : ¬ p ∣ a) (hb : ¬ p ∣ b) : Hil a b p = 1 := by
  have hp2 := hp.1
  unfold Hil
  rw [if_neg (by omega), if_neg h2, vp_not ha, vp_not hb]
  simp [hilp, oddB]
theorem vp_self {p : Int} (hp : 2 ≤ p) : vp p p = 1 ∧ rest p p = 1 := by
  have h1 : ¬ p ∣ 1 := fun hd => by have := Int.le_of_dvd (by omega) hd; omega
  have := vp_unique hp (k := 1) h1
  rw [Int.mul_one, Int.pow_succ, Int.pow_zero, Int.one_mul] at this
  exact this
theorem two_not {x : Int} (h : x % 2 = 1) : vp 2 x = 0 ∧ rest 2 x = x := ⟨vp_not (by omega), rest_not (by omega)⟩
theorem places_pull {L : List Int} (h : Places L) {a b : Int} (hr : ∀ p ∈ (L.erase 0).erase 2, Hil a b p = 1) : prodH a b L = Hil a b 0 * Hil a b 2 := by
  rw [prodH_erase h.zero, prodH_erase (L := L.erase 0) ((h.nodup.mem_erase_iff).2 ⟨by decide, h.two⟩), prodH_one hr, Int.mul_one]
theorem places_rest {L : List Int} (h : Places L) {p : Int} (hp : p ∈ (L.erase 0).erase 2) : IsP p.toNat ∧ p ≠ 2 ∧ p ∈ L := by
  obtain ⟨h1, h2⟩ := ((h.nodup.erase 0).mem_erase_iff).1 hp
  obtain ⟨h3, h4⟩ := (h.nodup.mem_erase_iff).1 h2
  rcases h.ok p h4 with e | e
  · exact absurd e h3
  · exact ⟨e, h1, h4⟩
theorem not_dvd_unit {p u : Int} (hp : IsP p.toNat) (h : u = 1 ∨ u = -1) : ¬ p ∣ u := by
  intro hd
  have hp2 := hp.1
  have : p ∣ 1 := by rcases h with rfl | rfl; exact hd; exact Int.dvd_neg.1 hd
  have := Int.le_of_dvd (by omega) this
  omega
theorem not_dvd_prime {p q : Int} (hp : IsP p.toNat) (hq : IsP q.toNat) (h : p ≠ q) : ¬ p ∣ q := by
  intro hd
  have hp2 := hp.1
  have hq2 := hq.1
  apply h
  have : p.toNat ∣ q.toNat := by
    have := Int.natAbs_dvd_natAbs.2 hd
    rwa [show p.natAbs = p.toNat by omega, show q.natAbs = q.toNat by omega] at this
  have := hp.eq_of_dvd hq this
  omega
theorem isP_toNat_two : IsP (2 : Int).toNat := isP_two

theorem places_neg_neg {L : List Int} (h : Places L) : prodH (-1) (-1) L = 1 := by
  rw [places_pull h fun p hp => by
    obtain ⟨h1, h2, -⟩ := places_rest h hp
    exact hil_unit h1 h2 (not_dvd_unit h1 (.inr rfl)) (not_dvd_unit h1 (.inr rfl))]
  have e := two_not (x := -1) (by decide)
  simp [Hil, e.1, e.2, hil2, three, far, oddB]
theorem places_neg_two {L : List Int} (h : Places L) : prodH (-1) 2 L = 1 := by
  rw [places_pull h fun p hp => by
    obtain ⟨h1, h2, -⟩ := places_rest h hp
    exact hil_unit h1 h2 (not_dvd_unit h1 (.inr rfl)) (not_dvd_prime h1 isP_toNat_two h2)]
  have e := two_not (x := -1) (by decide)
  have f := vp_self (p := 2) (by decide)
  simp [Hil, e.1, e.2, f.1, f.2, hil2, three, far, oddB]
theorem places_pull3 {L : List Int} (h : Places L) {a b q : Int} (hq : IsP q.toNat) (h2 : q ≠ 2) (hm : q ∈ L) (hr : ∀ p ∈ L, IsP p.toNat → p ≠ 2 → p ≠ q → Hil a b p = 1) : prodH a b L = Hil a b 0 * Hil a b 2 * Hil a b q := by
  have hq2 := hq.1
  have n0 : q ∈ L.erase 0 := (h.nodup.mem_erase_iff).2 ⟨by rintro rfl; exact absurd hq2 (by decide), hm⟩
  have n2 : q ∈ (L.erase 0).erase 2 := ((h.nodup.erase 0).mem_erase_iff).2 ⟨h2, n0⟩
  rw [prodH_erase h.zero, prodH_erase (L := L.erase 0) ((h.nodup.mem_erase_iff).2 ⟨by decide, h.two⟩), prodH_erase n2, prodH_one fun p hp => by
    obtain ⟨h3, h4⟩ := (((h.nodup.erase 0).erase 2).mem_erase_iff).1 hp
    obtain ⟨h5, h6, h7⟩ := places_rest h h4
    exact hr p h7 h5 h6 h3]
  grind
theorem three_nat {q : Int} (h : IsP q.toNat) (h2 : q ≠ 2) : q % 2 = 1 := by
  have := h.odd (by omega); have := h.1; omega
theorem places_neg_p {L : List Int} (h : Places L) {q : Int} (hq : IsP q.toNat) (h2 : q ≠ 2) (hm : q ∈ L) : prodH (-1) q L = 1 := by
  have hq2 := hq.1
  rw [places_pull3 h hq h2 hm fun p _ h1 h3 h4 => hil_unit h1 h3 (not_dvd_unit h1 (.inr rfl)) (not_dvd_prime h1 hq h4)]
  have e := two_not (x := -1) (by decide)
  have f := two_not (x := q) (three_nat hq h2)
  have g := vp_self (p := q) (by omega)
  have k := vp_not (not_dvd_unit hq (u := -1) (.inr rfl))
  have k' := rest_not (not_dvd_unit hq (u := -1) (.inr rfl))
  have t := three_prime hq (show q.toNat ≠ 2 by omega)
  rw [show ((q.toNat : Nat) : Int) = q by omega] at t
  have e0 : Hil (-1) q 0 = 1 := by unfold Hil; rw [if_pos rfl, if_neg (by omega)]
  have e2 : Hil (-1) q 2 = if three q = true then -1 else 1 := by
    unfold Hil
    rw [if_neg (by decide), if_pos rfl, e.1, e.2, f.1, f.2]
    unfold hil2
    rw [show three (-1) = true from rfl, show oddB 0 = false from rfl]
    simp
  have ep : Hil (-1) q q = leg (-1) q.toNat := by
    unfold Hil
    rw [if_neg (by omega), if_neg h2, g.1, k, k']
    simp [hilp, oddB]
  rw [e0, e2, ep, t]
  cases three q <;> rfl
theorem places_two_p {L : List Int} (h : Places L) {q : Int} (hq : IsP q.toNat) (h2 : q ≠ 2) (hm : q ∈ L) : prodH 2 q L = 1 := by
  have hq2 := hq.1
  rw [places_pull3 h hq h2 hm fun p _ h1 h3 h4 => hil_unit h1 h3 (not_dvd_prime h1 isP_toNat_two h3) (not_dvd_prime h1 hq h4)]
  have f := two_not (x := q) (three_nat hq h2)
  have g := vp_self (p := q) (by omega)
  have e := vp_self (p := 2) (by decide)
  have k := vp_not (not_dvd_prime hq isP_toNat_two h2)
  have k' := rest_not (not_dvd_prime hq isP_toNat_two h2)
  have t := jac_two_mod (n := q.toNat) (by have := three_nat hq h2; omega)
  rw [jac_prime hq] at t
  have e0 : Hil 2 q 0 = 1 := by unfold Hil; rw [if_pos rfl, if_neg (by omega)]
  have e2 : Hil 2 q 2 = if far q = true then -1 else 1 := by
    unfold Hil
    rw [if_neg (by decide), if_pos rfl, e.1, e.2, f.1, f.2]
    unfold hil2
    rw [show three 1 = false from rfl, show oddB 0 = false from rfl, show oddB 1 = true from rfl]
    simp
  have ep : Hil 2 q q = leg 2 q.toNat := by
    unfold Hil
    rw [if_neg (by omega), if_neg h2, g.1, k, k']
    simp [hilp, oddB]
  rw [e0, e2, ep, t]
  unfold far
  by_cases c : q.toNat % 8 = 3 ∨ q.toNat % 8 = 5
  · rw [if_pos c, if_pos (by simp; omega)]; rfl
  · rw [if_neg c, if_neg (by simp; omega)]; rfl
theorem places_p_q {L : List Int} (h : Places L) {p q : Int} (hp : IsP p.toNat) (hp2 : p ≠ 2) (hpm : p ∈ L) (hq : IsP q.toNat) (hq2 : q ≠ 2) (hqm : q ∈ L) (hne : p ≠ q) : prodH p q L = 1 := by
  have p2 := hp.1
  have q2 := hq.1
  have n0 : q ∈ L.erase 0 := (h.nodup.mem_erase_iff).2 ⟨by omega, hqm⟩
  have n2 : q ∈ (L.erase 0).erase 2 := ((h.nodup.erase 0).mem_erase_iff).2 ⟨hq2, n0⟩
  have m0 : p ∈ L.erase 0 := (h.nodup.mem_erase_iff).2 ⟨by omega, hpm⟩
  have m2 : p ∈ (L.erase 0).erase 2 := ((h.nodup.erase 0).mem_erase_iff).2 ⟨hp2, m0⟩
  have m3 : p ∈ ((L.erase 0).erase 2).erase q := (((h.nodup.erase 0).erase 2).mem_erase_iff).2 ⟨hne, m2⟩
  rw [prodH_erase h.zero, prodH_erase (L := L.erase 0) ((h.nodup.mem_erase_iff).2 ⟨by decide, h.two⟩), prodH_erase n2, prodH_erase m3, prodH_one fun r hr => by
    obtain ⟨h3, h4⟩ := ((((h.nodup.erase 0).erase 2).erase q).mem_erase_iff).1 hr
    obtain ⟨h5, h6⟩ := (((h.nodup.erase 0).erase 2).mem_erase_iff).1 h4
    obtain ⟨h7, h8, -⟩ := places_rest h h6
    exact hil_unit h7 h8 (not_dvd_prime h7 hp h3) (not_dvd_prime h7 hq h5)]
  have f := two_not (x := q) (three_nat hq hq2)
  have e := two_not (x := p) (three_nat hp hp2)
  have g := vp_self (p := q) (by omega)
  have g' := vp_self (p := p) (by omega)
  have k := vp_not (not_dvd_prime hq hp (Ne.symm hne))
  have k' := rest_not (not_dvd_prime hq hp (Ne.symm hne))
  have l := vp_not (not_dvd_prime hp hq hne)
  have l' := rest_not (not_dvd_prime hp hq hne)
  have e0 : Hil p q 0 = 1 := by unfold Hil; rw [if_pos rfl, if_neg (by omega)]
  have e2 : Hil p q 2 = if (three p && three q) = true then -1 else 1 := by
    unfold Hil
    rw [if_neg (by decide), if_pos rfl, e.1, e.2, f.1, f.2]
    unfold hil2
    rw [show oddB 0 = false from rfl]
    simp
  have eq : Hil p q q = leg p q.toNat := by
    unfold Hil
    rw [if_neg (by omega), if_neg hq2, g.1, k, k']
    simp [hilp, oddB]
  have ep : Hil p q p = leg q p.toNat := by
    unfold Hil
    rw [if_neg (by omega), if_neg hp2, g'.1, l, l']
    simp [hilp, oddB]
  have rc := reciprocity hp hq (show p.toNat ≠ 2 by omega) (show q.toNat ≠ 2 by omega) (show p.toNat ≠ q.toNat by omega)
  rw [e0, e2, eq, ep]
  rw [show ((p.toNat : Nat) : Int) = p by omega, show ((q.toNat : Nat) : Int) = q by omega] at rc
  have o1 := three_nat hp hp2
  have o2 := three_nat hq hq2
  have t1 : sg ((p.toNat - 1) / 2 * ((q.toNat - 1) / 2)) = if (three p && three q) = true then -1 else 1 := by
    unfold three
    by_cases c1 : p % 4 = 3
    · rw [sg_mul_odd (by omega)]
      by_cases c2 : q % 4 = 3
      · rw [sg_odd (by omega), if_pos (by simp [c1, c2])]
      · rw [sg_even (by omega), if_neg (by simp [c2])]
    · rw [Nat.mul_comm]
      by_cases c2 : q % 4 = 3
      · rw [sg_mul_odd (by omega), sg_even (by omega), if_neg (by simp [c1])]
      · rw [if_neg (by simp [c1]), sg_even]
        rw [Nat.mul_mod, show (p.toNat - 1) / 2 % 2 = 0 by omega, Nat.mul_zero]
  rw [← t1]
  have := sg_sq ((p.toNat - 1) / 2 * ((q.toNat - 1) / 2))
  grind

/-- from the primes to all numbers -/
theorem places_all {a : Int} (ha : a ≠ 0) {L : List Int} (h : Places L) (h1 : prodH a (-1) L = 1) (hq : ∀ q : Int, IsP q.toNat → q ∈ L → prodH a q L = 1) :
    ∀ (n : Nat) (b : Int), b.natAbs ≤ n → b ≠ 0 → (∀ q : Int, IsP q.toNat → q ∣ b → q ∈ L) → prodH a b L = 1 := by
  intro n
  induction n with
  | zero => intro b hb h0; omega
  | succ n ih =>
    intro b hb h0 hd
    by_cases hs : b.natAbs < 2
    · have : b = 1 ∨ b = -1 := by omega
      rcases this with rfl | rfl
      · have := prodH_mul ha (b := -1) (c := -1) (by decide) (by decide) h.ok
        rw [h1] at this; exact this
      · exact h1
    · obtain ⟨p, pp, pd⟩ := exists_prime_dvd b.natAbs (by omega)
      have hdv : (p : Int) ∣ b := Int.ofNat_dvd_left.2 pd
      obtain ⟨c, rfl⟩ := hdv
      have p2 := pp.1
      have hc : c ≠ 0 := by rintro rfl; simp at h0
      rw [prodH_mul ha (by omega) hc h.ok, hq p (by rwa [Int.toNat_natCast]) (hd p (by rwa [Int.toNat_natCast]) (Int.dvd_mul_right ..)), ih c ?_ hc fun q h1 h2 => hd q h1 (Int.dvd_trans h2 (Int.dvd_mul_left ..))]
      · rfl
      · rw [Int.natAbs_mul, Int.natAbs_natCast] at hb
        have : 2 * c.natAbs ≤ p * c.natAbs := Nat.mul_le_mul_right _ p2
        have : 0 < c.natAbs := by omega
        omega
theorem places_prime {L : List Int} (h : Places L) {q : Int} (hq : IsP q.toNat) (hm : q ∈ L) : prodH q (-1) L = 1 ∧ ∀ p : Int, IsP p.toNat → p ∈ L → prodH q p L = 1 := by
  have q2 := hq.1
  have hq0 : q ≠ 0 := by omega
  have n1 : prodH q (-1) L = 1 := by
    rw [prodH_comm]
    by_cases e : q = 2
    · rw [e]; exact places_neg_two h
    · exact places_neg_p h hq e hm
  refine ⟨n1, fun p hp hpm => ?_⟩
  have p2 := hp.1
  by_cases hpq : q = p
  · subst hpq
    have := prodH_mul hq0 (b := -1) (c := -q) (by decide) (by omega) h.ok
    rw [n1, prodH_neg hq0 h.ok, show -1 * -q = q by omega] at this
    exact this
  · by_cases e : q = 2
    · subst e
      exact places_two_p h hp (fun e => hpq e.symm) hpm
    · by_cases f : p = 2
      · subst f
        rw [prodH_comm]; exact places_two_p h hq e hm
      · exact places_p_q h hq e hm hp f hpm hpq
/-- the product formula -/
theorem product_formula {a b : Int} (ha : a ≠ 0) (hb : b ≠ 0) {L : List Int} (h : Places L) (hA : ∀ q : Int, IsP q.toNat → q ∣ a → q ∈ L) (hB : ∀ q : Int, IsP q.toNat → q ∣ b → q ∈ L) : prodH a b L = 1 := by
  refine places_all ha h ?_ (fun q h1 h2 => ?_) _ b (Nat.le_refl _) hb hB
  · rw [prodH_comm]
    refine places_all (by decide) h (places_neg_neg h) (fun q h1 h2 => ?_) _ a (Nat.le_refl _) ha hA
    rw [prodH_comm]; exact (places_prime h h1 h2).1
  · have q2 := h1.1
    rw [prodH_comm]
    exact places_all (by omega) h (places_prime h h1 h2).1 (places_prime h h1 h2).2 _ a (Nat.le_refl _) ha hA
end FF
namespace FF

/-- the primes of a list of prime powers are added to a list of places, each once -/
def addP (L : List Int) : List (Int × Nat) → List Int
  | [] => L
  | x :: l => addP (if x.1 ∈ L then L else L ++ [x.1]) l
/-- all places of two numbers -/
def placesOf (a b : Int) : List Int := addP (addP [0, 2] (facs a.natAbs)) (facs b.natAbs)

theorem addP_append (L : List Int) (l m : List (Int × Nat)) : addP L (l ++ m) = addP (addP L l) m := by
  induction l generalizing L with
  | nil => rfl
  | cons x l ih => simp only [List.cons_append, addP]; exact ih _
theorem addP_take (L : List Int) {l : List (Int × Nat)} {i : Nat} (h : i < l.length) :
    addP L (l.take (i + 1)) = if (l.getD i (0, 0)).1 ∈ addP L (l.take i) then addP L (l.take i) else addP L (l.take i) ++ [(l.getD i (0, 0)).1] := by
  rw [List.take_add_one, addP_append, List.getElem?_eq_getElem h]
  have : l.getD i (0, 0) = l[i] := by rw [List.getD_eq_getElem?_getD, List.getElem?_eq_getElem h]; rfl
  rw [this]
  rfl
theorem addP_len (L : List Int) (l : List (Int × Nat)) : (addP L l).length ≤ L.length + l.length := by
  induction l generalizing L with
  | nil => simp [addP]
  | cons x l ih =>
    unfold addP
    refine Nat.le_trans (ih _) ?_
    split
    · simp
    · simp; omega
theorem mem_addP {L : List Int} {l : List (Int × Nat)} {p : Int} : p ∈ addP L l ↔ p ∈ L ∨ ∃ x ∈ l, x.1 = p := by
  induction l generalizing L with
  | nil => simp [addP]
  | cons x l ih =>
    unfold addP
    rw [ih]
    by_cases h : x.1 ∈ L
    · rw [if_pos h]
      constructor
      · rintro (h1 | ⟨y, h1, h2⟩)
        · exact .inl h1
        · exact .inr ⟨y, by simp [h1], h2⟩
      · rintro (h1 | ⟨y, h1, h2⟩)
        · exact .inl h1
        · rcases List.mem_cons.1 h1 with rfl | h1
          · rw [← h2]; exact .inl h
          · exact .inr ⟨y, h1, h2⟩
    · rw [if_neg h]
      constructor
      · rintro (h1 | ⟨y, h1, h2⟩)
        · rcases List.mem_append.1 h1 with h1 | h1
          · exact .inl h1
          · exact .inr ⟨x, by simp, (List.mem_singleton.1 h1).symm⟩
        · exact .inr ⟨y, by simp [h1], h2⟩
      · rintro (h1 | ⟨y, h1, h2⟩)
        · exact .inl (List.mem_append_left _ h1)
        · rcases List.mem_cons.1 h1 with rfl | h1
          · rw [← h2]; exact .inl (by simp)
          · exact .inr ⟨y, h1, h2⟩
theorem nodup_addP {L : List Int} {l : List (Int × Nat)} (h : L.Nodup) : (addP L l).Nodup := by
  induction l generalizing L with
  | nil => exact h
  | cons x l ih =>
    unfold addP
    refine ih ?_
    split
    · exact h
    · rename_i hn
      refine List.nodup_append.2 ⟨h, by simp, ?_⟩
      intro a ha b hb
      rw [List.mem_singleton.1 hb]
      rintro rfl
      exact hn ha

theorem dvd_prodF {l : List (Int × Nat)} {q : Int} (hl : ∀ x ∈ l, IsP x.1.toNat) (hq : IsP q.toNat) (h : q ∣ prodF l) : ∃ x ∈ l, x.1 = q := by
  have q2 := hq.1
  obtain ⟨Q, rfl⟩ : ∃ Q : Nat, q = (Q : Int) := ⟨q.toNat, by omega⟩
  rw [Int.toNat_natCast] at hq
  induction l with
  | nil =>
    exfalso
    have := Int.le_of_dvd (by decide) (show (Q : Int) ∣ 1 from h)
    omega
  | cons x l ih =>
    rcases hq.idvd_mul (show (Q : Int) ∣ x.1 ^ x.2 * prodF l from h) with h1 | h1
    · have hx := hl x (by simp)
      have x2 := hx.1
      have h2 := hq.idvd_pow h1
      refine ⟨x, by simp, ?_⟩
      have : Q ∣ x.1.toNat := by
        have := Int.natAbs_dvd_natAbs.2 h2
        rwa [Int.natAbs_natCast, show x.1.natAbs = x.1.toNat by omega] at this
      have := hq.eq_of_dvd hx this
      omega
    · obtain ⟨y, h2, h3⟩ := ih (fun y hy => hl y (by simp [hy])) h1
      exact ⟨y, by simp [h2], h3⟩
theorem mem_dvd_prodF {l : List (Int × Nat)} {x : Int × Nat} (hx : x ∈ l) (h1 : 1 ≤ x.2) : x.1 ∣ prodF l := by
  induction l with
  | nil => cases hx
  | cons y l ih =>
    rcases List.mem_cons.1 hx with rfl | hx
    · obtain ⟨k, hk⟩ : ∃ k, x.2 = k + 1 := ⟨x.2 - 1, by omega⟩
      show x.1 ∣ x.1 ^ x.2 * prodF l
      rw [hk, Int.pow_succ, Int.mul_comm (x.1 ^ k), Int.mul_assoc]
      exact ⟨_, rfl⟩
    · exact Int.dvd_trans (ih hx) ⟨y.1 ^ y.2, by rw [Int.mul_comm]; rfl⟩

theorem placesOf_ok {a b : Int} (ha : a ≠ 0) (hb : b ≠ 0) : Places (placesOf a b) := by
  have okA := facs_ok (n := a.natAbs) (by omega)
  have okB := facs_ok (n := b.natAbs) (by omega)
  refine ⟨nodup_addP (nodup_addP (by decide)), ?_, ?_, ?_⟩
  · exact mem_addP.2 (.inl (mem_addP.2 (.inl (by simp))))
  · exact mem_addP.2 (.inl (mem_addP.2 (.inl (by simp))))
  · intro p hp
    rcases mem_addP.1 hp with h | ⟨x, h1, rfl⟩
    · rcases mem_addP.1 h with h | ⟨x, h1, rfl⟩
      · simp at h
        rcases h with rfl | rfl
        · exact .inl rfl
        · exact .inr isP_two
      · exact .inr (okA.prime x h1).1
    · exact .inr (okB.prime x h1).1
theorem placesOf_bound {a b : Int} (ha : a ≠ 0) (hb : b ≠ 0) {p : Int} (hp : p ∈ placesOf a b) : p = 0 ∨ p = 2 ∨ p ≤ a.natAbs ∨ p ≤ b.natAbs := by
  have okA := facs_ok (n := a.natAbs) (by omega)
  have okB := facs_ok (n := b.natAbs) (by omega)
  rcases mem_addP.1 hp with h | ⟨x, h1, rfl⟩
  · rcases mem_addP.1 h with h | ⟨x, h1, rfl⟩
    · simp at h; omega
    · have := (okA.prime x h1).2.2.2; omega
  · have := (okB.prime x h1).2.2.2; omega
theorem placesOf_dvd {a b : Int} (ha : a ≠ 0) (hb : b ≠ 0) {p : Int} (hp : p ∈ placesOf a b) (h0 : p ≠ 0) : p ∣ (2 * a * b).natAbs := by
  have okA := facs_ok (n := a.natAbs) (by omega)
  have okB := facs_ok (n := b.natAbs) (by omega)
  rw [Int.dvd_natAbs]
  rcases mem_addP.1 hp with h | ⟨x, h1, rfl⟩
  · rcases mem_addP.1 h with h | ⟨x, h1, rfl⟩
    · simp at h
      have : p = 2 := by omega
      subst this
      exact ⟨a * b, by rw [Int.mul_assoc]⟩
    · have h2 := mem_dvd_prodF h1 (okA.prime x h1).2.1
      rw [okA.prod, Int.dvd_natAbs] at h2
      exact Int.dvd_trans h2 ⟨2 * b, by rw [Int.mul_comm 2 a, Int.mul_assoc]⟩
  · have h2 := mem_dvd_prodF h1 (okB.prime x h1).2.1
    rw [okB.prod, Int.dvd_natAbs] at h2
    exact Int.dvd_trans h2 ⟨2 * a, by rw [Int.mul_comm]⟩
theorem placesOf_all {a b : Int} (ha : a ≠ 0) (hb : b ≠ 0) {q : Int} (hq : IsP q.toNat) (h : q ∣ a ∨ q ∣ b) : q ∈ placesOf a b := by
  have okA := facs_ok (n := a.natAbs) (by omega)
  have okB := facs_ok (n := b.natAbs) (by omega)
  rcases h with h | h
  · refine mem_addP.2 (.inl (mem_addP.2 (.inr ?_)))
    refine dvd_prodF (fun x hx => (okA.prime x hx).1) hq ?_
    rw [okA.prod, Int.dvd_natAbs]; exact h
  · refine mem_addP.2 (.inr ?_)
    refine dvd_prodF (fun x hx => (okB.prime x hx).1) hq ?_
    rw [okB.prod, Int.dvd_natAbs]; exact h
/-- the product formula at the places of the two numbers -/
theorem placesOf_product {a b : Int} (ha : a ≠ 0) (hb : b ≠ 0) : prodH a b (placesOf a b) = 1 :=
  product_formula ha hb (placesOf_ok ha hb) (fun _ hq h => placesOf_all ha hb hq (.inl h)) (fun _ hq h => placesOf_all ha hb hq (.inr h))
theorem prodH_cases {a b : Int} (ha : a ≠ 0) (hb : b ≠ 0) {L : List Int} (hL : ∀ p ∈ L, p = 0 ∨ IsP p.toNat) : prodH a b L = 1 ∨ prodH a b L = -1 := by
  induction L with
  | nil => exact .inl rfl
  | cons p l ih =>
    unfold prodH
    rcases hil_cases ha hb (hL p (by simp)) with h | h <;> rcases ih (fun q hq => hL q (by simp [hq])) with g | g <;> rw [h, g] <;> simp
theorem prodH_take {a b : Int} {L : List Int} {i : Nat} (h : i < L.length) : prodH a b (L.take (i + 1)) = prodH a b (L.take i) * Hil a b (L.getD i 0) := by
  rw [List.take_add_one, prodH_append, List.getElem?_eq_getElem h, List.getD_eq_getElem?_getD, List.getElem?_eq_getElem h]
  show _ * (_ * 1) = _
  rw [Int.mul_one]; rfl
theorem facs_short {n : Int} (hn : 1 ≤ n) (h : n ≤ 20000) : (facs n).length ≤ 14 := by
  have h1 := (facs_ok hn).len
  rcases Nat.lt_or_ge 14 (facs n).length with g | g
  · exfalso
    have h2 : 2 ^ 15 ≤ 2 ^ (facs n).length := Nat.pow_le_pow_right (by omega) g
    have h3 : ((2 ^ (facs n).length : Nat) : Int) ≤ n := by push_cast; exact h1
    omega
  · exact g
end FF
