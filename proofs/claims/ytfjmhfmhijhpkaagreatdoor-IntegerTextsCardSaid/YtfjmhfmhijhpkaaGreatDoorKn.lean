/- Plain: division by a number of several digits: the guess of a digit of the quotient, and what is taken from the number. -/
import Derived.Test.YtfjmhfmhijhpkaaGreatDoorWd
namespace FF
/-- the digits of a row from j on -/
def seg (f : Nat → Nat) (j m : Nat) : List Nat := (List.range m).map fun i => f (j + i)
theorem seg_length (f : Nat → Nat) (j m : Nat) : (seg f j m).length = m := by simp [seg]
theorem seg_getD {f : Nat → Nat} {j m i : Nat} (h : i < m) : (seg f j m).getD i 0 = f (j + i) := by
  simp [seg, List.getD_eq_getElem?_getD, h]
theorem seg_snoc (f : Nat → Nat) (j m : Nat) : seg f j (m + 1) = seg f j m ++ [f (j + m)] := by
  simp [seg, List.range_succ]
theorem seg_append (f : Nat → Nat) (j m n : Nat) : seg f j (m + n) = seg f j m ++ seg f (j + m) n := by
  induction n with
  | zero => simp [seg]
  | succ n ih => rw [← Nat.add_assoc, seg_snoc, ih, seg_snoc, List.append_assoc, Nat.add_assoc]
theorem seg_take {f : Nat → Nat} {j m i : Nat} (h : i ≤ m) : (seg f j m).take i = seg f j i := by
  obtain ⟨k, rfl⟩ : ∃ k, m = i + k := ⟨m - i, by omega⟩
  rw [seg_append, List.take_left' (seg_length f j i)]
theorem seg_congr {f g : Nat → Nat} {j m : Nat} (h : ∀ i, i < m → f (j + i) = g (j + i)) : seg f j m = seg g j m := by
  unfold seg
  exact List.map_congr_left fun i hi => h i (List.mem_range.1 hi)
theorem dig_seg {B : Nat} {f : Nat → Nat} (h : ∀ k, f k < B) (j m : Nat) : Dig B (seg f j m) := by
  intro x hx
  obtain ⟨i, _, rfl⟩ := List.mem_map.1 hx
  exact h _
/-- a row with the digits R from j on -/
def put (f : Nat → Nat) (j : Nat) (R : List Nat) (k : Nat) : Nat := if j ≤ k ∧ k < j + R.length then R.getD (k - j) 0 else f k
theorem put_nil (f : Nat → Nat) (j k : Nat) : put f j [] k = f k := by unfold put; rw [if_neg (by simp)]
theorem put_snoc (f : Nat → Nat) (j : Nat) (R : List Nat) (d k : Nat) : put f j (R ++ [d]) k = if k = j + R.length then d else put f j R k := by
  unfold put
  rw [List.length_append, List.length_singleton, getD_snoc]
  by_cases h : k = j + R.length
  · rw [if_pos h, if_pos (by omega), if_pos (by omega)]
  · rw [if_neg h]
    by_cases h2 : j ≤ k ∧ k < j + R.length
    · rw [if_pos (by omega), if_neg (by omega), if_pos h2]
    · rw [if_neg (by omega), if_neg h2]
theorem put_past {f : Nat → Nat} {j : Nat} {R : List Nat} {k : Nat} (h : j + R.length ≤ k) : put f j R k = f k := by unfold put; rw [if_neg (by omega)]
theorem put_before {f : Nat → Nat} {j : Nat} {R : List Nat} {k : Nat} (h : k < j) : put f j R k = f k := by unfold put; rw [if_neg (by omega)]
theorem put_lt {B : Nat} {f : Nat → Nat} {j : Nat} {R : List Nat} (hf : ∀ k, f k < B) (hR : Dig B R) (k : Nat) : put f j R k < B := by
  unfold put
  split
  · exact hR.getD (Nat.lt_of_le_of_lt (Nat.zero_le _) (hf 0)) _
  · exact hf k
theorem seg_put (f : Nat → Nat) (j : Nat) (R : List Nat) : seg (put f j R) j R.length = R := by
  apply List.ext_getElem (seg_length _ _ _)
  intro i h1 h2
  simp only [seg, List.getElem_map, List.getElem_range, put]
  rw [if_pos (by omega), Nat.add_sub_cancel_left, List.getD_eq_getElem?_getD, List.getElem?_eq_getElem h2]; rfl
theorem seg_put_before (f : Nat → Nat) (j : Nat) (R : List Nat) : seg (put f j R) 0 j = seg f 0 j :=
  seg_congr fun i hi => put_before (by omega)

/-- the guess is not too small -/
theorem guess_le {B P t r2 d1 d2 lo vl : Nat} (hr : r2 < B) (hd1 : 0 < d1) (hlo : lo < P)
    (hu : (t * B + r2) * P + lo < ((d1 * B + d2) * P + vl) * B) :
    ((t * B + r2) * P + lo) / ((d1 * B + d2) * P + vl) ≤ min (t / d1) (B - 1) := by
  have hB : 0 < B := by omega
  have hq := Nat.div_mul_le_self ((t * B + r2) * P + lo) ((d1 * B + d2) * P + vl)
  have hlt : ((t * B + r2) * P + lo) / ((d1 * B + d2) * P + vl) < B := Nat.div_lt_of_lt_mul hu
  generalize ((t * B + r2) * P + lo) / ((d1 * B + d2) * P + vl) = q at *
  have h1 : q * d1 * (B * P) ≤ q * ((d1 * B + d2) * P + vl) := by
    rw [Nat.mul_assoc]
    apply Nat.mul_le_mul_left
    rw [Nat.add_mul, ← Nat.mul_assoc]; omega
  have h2 : (t * B + r2) * P + lo < (t + 1) * (B * P) := by
    have : (t * B + r2 + 1) * P ≤ (t + 1) * B * P := Nat.mul_le_mul_right _ (by rw [Nat.succ_mul]; omega)
    rw [Nat.succ_mul, Nat.mul_assoc (t + 1)] at this
    omega
  have h3 : q * d1 < t + 1 := Nat.lt_of_mul_lt_mul_right (Nat.lt_of_le_of_lt h1 (Nat.lt_of_le_of_lt hq h2))
  have h4 : q ≤ t / d1 := (Nat.le_div_iff_mul_le hd1).2 (by omega)
  omega
/-- a guess that fails is too great -/
theorem guess_high {B P t r2 d1 d2 lo vl g : Nat} (hlo : lo < P) (hg : g * d1 ≤ t) (h : (t - g * d1) * B + r2 < g * d2) :
    ((t * B + r2) * P + lo) / ((d1 * B + d2) * P + vl) < g := by
  rw [Nat.div_lt_iff_lt_mul (by
    apply Nat.pos_of_ne_zero
    intro e
    have h1 : (d1 * B + d2) * P = 0 := by omega
    rcases Nat.mul_eq_zero.1 h1 with h2 | h2
    · have : d2 = 0 := by omega
      subst this; omega
    · omega)]
  have e : (t - g * d1) * B + g * d1 * B = t * B := by rw [← Nat.add_mul]; congr 1; omega
  have h1 : (t * B + r2 + 1) * P ≤ (g * (d1 * B + d2)) * P := Nat.mul_le_mul_right _ (by rw [Nat.mul_add, ← Nat.mul_assoc]; omega)
  have h2 : g * ((d1 * B + d2) * P + vl) = g * (d1 * B + d2) * P + g * vl := by rw [Nat.mul_add, Nat.mul_assoc]
  rw [Nat.succ_mul] at h1
  omega
/-- a guess that passes is at most one too great -/
theorem guess_ok {B P t r2 d1 d2 lo vl g : Nat} (hd1 : 0 < d1) (hvl : vl < P) (hgB : g < B) (hg : g * d1 ≤ t) (h : g * d2 ≤ (t - g * d1) * B + r2) :
    g ≤ ((t * B + r2) * P + lo) / ((d1 * B + d2) * P + vl) + 1 := by
  have hv : B * P ≤ (d1 * B + d2) * P := Nat.mul_le_mul_right _ (by have := Nat.mul_le_mul_right B hd1; omega)
  have hBP : 0 < B * P := Nat.mul_pos (by omega) (by omega)
  have e : (t - g * d1) * B + g * d1 * B = t * B := by rw [← Nat.add_mul]; congr 1; omega
  have h1 : (g * (d1 * B + d2)) * P ≤ (t * B + r2) * P := Nat.mul_le_mul_right _ (by rw [Nat.mul_add, ← Nat.mul_assoc]; omega)
  have h2 : g * ((d1 * B + d2) * P + vl) = g * (d1 * B + d2) * P + g * vl := by rw [Nat.mul_add, Nat.mul_assoc]
  have h3 : g * vl ≤ B * P := Nat.mul_le_mul (by omega) (by omega)
  have h4 : (g - 1) * ((d1 * B + d2) * P + vl) ≤ (t * B + r2) * P + lo := by
    rw [Nat.sub_mul, Nat.one_mul]; omega
  have := (Nat.le_div_iff_mul_le (by omega)).2 h4
  omega
theorem guess_far {B t r2 d1 d2 g : Nat} (hgB : g < B) (hd2 : d2 < B) (h : B ≤ t - g * d1) : g * d2 ≤ (t - g * d1) * B + r2 := by
  have : g * d2 ≤ B * B := Nat.mul_le_mul (by omega) (by omega)
  have := Nat.mul_le_mul_right B h
  omega
/-- one round of taking n times a number away -/
theorem take_step {B i c c' d n : Nat} {ds xs ys : List Nat} (hl : ds.length = i) (h : val B ds + n * val B (ys.take i) = val B (xs.take i) + B ^ i * c)
    (hs : xs.getD i 0 + B * c' = d + n * ys.getD i 0 + c) : val B (ds ++ [d]) + n * val B (ys.take (i + 1)) = val B (xs.take (i + 1)) + B ^ (i + 1) * c' := by
  rw [val_append, val_take_succ', val_take_succ', hl]
  simp only [val, Nat.mul_zero, Nat.add_zero]
  have e : B ^ i * xs.getD i 0 + B ^ (i + 1) * c' = B ^ i * d + B ^ i * (n * ys.getD i 0) + B ^ i * c := by
    have := congrArg (B ^ i * ·) hs
    simp only [Nat.mul_add] at this
    rw [Nat.pow_succ]
    rw [← Nat.mul_assoc] at this
    exact this
  have e2 : n * (B ^ i * ys.getD i 0) = B ^ i * (n * ys.getD i 0) := by rw [Nat.mul_left_comm]
  rw [Nat.mul_add, e2]
  omega
/-- the digit and the borrow of a round -/
theorem take_digit {B x p : Nat} (hB : 0 < B) : (x < p % B → x + B * (p / B + 1) = (x + B - p % B) + p) ∧ (p % B ≤ x → x + B * (p / B) = (x - p % B) + p) := by
  have := Nat.mod_add_div p B
  have := Nat.mod_lt p hB
  constructor
  · intro h; rw [Nat.mul_add]; omega
  · intro h; omega
/-- the borrow stays below the base -/
theorem take_borrow {B n y c : Nat} (hn : n < B) (hy : y < B) (hc : c < B) : (n * y + c) / B < B ∧ (0 < (n * y + c) % B → (n * y + c) / B + 1 < B) := by
  have h1 : n * y ≤ (B - 1) * (B - 1) := Nat.mul_le_mul (by omega) (by omega)
  have h2 : (B - 1) * (B - 1) + (B - 1) = (B - 1) * B := by rw [← Nat.mul_succ]; congr 1; omega
  have h3 : n * y + c ≤ (B - 1) * B := by omega
  have h4 := Nat.div_add_mod (n * y + c) B
  generalize n * y + c = p at *
  constructor
  · have : p / B ≤ B - 1 := by
      rw [Nat.div_le_iff_le_mul (by omega)]; omega
    omega
  · intro h
    have : p / B < B - 1 := by
      rw [Nat.div_lt_iff_lt_mul (by omega)]
      apply Nat.lt_of_le_of_ne h3
      intro e
      rw [e, Nat.mul_mod_left] at h
      omega
    omega
/-- what is left where the guess was right, or one too great -/
theorem take_end {M u v g n' c : Nat} (hv : 0 < v) (h1 : u / v ≤ g) (h2 : g ≤ u / v + 1) (h : n' + g * v = u + M * c) (hn : n' < M) (hM : v ≤ M) :
    (c = 0 → g = u / v ∧ n' = u % v) ∧ (c ≠ 0 → g = u / v + 1 ∧ n' + v = M + u % v) := by
  have e := Nat.div_add_mod u v
  have hm := Nat.mod_lt u hv
  rw [Nat.mul_comm] at e
  have h3 : g = u / v ∨ g = u / v + 1 := by omega
  rcases h3 with rfl | h3
  · have hc : c = 0 := by
      apply Classical.byContradiction
      intro hc
      have : M * 1 ≤ M * c := Nat.mul_le_mul_left _ (by omega)
      omega
    subst hc
    exact ⟨fun _ => ⟨rfl, by omega⟩, fun h => absurd rfl h⟩
  · have e2 : g * v = u / v * v + v := by rw [h3, Nat.succ_mul]
    constructor
    · intro hc
      subst hc
      omega
    · intro hc
      have hc1 : c = 1 := by
        apply Classical.byContradiction
        intro hc2
        have : M * 2 ≤ M * c := Nat.mul_le_mul_left _ (by omega)
        omega
      subst hc1
      exact ⟨h3, by omega⟩
/-- one round of the long division -/
theorem long_step {B j n D V A u : Nat} {qs : List Nat} {f f' : Nat → Nat} (hB : 0 < B) (hD : 0 < D) (hDn : D ≤ B ^ n) (hf : ∀ k, f k < B) (hV : val B (seg f 0 (j + 1 + n)) = V) (hlt : V < D * B ^ (j + 1))
    (hA : A = D * (B ^ (j + 1) * val B qs) + V) (hu : val B (seg f j (n + 1)) = u) (h1 : seg f' 0 j = seg f 0 j) (h2 : val B (seg f' j (n + 1)) = u % D) :
    u < D * B ∧ A = D * (B ^ j * val B (u / D :: qs)) + val B (seg f' 0 (j + n)) ∧ val B (seg f' 0 (j + n)) < D * B ^ j := by
  have e1 : val B (seg f 0 (j + 1 + n)) = val B (seg f 0 j) + B ^ j * u := by
    rw [show j + 1 + n = j + (n + 1) by omega, seg_append, val_append, seg_length, Nat.zero_add, hu]
  have l0 := val_lt (dig_seg hf 0 j)
  rw [seg_length] at l0
  have hpos : 0 < B ^ j := Nat.pow_pos hB
  have e3 : D * B ^ (j + 1) = B ^ j * (D * B) := by rw [Nat.pow_succ, Nat.mul_left_comm]
  have hub : u < D * B := by
    apply Nat.lt_of_mul_lt_mul_left (a := B ^ j)
    rw [← e3]; omega
  have hm := Nat.mod_lt u hD
  have e2 : val B (seg f' j n) = u % D := by
    rw [seg_snoc, val_append, seg_length] at h2
    simp only [val, Nat.mul_zero, Nat.add_zero] at h2
    have : f' (j + n) = 0 := by
      apply Classical.byContradiction
      intro h0
      have : B ^ n * 1 ≤ B ^ n * f' (j + n) := Nat.mul_le_mul_left _ (by omega)
      omega
    rw [this, Nat.mul_zero, Nat.add_zero] at h2
    exact h2
  have e4 : val B (seg f' 0 (j + n)) = val B (seg f 0 j) + B ^ j * (u % D) := by
    rw [seg_append, val_append, seg_length, Nat.zero_add, e2, h1]
  refine ⟨hub, ?_, ?_⟩
  · rw [e4, hA, ← hV, e1]
    simp only [val]
    have e5 := Nat.div_add_mod u D
    have e6 : B ^ j * u = D * (B ^ j * (u / D)) + B ^ j * (u % D) := by
      rw [Nat.mul_left_comm, ← Nat.mul_add, e5]
    rw [e6, Nat.mul_add (B ^ j), Nat.mul_add D, Nat.pow_succ, Nat.mul_assoc (B ^ j) B]
    omega
  · rw [e4]
    have : B ^ j * (u % D) + B ^ j ≤ B ^ j * D := by rw [← Nat.mul_succ]; exact Nat.mul_le_mul_left _ hm
    rw [Nat.mul_comm D]
    omega
/-- the shift keeps the divisor's length -/
theorem shift_fits {B n b t k : Nat} (hb : b < (t + 1) * B ^ n) (hk : t * 2 ^ k < B) (hB : 2 ^ k ∣ B) : b * 2 ^ k < B ^ (n + 1) := by
  obtain ⟨m, rfl⟩ := hB
  have h0 : 0 < 2 ^ k := Nat.pow_pos (by decide)
  have h1 : t < m := by
    rw [Nat.mul_comm t] at hk
    exact Nat.lt_of_mul_lt_mul_left hk
  have h2 : b * 2 ^ k < (t + 1) * (2 ^ k * m) ^ n * 2 ^ k := (Nat.mul_lt_mul_right h0).2 hb
  have h3 : (t + 1) * (2 ^ k * m) ^ n * 2 ^ k ≤ m * (2 ^ k * m) ^ n * 2 ^ k := Nat.mul_le_mul_right _ (Nat.mul_le_mul_right _ h1)
  have h4 : m * (2 ^ k * m) ^ n * 2 ^ k = (2 ^ k * m) ^ (n + 1) := by rw [Nat.pow_succ]; grind
  omega
theorem mod_scale (a b k : Nat) : a * 2 ^ k % (b * 2 ^ k) / 2 ^ k = a % b := by
  rw [Nat.mul_mod_mul_right, Nat.mul_div_cancel _ (Nat.pow_pos (by decide))]
theorem div_scale (a b k : Nat) : a * 2 ^ k / (b * 2 ^ k) = a / b := Nat.mul_div_mul_right _ _ (Nat.pow_pos (by decide))
end FF
namespace FF
/-- a row with one digit turned -/
def upd (f : Nat → Nat) (p x : Nat) (k : Nat) : Nat := if k = p then x else f k
theorem upd_at (f : Nat → Nat) (p x : Nat) : upd f p x p = x := if_pos rfl
theorem upd_ne {f : Nat → Nat} {p x k : Nat} (h : k ≠ p) : upd f p x k = f k := if_neg h
theorem upd_lt {B : Nat} {f : Nat → Nat} {p x : Nat} (hf : ∀ k, f k < B) (hx : x < B) (k : Nat) : upd f p x k < B := by
  unfold upd
  split
  · exact hx
  · exact hf k
theorem val_seg_upd (B : Nat) (f : Nat → Nat) {p N : Nat} (x : Nat) (h : p < N) : val B (seg (upd f p x) 0 N) + B ^ p * f p = val B (seg f 0 N) + B ^ p * x := by
  induction N with
  | zero => omega
  | succ N ih =>
    rw [seg_snoc, seg_snoc, val_append, val_append, seg_length, seg_length, Nat.zero_add]
    simp only [val, Nat.mul_zero, Nat.add_zero]
    by_cases e : p = N
    · subst e
      rw [upd_at, seg_congr (f := upd f p x) (g := f) (fun i hi => upd_ne (by omega))]
      omega
    · rw [upd_ne (Ne.symm e)]
      have := ih (by omega)
      omega
theorem val_seg_zero (B : Nat) {f : Nat → Nat} {N : Nat} (h : ∀ k, k < N → f k = 0) : val B (seg f 0 N) = 0 := by
  induction N with
  | zero => rfl
  | succ N ih =>
    rw [seg_snoc, val_append, ih (fun k hk => h k (by omega)), Nat.zero_add, Nat.zero_add, h N (by omega)]
    simp [val]
/-- one round of the inner loop of a product -/
theorem times_step {B i k c x V0 N : Nat} {f : Nat → Nat} {ys : List Nat} (hp : i + k < N)
    (h : val B (seg f 0 N) + B ^ (i + k) * c = V0 + B ^ i * (x * val B (ys.take k))) {s : Nat} (hs : s = x * ys.getD k 0 + f (i + k) + c) :
    val B (seg (upd f (i + k) (s % B)) 0 N) + B ^ (i + (k + 1)) * (s / B) = V0 + B ^ i * (x * val B (ys.take (k + 1))) := by
  have h1 := val_seg_upd B f (s % B) hp
  rw [val_take_succ', Nat.mul_add, Nat.mul_add]
  have e : B ^ (i + k) * s = B ^ (i + k) * (s % B) + B ^ (i + (k + 1)) * (s / B) := by
    have := Nat.mod_add_div s B
    calc B ^ (i + k) * s = B ^ (i + k) * (s % B + B * (s / B)) := by rw [this]
      _ = _ := by rw [← Nat.add_assoc, Nat.pow_succ]; grind
  have e2 : B ^ (i + k) * s = B ^ i * (x * (B ^ k * ys.getD k 0)) + B ^ (i + k) * f (i + k) + B ^ (i + k) * c := by rw [hs, Nat.pow_add]; grind
  omega
theorem times_bound {B x y z c : Nat} (hx : x < B) (hy : y < B) (hz : z < B) (hc : c < B) : (x * y + z + c) / B < B ∧ x * y + z + c < B * B := by
  have h1 : x * y ≤ (B - 1) * (B - 1) := Nat.mul_le_mul (by omega) (by omega)
  have h2 : (B - 1) * (B - 1) + (B - 1) = (B - 1) * B := by rw [← Nat.mul_succ]; congr 1; omega
  have h3 : (B - 1) * B + B = B * B := by rw [← Nat.succ_mul]; congr 1; omega
  have h4 : x * y + z + c < B * B := by omega
  exact ⟨by rw [Nat.div_lt_iff_lt_mul (by omega)]; exact h4, h4⟩
/-- a row of the product is done -/
theorem times_row {B i c x N m V0 : Nat} {f : Nat → Nat} {ys : List Nat} (hp : i + m < N) (hm : ys.length = m) (h0 : f (i + m) = 0)
    (h : val B (seg f 0 N) + B ^ (i + m) * c = V0 + B ^ i * (x * val B (ys.take m))) : val B (seg (upd f (i + m) c) 0 N) = V0 + B ^ i * (x * val B ys) := by
  have h1 := val_seg_upd B f c hp
  rw [h0, Nat.mul_zero, Nat.add_zero] at h1
  rw [← hm, List.take_length, hm] at h
  omega
/-- digits that lie above are 0 -/
theorem seg_high {B : Nat} {f : Nat → Nat} {N p : Nat} (hB : 0 < B) (h : val B (seg f 0 N) < B ^ p) {k : Nat} (h1 : p ≤ k) (h2 : k < N) : f k = 0 := by
  apply Classical.byContradiction
  intro h0
  have e : val B (seg f 0 N) = val B (seg f 0 k) + B ^ k * val B (seg f k (N - k)) := by
    rw [show N = k + (N - k) by omega, seg_append, val_append, seg_length, Nat.zero_add, show k + (N - k) - k = N - k by omega]
  have e2 : 1 ≤ val B (seg f k (N - k)) := by
    rw [show N - k = 1 + (N - k - 1) by omega, seg_append, val_append]
    have : val B (seg f k 1) = f k := by simp [seg, val, List.range_succ]
    omega
  have e3 : B ^ p ≤ B ^ k := Nat.pow_le_pow_right hB h1
  have e4 : B ^ k * 1 ≤ B ^ k * val B (seg f k (N - k)) := Nat.mul_le_mul_left _ e2
  omega
/-- a binary search for a digit of the quotient -/
theorem bin_less {r b m : Nat} (h : r < b * m) : r / b < m := Nat.div_lt_of_lt_mul h
theorem bin_ge {r b m : Nat} (hb : 0 < b) (h : ¬ r < b * m) : m ≤ r / b := (Nat.le_div_iff_mul_le hb).2 (by rw [Nat.mul_comm]; omega)
end FF
namespace FF
/-- the first digits of a number of several digits -/
theorem val_two_top {B : Nat} {xs : List Nat} {n : Nat} (hl : xs.length = n + 2) : val B xs = (xs.getD (n + 1) 0 * B + xs.getD n 0) * B ^ n + val B (xs.take n) := by
  have h1 := val_take_succ' (B := B) xs (n + 1)
  have h2 := val_take_succ' (B := B) xs n
  rw [List.take_of_length_le (by omega)] at h1
  rw [h1, h2, Nat.pow_succ, Nat.add_mul]
  grind
theorem val_take_lt {B : Nat} {xs : List Nat} {n : Nat} (h : Dig B xs) (hl : n ≤ xs.length) : val B (xs.take n) < B ^ n := by
  have := val_lt (B := B) (xs := xs.take n) (fun x hx => h x (List.mem_of_mem_take hx))
  rwa [List.length_take, Nat.min_eq_left hl] at this
/-- a row put over the same digits -/
theorem put_put {f : Nat → Nat} {j : Nat} {R S : List Nat} (h : R.length = S.length) : put (put f j R) j S = put f j S := by
  funext k
  unfold put
  by_cases e : j ≤ k ∧ k < j + S.length
  · rw [if_pos e, if_pos e]
  · rw [if_neg e, if_neg (by rw [h]; exact e), if_neg e]
/-- what the guess has to satisfy -/
structure GuessRel (t r2 d1 d2 u v g : Nat) : Prop where
  le : u / v ≤ g
  top : g * d1 ≤ t
  lt : g < 4294967296
/-- the numbers of a step: u is the number, v the divisor, of n + 2 digits -/
structure StepNums (n : Nat) (us vs : List Nat) (t1 t0 r2 d1 d2 : Nat) : Prop where
  ul : us.length = n + 3
  vl : vs.length = n + 2
  ud : Dig 4294967296 us
  vd : Dig 4294967296 vs
  et1 : us.getD (n + 2) 0 = t1
  et0 : us.getD (n + 1) 0 = t0
  er2 : us.getD n 0 = r2
  ed1 : vs.getD (n + 1) 0 = d1
  ed2 : vs.getD n 0 = d2
  d1pos : 0 < d1
  lt : val 4294967296 us < val 4294967296 vs * 4294967296
theorem StepNums.u_eq {n : Nat} {us vs : List Nat} {t1 t0 r2 d1 d2 : Nat} (h : StepNums n us vs t1 t0 r2 d1 d2) :
    val 4294967296 us = ((t1 * 4294967296 + t0) * 4294967296 + r2) * 4294967296 ^ n + val 4294967296 (us.take n) := by
  have h1 := val_two_top (B := 4294967296) (xs := us) (n := n + 1) h.ul
  have h2 := val_take_succ' (B := 4294967296) us n
  rw [h1, h2, h.et1, h.et0, h.er2, Nat.pow_succ]
  grind
theorem StepNums.v_eq {n : Nat} {us vs : List Nat} {t1 t0 r2 d1 d2 : Nat} (h : StepNums n us vs t1 t0 r2 d1 d2) :
    val 4294967296 vs = (d1 * 4294967296 + d2) * 4294967296 ^ n + val 4294967296 (vs.take n) := by
  rw [val_two_top (B := 4294967296) (xs := vs) (n := n) h.vl, h.ed1, h.ed2]
theorem StepNums.start {n : Nat} {us vs : List Nat} {t1 t0 r2 d1 d2 : Nat} (h : StepNums n us vs t1 t0 r2 d1 d2) :
    GuessRel (t1 * 4294967296 + t0) r2 d1 d2 (val 4294967296 us) (val 4294967296 vs) (min ((t1 * 4294967296 + t0) / d1) 4294967295) := by
  have hr : r2 < 4294967296 := by rw [← h.er2]; exact h.ud.getD (by decide) _
  have hlo := val_take_lt (n := n) h.ud (by rw [h.ul]; omega)
  have hlt := h.lt
  have hd := h.d1pos
  refine ⟨?_, ?_, by omega⟩
  · rw [h.u_eq, h.v_eq] at hlt ⊢
    exact guess_le hr hd hlo hlt
  · have := Nat.div_mul_le_self (t1 * 4294967296 + t0) d1
    exact Nat.le_trans (Nat.mul_le_mul_right _ (Nat.min_le_left _ _)) this
theorem StepNums.next {n : Nat} {us vs : List Nat} {t1 t0 r2 d1 d2 g : Nat} (h : StepNums n us vs t1 t0 r2 d1 d2) (hg : GuessRel (t1 * 4294967296 + t0) r2 d1 d2 (val 4294967296 us) (val 4294967296 vs) g)
    (hc : (t1 * 4294967296 + t0 - g * d1) * 4294967296 + r2 < g * d2) : 0 < g ∧ GuessRel (t1 * 4294967296 + t0) r2 d1 d2 (val 4294967296 us) (val 4294967296 vs) (g - 1) := by
  have hlo := val_take_lt (n := n) h.ud (by rw [h.ul]; omega)
  have h1 := guess_high (B := 4294967296) (vl := val 4294967296 (vs.take n)) hlo hg.top hc
  rw [← h.u_eq, ← h.v_eq] at h1
  have h2 := hg.top
  have h3 := hg.lt
  exact ⟨Nat.lt_of_le_of_lt (Nat.zero_le _) h1, Nat.le_sub_one_of_lt h1, Nat.le_trans (Nat.mul_le_mul_right _ (Nat.sub_le _ _)) h2, by omega⟩
theorem StepNums.stop {n : Nat} {us vs : List Nat} {t1 t0 r2 d1 d2 g : Nat} (h : StepNums n us vs t1 t0 r2 d1 d2) (hg : GuessRel (t1 * 4294967296 + t0) r2 d1 d2 (val 4294967296 us) (val 4294967296 vs) g)
    (hc : g * d2 ≤ (t1 * 4294967296 + t0 - g * d1) * 4294967296 + r2) : g ≤ val 4294967296 us / val 4294967296 vs + 1 := by
  have hvl := val_take_lt (n := n) h.vd (by rw [h.vl]; omega)
  rw [h.u_eq, h.v_eq]
  exact guess_ok h.d1pos hvl hg.lt hg.top hc
theorem StepNums.far {n : Nat} {us vs : List Nat} {t1 t0 r2 d1 d2 g : Nat} (h : StepNums n us vs t1 t0 r2 d1 d2) (hg : GuessRel (t1 * 4294967296 + t0) r2 d1 d2 (val 4294967296 us) (val 4294967296 vs) g)
    (hc : 4294967296 ≤ t1 * 4294967296 + t0 - g * d1) : g ≤ val 4294967296 us / val 4294967296 vs + 1 :=
  h.stop hg (guess_far hg.lt (by rw [← h.ed2]; exact h.vd.getD (by decide) _) hc)
end FF
namespace FF
theorem seg_list (ds : List Nat) : seg (fun i => ds.getD i 0) 0 ds.length = ds := by
  apply List.ext_getElem (seg_length _ _ _)
  intro i h1 h2
  simp only [seg, List.getElem_map, List.getElem_range, Nat.zero_add]
  rw [List.getD_eq_getElem?_getD, List.getElem?_eq_getElem h2]; rfl
theorem digs_len_eq {B n k : Nat} (hB : 2 ≤ B) (h1 : B ^ k ≤ n) (h2 : n < B ^ (k + 1)) : (digs B n).length = k + 1 := by
  have a := digs_length_le hB h2
  have b := lt_pow_digs hB n
  apply Nat.le_antisymm a
  apply Classical.byContradiction
  intro hc
  have : B ^ (digs B n).length ≤ B ^ k := Nat.pow_le_pow_right (by omega) (by omega)
  omega
/-- the first digit of a number says how great it is -/
theorem digs_top {B b n : Nat} (hB : 2 ≤ B) (h : (digs B b).length = n + 1) : 0 < (digs B b).getD n 0 ∧ b < ((digs B b).getD n 0 + 1) * B ^ n ∧ B ^ n ≤ b := by
  have h1 := val_take_succ' (B := B) (digs B b) n
  rw [List.take_of_length_le (by omega), val_digs' hB] at h1
  have h2 := val_take_lt (B := B) (n := n) (dig_digs' hB b) (by omega)
  have h3 := pow_le_digs hB (n := b) (by rintro rfl; simp [digs_zero] at h)
  rw [h, Nat.add_sub_cancel] at h3
  refine ⟨?_, ?_, h3⟩
  · apply Nat.pos_of_ne_zero
    intro e
    rw [e, Nat.mul_zero] at h1
    omega
  · rw [Nat.add_mul, Nat.mul_comm _ (B ^ n), Nat.one_mul]
    omega
theorem shift_top {t k : Nat} (ht : 0 < t) (h : t * 2 ^ k < 2147483648) : t * 2 ^ (k + 1) < 4294967296 ∧ k + 1 ≤ 31 := by
  have h1 : t * 2 ^ (k + 1) < 4294967296 := by rw [Nat.pow_succ, ← Nat.mul_assoc]; omega
  refine ⟨h1, ?_⟩
  apply Classical.byContradiction
  intro hc
  have h2 : 2 ^ 32 ≤ 2 ^ (k + 1) := Nat.pow_le_pow_right (by decide) (by omega)
  have h3 : 1 * 2 ^ (k + 1) ≤ t * 2 ^ (k + 1) := Nat.mul_le_mul_right _ ht
  omega
/-- where the long division begins -/
structure LongStart (a b n k : Nat) : Prop where
  dpos : 0 < b * 2 ^ k
  dlen : (digs 4294967296 (b * 2 ^ k)).length = n + 2
  alen : (digs 4294967296 (a * 2 ^ k)).length ≤ (digs 4294967296 a).length + 1
  age : (digs 4294967296 a).length ≤ (digs 4294967296 (a * 2 ^ k)).length
  lt : ∀ Q, Q + (n + 2) = (digs 4294967296 a).length + 1 → a * 2 ^ k < b * 2 ^ k * 4294967296 ^ Q
theorem long_start {a b n k : Nat} (hb : (digs 4294967296 b).length = n + 2) (hk : k ≤ 31) (ht : (digs 4294967296 b).getD (n + 1) 0 * 2 ^ k < 4294967296) : LongStart a b n k := by
  have hB : 2 ≤ 4294967296 := by decide
  obtain ⟨_, t2, t3⟩ := digs_top hB hb
  have h0 : 0 < 2 ^ k := Nat.pow_pos (by decide)
  have hd : 2 ^ k ∣ 4294967296 := by
    rw [show 4294967296 = 2 ^ 32 by decide]
    exact Nat.pow_dvd_pow 2 (by omega)
  have h1 := shift_fits t2 ht hd
  have hbp : 0 < b := Nat.lt_of_lt_of_le (Nat.pow_pos (by decide)) t3
  have h2 : b * 1 ≤ b * 2 ^ k := Nat.mul_le_mul_left _ h0
  have hlt := lt_pow_digs hB a
  have hk2 : 2 ^ k < 4294967296 := Nat.lt_of_le_of_lt (Nat.pow_le_pow_right (by decide) hk) (by decide)
  refine ⟨Nat.mul_pos hbp h0, digs_len_eq hB (by omega) h1, ?_, ?_, fun Q hQ => ?_⟩
  · apply digs_length_le hB
    rw [Nat.pow_succ]
    exact Nat.lt_of_lt_of_le ((Nat.mul_lt_mul_right h0).2 hlt) (Nat.mul_le_mul_left _ (Nat.le_of_lt hk2))
  · apply digs_mono hB
    have : a * 1 ≤ a * 2 ^ k := Nat.mul_le_mul_left _ h0
    omega
  · have e1 : (4294967296 : Nat) ^ (digs 4294967296 a).length = 4294967296 ^ (n + 1) * 4294967296 ^ Q := by
      rw [← Nat.pow_add]; congr 1; omega
    rw [e1] at hlt
    have e2 : a < b * 4294967296 ^ Q := Nat.lt_of_lt_of_le hlt (Nat.mul_le_mul_right _ t3)
    rw [Nat.mul_right_comm]
    exact (Nat.mul_lt_mul_right h0).2 e2
/-- where it ends -/
theorem long_end {a b k v V : Nat} (hb : 0 < b * 2 ^ k) (h : a * 2 ^ k = b * 2 ^ k * v + V) (hV : V < b * 2 ^ k) : v = a / b ∧ V / 2 ^ k = a % b ∧ V = a * 2 ^ k % (b * 2 ^ k) := by
  have h1 : a * 2 ^ k / (b * 2 ^ k) = v := by rw [h, Nat.mul_add_div hb, Nat.div_eq_of_lt hV, Nat.add_zero]
  have h2 : a * 2 ^ k % (b * 2 ^ k) = V := by rw [h, Nat.mul_add_mod, Nat.mod_eq_of_lt hV]
  rw [div_scale] at h1
  refine ⟨h1.symm, ?_, h2.symm⟩
  rw [← h2, mod_scale]
end FF
namespace FF
theorem long_lt {B j n D : Nat} {f : Nat → Nat} (hB : 0 < B) (hlt : val B (seg f 0 (j + 1 + n)) < D * B ^ (j + 1)) : val B (seg f j (n + 1)) < D * B := by
  have e1 : val B (seg f 0 (j + 1 + n)) = val B (seg f 0 j) + B ^ j * val B (seg f j (n + 1)) := by
    rw [show j + 1 + n = j + (n + 1) by omega, seg_append, val_append, seg_length, Nat.zero_add]
  have hpos : 0 < B ^ j := Nat.pow_pos hB
  have e3 : D * B ^ (j + 1) = B ^ j * (D * B) := by rw [Nat.pow_succ, Nat.mul_left_comm]
  apply Nat.lt_of_mul_lt_mul_left (a := B ^ j)
  rw [← e3]; omega
end FF
namespace FF
/-- words as half words -/
def halves : List Nat → List Nat
  | [] => []
  | x :: xs => x % 65536 :: x / 65536 :: halves xs
theorem halves_snoc (xs : List Nat) (x : Nat) : halves (xs ++ [x]) = halves xs ++ [x % 65536, x / 65536] := by
  induction xs with
  | nil => rfl
  | cons y ys ih => simp only [List.cons_append, halves, ih]
theorem halves_length (xs : List Nat) : (halves xs).length = 2 * xs.length := by
  induction xs with
  | nil => rfl
  | cons y ys ih => simp only [halves, List.length_cons, ih]; omega
theorem halves_val (xs : List Nat) : val 65536 (halves xs) = val 4294967296 xs := by
  induction xs with
  | nil => rfl
  | cons y ys ih =>
    simp only [halves, val, ih]
    have := Nat.mod_add_div y 65536
    rw [Nat.mul_add, ← Nat.mul_assoc]
    omega
theorem halves_dig {xs : List Nat} (h : Dig 4294967296 xs) : Dig 65536 (halves xs) := by
  induction xs with
  | nil => intro x hx; simp [halves] at hx
  | cons y ys ih =>
    intro x hx
    have hy := h.head
    simp only [halves, List.mem_cons] at hx
    rcases hx with rfl | rfl | hx
    · omega
    · omega
    · exact ih h.tail x hx
end FF
