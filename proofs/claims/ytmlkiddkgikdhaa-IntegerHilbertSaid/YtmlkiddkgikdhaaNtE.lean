/- Plain number theory, part E: exponents of a prime in a number, inverses modulo a number. -/
import Derived.Test.YtmlkiddkgikdhaaNtC
namespace FF

/-- how often p divides n (f: a bound on the rounds) -/
def vpF : Nat → Int → Int → Nat
  | 0, _, _ => 0
  | f + 1, p, n => if p ∣ n then vpF f p (n / p) + 1 else 0
def vp (p n : Int) : Nat := vpF n.natAbs p n

theorem natAbs_div_lt {p n : Int} (hp : 2 ≤ p) (hn : n ≠ 0) (hd : p ∣ n) : (n / p).natAbs < n.natAbs ∧ n / p ≠ 0 := by
  obtain ⟨k, rfl⟩ := hd
  have hk : k ≠ 0 := by rintro rfl; simp at hn
  rw [Int.mul_ediv_cancel_left _ (by omega), Int.natAbs_mul]
  refine ⟨?_, hk⟩
  have : 2 * k.natAbs ≤ p.natAbs * k.natAbs := Nat.mul_le_mul_right _ (by omega)
  omega

theorem vpF_fuel {p : Int} (hp : 2 ≤ p) (f g : Nat) : ∀ n : Int, n ≠ 0 → n.natAbs ≤ f → n.natAbs ≤ g → vpF f p n = vpF g p n := by
  induction f generalizing g with
  | zero => intro n h0 hf _; omega
  | succ f ih =>
    intro n h0 hf hg
    cases g with
    | zero => omega
    | succ g =>
      simp only [vpF]
      split
      · rename_i hd
        have := natAbs_div_lt hp h0 hd
        rw [ih g (n / p) this.2 (by omega) (by omega)]
      · rfl

theorem vp_dvd {p n : Int} (hp : 2 ≤ p) (hn : n ≠ 0) (hd : p ∣ n) : vp p n = vp p (n / p) + 1 := by
  have := natAbs_div_lt hp hn hd
  obtain ⟨f, hf⟩ : ∃ f, n.natAbs = f + 1 := ⟨n.natAbs - 1, by omega⟩
  unfold vp
  rw [hf]
  simp only [vpF, if_pos hd]
  rw [vpF_fuel hp f (n / p).natAbs (n / p) this.2 (by omega) (Nat.le_refl _)]

theorem vp_not {p n : Int} (hd : ¬ p ∣ n) : vp p n = 0 := by
  unfold vp
  cases n.natAbs with
  | zero => rfl
  | succ f => simp only [vpF, if_neg hd]

/-- n without the powers of p -/
def rest (p n : Int) : Int := n / p ^ vp p n

theorem rest_dvd {p n : Int} (hp : 2 ≤ p) (hn : n ≠ 0) (hd : p ∣ n) : rest p n = rest p (n / p) := by
  unfold rest
  rw [vp_dvd hp hn hd, Int.pow_succ, Int.mul_comm, Int.ediv_ediv_of_nonneg (by omega)]
theorem rest_not {p n : Int} (hd : ¬ p ∣ n) : rest p n = n := by
  unfold rest; rw [vp_not hd]; simp

theorem vp_spec {p : Int} (hp : 2 ≤ p) : ∀ (f : Nat) (n : Int), n.natAbs ≤ f → n ≠ 0 → n = p ^ vp p n * rest p n ∧ ¬ p ∣ rest p n := by
  intro f
  induction f with
  | zero => intro n hf hn; omega
  | succ f ih =>
    intro n hf hn
    by_cases hd : p ∣ n
    · have hl := natAbs_div_lt hp hn hd
      obtain ⟨h1, h2⟩ := ih (n / p) (by omega) hl.2
      rw [vp_dvd hp hn hd, rest_dvd hp hn hd]
      refine ⟨?_, h2⟩
      rw [Int.pow_succ, Int.mul_comm (p ^ _) p, Int.mul_assoc, ← h1, Int.mul_ediv_cancel' hd]
    · rw [vp_not hd, rest_not hd]; exact ⟨by simp, hd⟩
theorem eq_pow_rest {p n : Int} (hp : 2 ≤ p) (hn : n ≠ 0) : n = p ^ vp p n * rest p n := (vp_spec hp _ n (Nat.le_refl _) hn).1
theorem not_dvd_rest {p n : Int} (hp : 2 ≤ p) (hn : n ≠ 0) : ¬ p ∣ rest p n := (vp_spec hp _ n (Nat.le_refl _) hn).2
theorem rest_ne {p n : Int} (hp : 2 ≤ p) (hn : n ≠ 0) : rest p n ≠ 0 := fun h => not_dvd_rest hp hn (h ▸ Int.dvd_zero p)
theorem rest_dvd_self {p n : Int} (hp : 2 ≤ p) (hn : n ≠ 0) : rest p n ∣ n := ⟨p ^ vp p n, by rw [Int.mul_comm]; exact eq_pow_rest hp hn⟩
theorem rest_natAbs_le {p n : Int} (hp : 2 ≤ p) (hn : n ≠ 0) : (rest p n).natAbs ≤ n.natAbs := Nat.le_of_dvd (by omega) (Int.natAbs_dvd_natAbs.2 (rest_dvd_self hp hn))
theorem vp_lt {p n : Int} (hp : 2 ≤ p) (hn : n ≠ 0) : 2 ^ vp p n ≤ n.natAbs := by
  have h := congrArg Int.natAbs (eq_pow_rest hp hn)
  rw [Int.natAbs_mul, Int.natAbs_pow] at h
  have h1 : 2 ^ vp p n ≤ p.natAbs ^ vp p n := Nat.pow_le_pow_left (by omega) _
  have h2 : 1 ≤ (rest p n).natAbs := by have := rest_ne hp hn; omega
  have h3 : p.natAbs ^ vp p n * 1 ≤ p.natAbs ^ vp p n * (rest p n).natAbs := Nat.mul_le_mul_left _ h2
  omega
/-- exponent and rest are the only ones -/
theorem vp_unique {p : Int} (hp : 2 ≤ p) {k : Nat} {r : Int} (hr : ¬ p ∣ r) : vp p (p ^ k * r) = k ∧ rest p (p ^ k * r) = r := by
  have hr0 : r ≠ 0 := by rintro rfl; exact hr (Int.dvd_zero p)
  induction k with
  | zero => simp only [Int.pow_zero, Int.one_mul]; exact ⟨vp_not hr, rest_not hr⟩
  | succ k ih =>
    have e : p ^ (k + 1) * r = p * (p ^ k * r) := by rw [Int.pow_succ]; grind
    have hn : p ^ (k + 1) * r ≠ 0 := Int.mul_ne_zero (Int.pow_ne_zero (by omega)) hr0
    have hd : p ∣ p ^ (k + 1) * r := ⟨_, e⟩
    have hq : p ^ (k + 1) * r / p = p ^ k * r := by rw [e, Int.mul_ediv_cancel_left _ (by omega)]
    rw [vp_dvd hp hn hd, rest_dvd hp hn hd, hq, ih.1, ih.2]; exact ⟨rfl, rfl⟩

theorem rest_nonneg {p n : Int} (hp : 2 ≤ p) (hn : 0 < n) : 0 ≤ rest p n := by
  apply Classical.byContradiction; intro hc
  have e := eq_pow_rest hp (n := n) (by omega)
  have h1 : 0 < p ^ vp p n := Int.pow_pos (by omega)
  have h2 : p ^ vp p n * rest p n ≤ p ^ vp p n * 0 := Int.mul_le_mul_of_nonneg_left (by omega) (by omega)
  omega
theorem rest_pos {p n : Int} (hp : 2 ≤ p) (hn : 0 < n) : 0 < rest p n := by
  have := rest_nonneg hp hn; have := rest_ne hp (n := n) (by omega); omega

/-- the inverse modulo m -/
def invM (a m : Int) : Int := (((List.range m.toNat).find? (fun x : Nat => decide ((a * (x : Int)) % m = 1 % m))).getD 0 : Nat)

theorem cancel_gcd {a m b c : Int} (h : Int.gcd a m = 1) (hc : Cg m (a * b) (a * c)) : Cg m b c := by
  have h1 : m ∣ a * (b - c) := by rw [Int.mul_sub]; exact hc
  have h2 : Nat.Coprime m.natAbs a.natAbs := by
    have : Int.gcd m a = 1 := by rw [Int.gcd_comm]; exact h
    exact this
  rw [← Int.natAbs_dvd_natAbs, Int.natAbs_mul] at h1
  exact Int.natAbs_dvd_natAbs.1 (h2.dvd_of_dvd_mul_left h1)

theorem inv_exists {a m : Int} (hm : 0 < m) (h : Int.gcd a m = 1) : ∃ x : Nat, (x : Int) < m ∧ Cg m (a * (x : Int)) 1 := by
  let f : Nat → Nat := fun k => ((a * (k : Int)) % m).toNat
  have hf : ∀ k, ((f k : Nat) : Int) = (a * (k : Int)) % m := fun k => Int.toNat_of_nonneg (Int.emod_nonneg _ (by omega))
  have hperm : ((List.range m.toNat).map f).Perm (List.range m.toNat) := by
    refine perm_of_maps List.nodup_range f ?_ ?_
    · intro k _
      rw [List.mem_range]
      have h1 := hf k
      have h2 := Int.emod_lt_of_pos (a * (k : Int)) hm
      omega
    · intro i hi j hj he
      rw [List.mem_range] at hi hj
      have h1 := hf i; rw [he, hf j] at h1
      have h2 : Cg m (a * (i : Int)) (a * (j : Int)) := (Cg.of_emod h1).symm
      have := (cancel_gcd h h2).eq_of_bounds (by omega) (by omega) (by omega) (by omega)
      omega
  have h1 := Int.emod_nonneg 1 (b := m) (by omega)
  have h2 := Int.emod_lt_of_pos 1 hm
  have : (1 % m).toNat ∈ (List.range m.toNat).map f := hperm.mem_iff.2 (List.mem_range.2 (by omega))
  obtain ⟨k, hk, he⟩ := List.mem_map.1 this
  rw [List.mem_range] at hk
  have h3 := hf k
  rw [he] at h3
  exact ⟨k, by omega, Cg.of_emod (by omega)⟩

theorem invM_spec {a m : Int} (hm : 0 < m) (h : Int.gcd a m = 1) : 0 ≤ invM a m ∧ invM a m < m ∧ Cg m (a * invM a m) 1 := by
  obtain ⟨x, hx, hc⟩ := inv_exists hm h
  unfold invM
  cases hfd : (List.range m.toNat).find? (fun x : Nat => decide ((a * (x : Int)) % m = 1 % m)) with
  | none =>
    rw [List.find?_eq_none] at hfd
    exact absurd (decide_eq_true hc.emod_eq) (hfd x (List.mem_range.2 (by omega)))
  | some y =>
    have h1 := List.mem_of_find?_eq_some hfd
    have h2 := List.find?_some hfd
    rw [List.mem_range] at h1
    simp only [decide_eq_true_eq] at h2
    simp only [Option.getD_some]
    exact ⟨by omega, by omega, Cg.of_emod h2⟩

theorem invM_unique {a m x : Int} (hm : 0 < m) (h : Int.gcd a m = 1) (h0 : 0 ≤ x) (h1 : x < m) (hc : Cg m (a * x) 1) : x = invM a m := by
  obtain ⟨i0, i1, i2⟩ := invM_spec hm h
  exact (cancel_gcd h (hc.trans i2.symm)).eq_of_bounds h0 h1 i0 i1

/-- what is invertible has no common divisor with the modulus -/
theorem gcd_of_inv {a m x : Int} (hc : Cg m (a * x) 1) : Int.gcd a m = 1 := by
  obtain ⟨k, hk⟩ := hc
  have h1 : ((Int.gcd a m : Nat) : Int) ∣ 1 := by
    have e : (1 : Int) = a * x - m * k := by omega
    rw [e]
    exact Int.dvd_sub (Int.dvd_mul_of_dvd_left (Int.gcd_dvd_left ..)) (Int.dvd_mul_of_dvd_left (Int.gcd_dvd_right ..))
  have := Int.le_of_dvd (by omega) h1
  have h0 : Int.gcd a m ≠ 0 := by
    intro e; rw [e] at h1; simp at h1
  omega

end FF
