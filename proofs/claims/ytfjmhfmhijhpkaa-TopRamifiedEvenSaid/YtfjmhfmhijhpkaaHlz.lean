/- Holzer's bound for ternary equations, by Mordell's descent. No condition. -/
import Derived.Test.YtfjmhfmhijhpkaaLgh
namespace FF
theorem bez {x y : Int} (h : Int.gcd x y = 1) (d : Int) : ∃ X Y : Int, X * y - Y * x = d := by
  by_cases hy : y = 0
  · subst hy
    rw [Int.gcd_zero_right] at h
    rcases (show x = 1 ∨ x = -1 by omega) with rfl | rfl
    · exact ⟨0, -d, by omega⟩
    · exact ⟨0, d, by omega⟩
  · obtain ⟨k, _, c, hk⟩ := inv_exists (a := x) (m := (y.natAbs : Int)) (by omega) (by simpa [Int.gcd] using h)
    -- x k - 1 = |y| c
    rcases (show (y.natAbs : Int) = y ∨ (y.natAbs : Int) = -y by omega) with e | e
    · exact ⟨-(c * d), -(k * d), by rw [e] at hk; have : (x * k - 1) * d = y * c * d := by rw [hk]
                                    grind⟩
    · exact ⟨c * d, -(k * d), by rw [e] at hk; have : (x * k - 1) * d = -y * c * d := by rw [hk]
                                 grind⟩

theorem coprime_of {a b : Int} (h : ∀ q : Nat, IsP q → (q : Int) ∣ a → (q : Int) ∣ b → False) : Int.gcd a b = 1 := by
  apply Classical.byContradiction
  intro hn
  by_cases h0 : Int.gcd a b = 0
  · obtain ⟨ha, hb⟩ := Int.gcd_eq_zero_iff.1 h0
    exact h 2 isP_two (ha ▸ Int.dvd_zero _) (hb ▸ Int.dvd_zero _)
  · obtain ⟨q, hq, hd⟩ := exists_prime_dvd (Int.gcd a b) (by omega)
    exact h q hq (Int.dvd_trans (Int.ofNat_dvd.2 hd) (Int.gcd_dvd_left ..)) (Int.dvd_trans (Int.ofNat_dvd.2 hd) (Int.gcd_dvd_right ..))
theorem not_both {a b : Int} (h : Int.gcd a b = 1) {q : Nat} (hq : IsP q) (ha : (q : Int) ∣ a) (hb : (q : Int) ∣ b) : False := by
  have := Int.dvd_coe_gcd ha hb
  rw [h] at this
  have h2 := hq.two_le
  have := Int.le_of_dvd (by omega) this
  omega

theorem even_near {n L : Int} (hn : 0 < n) : ∃ Z : Int, -n ≤ 2 * (n * Z - L) ∧ 2 * (n * Z - L) ≤ n := by
  refine ⟨(2 * L + n) / (2 * n), ?_⟩
  have h1 := Int.emod_nonneg (2 * L + n) (show 2 * n ≠ 0 by omega)
  have h2 := Int.emod_lt_of_pos (2 * L + n) (show 0 < 2 * n by omega)
  have h3 := Int.mul_ediv_add_emod (2 * L + n) (2 * n)
  generalize (2 * L + n) / (2 * n) = Z at *
  have h4 : 2 * n * Z = 2 * (n * Z) := Int.mul_assoc ..
  omega
theorem par_near {n L : Int} (hn : 0 < n) (M : Int) : ∃ Z : Int, (M - Z) % 2 = 0 ∧ -n ≤ n * Z - L ∧ n * Z - L ≤ n := by
  have h1 := Int.emod_nonneg L (show n ≠ 0 by omega)
  have h2 := Int.emod_lt_of_pos L hn
  have h3 := Int.mul_ediv_add_emod L n
  by_cases hp : (M - L / n) % 2 = 0
  · exact ⟨L / n, hp, by omega, by omega⟩
  · refine ⟨L / n + 1, by omega, ?_, ?_⟩ <;> rw [Int.mul_add] <;> omega

/-- the reflected solution -/
theorem reflect {a b c x y z X Y Z q B : Int} (h : a * (x * x) + b * (y * y) = c * (z * z)) (hq : q = a * (X * X) + b * (Y * Y) - c * (Z * Z)) (hB : B = a * (x * X) + b * (y * Y) - c * (z * Z)) :
    a * ((x * q - 2 * X * B) * (x * q - 2 * X * B)) + b * ((y * q - 2 * Y * B) * (y * q - 2 * Y * B)) = c * ((z * q - 2 * Z * B) * (z * q - 2 * Z * B)) := by
  have e1 : a * ((x * q - 2 * X * B) * (x * q - 2 * X * B)) + b * ((y * q - 2 * Y * B) * (y * q - 2 * Y * B)) - c * ((z * q - 2 * Z * B) * (z * q - 2 * Z * B))
      = q * q * (a * (x * x) + b * (y * y) - c * (z * z)) - 4 * q * B * (a * (x * X) + b * (y * Y) - c * (z * Z)) + 4 * B * B * (a * (X * X) + b * (Y * Y) - c * (Z * Z)) := by grind
  rw [← hq, ← hB, h] at e1
  have e2 : q * q * (c * (z * z) - c * (z * z)) - 4 * q * B * B + 4 * B * B * q = 0 := by grind
  omega

structure Tern (a b c x y z : Int) : Prop where
  a0 : 0 < a
  b0 : 0 < b
  c0 : 0 < c
  sf : SF c
  bc : Int.gcd b c = 1
  z0 : 0 < z
  eq : a * (x * x) + b * (y * y) = c * (z * z)

/-- a solution with coprime x and y whose z is great gives one with a smaller z -/
theorem Tern.down {a b c x y z : Int} (h : Tern a b c x y z) (hg : Int.gcd x y = 1) (hz : a * b < z * z) : ∃ x' y' z' : Int, Tern a b c x' y' z' ∧ z' < z := by
  obtain ⟨a0, b0, c0, sf, bc, z0, eq⟩ := h
  -- x is prime to c
  have hxc : Int.gcd x c = 1 := coprime_of fun q hq h1 h2 => by
    have h3 : (q : Int) ∣ b * (y * y) := by
      have : b * (y * y) = c * (z * z) - a * (x * x) := by omega
      rw [this]
      exact Int.dvd_sub (Int.dvd_mul_of_dvd_left h2) (Int.dvd_mul_of_dvd_right (Int.dvd_mul_of_dvd_left h1))
    rcases hq.idvd_mul h3 with g | g
    · exact not_both bc hq g h2
    · rcases hq.idvd_mul g with g | g <;> exact not_both hg hq h1 g
  have hcz : 0 < c * z := Int.mul_pos c0 z0
  -- what holds for every X, Y with X y - Y x = d, d a divisor of c
  have key : ∀ d X Y : Int, d ∣ c → 0 < d → X * y - Y * x = d →
      d ∣ a * (X * X) + b * (Y * Y) ∧ d ∣ a * (x * X) + b * (y * Y) ∧
      ∀ Z : Int, c * z * (z * (a * (X * X) + b * (Y * Y) - c * (Z * Z)) - 2 * Z * (a * (x * X) + b * (y * Y) - c * (z * Z))) = (c * z * Z - (a * (x * X) + b * (y * Y))) * (c * z * Z - (a * (x * X) + b * (y * Y))) + a * b * (d * d) := by
    intro d X Y hd d0 hX
    have hxd : Int.gcd x d = 1 := coprime_of fun q hq h1 h2 => not_both hxc hq h1 (Int.dvd_trans h2 hd)
    obtain ⟨k, hk⟩ := hd
    have e1 : x * (a * (x * X) + b * (y * Y)) = d * (X * (k * (z * z)) - b * y) := by
      have e : x * (a * (x * X) + b * (y * Y)) = X * (a * (x * x) + b * (y * y)) - b * y * (X * y - Y * x) := by grind
      rw [e, eq, hX, hk]; grind
    have d2 : d ∣ a * (x * X) + b * (y * Y) := gauss_r ⟨_, e1⟩ (by rw [Int.gcd_comm]; exact hxd)
    have e3 : x * (x * (a * (X * X) + b * (Y * Y))) = d * (X * X * (k * (z * z)) - b * (2 * X * y - d)) := by
      have e : x * (x * (a * (X * X) + b * (Y * Y))) = X * X * (a * (x * x) + b * (y * y)) - b * (X * y - Y * x) * (2 * X * y - (X * y - Y * x)) := by grind
      rw [e, eq, hX, hk]; grind
    have d3 : d ∣ a * (X * X) + b * (Y * Y) := gauss_r (gauss_r ⟨_, e3⟩ (by rw [Int.gcd_comm]; exact hxd)) (by rw [Int.gcd_comm]; exact hxd)
    refine ⟨d3, d2, fun Z => ?_⟩
    have e4 : (a * (X * X) + b * (Y * Y)) * (a * (x * x) + b * (y * y)) - (a * (x * X) + b * (y * Y)) * (a * (x * X) + b * (y * Y)) = a * b * ((X * y - Y * x) * (X * y - Y * x)) := by grind
    rw [eq, hX] at e4
    generalize a * (X * X) + b * (Y * Y) = M at *
    generalize a * (x * X) + b * (y * Y) = L at *
    grind
  -- the new solution, divided by D
  have fin : ∀ d D X Y Z : Int, 0 < d → 0 < D → (∀ Z : Int, c * z * (z * (a * (X * X) + b * (Y * Y) - c * (Z * Z)) - 2 * Z * (a * (x * X) + b * (y * Y) - c * (z * Z))) = (c * z * Z - (a * (x * X) + b * (y * Y))) * (c * z * Z - (a * (x * X) + b * (y * Y))) + a * b * (d * d)) →
      D ∣ a * (X * X) + b * (Y * Y) - c * (Z * Z) → D ∣ 2 * (a * (x * X) + b * (y * Y) - c * (z * Z)) →
      (c * z * Z - (a * (x * X) + b * (y * Y))) * (c * z * Z - (a * (x * X) + b * (y * Y))) + a * b * (d * d) < c * z * (D * z) → ∃ x' y' z' : Int, Tern a b c x' y' z' ∧ z' < z := by
    intro d D X Y Z d0 D0 hk ⟨q1, hq⟩ ⟨B1, hB⟩ hlt
    have hr := reflect (X := X) (Y := Y) (Z := Z) eq rfl rfl
    have hz1 := hk Z
    generalize a * (X * X) + b * (Y * Y) - c * (Z * Z) = q at *
    have e1 : ∀ u U : Int, u * q - 2 * U * (a * (x * X) + b * (y * Y) - c * (z * Z)) = D * (u * q1 - U * B1) := fun u U => by
      have : 2 * U * (a * (x * X) + b * (y * Y) - c * (z * Z)) = U * (2 * (a * (x * X) + b * (y * Y) - c * (z * Z))) := by grind
      rw [this, hB, hq]; grind
    rw [e1, e1, e1] at hr
    rw [e1] at hz1
    have hsq : 0 ≤ (c * z * Z - (a * (x * X) + b * (y * Y))) * (c * z * Z - (a * (x * X) + b * (y * Y))) := by
      rcases Int.le_total 0 (c * z * Z - (a * (x * X) + b * (y * Y))) with g | g
      · exact Int.mul_nonneg g g
      · exact Int.mul_nonneg_of_nonpos_of_nonpos g g
    have hab : 0 < a * b * (d * d) := Int.mul_pos (Int.mul_pos a0 b0) (Int.mul_pos d0 d0)
    have hpos : 0 < c * z * (D * (z * q1 - Z * B1)) := by rw [hz1]; omega
    have hz' : 0 < z * q1 - Z * B1 := Int.pos_of_mul_pos_right (Int.pos_of_mul_pos_right hpos hcz) D0
    refine ⟨x * q1 - X * B1, y * q1 - Y * B1, z * q1 - Z * B1, ⟨a0, b0, c0, sf, bc, hz', ?_⟩, ?_⟩
    · generalize x * q1 - X * B1 = u at *
      generalize y * q1 - Y * B1 = v at *
      generalize z * q1 - Z * B1 = t at *
      have hDD : D * D ≠ 0 := by have := Int.mul_pos D0 D0; omega
      refine Int.eq_of_mul_eq_mul_left hDD ?_
      have : a * (D * u * (D * u)) + b * (D * v * (D * v)) = D * D * (a * (u * u) + b * (v * v)) := by grind
      rw [← this, hr]; grind
    · rw [← hz1] at hlt
      exact Int.lt_of_mul_lt_mul_left (Int.lt_of_mul_lt_mul_left hlt (by omega)) (by omega)
  have habz : a * b * (c * c) < c * z * (c * z) := by
    have e : c * z * (c * z) = z * z * (c * c) := by grind
    rw [e]
    exact Int.mul_lt_mul_of_pos_right hz (Int.mul_pos c0 c0)
  rcases Int.emod_two_eq c with hc2 | hc2
  · -- c even
    obtain ⟨d, hd⟩ : ∃ d, c = 2 * d := Int.dvd_of_emod_eq_zero hc2
    obtain ⟨X, Y, hX⟩ := bez hg d
    obtain ⟨k1, k2, k3⟩ := key d X Y ⟨2, by omega⟩ (by omega) hX
    obtain ⟨Z, l1, l2⟩ := even_near (L := a * (x * X) + b * (y * Y)) hcz
    have hdc : d ∣ c := ⟨2, by omega⟩
    refine fin d d X Y Z (by omega) (by omega) k3 (Int.dvd_sub k1 (Int.dvd_mul_of_dvd_left hdc)) (Int.dvd_mul_of_dvd_right (Int.dvd_sub k2 (Int.dvd_mul_of_dvd_left hdc))) ?_
    generalize c * z * Z - (a * (x * X) + b * (y * Y)) = e at *
    have h1 := (mulb (x := 2 * e) (y := 2 * e) (m := c * z) (n := c * z) ⟨l1, l2⟩ ⟨l1, l2⟩).2
    have h2 : 2 * e * (2 * e) = 4 * (e * e) := by grind
    have h3 : a * b * (c * c) = 4 * (a * b * (d * d)) := by rw [hd]; grind
    have h4 : c * z * (d * z) * 2 = c * z * (c * z) := by rw [hd]; grind
    omega
  · -- c odd
    obtain ⟨X, Y, hX⟩ := bez hg c
    obtain ⟨k1, k2, k3⟩ := key c X Y (Int.dvd_refl c) c0 hX
    obtain ⟨Z, lp, l1, l2⟩ := par_near (L := a * (x * X) + b * (y * Y)) hcz (a * (X * X) + b * (Y * Y))
    have hcop : Int.gcd c 2 = 1 := coprime_of fun q hq g1 g2 => by
      have h2 := hq.two_le
      have h3 := Int.le_of_dvd (by omega) g2
      have : q = 2 := by omega
      subst this
      have := Int.emod_eq_zero_of_dvd g1
      omega
    have m1 : c ∣ a * (X * X) + b * (Y * Y) - c * (Z * Z) := Int.dvd_sub k1 (Int.dvd_mul_right ..)
    have m2 : (2 : Int) ∣ a * (X * X) + b * (Y * Y) - c * (Z * Z) := by
      refine Int.dvd_of_emod_eq_zero ?_
      have e : a * (X * X) + b * (Y * Y) - c * (Z * Z) = (a * (X * X) + b * (Y * Y) - Z) + (Z - c * (Z * Z)) := by omega
      rw [e]
      have : (Z - c * (Z * Z)) % 2 = 0 := by
        rcases Int.emod_two_eq Z with g | g
        · have h1 : (2 : Int) ∣ Z := Int.dvd_of_emod_eq_zero g
          exact Int.emod_eq_zero_of_dvd (Int.dvd_sub h1 (Int.dvd_mul_of_dvd_right (Int.dvd_mul_of_dvd_left h1)))
        · have h1 : c * (Z * Z) % 2 = 1 := by rw [Int.mul_emod, Int.mul_emod Z Z, hc2, g]; rfl
          omega
      omega
    refine fin c (c * 2) X Y Z c0 (by omega) k3 (idvd_mul_of_coprime hcop m1 m2) (by
      rw [Int.mul_comm c 2]; exact Int.mul_dvd_mul_left _ (Int.dvd_sub k2 (Int.dvd_mul_right ..))) ?_
    generalize c * z * Z - (a * (x * X) + b * (y * Y)) = e at *
    have h1 := (mulb (x := e) (y := e) (m := c * z) (n := c * z) ⟨l1, l2⟩ ⟨l1, l2⟩).2
    have h4 : c * z * (c * 2 * z) = 2 * (c * z * (c * z)) := by grind
    omega

theorem Tern.small {a b c : Int} : ∀ (n : Nat) (x y z : Int), z ≤ n → Tern a b c x y z → ∃ x' y' z' : Int, Tern a b c x' y' z' ∧ z' * z' ≤ a * b
  | 0, x, y, z, hn, h => by have := h.z0; omega
  | n + 1, x, y, z, hn, h => by
    by_cases hz : z * z ≤ a * b
    · exact ⟨x, y, z, h, hz⟩
    · by_cases hg : Int.gcd x y = 1
      · obtain ⟨x', y', z', h', hl⟩ := h.down hg (by omega)
        exact Tern.small n x' y' z' (by omega) h'
      · -- a common prime of x and y divides z too
        obtain ⟨q, hq, ⟨x1, hx⟩, ⟨y1, hy⟩⟩ : ∃ q : Nat, IsP q ∧ (q : Int) ∣ x ∧ (q : Int) ∣ y := Classical.byContradiction fun hn => hg (coprime_of fun q hq h1 h2 => hn ⟨q, hq, h1, h2⟩)
        have hq2 := hq.two_le
        have hq0 : (0 : Int) < q := by omega
        have e := h.eq
        have hzq : (q : Int) ∣ z := by
          apply Classical.byContradiction
          intro hnz
          apply h.sf q hq
          have hd : (q : Int) * q ∣ c * (z * z) := ⟨a * (x1 * x1) + b * (y1 * y1), by rw [← e, hx, hy]; grind⟩
          have hc1 : Int.gcd ((q : Int) * q) (z * z) = 1 := coprime_of fun r hr g1 g2 => by
            have hrq : r = q := by
              rcases hr.idvd_mul g1 with g | g <;> exact hr.eq_of_dvd hq (Int.ofNat_dvd.1 g)
            subst hrq
            rcases hr.idvd_mul g2 with g | g <;> exact hnz g
          exact gauss_l hd hc1
        obtain ⟨z1, hz1⟩ := hzq
        have hz0 := h.z0
        have hz10 : 0 < z1 := by
          exact Int.pos_of_mul_pos_right (a := (q : Int)) (by rw [← hz1]; exact hz0) hq0
        have hle : 2 * z1 ≤ z := by rw [hz1]; exact Int.mul_le_mul_of_nonneg_right (by omega) (by omega)
        refine Tern.small n x1 y1 z1 (by omega) ⟨h.a0, h.b0, h.c0, h.sf, h.bc, hz10, ?_⟩
        have hDD : (q : Int) * q ≠ 0 := by have := Int.mul_pos hq0 hq0; omega
        refine Int.eq_of_mul_eq_mul_left hDD ?_
        rw [hx, hy, hz1] at e
        grind

theorem sf_dvd {n z : Int} (hn : 0 < n) (h : SF n) (hd : n ∣ z * z) : n ∣ z := by
  obtain ⟨m, hm⟩ := Int.gcd_dvd_left (a := n) (b := z)
  obtain ⟨k, hk⟩ := Int.gcd_dvd_right (a := n) (b := z)
  have hg : Int.gcd n z ≠ 0 := fun h => by have := (Int.gcd_eq_zero_iff.1 h).1; omega
  have hmk : Int.gcd m k = 1 := by
    have e : Int.gcd ((Int.gcd n z : Int) * m) ((Int.gcd n z : Int) * k) = Int.gcd n z * Int.gcd m k := by rw [Int.gcd_mul_left]; rfl
    rw [← hm, ← hk] at e
    exact (Nat.eq_of_mul_eq_mul_left (by omega) (by omega : Int.gcd n z * 1 = Int.gcd n z * Int.gcd m k)).symm
  generalize (Int.gcd n z : Int) = d at *
  have hd0 : d ≠ 0 := fun h => by rw [h] at hm; omega
  have h1 : m ∣ d := by
    have h2 : d * m ∣ d * (d * (k * k)) := by rw [← hm]; have e : d * (d * (k * k)) = z * z := by rw [hk]; grind
                                              rw [e]; exact hd
    have h3 : m ∣ d * (k * k) := (Int.mul_dvd_mul_iff_left hd0).1 h2
    have c2 : Int.gcd m (k * k) = 1 := coprime_of fun q hq g1 g2 => by
      rcases hq.idvd_mul g2 with g | g <;> exact not_both hmk hq g1 g
    exact gauss_l h3 c2
  have hm1 : m.natAbs = 1 := by
    apply Classical.byContradiction
    intro hne
    have hm0 : m ≠ 0 := fun h => by rw [h] at hm; omega
    obtain ⟨q, hq, hqd⟩ := exists_prime_dvd m.natAbs (by omega)
    have hqm : (q : Int) ∣ m := Int.dvd_natAbs.1 (Int.ofNat_dvd.2 hqd)
    exact h q hq (by rw [hm]; exact Int.mul_dvd_mul (Int.dvd_trans hqm h1) hqm)
  refine Int.dvd_trans ?_ ⟨k, hk⟩
  rw [hm]
  rcases (show m = 1 ∨ m = -1 by omega) with rfl | rfl
  · rw [Int.mul_one]; exact Int.dvd_refl _
  · rw [Int.mul_neg, Int.mul_one]; exact Int.neg_dvd.2 (Int.dvd_refl _)

theorem SF.of_dvd {m n : Int} (h : SF n) (hd : m ∣ n) : SF m := fun q hq g => h q hq (Int.dvd_trans g hd)
theorem SF.neg {n : Int} (h : SF n) : SF (-n) := fun q hq g => h q hq (Int.dvd_neg.1 g)
theorem SF.split {g a : Int} (h : SF (g * a)) : Int.gcd a g = 1 := coprime_of fun q hq h1 h2 => h q hq (Int.mul_dvd_mul h2 h1)

/-- the bound for the isolated number, written for p' u^2 + q' v^2 = g w^2 with a common g: u^2 <= |q|, v^2 <= |p| -/
theorem holzer {g a b : Int} (g0 : 0 < g) (hp : SF (g * a)) (hq : SF (g * b)) (ha : a ≠ 0) (hb : b ≠ 0) (hab : Int.gcd a b = 1) (h : ∃ x y z : Int, ¬ (x = 0 ∧ y = 0 ∧ z = 0) ∧ a * (x * x) + b * (y * y) = g * (z * z)) :
    ∃ x y z : Int, ¬ (x = 0 ∧ y = 0) ∧ x * x ≤ (g * b).natAbs ∧ y * y ≤ (g * a).natAbs ∧ a * (x * x) + b * (y * y) = g * (z * z) := by
  obtain ⟨x, y, z, hn, e⟩ := h
  have sq : ∀ t : Int, 0 ≤ t * t := fun t => by
    rcases Int.le_total 0 t with g | g
    · exact Int.mul_nonneg g g
    · exact Int.mul_nonneg_of_nonpos_of_nonpos g g
  have sq0 : ∀ t : Int, t * t = 0 → t = 0 := fun t h => by rcases Int.mul_eq_zero.1 h with g | g <;> exact g
  have ab : ∀ t : Int, ((t.natAbs : Int) * t.natAbs) = t * t := Int.natAbs_mul_self'
  have m0 : ∀ {c t : Int}, 0 < c → 0 ≤ c * (t * t) := fun hc => Int.mul_nonneg (by omega) (sq _)
  have m1 : ∀ {c t : Int}, 0 < c → c * (t * t) = 0 → t = 0 := fun hc h => by
    rcases Int.mul_eq_zero.1 h with g | g
    · omega
    · exact sq0 _ g
  -- isolated: A x^2 + B y^2 = C z^2, all positive
  have iso : ∀ A B C x y z : Int, 0 < A → 0 < B → 0 < C → SF C → Int.gcd B C = 1 → ¬ (x = 0 ∧ y = 0 ∧ z = 0) → A * (x * x) + B * (y * y) = C * (z * z) →
      ∃ x y z : Int, 0 < z ∧ A * (x * x) + B * (y * y) = C * (z * z) ∧ z * z ≤ A * B ∧ x * x ≤ C * B ∧ y * y ≤ C * A := by
    intro A B C x y z hA hB hC hs hg hn e
    have hz : z ≠ 0 := fun hz => by
      subst hz
      have := m0 (t := x) hA; have := m0 (t := y) hB
      exact hn ⟨m1 hA (by omega), m1 hB (by omega), rfl⟩
    obtain ⟨x', y', z', ht, hb⟩ := Tern.small (a := A) (b := B) (c := C) z.natAbs x y z.natAbs (Int.le_refl _) ⟨hA, hB, hC, hs, hg, by omega, by rw [ab]; exact e⟩
    refine ⟨x', y', z', ht.z0, ht.eq, hb, ?_, ?_⟩
    · have h1 := ht.eq; have h2 := m0 (t := y') hB
      have h3 : C * (z' * z') ≤ C * (A * B) := Int.mul_le_mul_of_nonneg_left hb (by omega)
      have h4 : A * (x' * x') ≤ A * (C * B) := by rw [show A * (C * B) = C * (A * B) by grind]; omega
      exact Int.le_of_mul_le_mul_left h4 hA
    · have h1 := ht.eq; have h2 := m0 (t := x') hA
      have h3 : C * (z' * z') ≤ C * (A * B) := Int.mul_le_mul_of_nonneg_left hb (by omega)
      have h4 : B * (y' * y') ≤ B * (C * A) := by rw [show B * (C * A) = C * (A * B) by grind]; omega
      exact Int.le_of_mul_le_mul_left h4 hB
  have hag := hp.split; have hbg := hq.split
  rcases Int.lt_or_gt_of_ne ha with a0 | a0 <;> rcases Int.lt_or_gt_of_ne hb with b0 | b0
  · exfalso
    have h1 := m0 (c := -a) (t := x) (by omega); have h2 := m0 (c := -b) (t := y) (by omega); have h3 := m0 (t := z) g0
    rw [Int.neg_mul] at h1 h2
    refine hn ⟨m1 (c := -a) (by omega) (by rw [Int.neg_mul]; omega), m1 (c := -b) (by omega) (by rw [Int.neg_mul]; omega), m1 g0 (by omega)⟩
  · -- b y^2 = g z^2 + (-a) x^2
    obtain ⟨z', x', y', hy, e', h1, h2, h3⟩ := iso g (-a) b z x y g0 (by omega) b0 (hq.of_dvd ⟨g, Int.mul_comm ..⟩) (by rw [Int.neg_gcd]; exact hab) (fun h => hn ⟨h.2.1, h.2.2, h.1⟩) (by rw [Int.neg_mul]; omega)
    rw [Int.neg_mul] at e'
    have hn1 : g * a < 0 := Int.mul_neg_of_pos_of_neg g0 a0
    have hn2 : 0 < g * b := Int.mul_pos g0 b0
    rw [Int.mul_neg] at h1
    have hc := Int.mul_comm b g
    exact ⟨x', y', z', fun h => by omega, by omega, by omega, by omega⟩
  · -- a x^2 = g z^2 + (-b) y^2
    obtain ⟨z', y', x', hx, e', h1, h2, h3⟩ := iso g (-b) a z y x g0 (by omega) a0 (hp.of_dvd ⟨g, Int.mul_comm ..⟩) (by rw [Int.neg_gcd, Int.gcd_comm]; exact hab) (fun h => hn ⟨h.2.2, h.2.1, h.1⟩) (by rw [Int.neg_mul]; omega)
    rw [Int.neg_mul] at e'
    have hn1 : g * b < 0 := Int.mul_neg_of_pos_of_neg g0 b0
    have hn2 : 0 < g * a := Int.mul_pos g0 a0
    rw [Int.mul_neg] at h1
    have hc := Int.mul_comm a g
    exact ⟨x', y', z', fun h => by omega, by omega, by omega, by omega⟩
  · obtain ⟨x', y', z', hz, e', h1, h2, h3⟩ := iso a b g x y z a0 b0 g0 (hp.of_dvd ⟨a, rfl⟩) hbg hn e
    have hn1 : 0 < g * b := Int.mul_pos g0 b0
    have hn2 : 0 < g * a := Int.mul_pos g0 a0
    refine ⟨x', y', z', fun h => ?_, by omega, by omega, e'⟩
    have := Int.mul_pos g0 (Int.mul_pos hz hz)
    rw [h.1, h.2] at e'
    omega
end FF
