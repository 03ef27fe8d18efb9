/- An algebra that is ramified nowhere has a small zero divisor; the ramified places are even in number. No condition. -/
import Derived.Test.YtfjmhfmhijhpkaaHlz
import Derived.Test.YtfjmhfmhijhpkaaRmf0
import Derived.Test.YtfjmhfmhijhpkaaQn0
namespace FF
/-- what the search for u and v takes -/
def hitN (a b u v : Int) : Int := a * u * u + b * v * v
structure Hit (g a b u v w : Int) : Prop where
  nz : u + v ≠ 0
  eq : hitN a b u v = g * (w * w)
  w0 : 0 ≤ w

theorem ram_local {a b : Int} (hE : aE a b = 0) (h : ramL a b 999 = []) {p : Int} (hp : IsP p.toNat) : Hil a b p = 1 := by
  obtain ⟨ha, hb, ha1, hb1⟩ := aE_zero.1 hE
  have hp2 := hp.two_le
  rcases hil_cases (p := p) ha hb (.inr hp) with g | g
  · exact g
  · exfalso
    by_cases h2 : p = 2
    · have : p ∈ ramL a b 999 := ramL_mem.2 ⟨⟨by omega, by omega⟩, (ramB_iff (by omega)).2 ⟨⟨hp, by omega⟩, .inl h2⟩, g⟩
      rw [h] at this; exact absurd this List.not_mem_nil
    · by_cases hda : p ∣ a
      · have hle : p ≤ 1000 := by have := Int.le_of_dvd (show (0 : Int) < a.natAbs by omega) (dvd_natAbs'.2 hda); omega
        have : p ∈ ramL a b 999 := ramL_mem.2 ⟨⟨by omega, by omega⟩, (ramB_iff (by omega)).2 ⟨⟨hp, by omega⟩, .inr (.inl hda)⟩, g⟩
        rw [h] at this; exact absurd this List.not_mem_nil
      · by_cases hdb : p ∣ b
        · have hle : p ≤ 1000 := by have := Int.le_of_dvd (show (0 : Int) < b.natAbs by omega) (dvd_natAbs'.2 hdb); omega
          have : p ∈ ramL a b 999 := ramL_mem.2 ⟨⟨by omega, by omega⟩, (ramB_iff (by omega)).2 ⟨⟨hp, by omega⟩, .inr (.inr hdb)⟩, g⟩
          rw [h] at this; exact absurd this List.not_mem_nil
        · have := hil_unit hp h2 hda hdb; omega

/-- the primes up to n + 1 -/
def prL (n : Nat) : List Int := ((List.range n).map fun k : Nat => (k : Int) + 2).filter isPB
theorem prL_mem {n : Nat} {x : Int} : x ∈ prL n ↔ (2 ≤ x ∧ x < (n : Int) + 2) ∧ isPB x = true := by
  unfold prL
  simp only [List.mem_filter, List.mem_map, List.mem_range]
  constructor
  · rintro ⟨⟨k, hk, rfl⟩, h⟩; exact ⟨by omega, h⟩
  · rintro ⟨⟨h0, h3⟩, h⟩; exact ⟨⟨(x - 2).toNat, by omega, by omega⟩, h⟩
theorem prL_prod {a b : Int} (ha : a ≠ 0) (hb : b ≠ 0) (n : Nat) : prodH a b (prL n) = sg (ramL a b n).length := by
  induction n with
  | zero => rfl
  | succ n ih =>
    have e : prL (n + 1) = prL n ++ (if isPB ((n : Int) + 2) = true then [(n : Int) + 2] else []) := by
      unfold prL
      rw [List.range_succ, List.map_append, List.filter_append]
      simp only [List.map_cons, List.map_nil, List.filter_cons, List.filter_nil]
    rw [e, ramL_succ, prodH_append, ih, List.length_append, sg_add]
    congr 1
    by_cases hp : isPB ((n : Int) + 2) = true
    · rw [if_pos hp]
      have hP := (isPB_iff.1 hp).1
      have hr : Hil a b ((n : Int) + 2) = -1 → ramB a b ((n : Int) + 2) = true := fun h => by
        apply Classical.byContradiction
        intro hn
        have h1 : ¬ ((n : Int) + 2 = 2 ∨ (n : Int) + 2 ∣ a ∨ (n : Int) + 2 ∣ b) := fun g => hn ((ramB_iff (by omega)).2 ⟨isPB_iff.1 hp, g⟩)
        have := hil_unit hP (fun g => h1 (.inl g)) (fun g => h1 (.inr (.inl g))) (fun g => h1 (.inr (.inr g)))
        omega
      rcases hil_cases ha hb (.inr hP) with g | g
      · rw [if_neg (by rw [g]; simp)]
        simp only [prodH, g, List.length_nil]; rfl
      · rw [if_pos (by rw [hr g, g]; rfl)]
        simp only [prodH, g, List.length_cons, List.length_nil]; rfl
    · rw [if_neg hp, if_neg (by simp only [Bool.and_eq_true]; rintro ⟨h, _⟩; unfold ramB at h; simp only [Bool.and_eq_true] at h; exact hp h.1)]
      rfl
/-- the number of ramified places is even -/
theorem ram_parity {a b : Int} (hE : aE a b = 0) : Hil a b 0 * sg (ramL a b 999).length = 1 := by
  obtain ⟨ha, hb, ha1, hb1⟩ := aE_zero.1 hE
  rw [← prL_prod ha hb]
  have hle : ∀ q : Int, IsP q.toNat → q ∣ a ∨ q ∣ b → q ∈ prL 999 := fun q hq hd => by
    have hq2 := hq.two_le
    have hle : q ≤ 1000 := by
      rcases hd with h | h
      · have := Int.le_of_dvd (show (0 : Int) < a.natAbs by omega) (dvd_natAbs'.2 h); omega
      · have := Int.le_of_dvd (show (0 : Int) < b.natAbs by omega) (dvd_natAbs'.2 h); omega
    exact prL_mem.2 ⟨⟨by omega, by omega⟩, isPB_iff.2 ⟨hq, by omega⟩⟩
  refine product_formula ha hb (L := 0 :: prL 999) ⟨?_, List.mem_cons_self .., List.mem_cons_of_mem _ (prL_mem.2 ⟨⟨by omega, by omega⟩, isPB_iff.2 ⟨isP_two, by omega⟩⟩), ?_⟩ (fun q hq h => List.mem_cons_of_mem _ (hle q hq (.inl h))) (fun q hq h => List.mem_cons_of_mem _ (hle q hq (.inr h)))
  · rw [List.nodup_cons]
    refine ⟨fun h => by have := (prL_mem.1 h).1.1; omega, ?_⟩
    unfold prL
    refine List.Pairwise.filter _ ?_
    rw [List.pairwise_map]
    exact (List.pairwise_lt_range).imp (fun h => by omega)
  · intro p hp
    rcases List.mem_cons.1 hp with h | h
    · exact .inl h
    · exact .inr (isPB_iff.1 (prL_mem.1 h).2).1
theorem ram_all {a b : Int} (hE : aE a b = 0) (h : ramL a b 999 = []) : AllH a b := fun p hp => by
  rcases hp with rfl | hp
  · have := ram_parity hE; rw [h] at this; simpa [sg] using this
  · exact ram_local hE h hp
theorem hil_real (a b : Int) : Hil a b 0 = if (decide (a < 0) && decide (b < 0)) = true then -1 else 1 := by
  unfold Hil; simp
/-- the places are even in number: the list and the real place -/
theorem ram_even {a b : Int} (hE : aE a b = 0) : ((ramL a b 999).length + (if (decide (a < 0) && decide (b < 0)) = true then 1 else 0)) % 2 = 0 := by
  have h := ram_parity hE
  rw [hil_real] at h
  unfold sg at h
  by_cases c1 : (decide (a < 0) && decide (b < 0)) = true
  · rw [if_pos c1] at h ⊢
    by_cases c2 : (ramL a b 999).length % 2 = 0
    · rw [if_pos c2] at h; omega
    · omega
  · rw [if_neg c1] at h ⊢
    by_cases c2 : (ramL a b 999).length % 2 = 0
    · omega
    · rw [if_neg c2] at h; omega

theorem solve_ex {a b p s q t g : Int} (hE : aE a b = 0) (hH : ramL a b 999 = []) (ea : a = p * (s * s)) (eb : b = q * (t * t)) (sp : SF p) (sq : SF q) (hg : g = Int.gcd p q) :
    ∃ u v w : Int, 0 ≤ u ∧ 0 ≤ v ∧ u * u ≤ q.natAbs ∧ v * v ≤ p.natAbs ∧ Hit g (p.tdiv g) (q.tdiv g) u v w := by
  obtain ⟨ha, hb, -, -⟩ := aE_zero.1 hE
  obtain ⟨x, y, z, hn, e⟩ := legendre _ a b ha hb (Nat.le_refl _) (ram_all hE hH)
  have hp0 : p ≠ 0 := fun h => ha (by rw [ea, h, Int.zero_mul])
  have hq0 : q ≠ 0 := fun h => hb (by rw [eb, h, Int.zero_mul])
  have hs0 : s ≠ 0 := fun h => ha (by rw [ea, h, Int.zero_mul, Int.mul_zero])
  have ht0 : t ≠ 0 := fun h => hb (by rw [eb, h, Int.zero_mul, Int.mul_zero])
  have hg0 : 0 < g := by
    rw [hg]
    have : Int.gcd p q ≠ 0 := fun h => hp0 (Int.gcd_eq_zero_iff.1 h).1
    omega
  obtain ⟨p', hp'⟩ : g ∣ p := hg ▸ Int.gcd_dvd_left ..
  obtain ⟨q', hq'⟩ : g ∣ q := hg ▸ Int.gcd_dvd_right ..
  have hc : Int.gcd p' q' = 1 := by
    have e1 : Int.gcd (g * p') (g * q') = g.natAbs * Int.gcd p' q' := Int.gcd_mul_left ..
    rw [← hp', ← hq'] at e1
    have e2 : g.natAbs = Int.gcd p q := by rw [hg]; rfl
    rw [e2] at e1
    have e3 : Int.gcd p q ≠ 0 := fun h => hp0 (Int.gcd_eq_zero_iff.1 h).1
    exact (Nat.eq_of_mul_eq_mul_left (by omega) (by omega : Int.gcd p q * 1 = Int.gcd p q * Int.gcd p' q')).symm
  have dp : p.tdiv g = p' := by rw [hp']; exact Int.mul_tdiv_cancel_left _ (by omega)
  have dq : q.tdiv g = q' := by rw [hq']; exact Int.mul_tdiv_cancel_left _ (by omega)
  rw [dp, dq]
  rw [ea, eb] at e
  have e2 : g * (p' * (s * x * (s * x)) + q' * (t * y * (t * y))) = z * z := by rw [← e, hp', hq']; grind
  obtain ⟨z1, hz⟩ : g ∣ z := sf_dvd hg0 (sp.of_dvd ⟨p', hp'⟩) ⟨_, e2.symm⟩
  rw [hz] at e2
  have e3 : p' * (s * x * (s * x)) + q' * (t * y * (t * y)) = g * (z1 * z1) := by
    refine Int.eq_of_mul_eq_mul_left (show g ≠ 0 by omega) ?_
    rw [e2]; grind
  have hnz : ¬ (s * x = 0 ∧ t * y = 0 ∧ z1 = 0) := by
    rintro ⟨g1, g2, g3⟩
    refine hn ⟨?_, ?_, by rw [hz, g3, Int.mul_zero]⟩
    · rcases Int.mul_eq_zero.1 g1 with g | g
      · exact absurd g hs0
      · exact g
    · rcases Int.mul_eq_zero.1 g2 with g | g
      · exact absurd g ht0
      · exact g
  obtain ⟨u, v, w, h1, h2, h3, h4⟩ := holzer (g := g) (a := p') (b := q') hg0 (hp' ▸ sp) (hq' ▸ sq) (fun h => hp0 (by rw [hp', h, Int.mul_zero])) (fun h => hq0 (by rw [hq', h, Int.mul_zero])) hc ⟨s * x, t * y, z1, hnz, e3⟩
  rw [← hp'] at h3; rw [← hq'] at h2
  have ab : ∀ t : Int, ((t.natAbs : Int) * t.natAbs) = t * t := Int.natAbs_mul_self'
  refine ⟨u.natAbs, v.natAbs, w.natAbs, by omega, by omega, by rw [ab]; exact h2, by rw [ab]; exact h3, ⟨by omega, ?_, by omega⟩⟩
  unfold hitN
  rw [Int.mul_assoc, Int.mul_assoc, ab, ab, ab]; exact h4

/-- a zero divisor z + x i + y j -/
structure Zd (a b x y z : Int) : Prop where
  x0 : 0 ≤ x
  y0 : 0 ≤ y
  z0 : 0 ≤ z
  nz : ¬ (x = 0 ∧ y = 0)
  xb : x * x ≤ b.natAbs
  yb : y * y ≤ a.natAbs
  eq : a * (x * x) + b * (y * y) = z * z
theorem Hit.zd {a b p s q t g u v w : Int} (ea : a = p * (s * s)) (eb : b = q * (t * t)) (s1 : 1 ≤ s) (t1 : 1 ≤ t) (hg : g = Int.gcd p q) (hp0 : p ≠ 0)
    (h : Hit g (p.tdiv g) (q.tdiv g) u v w) (u0 : 0 ≤ u) (v0 : 0 ≤ v) (hu : u * u ≤ q.natAbs) (hv : v * v ≤ p.natAbs) : Zd a b (u * t) (v * s) (g * w * s * t) := by
  have hg0 : 0 < g := by
    rw [hg]
    have : Int.gcd p q ≠ 0 := fun h => hp0 (Int.gcd_eq_zero_iff.1 h).1
    omega
  obtain ⟨p', hp'⟩ : g ∣ p := hg ▸ Int.gcd_dvd_left ..
  obtain ⟨q', hq'⟩ : g ∣ q := hg ▸ Int.gcd_dvd_right ..
  have dp : p.tdiv g = p' := by rw [hp']; exact Int.mul_tdiv_cancel_left _ (by omega)
  have dq : q.tdiv g = q' := by rw [hq']; exact Int.mul_tdiv_cancel_left _ (by omega)
  rw [dp, dq] at h
  obtain ⟨h1, h2, h3⟩ := h
  unfold hitN at h2
  have m : ∀ {x y : Int}, 0 ≤ x → 0 ≤ y → 0 ≤ x * y := fun h g => Int.mul_nonneg h g
  refine ⟨m u0 (by omega), m v0 (by omega), m (m (m (by omega) h3) (by omega)) (by omega), fun h => h1 ?_, ?_, ?_, ?_⟩
  · have g1 : u = 0 := by rcases Int.mul_eq_zero.1 h.1 with g | g <;> omega
    have g2 : v = 0 := by rcases Int.mul_eq_zero.1 h.2 with g | g <;> omega
    omega
  · have e : (b.natAbs : Int) = q.natAbs * (t * t) := by
      have h0 : 0 ≤ t * t := m (by omega) (by omega)
      rw [eb, Int.natAbs_mul, Int.natCast_mul, Int.natAbs_of_nonneg h0]
    rw [e, show u * t * (u * t) = u * u * (t * t) by grind]
    exact Int.mul_le_mul_of_nonneg_right hu (m (by omega) (by omega))
  · have e : (a.natAbs : Int) = p.natAbs * (s * s) := by
      have h0 : 0 ≤ s * s := m (by omega) (by omega)
      rw [ea, Int.natAbs_mul, Int.natCast_mul, Int.natAbs_of_nonneg h0]
    rw [e, show v * s * (v * s) = v * v * (s * s) by grind]
    exact Int.mul_le_mul_of_nonneg_right hv (m (by omega) (by omega))
  · have e : a * (u * t * (u * t)) + b * (v * s * (v * s)) = s * s * (t * t) * g * (p' * u * u + q' * v * v) := by rw [ea, eb, hp', hq']; grind
    rw [e, h2]; grind
theorem Zd.bounds {a b x y z : Int} (h : Zd a b x y z) (hE : aE a b = 0) : x ≤ 31 ∧ y ≤ 31 ∧ z ≤ 1500 := by
  obtain ⟨-, -, ha, hb⟩ := aE_zero.1 hE
  have hx : x ≤ 31 := by
    apply Classical.byContradiction; intro hn
    have := Int.mul_le_mul (show (32 : Int) ≤ x by omega) (show (32 : Int) ≤ x by omega) (by omega) (by omega)
    have := h.xb; omega
  have hy : y ≤ 31 := by
    apply Classical.byContradiction; intro hn
    have := Int.mul_le_mul (show (32 : Int) ≤ y by omega) (show (32 : Int) ≤ y by omega) (by omega) (by omega)
    have := h.yb; omega
  refine ⟨hx, hy, ?_⟩
  apply Classical.byContradiction; intro hn
  have h1 := Int.mul_le_mul (show (1501 : Int) ≤ z by omega) (show (1501 : Int) ≤ z by omega) (by omega) (by omega)
  have h2 := (mulb ha (show -1000 ≤ x * x ∧ x * x ≤ 1000 by have := h.xb; have := Int.mul_nonneg h.x0 h.x0; omega)).2
  have h3 := (mulb hb (show -1000 ≤ y * y ∧ y * y ≤ 1000 by have := h.yb; have := Int.mul_nonneg h.y0 h.y0; omega)).2
  have h4 := h.eq
  omega
theorem Zd.nm {a b x y z : Int} (h : Zd a b x y z) : nmQ a b ⟨z, x, y, 0, 1⟩ = 0 := by
  have := h.eq
  unfold nmQ
  simp only [Int.mul_zero, Int.add_zero]
  rw [Int.mul_assoc, Int.mul_assoc]; omega
end FF
