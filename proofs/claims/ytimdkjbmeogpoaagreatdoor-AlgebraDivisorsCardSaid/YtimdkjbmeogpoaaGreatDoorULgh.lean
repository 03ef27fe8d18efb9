/- An algebra that is ramified nowhere has a small zero divisor; the ramified places are even in number. No condition. -/
import Derived.Test.YtimdkjbmeogpoaaGreatDoorUAg0
import Derived.Test.YtimdkjbmeogpoaaGreatDoorUQn0
import Derived.Test.YtimdkjbmeogpoaaGreatDoorUSp
section
namespace FF
def SF (n : Int) : Prop := ∀ q : Nat, IsP q → ¬ (q : Int) * q ∣ n
theorem root_of_leg {p : Nat} (hp : IsP p) (h2 : p ≠ 2) {a : Int} (h : leg a p = 1) : ∃ t : Int, (p : Int) ∣ t * t - a := by
 apply Classical.byContradiction
 intro hno
 have ho := hp.odd h2
 have hp2 := hp.two_le
 have ha : Cg p (a ^ ((p - 1) / 2)) 1 := by have := leg_cg hp h2 a; rw [h] at this; exact this.symm
 have h1 : ¬ (p : Int) ∣ 1 := fun h => by have := Int.le_of_dvd (by omega) h; omega
 have hl := pow_roots_le hp (n := (p - 1) / 2) (by have := hp.odd h2; omega) (a :: (List.range' 1 ((p - 1) / 2)).map fun k : Nat => (k : Int) * k) ?_ ?_
 ·simp only [List.length_cons, List.length_map, List.length_range'] at hl; omega
 ·rw [List.pairwise_cons]
  constructor
  ·intro y hy hc
   obtain ⟨k, _, rfl⟩ := List.mem_map.1 hy
   exact hno ⟨k, hc.symm⟩
  ·refine List.pairwise_map.2 (List.Pairwise.imp_of_mem ?_ List.nodup_range')
   intro x y hx hy hxy hc
   apply hxy
   rw [List.mem_range'_1] at hx hy
   have := small_square hp h1 (x := x) (y := y) ⟨by omega, by omega⟩ ⟨by omega, by omega⟩ (by rw [Int.one_mul, Int.one_mul]; exact hc)
   omega
 ·intro x hx
  rcases List.mem_cons.1 hx with rfl | hx
  ·exact ha
  ·obtain ⟨k, hk, rfl⟩ := List.mem_map.1 hx
   rw [List.mem_range'_1] at hk
   have hf := fermat hp (a := (k : Int)) (nat_lt_not_dvd (p := p) (by omega) (by omega))
   rw [sq_pow, ← Int.pow_add, show (p - 1) / 2 + (p - 1) / 2 = p - 1 by omega]
   exact hf
theorem gauss_r {a b c : Int} (h : a ∣ b * c) (hg : Int.gcd a b = 1) : a ∣ c := by
 have h1 : a.natAbs ∣ b.natAbs * c.natAbs := by rw [← Int.natAbs_mul]; exact Int.natAbs_dvd_natAbs.2 h
 exact Int.natAbs_dvd_natAbs.1 (Nat.Coprime.dvd_of_dvd_mul_left (k := a.natAbs) (m := b.natAbs) hg h1)
theorem gauss_l {a b c : Int} (h : a ∣ b * c) (hg : Int.gcd a c = 1) : a ∣ b := gauss_r (by rw [Int.mul_comm]; exact h) hg
theorem idvd_mul_of_coprime {m n x : Int} (h : Int.gcd m n = 1) (h1 : m ∣ x) (h2 : n ∣ x) : m * n ∣ x := by
 obtain ⟨k, rfl⟩ := h1
 exact Int.mul_dvd_mul_left _ (gauss_r h2 (by rw [Int.gcd_comm]; exact h))
theorem root_mod {a : Int} : ∀ (f n : Nat), n ≤ f → 1 ≤ n → SF n → (∀ q : Nat, IsP q → q ∣ n → ∃ t : Int, (q : Int) ∣ t * t - a) → ∃ t : Int, (n : Int) ∣ t * t - a
 | 0, n, hf, h1, _, _ => by omega
 | f + 1, n, hf, h1, hs, hq => by
  by_cases hn : n = 1
  ·subst hn; exact ⟨0, Int.one_dvd _⟩
  ·have h2 : 2 ≤ n := by omega
   obtain ⟨hP, hd⟩ := minFac_spec h2
   obtain ⟨hm, hm1⟩ := div_minFac h2
   generalize minFac n = q at *
   obtain ⟨m, rfl⟩ := hd
   have e : q * m / q = m := Nat.mul_div_cancel_left _ hP.pos
   rw [e] at hm hm1
   have hqm : ¬ q ∣ m := fun ⟨k, hk⟩ => hs q hP ⟨k, by rw [hk]; push_cast; grind⟩
   obtain ⟨t2, ht2⟩ := root_mod f m (by omega) hm1 (fun r hr hd => hs r hr (Int.dvd_trans hd ⟨q, by push_cast; grind⟩)) (fun r hr hd => hq r hr (Nat.dvd_trans hd ⟨q, Nat.mul_comm ..⟩))
   obtain ⟨t1, ht1⟩ := hq q hP ⟨m, rfl⟩
   have hc : Nat.Coprime q m := hP.coprime hqm
   obtain ⟨x, _, hx⟩ := inv_exists (a := (m : Int)) (m := (q : Int)) (by have := hP.pos; omega) (by rw [Int.gcd_natCast_natCast]; exact hc.symm)
   refine ⟨t2 + m * x * (t1 - t2), ?_⟩
   have c1 : Cg q (t2 + m * x * (t1 - t2)) t1 := ((Cg.refl _ t2).add (hx.mul_right (t1 - t2))).trans (Cg.of_eq (by omega))
   have c2 : Cg m (t2 + m * x * (t1 - t2)) t2 := ⟨x * (t1 - t2), by grind⟩
   generalize t2 + m * x * (t1 - t2) = t at *
   have d1 : (q : Int) ∣ t * t - a := ((c1.mul c1).trans (show Cg q (t1 * t1) a from ht1))
   have d2 : (m : Int) ∣ t * t - a := ((c2.mul c2).trans (show Cg m (t2 * t2) a from ht2))
   have := idvd_mul_of_coprime (by rw [Int.gcd_natCast_natCast]; exact hc) d1 d2
   push_cast; exact this
def AllH (a b : Int) : Prop := ∀ p : Int, p = 0 ∨ IsP p.toNat → Hil a b p = 1
def Solv (a b : Int) : Prop := ∃ x y z : Int, ¬ (x = 0 ∧ y = 0 ∧ z = 0) ∧ a * (x * x) + b * (y * y) = z * z
theorem AllH.symm {a b : Int} (h : AllH a b) : AllH b a := fun p hp => by rw [hil_comm]; exact h p hp
theorem Solv.symm {a b : Int} (h : Solv a b) : Solv b a := by
 obtain ⟨x, y, z, h1, h2⟩ := h
 exact ⟨y, x, z, fun h => h1 ⟨h.2.1, h.1, h.2.2⟩, by omega⟩
theorem square_at {a b : Int} (ha : a ≠ 0) (hb : b ≠ 0) (h : AllH a b) (hs : SF b) {q : Nat} (hq : IsP q) (hd : (q : Int) ∣ b) : ∃ t : Int, (q : Int) ∣ t * t - a := by
 by_cases h2 : q = 2
 ·subst h2
  refine ⟨a, ?_⟩
  rcases Int.emod_two_eq a with e | e
  ·have : (2 : Int) ∣ a := Int.dvd_of_emod_eq_zero e
   exact Int.dvd_sub (Int.dvd_mul_of_dvd_left this) this
  ·have e2 : a * a - a = a * (a - 1) := by grind
   rw [e2]
   exact Int.dvd_mul_of_dvd_right (Int.dvd_of_emod_eq_zero (by omega))
 ·by_cases hda : (q : Int) ∣ a
  ·exact ⟨0, by obtain ⟨k, rfl⟩ := hda; exact ⟨-k, by rw [Int.mul_neg]; omega⟩⟩
  ·apply root_of_leg hq h2
   have hq2 := hq.two_le
   have hv : vp q b = 1 := by
    rw [vp_dvd (by omega) hb hd]
    have : ¬ (q : Int) ∣ b / q := fun ⟨k, hk⟩ => hs q hq ⟨k, by rw [Int.mul_assoc, ← hk, Int.mul_ediv_cancel' hd]⟩
    rw [vp_not this]
   have := h q (.inr (by simpa using hq))
   unfold Hil at this
   rw [if_neg (by omega), if_neg (by omega), vp_not hda, hv, rest_not hda] at this
   simpa [hilp, oddB] using this
theorem small_root {a : Int} {n : Nat} (hn : 1 ≤ n) (h : ∃ t : Int, (n : Int) ∣ t * t - a) : ∃ t : Int, (n : Int) ∣ t * t - a ∧ -(n : Int) ≤ 2 * t ∧ 2 * t ≤ n := by
 obtain ⟨t, ht⟩ := h
 have key : ∀ s : Int, Cg n s t → (n : Int) ∣ s * s - a := fun s hs => (hs.mul hs).trans (show Cg n (t * t) a from ht)
 have h0 := Int.emod_nonneg t (show (n : Int) ≠ 0 by omega)
 have h1 := Int.emod_lt_of_pos t (show (0 : Int) < n by omega)
 by_cases c : 2 * (t % n) ≤ n
 ·exact ⟨t % n, key _ (Cg.emod _ _), by omega, c⟩
 ·exact ⟨t % n - n, key _ ((Cg.emod n t).trans (Cg.refl _ _) |> fun h => ((show Cg n (t % n - n) (t % n) from ⟨-1, by omega⟩).trans h)), by omega, by omega⟩
theorem solv_step {a b t b' : Int} (e : t * t - a = b * b') (hb' : b' ≠ 0) (h : Solv a b') : Solv a b := by
 obtain ⟨X, Y, Z, hn, hs⟩ := h
 by_cases hY : Y = 0
 ·subst hY
  exact ⟨X, 0, Z, hn, by rw [← hs]; omega⟩
 ·refine ⟨t * X + Z, b' * Y, t * Z + a * X, fun h => ?_, ?_⟩
  ·rcases Int.mul_eq_zero.1 h.2.1 with g | g <;> contradiction
  ·have e1 : b' * (Y * Y) = Z * Z - a * (X * X) := by omega
   have e2 : b * (b' * Y * (b' * Y)) = (t * t - a) * (Z * Z - a * (X * X)) := by rw [← e1, e]; grind
   rw [e2]; grind
theorem lt_of_quot {S A B B' T : Nat} (hle : A ≤ B) (e1 : S = B * B') (e2 : S ≤ T * T + A) (e4 : 2 * T * (2 * T) ≤ B * B) (hB2 : 2 ≤ B) : B' < B := by
 apply Classical.byContradiction
 intro hge
 have e5 : B * B ≤ B * B' := Nat.mul_le_mul_left B (by omega)
 have e6 : 2 * B ≤ B * B := Nat.mul_le_mul_right B (by omega)
 have e7 : 2 * T * (2 * T) = 4 * (T * T) := by grind
 omega
theorem legendre : ∀ (N : Nat) (a b : Int), a ≠ 0 → b ≠ 0 → a.natAbs + b.natAbs ≤ N → AllH a b → Solv a b
 | 0, a, b, ha, _, hN, _ => by omega
 | N + 1, a, b, ha, hb, hN, h => by
  have main : ∀ a b : Int, a ≠ 0 → b ≠ 0 → a.natAbs + b.natAbs ≤ N + 1 → AllH a b → a.natAbs ≤ b.natAbs → Solv a b := by
   clear ha hb hN h a b
   intro a b ha hb hN h hle
   by_cases hs : SF b
   ·by_cases hb1 : b.natAbs = 1
    ·have ha1 : a.natAbs = 1 := by omega
     have h0 := h 0 (.inl rfl)
     unfold Hil at h0
     rw [if_pos rfl] at h0
     rcases (show a = 1 ∨ a = -1 by omega) with rfl | rfl
     ·exact ⟨1, 0, 1, by omega, by omega⟩
     ·rcases (show b = 1 ∨ b = -1 by omega) with rfl | rfl
      ·exact ⟨0, 1, 1, by omega, by omega⟩
      ·simp at h0
    ·have hsn : SF (b.natAbs : Int) := fun q hq hd => hs q hq (Int.dvd_natAbs.1 hd)
     obtain ⟨t, ht, t1, t2⟩ := small_root (n := b.natAbs) (by omega) (root_mod (a := a) b.natAbs b.natAbs (Nat.le_refl _) (by omega) hsn fun q hq hd => square_at ha hb h hs hq (Int.dvd_natAbs.1 (Int.ofNat_dvd.2 hd)))
     obtain ⟨b', e⟩ := Int.natAbs_dvd.1 ht
     by_cases hb' : b' = 0
     ·subst hb'
      exact ⟨1, 0, t, by omega, by omega⟩
     ·have hlt : b'.natAbs < b.natAbs := by
       have e1 : (t * t - a).natAbs = b.natAbs * b'.natAbs := by rw [e, Int.natAbs_mul]
       have e2 : (t * t - a).natAbs ≤ t.natAbs * t.natAbs + a.natAbs := by rw [← Int.natAbs_mul]; generalize t * t = T; omega
       have e3 : 2 * t.natAbs ≤ b.natAbs := by omega
       have e4 := Nat.mul_le_mul e3 e3
       exact lt_of_quot hle e1 e2 e4 (by omega)
      refine solv_step e hb' (legendre N a b' ha hb' (by omega) fun p hp => ?_)
      have h1 := hil_mul_right (c := b') ha hb hb' hp
      rw [h p hp, Int.one_mul, ← e] at h1
      rw [← h1]
      by_cases ht0 : t = 0
      ·subst ht0; rw [show (0 : Int) * 0 - a = -a by omega]; exact hil_neg ha hp
      ·have hne : t * t - a ≠ 0 := by rw [e]; exact fun h => by rcases Int.mul_eq_zero.1 h with g | g <;> contradiction
       exact hil_norm ha hne ht0 (by omega) hp
   ·obtain ⟨q, hq, c, hc⟩ : ∃ q : Nat, IsP q ∧ (q : Int) * q ∣ b := Classical.byContradiction fun hn => hs fun q hq hd => hn ⟨q, hq, hd⟩
    have hq2 := hq.two_le
    have hc0 : c ≠ 0 := fun h => hb (by rw [hc, h, Int.mul_zero])
    have hq0 : (q : Int) ≠ 0 := by omega
    have hlt : c.natAbs < b.natAbs := by
     rw [hc, Int.natAbs_mul, Int.natAbs_mul]
     have h4 : 2 * 2 ≤ q * q := Nat.mul_le_mul hq2 hq2
     have h5 : 4 * c.natAbs ≤ q * q * c.natAbs := Nat.mul_le_mul_right _ h4
     have : c.natAbs ≠ 0 := by omega
     simp only [Int.natAbs_natCast]
     omega
    obtain ⟨x, y, z, hn, hsol⟩ := legendre N a c ha hc0 (by omega) fun p hp => by
     have := hil_sq_right ha hc0 hq0 hp
     rw [← this, Int.mul_comm c, ← hc]; exact h p hp
    refine ⟨q * x, y, q * z, fun h => hn ⟨?_, h.2.1, ?_⟩, ?_⟩
    ·rcases Int.mul_eq_zero.1 h.1 with g | g; exact absurd g hq0; exact g
    ·rcases Int.mul_eq_zero.1 h.2.2 with g | g; exact absurd g hq0; exact g
    ·rw [hc]
     have e1 : (q : Int) * q * (a * (x * x) + c * (y * y)) = q * q * (z * z) := by rw [hsol]
     grind
  rcases Nat.le_total a.natAbs b.natAbs with hle | hle
  ·exact main a b ha hb hN h hle
  ·exact (main b a hb ha (by omega) h.symm hle).symm
end FF
end
section
namespace FF
theorem bez {x y : Int} (h : Int.gcd x y = 1) (d : Int) : ∃ X Y : Int, X * y - Y * x = d := by
  by_cases hy : y = 0
  · subst hy
    rw [Int.gcd_zero_right] at h
    rcases (show x = 1 ∨ x = -1 by omega) with rfl | rfl
    · exact ⟨0, -d, by omega⟩
    · exact ⟨0, d, by omega⟩
  · obtain ⟨k, _, c, hk⟩ := inv_exists (a := x) (m := (y.natAbs : Int)) (by omega) (by simpa [Int.gcd] using h)
    rcases (show (y.natAbs : Int) = y ∨ (y.natAbs : Int) = -y by omega) with e | e
    · exact ⟨-(c * d), -(k * d), by rw [e] at hk; have : (x * k - 1) * d = y * c * d := by rw [hk]
                                    grind⟩
    · exact ⟨c * d, -(k * d), by rw [e] at hk; have : (x * k - 1) * d = -y * c * d := by rw [hk]
                                 grind⟩
theorem coprime_of {a b : Int} (h : ∀ q : Nat, IsP q → (q : Int) ∣ a → (q : Int) ∣ b → False) : Int.gcd a b = 1 := by
 apply Classical.byContradiction
 intro hn
 by_cases h0 : Int.gcd a b = 0
 ·obtain ⟨ha, hb⟩ := Int.gcd_eq_zero_iff.1 h0
  exact h 2 isP_two (ha ▸ Int.dvd_zero _) (hb ▸ Int.dvd_zero _)
 ·obtain ⟨q, hq, hd⟩ := exists_prime_dvd (Int.gcd a b) (by omega)
  exact h q hq (Int.dvd_trans (Int.ofNat_dvd.2 hd) (Int.gcd_dvd_left ..)) (Int.dvd_trans (Int.ofNat_dvd.2 hd) (Int.gcd_dvd_right ..))
theorem not_both {a b : Int} (h : Int.gcd a b = 1) {q : Nat} (hq : IsP q) (ha : (q : Int) ∣ a) (hb : (q : Int) ∣ b) : False := by
 have := Int.dvd_coe_gcd ha hb
 rw [h] at this
 have h2 := hq.two_le
 have := Int.le_of_dvd (by omega) this
 omega
theorem even_near {n L : Int} (hn : 0 < n) : ∃ Z : Int, -n ≤ 2 * (n * Z - L) ∧ 2 * (n * Z - L) ≤ n := by
 refine ⟨(2 * L + n) / (2 * n), ?_⟩
 have h1 := Int.emod_nonneg (2 * L + n) (show 2 * n ≠ 0 by omega)
 have h2 := Int.emod_lt_of_pos (2 * L + n) (show 0 < 2 * n by omega)
 have h3 := Int.mul_ediv_add_emod (2 * L + n) (2 * n)
 generalize (2 * L + n) / (2 * n) = Z at *
 have h4 : 2 * n * Z = 2 * (n * Z) := Int.mul_assoc ..
 omega
theorem par_near {n L : Int} (hn : 0 < n) (M : Int) : ∃ Z : Int, (M - Z) % 2 = 0 ∧ -n ≤ n * Z - L ∧ n * Z - L ≤ n := by
 have h1 := Int.emod_nonneg L (show n ≠ 0 by omega)
 have h2 := Int.emod_lt_of_pos L hn
 have h3 := Int.mul_ediv_add_emod L n
 by_cases hp : (M - L / n) % 2 = 0
 ·exact ⟨L / n, hp, by omega, by omega⟩
 ·refine ⟨L / n + 1, by omega, ?_, ?_⟩ <;> rw [Int.mul_add] <;> omega
theorem reflect {a b c x y z X Y Z q B : Int} (h : a * (x * x) + b * (y * y) = c * (z * z)) (hq : q = a * (X * X) + b * (Y * Y) - c * (Z * Z)) (hB : B = a * (x * X) + b * (y * Y) - c * (z * Z)) :
  a * ((x * q - 2 * X * B) * (x * q - 2 * X * B)) + b * ((y * q - 2 * Y * B) * (y * q - 2 * Y * B)) = c * ((z * q - 2 * Z * B) * (z * q - 2 * Z * B)) := by
 have e1 : a * ((x * q - 2 * X * B) * (x * q - 2 * X * B)) + b * ((y * q - 2 * Y * B) * (y * q - 2 * Y * B)) - c * ((z * q - 2 * Z * B) * (z * q - 2 * Z * B))
   = q * q * (a * (x * x) + b * (y * y) - c * (z * z)) - 4 * q * B * (a * (x * X) + b * (y * Y) - c * (z * Z)) + 4 * B * B * (a * (X * X) + b * (Y * Y) - c * (Z * Z)) := by grind
 rw [← hq, ← hB, h] at e1
 have e2 : q * q * (c * (z * z) - c * (z * z)) - 4 * q * B * B + 4 * B * B * q = 0 := by grind
 omega
structure Tern (a b c x y z : Int) : Prop where
 a0 : 0 < a
 b0 : 0 < b
 c0 : 0 < c
 sf : SF c
 bc : Int.gcd b c = 1
 z0 : 0 < z
 eq : a * (x * x) + b * (y * y) = c * (z * z)
theorem Tern.down {a b c x y z : Int} (h : Tern a b c x y z) (hg : Int.gcd x y = 1) (hz : a * b < z * z) : ∃ x' y' z' : Int, Tern a b c x' y' z' ∧ z' < z := by
 obtain ⟨a0, b0, c0, sf, bc, z0, eq⟩ := h
 have hxc : Int.gcd x c = 1 := coprime_of fun q hq h1 h2 => by
  have h3 : (q : Int) ∣ b * (y * y) := by
   have : b * (y * y) = c * (z * z) - a * (x * x) := by omega
   rw [this]
   exact Int.dvd_sub (Int.dvd_mul_of_dvd_left h2) (Int.dvd_mul_of_dvd_right (Int.dvd_mul_of_dvd_left h1))
  rcases hq.idvd_mul h3 with g | g
  ·exact not_both bc hq g h2
  ·rcases hq.idvd_mul g with g | g <;> exact not_both hg hq h1 g
 have hcz : 0 < c * z := Int.mul_pos c0 z0
 have key : ∀ d X Y : Int, d ∣ c → 0 < d → X * y - Y * x = d →
   d ∣ a * (X * X) + b * (Y * Y) ∧ d ∣ a * (x * X) + b * (y * Y) ∧
   ∀ Z : Int, c * z * (z * (a * (X * X) + b * (Y * Y) - c * (Z * Z)) - 2 * Z * (a * (x * X) + b * (y * Y) - c * (z * Z))) = (c * z * Z - (a * (x * X) + b * (y * Y))) * (c * z * Z - (a * (x * X) + b * (y * Y))) + a * b * (d * d) := by
  intro d X Y hd d0 hX
  have hxd : Int.gcd x d = 1 := coprime_of fun q hq h1 h2 => not_both hxc hq h1 (Int.dvd_trans h2 hd)
  obtain ⟨k, hk⟩ := hd
  have e1 : x * (a * (x * X) + b * (y * Y)) = d * (X * (k * (z * z)) - b * y) := by
   have e : x * (a * (x * X) + b * (y * Y)) = X * (a * (x * x) + b * (y * y)) - b * y * (X * y - Y * x) := by grind
   rw [e, eq, hX, hk]; grind
  have d2 : d ∣ a * (x * X) + b * (y * Y) := gauss_r ⟨_, e1⟩ (by rw [Int.gcd_comm]; exact hxd)
  have e3 : x * (x * (a * (X * X) + b * (Y * Y))) = d * (X * X * (k * (z * z)) - b * (2 * X * y - d)) := by
   have e : x * (x * (a * (X * X) + b * (Y * Y))) = X * X * (a * (x * x) + b * (y * y)) - b * (X * y - Y * x) * (2 * X * y - (X * y - Y * x)) := by grind
   rw [e, eq, hX, hk]; grind
  have d3 : d ∣ a * (X * X) + b * (Y * Y) := gauss_r (gauss_r ⟨_, e3⟩ (by rw [Int.gcd_comm]; exact hxd)) (by rw [Int.gcd_comm]; exact hxd)
  refine ⟨d3, d2, fun Z => ?_⟩
  have e4 : (a * (X * X) + b * (Y * Y)) * (a * (x * x) + b * (y * y)) - (a * (x * X) + b * (y * Y)) * (a * (x * X) + b * (y * Y)) = a * b * ((X * y - Y * x) * (X * y - Y * x)) := by grind
  rw [eq, hX] at e4
  generalize a * (X * X) + b * (Y * Y) = M at *
  generalize a * (x * X) + b * (y * Y) = L at *
  grind
 have fin : ∀ d D X Y Z : Int, 0 < d → 0 < D → (∀ Z : Int, c * z * (z * (a * (X * X) + b * (Y * Y) - c * (Z * Z)) - 2 * Z * (a * (x * X) + b * (y * Y) - c * (z * Z))) = (c * z * Z - (a * (x * X) + b * (y * Y))) * (c * z * Z - (a * (x * X) + b * (y * Y))) + a * b * (d * d)) →
   D ∣ a * (X * X) + b * (Y * Y) - c * (Z * Z) → D ∣ 2 * (a * (x * X) + b * (y * Y) - c * (z * Z)) →
   (c * z * Z - (a * (x * X) + b * (y * Y))) * (c * z * Z - (a * (x * X) + b * (y * Y))) + a * b * (d * d) < c * z * (D * z) → ∃ x' y' z' : Int, Tern a b c x' y' z' ∧ z' < z := by
  intro d D X Y Z d0 D0 hk ⟨q1, hq⟩ ⟨B1, hB⟩ hlt
  have hr := reflect (X := X) (Y := Y) (Z := Z) eq rfl rfl
  have hz1 := hk Z
  generalize a * (X * X) + b * (Y * Y) - c * (Z * Z) = q at *
  have e1 : ∀ u U : Int, u * q - 2 * U * (a * (x * X) + b * (y * Y) - c * (z * Z)) = D * (u * q1 - U * B1) := fun u U => by
   have : 2 * U * (a * (x * X) + b * (y * Y) - c * (z * Z)) = U * (2 * (a * (x * X) + b * (y * Y) - c * (z * Z))) := by grind
   rw [this, hB, hq]; grind
  rw [e1, e1, e1] at hr
  rw [e1] at hz1
  have hsq : 0 ≤ (c * z * Z - (a * (x * X) + b * (y * Y))) * (c * z * Z - (a * (x * X) + b * (y * Y))) := by
   rcases Int.le_total 0 (c * z * Z - (a * (x * X) + b * (y * Y))) with g | g
   ·exact Int.mul_nonneg g g
   ·exact Int.mul_nonneg_of_nonpos_of_nonpos g g
  have hab : 0 < a * b * (d * d) := Int.mul_pos (Int.mul_pos a0 b0) (Int.mul_pos d0 d0)
  have hpos : 0 < c * z * (D * (z * q1 - Z * B1)) := by rw [hz1]; omega
  have hz' : 0 < z * q1 - Z * B1 := Int.pos_of_mul_pos_right (Int.pos_of_mul_pos_right hpos hcz) D0
  refine ⟨x * q1 - X * B1, y * q1 - Y * B1, z * q1 - Z * B1, ⟨a0, b0, c0, sf, bc, hz', ?_⟩, ?_⟩
  ·generalize x * q1 - X * B1 = u at *
   generalize y * q1 - Y * B1 = v at *
   generalize z * q1 - Z * B1 = t at *
   have hDD : D * D ≠ 0 := by have := Int.mul_pos D0 D0; omega
   refine Int.eq_of_mul_eq_mul_left hDD ?_
   have : a * (D * u * (D * u)) + b * (D * v * (D * v)) = D * D * (a * (u * u) + b * (v * v)) := by grind
   rw [← this, hr]; grind
  ·rw [← hz1] at hlt
   exact Int.lt_of_mul_lt_mul_left (Int.lt_of_mul_lt_mul_left hlt (by omega)) (by omega)
 have habz : a * b * (c * c) < c * z * (c * z) := by
  have e : c * z * (c * z) = z * z * (c * c) := by grind
  rw [e]
  exact Int.mul_lt_mul_of_pos_right hz (Int.mul_pos c0 c0)
 rcases Int.emod_two_eq c with hc2 | hc2
 ·
  obtain ⟨d, hd⟩ : ∃ d, c = 2 * d := Int.dvd_of_emod_eq_zero hc2
  obtain ⟨X, Y, hX⟩ := bez hg d
  obtain ⟨k1, k2, k3⟩ := key d X Y ⟨2, by omega⟩ (by omega) hX
  obtain ⟨Z, l1, l2⟩ := even_near (L := a * (x * X) + b * (y * Y)) hcz
  have hdc : d ∣ c := ⟨2, by omega⟩
  refine fin d d X Y Z (by omega) (by omega) k3 (Int.dvd_sub k1 (Int.dvd_mul_of_dvd_left hdc)) (Int.dvd_mul_of_dvd_right (Int.dvd_sub k2 (Int.dvd_mul_of_dvd_left hdc))) ?_
  generalize c * z * Z - (a * (x * X) + b * (y * Y)) = e at *
  have h1 := (mulb (x := 2 * e) (y := 2 * e) (m := c * z) (n := c * z) ⟨l1, l2⟩ ⟨l1, l2⟩).2
  have h2 : 2 * e * (2 * e) = 4 * (e * e) := by grind
  have h3 : a * b * (c * c) = 4 * (a * b * (d * d)) := by rw [hd]; grind
  have h4 : c * z * (d * z) * 2 = c * z * (c * z) := by rw [hd]; grind
  omega
 ·
  obtain ⟨X, Y, hX⟩ := bez hg c
  obtain ⟨k1, k2, k3⟩ := key c X Y (Int.dvd_refl c) c0 hX
  obtain ⟨Z, lp, l1, l2⟩ := par_near (L := a * (x * X) + b * (y * Y)) hcz (a * (X * X) + b * (Y * Y))
  have hcop : Int.gcd c 2 = 1 := coprime_of fun q hq g1 g2 => by
   have h2 := hq.two_le
   have h3 := Int.le_of_dvd (by omega) g2
   have : q = 2 := by omega
   subst this
   have := Int.emod_eq_zero_of_dvd g1
   omega
  have m1 : c ∣ a * (X * X) + b * (Y * Y) - c * (Z * Z) := Int.dvd_sub k1 (Int.dvd_mul_right ..)
  have m2 : (2 : Int) ∣ a * (X * X) + b * (Y * Y) - c * (Z * Z) := by
   refine Int.dvd_of_emod_eq_zero ?_
   have e : a * (X * X) + b * (Y * Y) - c * (Z * Z) = (a * (X * X) + b * (Y * Y) - Z) + (Z - c * (Z * Z)) := by omega
   rw [e]
   have : (Z - c * (Z * Z)) % 2 = 0 := by
    rcases Int.emod_two_eq Z with g | g
    ·have h1 : (2 : Int) ∣ Z := Int.dvd_of_emod_eq_zero g
     exact Int.emod_eq_zero_of_dvd (Int.dvd_sub h1 (Int.dvd_mul_of_dvd_right (Int.dvd_mul_of_dvd_left h1)))
    ·have h1 : c * (Z * Z) % 2 = 1 := by rw [Int.mul_emod, Int.mul_emod Z Z, hc2, g]; rfl
     omega
   omega
  refine fin c (c * 2) X Y Z c0 (by omega) k3 (idvd_mul_of_coprime hcop m1 m2) (by
   rw [Int.mul_comm c 2]; exact Int.mul_dvd_mul_left _ (Int.dvd_sub k2 (Int.dvd_mul_right ..))) ?_
  generalize c * z * Z - (a * (x * X) + b * (y * Y)) = e at *
  have h1 := (mulb (x := e) (y := e) (m := c * z) (n := c * z) ⟨l1, l2⟩ ⟨l1, l2⟩).2
  have h4 : c * z * (c * 2 * z) = 2 * (c * z * (c * z)) := by grind
  omega
theorem Tern.small {a b c : Int} : ∀ (n : Nat) (x y z : Int), z ≤ n → Tern a b c x y z → ∃ x' y' z' : Int, Tern a b c x' y' z' ∧ z' * z' ≤ a * b
 | 0, x, y, z, hn, h => by have := h.z0; omega
 | n + 1, x, y, z, hn, h => by
  by_cases hz : z * z ≤ a * b
  ·exact ⟨x, y, z, h, hz⟩
  ·by_cases hg : Int.gcd x y = 1
   ·obtain ⟨x', y', z', h', hl⟩ := h.down hg (by omega)
    exact Tern.small n x' y' z' (by omega) h'
   ·
    obtain ⟨q, hq, ⟨x1, hx⟩, ⟨y1, hy⟩⟩ : ∃ q : Nat, IsP q ∧ (q : Int) ∣ x ∧ (q : Int) ∣ y := Classical.byContradiction fun hn => hg (coprime_of fun q hq h1 h2 => hn ⟨q, hq, h1, h2⟩)
    have hq2 := hq.two_le
    have hq0 : (0 : Int) < q := by omega
    have e := h.eq
    have hzq : (q : Int) ∣ z := by
     apply Classical.byContradiction
     intro hnz
     apply h.sf q hq
     have hd : (q : Int) * q ∣ c * (z * z) := ⟨a * (x1 * x1) + b * (y1 * y1), by rw [← e, hx, hy]; grind⟩
     have hc1 : Int.gcd ((q : Int) * q) (z * z) = 1 := coprime_of fun r hr g1 g2 => by
      have hrq : r = q := by
       rcases hr.idvd_mul g1 with g | g <;> exact hr.eq_of_dvd hq (Int.ofNat_dvd.1 g)
      subst hrq
      rcases hr.idvd_mul g2 with g | g <;> exact hnz g
     exact gauss_l hd hc1
    obtain ⟨z1, hz1⟩ := hzq
    have hz0 := h.z0
    have hz10 : 0 < z1 := by
     exact Int.pos_of_mul_pos_right (a := (q : Int)) (by rw [← hz1]; exact hz0) hq0
    have hle : 2 * z1 ≤ z := by rw [hz1]; exact Int.mul_le_mul_of_nonneg_right (by omega) (by omega)
    refine Tern.small n x1 y1 z1 (by omega) ⟨h.a0, h.b0, h.c0, h.sf, h.bc, hz10, ?_⟩
    have hDD : (q : Int) * q ≠ 0 := by have := Int.mul_pos hq0 hq0; omega
    refine Int.eq_of_mul_eq_mul_left hDD ?_
    rw [hx, hy, hz1] at e
    grind
theorem sf_dvd {n z : Int} (hn : 0 < n) (h : SF n) (hd : n ∣ z * z) : n ∣ z := by
  obtain ⟨m, hm⟩ := Int.gcd_dvd_left (a := n) (b := z)
  obtain ⟨k, hk⟩ := Int.gcd_dvd_right (a := n) (b := z)
  have hg : Int.gcd n z ≠ 0 := fun h => by have := (Int.gcd_eq_zero_iff.1 h).1; omega
  have hmk : Int.gcd m k = 1 := by
    have e : Int.gcd ((Int.gcd n z : Int) * m) ((Int.gcd n z : Int) * k) = Int.gcd n z * Int.gcd m k := by rw [Int.gcd_mul_left]; rfl
    rw [← hm, ← hk] at e
    exact (Nat.eq_of_mul_eq_mul_left (by omega) (by omega : Int.gcd n z * 1 = Int.gcd n z * Int.gcd m k)).symm
  generalize (Int.gcd n z : Int) = d at *
  have hd0 : d ≠ 0 := fun h => by rw [h] at hm; omega
  have h1 : m ∣ d := by
    have h2 : d * m ∣ d * (d * (k * k)) := by rw [← hm]; have e : d * (d * (k * k)) = z * z := by rw [hk]; grind
                                              rw [e]; exact hd
    have h3 : m ∣ d * (k * k) := (Int.mul_dvd_mul_iff_left hd0).1 h2
    have c2 : Int.gcd m (k * k) = 1 := coprime_of fun q hq g1 g2 => by
      rcases hq.idvd_mul g2 with g | g <;> exact not_both hmk hq g1 g
    exact gauss_l h3 c2
  have hm1 : m.natAbs = 1 := by
    apply Classical.byContradiction
    intro hne
    have hm0 : m ≠ 0 := fun h => by rw [h] at hm; omega
    obtain ⟨q, hq, hqd⟩ := exists_prime_dvd m.natAbs (by omega)
    have hqm : (q : Int) ∣ m := Int.dvd_natAbs.1 (Int.ofNat_dvd.2 hqd)
    exact h q hq (by rw [hm]; exact Int.mul_dvd_mul (Int.dvd_trans hqm h1) hqm)
  refine Int.dvd_trans ?_ ⟨k, hk⟩
  rw [hm]
  rcases (show m = 1 ∨ m = -1 by omega) with rfl | rfl
  · rw [Int.mul_one]; exact Int.dvd_refl _
  · rw [Int.mul_neg, Int.mul_one]; exact Int.neg_dvd.2 (Int.dvd_refl _)
theorem SF.of_dvd {m n : Int} (h : SF n) (hd : m ∣ n) : SF m := fun q hq g => h q hq (Int.dvd_trans g hd)
theorem SF.split {g a : Int} (h : SF (g * a)) : Int.gcd a g = 1 := coprime_of fun q hq h1 h2 => h q hq (Int.mul_dvd_mul h2 h1)
theorem holzer {g a b : Int} (g0 : 0 < g) (hp : SF (g * a)) (hq : SF (g * b)) (ha : a ≠ 0) (hb : b ≠ 0) (hab : Int.gcd a b = 1) (h : ∃ x y z : Int, ¬ (x = 0 ∧ y = 0 ∧ z = 0) ∧ a * (x * x) + b * (y * y) = g * (z * z)) :
  ∃ x y z : Int, ¬ (x = 0 ∧ y = 0) ∧ x * x ≤ (g * b).natAbs ∧ y * y ≤ (g * a).natAbs ∧ a * (x * x) + b * (y * y) = g * (z * z) := by
 obtain ⟨x, y, z, hn, e⟩ := h
 have sq : ∀ t : Int, 0 ≤ t * t := fun t => by
  rcases Int.le_total 0 t with g | g
  ·exact Int.mul_nonneg g g
  ·exact Int.mul_nonneg_of_nonpos_of_nonpos g g
 have sq0 : ∀ t : Int, t * t = 0 → t = 0 := fun t h => by rcases Int.mul_eq_zero.1 h with g | g <;> exact g
 have ab : ∀ t : Int, ((t.natAbs : Int) * t.natAbs) = t * t := Int.natAbs_mul_self'
 have m0 : ∀ {c t : Int}, 0 < c → 0 ≤ c * (t * t) := fun hc => Int.mul_nonneg (by omega) (sq _)
 have m1 : ∀ {c t : Int}, 0 < c → c * (t * t) = 0 → t = 0 := fun hc h => by
  rcases Int.mul_eq_zero.1 h with g | g
  ·omega
  ·exact sq0 _ g
 have iso : ∀ A B C x y z : Int, 0 < A → 0 < B → 0 < C → SF C → Int.gcd B C = 1 → ¬ (x = 0 ∧ y = 0 ∧ z = 0) → A * (x * x) + B * (y * y) = C * (z * z) →
   ∃ x y z : Int, 0 < z ∧ A * (x * x) + B * (y * y) = C * (z * z) ∧ z * z ≤ A * B ∧ x * x ≤ C * B ∧ y * y ≤ C * A := by
  intro A B C x y z hA hB hC hs hg hn e
  have hz : z ≠ 0 := fun hz => by
   subst hz
   have := m0 (t := x) hA; have := m0 (t := y) hB
   exact hn ⟨m1 hA (by omega), m1 hB (by omega), rfl⟩
  obtain ⟨x', y', z', ht, hb⟩ := Tern.small (a := A) (b := B) (c := C) z.natAbs x y z.natAbs (Int.le_refl _) ⟨hA, hB, hC, hs, hg, by omega, by rw [ab]; exact e⟩
  refine ⟨x', y', z', ht.z0, ht.eq, hb, ?_, ?_⟩
  ·have h1 := ht.eq; have h2 := m0 (t := y') hB
   have h3 : C * (z' * z') ≤ C * (A * B) := Int.mul_le_mul_of_nonneg_left hb (by omega)
   have h4 : A * (x' * x') ≤ A * (C * B) := by rw [show A * (C * B) = C * (A * B) by grind]; omega
   exact Int.le_of_mul_le_mul_left h4 hA
  ·have h1 := ht.eq; have h2 := m0 (t := x') hA
   have h3 : C * (z' * z') ≤ C * (A * B) := Int.mul_le_mul_of_nonneg_left hb (by omega)
   have h4 : B * (y' * y') ≤ B * (C * A) := by rw [show B * (C * A) = C * (A * B) by grind]; omega
   exact Int.le_of_mul_le_mul_left h4 hB
 have hag := hp.split; have hbg := hq.split
 rcases Int.lt_or_gt_of_ne ha with a0 | a0 <;> rcases Int.lt_or_gt_of_ne hb with b0 | b0
 ·exfalso
  have h1 := m0 (c := -a) (t := x) (by omega); have h2 := m0 (c := -b) (t := y) (by omega); have h3 := m0 (t := z) g0
  rw [Int.neg_mul] at h1 h2
  refine hn ⟨m1 (c := -a) (by omega) (by rw [Int.neg_mul]; omega), m1 (c := -b) (by omega) (by rw [Int.neg_mul]; omega), m1 g0 (by omega)⟩
 ·
  obtain ⟨z', x', y', hy, e', h1, h2, h3⟩ := iso g (-a) b z x y g0 (by omega) b0 (hq.of_dvd ⟨g, Int.mul_comm ..⟩) (by rw [Int.neg_gcd]; exact hab) (fun h => hn ⟨h.2.1, h.2.2, h.1⟩) (by rw [Int.neg_mul]; omega)
  rw [Int.neg_mul] at e'
  have hn1 : g * a < 0 := Int.mul_neg_of_pos_of_neg g0 a0
  have hn2 : 0 < g * b := Int.mul_pos g0 b0
  rw [Int.mul_neg] at h1
  have hc := Int.mul_comm b g
  exact ⟨x', y', z', fun h => by omega, by omega, by omega, by omega⟩
 ·
  obtain ⟨z', y', x', hx, e', h1, h2, h3⟩ := iso g (-b) a z y x g0 (by omega) a0 (hp.of_dvd ⟨g, Int.mul_comm ..⟩) (by rw [Int.neg_gcd, Int.gcd_comm]; exact hab) (fun h => hn ⟨h.2.2, h.2.1, h.1⟩) (by rw [Int.neg_mul]; omega)
  rw [Int.neg_mul] at e'
  have hn1 : g * b < 0 := Int.mul_neg_of_pos_of_neg g0 b0
  have hn2 : 0 < g * a := Int.mul_pos g0 a0
  rw [Int.mul_neg] at h1
  have hc := Int.mul_comm a g
  exact ⟨x', y', z', fun h => by omega, by omega, by omega, by omega⟩
 ·obtain ⟨x', y', z', hz, e', h1, h2, h3⟩ := iso a b g x y z a0 b0 g0 (hp.of_dvd ⟨a, rfl⟩) hbg hn e
  have hn1 : 0 < g * b := Int.mul_pos g0 b0
  have hn2 : 0 < g * a := Int.mul_pos g0 a0
  refine ⟨x', y', z', fun h => ?_, by omega, by omega, e'⟩
  have := Int.mul_pos g0 (Int.mul_pos hz hz)
  rw [h.1, h.2] at e'
  omega
end FF
end
section
namespace FF
def ramB (a b p : Int) : Bool := isPB p && (decide (p ≤ 2) || a.tmod p == 0 || b.tmod p == 0)
def ramL (a b : Int) (n : Nat) : List Int := ((List.range n).map fun k : Nat => (k : Int) + 2).filter fun p => ramB a b p && Hil a b p == -1
theorem ramL_succ (a b : Int) (n : Nat) : ramL a b (n + 1) = ramL a b n ++ (if (ramB a b ((n : Int) + 2) && Hil a b ((n : Int) + 2) == -1) = true then [(n : Int) + 2] else []) := by
 unfold ramL
 rw [List.range_succ, List.map_append, List.filter_append]
 congr 1
 simp only [List.map_cons, List.map_nil, List.filter_cons, List.filter_nil]
theorem ramL_mem {a b x : Int} {n : Nat} : x ∈ ramL a b n ↔ (2 ≤ x ∧ x < (n : Int) + 2) ∧ ramB a b x = true ∧ Hil a b x = -1 := by
 unfold ramL
 simp only [List.mem_filter, List.mem_map, List.mem_range, Bool.and_eq_true, beq_iff_eq]
 constructor
 ·rintro ⟨⟨k, hk, rfl⟩, h1, h2⟩
  exact ⟨by omega, h1, h2⟩
 ·rintro ⟨⟨h0, h3⟩, h1, h2⟩
  exact ⟨⟨(x - 2).toNat, by omega, by omega⟩, h1, h2⟩
theorem ramL_asc (a b : Int) (n : Nat) : (ramL a b n).Pairwise (· < ·) := by
 unfold ramL
 refine List.Pairwise.filter _ ?_
 rw [List.pairwise_map]
 exact (List.pairwise_lt_range).imp (fun h => by omega)
theorem ramB_iff {a b x : Int} (hx : 2 ≤ x) : ramB a b x = true ↔ (IsP x.toNat ∧ x ≤ 1000000000) ∧ (x = 2 ∨ x ∣ a ∨ x ∣ b) := by
 unfold ramB
 simp only [Bool.and_eq_true, Bool.or_eq_true, isPB_iff, decide_eq_true_iff, beq_iff_eq, ← Int.dvd_iff_tmod_eq_zero]
 constructor
 ·rintro ⟨h1, (h | h) | h⟩
  ·exact ⟨h1, .inl (by omega)⟩
  ·exact ⟨h1, .inr (.inl h)⟩
  ·exact ⟨h1, .inr (.inr h)⟩
 ·rintro ⟨h1, h | h | h⟩
  ·exact ⟨h1, .inl (.inl (by omega))⟩
  ·exact ⟨h1, .inl (.inr h)⟩
  ·exact ⟨h1, .inr h⟩
theorem dvd_natAbs' {x a : Int} : x ∣ (a.natAbs : Int) ↔ x ∣ a := Int.dvd_natAbs
theorem ram_unique {a b : Int} (ha : a ≠ 0) (hb : b ≠ 0) (ha1 : -1000 ≤ a ∧ a ≤ 1000) (hb1 : -1000 ≤ b ∧ b ≤ 1000) {l : List Int} (hl : l.Pairwise (· < ·))
  (hm : ∀ x, x ∈ l ↔ x = 2 ∨ x ∈ primesOf a.natAbs ∨ x ∈ primesOf b.natAbs) : l.filter (fun p => Hil a b p == -1) = ramL a b 999 := by
 refine asc_unique (List.Pairwise.filter _ hl) (ramL_asc a b 999) fun x => ?_
 rw [List.mem_filter, ramL_mem, hm, beq_iff_eq, primesOf_mem (by omega), primesOf_mem (by omega), dvd_natAbs', dvd_natAbs']
 constructor
 ·rintro ⟨h, hh⟩
  have h2 : IsP x.toNat ∧ 0 ≤ x ∧ (x = 2 ∨ x ∣ a ∨ x ∣ b) := by
   rcases h with rfl | ⟨h1, h2, h3⟩ | ⟨h1, h2, h3⟩
   ·exact ⟨isP_two, by omega, .inl rfl⟩
   ·exact ⟨h1, h2, .inr (.inl h3)⟩
   ·exact ⟨h1, h2, .inr (.inr h3)⟩
  obtain ⟨hp, h0, hd⟩ := h2
  have hp2 := hp.1
  have hle : x ≤ 1000 := by
   rcases hd with h | h | h
   ·omega
   ·have := Int.le_of_dvd (show (0 : Int) < a.natAbs by omega) (dvd_natAbs'.2 h); omega
   ·have := Int.le_of_dvd (show (0 : Int) < b.natAbs by omega) (dvd_natAbs'.2 h); omega
  exact ⟨⟨by omega, by omega⟩, (ramB_iff (by omega)).2 ⟨⟨hp, by omega⟩, hd⟩, hh⟩
 ·rintro ⟨⟨h0, h1⟩, h2, h3⟩
  obtain ⟨⟨hp, _⟩, hd⟩ := (ramB_iff h0).1 h2
  refine ⟨?_, h3⟩
  rcases hd with h | h | h
  ·exact .inl h
  ·exact .inr (.inl ⟨hp, by omega, h⟩)
  ·exact .inr (.inr ⟨hp, by omega, h⟩)
theorem prodZ_sub : ∀ {l k : List Int}, l.Nodup → (∀ x ∈ l, x ∈ k) → (∀ x ∈ k, 1 ≤ x) → prodZ l ≤ prodZ k
 | [], k, _, _, h => prodZ_pos h
 | x :: l, k, hl, hs, h => by
  have hx := hs x (List.mem_cons_self ..)
  rw [prodZ_erase hx]
  obtain ⟨h1, h2⟩ := List.nodup_cons.1 hl
  have h3 := prodZ_sub (k := k.erase x) h2 (fun y hy => (List.mem_erase_of_ne (fun e => h1 (by rw [← e]; exact hy))).2 (hs y (List.mem_cons_of_mem _ hy))) (fun y hy => h y (List.mem_of_mem_erase hy))
  exact Int.mul_le_mul_of_nonneg_left h3 (by have := h x hx; omega)
theorem prodZ_append (l k : List Int) : prodZ (l ++ k) = prodZ l * prodZ k := by
 induction l with
 | nil => show prodZ k = 1 * prodZ k; rw [Int.one_mul]
 | cons x l ih => show x * prodZ (l ++ k) = x * prodZ l * prodZ k; rw [ih, Int.mul_assoc]
theorem prodZ_primesOf {m : Int} (hm : 1 ≤ m) : prodZ (primesOf m) ≤ m := by
 have h := prodZ_le (l := facs m) (fun x hx => by
  have h1 := primesOf_le hm (q := x.1) (List.mem_map.2 ⟨x, hx, rfl⟩)
  exact ⟨h1.1, ((facs_ok hm).prime x hx).2.1⟩)
 have h2 := (facs_ok hm).prod
 unfold primesOf
 omega
theorem ram_prod {a b : Int} (ha : a ≠ 0) (hb : b ≠ 0) (ha1 : -1000 ≤ a ∧ a ≤ 1000) (hb1 : -1000 ≤ b ∧ b ≤ 1000) (n : Nat) (i : Nat) : 1 ≤ prodZ ((ramL a b n).take i) ∧ prodZ ((ramL a b n).take i) ≤ 2000000 := by
 have hsub : ∀ x ∈ (ramL a b n).take i, x ∈ [2] ++ primesOf a.natAbs ++ primesOf b.natAbs := fun x hx => by
  obtain ⟨⟨h0, _⟩, h2, _⟩ := ramL_mem.1 (List.mem_of_mem_take hx)
  obtain ⟨⟨hp, _⟩, hd⟩ := (ramB_iff h0).1 h2
  rcases hd with h | h | h
  ·subst h; simp
  ·refine List.mem_append_left _ (List.mem_append_right _ ((primesOf_mem (by omega)).2 ⟨hp, by omega, dvd_natAbs'.2 h⟩))
  ·refine List.mem_append_right _ ((primesOf_mem (by omega)).2 ⟨hp, by omega, dvd_natAbs'.2 h⟩)
 have hpos : ∀ x ∈ [2] ++ primesOf a.natAbs ++ primesOf b.natAbs, (1 : Int) ≤ x := fun x hx => by
  rcases List.mem_append.1 hx with h | h
  ·rcases List.mem_append.1 h with h | h
   ·rw [List.mem_singleton] at h; omega
   ·have := primesOf_le (by omega) h; omega
  ·have := primesOf_le (by omega) h; omega
 have h1 := prodZ_sub (((ramL_asc a b n).take).imp (fun h => by omega)) hsub hpos
 have h2 : 1 ≤ prodZ ((ramL a b n).take i) := prodZ_pos fun x hx => hpos x (hsub x hx)
 refine ⟨h2, Int.le_trans h1 ?_⟩
 rw [prodZ_append, prodZ_append]
 have h3 := prodZ_primesOf (m := a.natAbs) (by omega)
 have h4 := prodZ_primesOf (m := b.natAbs) (by omega)
 have h5 : 1 ≤ prodZ (primesOf a.natAbs) := prodZ_pos fun x hx => by have := primesOf_le (by omega) hx; omega
 have h6 : 1 ≤ prodZ (primesOf b.natAbs) := prodZ_pos fun x hx => by have := primesOf_le (by omega) hx; omega
 have h7 : prodZ [2] = 2 := rfl
 rw [h7]
 have h8 : 2 * prodZ (primesOf a.natAbs) * prodZ (primesOf b.natAbs) ≤ 2000 * 1000 := Int.mul_le_mul (by omega) (by omega) (by omega) (by omega)
 omega
theorem primes_small : ∀ {l : List Int} {m : Int}, l.Pairwise (· < ·) → (∀ x ∈ l, 2 ≤ x) → prodZ l ≤ m → 1 ≤ m → (2 : Int) ^ l.length ≤ m
 | [], m, _, _, _, h => by simpa using h
 | x :: l, m, hl, hx, hp, hm => by
  have h1 : 2 ≤ x := hx x (List.mem_cons_self ..)
  have h2 : 1 ≤ prodZ l := prodZ_pos fun y hy => by have := hx y (List.mem_cons_of_mem _ hy); omega
  have h3 : prodZ (x :: l) = x * prodZ l := rfl
  have h4 := primes_small (l := l) (m := prodZ l) (List.pairwise_cons.1 hl).2 (fun y hy => hx y (List.mem_cons_of_mem _ hy)) (Int.le_refl _) h2
  rw [List.length_cons, Int.pow_succ]
  have h5 : 2 * prodZ l ≤ x * prodZ l := Int.mul_le_mul_of_nonneg_right h1 (by omega)
  omega
end FF
namespace FF
theorem ram_ex : ramL (-1) 3 999 = [2, 3] := by
 rw [← ram_unique (a := -1) (b := 3) (by omega) (by omega) (by omega) (by omega) (l := [2, 3]) (by decide) (fun x => by
  rw [primesOf_mem (by decide), primesOf_mem (by decide)]
  constructor
  ·intro h
   simp only [List.mem_cons, List.not_mem_nil, or_false] at h
   rcases h with rfl | rfl
   ·exact .inl rfl
   ·exact .inr (.inr ⟨isP_three, by omega, by decide⟩)
  ·rintro (rfl | ⟨h1, h2, h3⟩ | ⟨h1, h2, h3⟩)
   ·simp
   ·have := Int.le_of_dvd (by decide) h3
    have h4 := h1.1
    have e : (((-1 : Int).natAbs : Nat) : Int) = 1 := rfl
    omega
   ·have := Int.le_of_dvd (by decide) h3
    have h4 := h1.1
    have e : (((3 : Int).natAbs : Nat) : Int) = 3 := rfl
    have h5 : x = 2 ∨ x = 3 := by omega
    rcases h5 with rfl | rfl
    ·simp
    ·simp)]
 have a2 : vp 2 (-1) = 0 ∧ rest 2 (-1) = -1 := by have := vp_unique (p := 2) (by decide) (k := 0) (r := -1) (by decide); simpa using this
 have b2 : vp 2 3 = 0 ∧ rest 2 3 = 3 := by have := vp_unique (p := 2) (by decide) (k := 0) (r := 3) (by decide); simpa using this
 have a3 : vp 3 (-1) = 0 ∧ rest 3 (-1) = -1 := by have := vp_unique (p := 3) (by decide) (k := 0) (r := -1) (by decide); simpa using this
 have b3 : vp 3 3 = 1 ∧ rest 3 3 = 1 := by have := vp_unique (p := 3) (by decide) (k := 1) (r := 1) (by decide); simpa using this
 have h2 : Hil (-1) 3 2 = -1 := by unfold Hil; rw [a2.1, a2.2, b2.1, b2.2]; decide
 have h3 : Hil (-1) 3 3 = -1 := by unfold Hil; rw [a3.1, a3.2, b3.1, b3.2]; decide +kernel
 simp [h2, h3]
end FF
end
section
namespace FF
def hitN (a b u v : Int) : Int := a * u * u + b * v * v
structure Hit (g a b u v w : Int) : Prop where
 nz : u + v ≠ 0
 eq : hitN a b u v = g * (w * w)
 w0 : 0 ≤ w
theorem ram_local {a b : Int} (hE : aE a b = 0) (h : ramL a b 999 = []) {p : Int} (hp : IsP p.toNat) : Hil a b p = 1 := by
 obtain ⟨ha, hb, ha1, hb1⟩ := aE_zero.1 hE
 have hp2 := hp.two_le
 rcases hil_cases (p := p) ha hb (.inr hp) with g | g
 ·exact g
 ·exfalso
  by_cases h2 : p = 2
  ·have : p ∈ ramL a b 999 := ramL_mem.2 ⟨⟨by omega, by omega⟩, (ramB_iff (by omega)).2 ⟨⟨hp, by omega⟩, .inl h2⟩, g⟩
   rw [h] at this; exact absurd this List.not_mem_nil
  ·by_cases hda : p ∣ a
   ·have hle : p ≤ 1000 := by have := Int.le_of_dvd (show (0 : Int) < a.natAbs by omega) (dvd_natAbs'.2 hda); omega
    have : p ∈ ramL a b 999 := ramL_mem.2 ⟨⟨by omega, by omega⟩, (ramB_iff (by omega)).2 ⟨⟨hp, by omega⟩, .inr (.inl hda)⟩, g⟩
    rw [h] at this; exact absurd this List.not_mem_nil
   ·by_cases hdb : p ∣ b
    ·have hle : p ≤ 1000 := by have := Int.le_of_dvd (show (0 : Int) < b.natAbs by omega) (dvd_natAbs'.2 hdb); omega
     have : p ∈ ramL a b 999 := ramL_mem.2 ⟨⟨by omega, by omega⟩, (ramB_iff (by omega)).2 ⟨⟨hp, by omega⟩, .inr (.inr hdb)⟩, g⟩
     rw [h] at this; exact absurd this List.not_mem_nil
    ·have := hil_unit hp h2 hda hdb; omega
def prL (n : Nat) : List Int := ((List.range n).map fun k : Nat => (k : Int) + 2).filter isPB
theorem prL_mem {n : Nat} {x : Int} : x ∈ prL n ↔ (2 ≤ x ∧ x < (n : Int) + 2) ∧ isPB x = true := by
 unfold prL
 simp only [List.mem_filter, List.mem_map, List.mem_range]
 constructor
 ·rintro ⟨⟨k, hk, rfl⟩, h⟩; exact ⟨by omega, h⟩
 ·rintro ⟨⟨h0, h3⟩, h⟩; exact ⟨⟨(x - 2).toNat, by omega, by omega⟩, h⟩
theorem prL_prod {a b : Int} (ha : a ≠ 0) (hb : b ≠ 0) (n : Nat) : prodH a b (prL n) = sg (ramL a b n).length := by
 induction n with
 | zero => rfl
 | succ n ih =>
  have e : prL (n + 1) = prL n ++ (if isPB ((n : Int) + 2) = true then [(n : Int) + 2] else []) := by
   unfold prL
   rw [List.range_succ, List.map_append, List.filter_append]
   simp only [List.map_cons, List.map_nil, List.filter_cons, List.filter_nil]
  rw [e, ramL_succ, prodH_append, ih, List.length_append, sg_add]
  congr 1
  by_cases hp : isPB ((n : Int) + 2) = true
  ·rw [if_pos hp]
   have hP := (isPB_iff.1 hp).1
   have hr : Hil a b ((n : Int) + 2) = -1 → ramB a b ((n : Int) + 2) = true := fun h => by
    apply Classical.byContradiction
    intro hn
    have h1 : ¬ ((n : Int) + 2 = 2 ∨ (n : Int) + 2 ∣ a ∨ (n : Int) + 2 ∣ b) := fun g => hn ((ramB_iff (by omega)).2 ⟨isPB_iff.1 hp, g⟩)
    have := hil_unit hP (fun g => h1 (.inl g)) (fun g => h1 (.inr (.inl g))) (fun g => h1 (.inr (.inr g)))
    omega
   rcases hil_cases ha hb (.inr hP) with g | g
   ·rw [if_neg (by rw [g]; simp)]
    simp only [prodH, g, List.length_nil]; rfl
   ·rw [if_pos (by rw [hr g, g]; rfl)]
    simp only [prodH, g, List.length_cons, List.length_nil]; rfl
  ·rw [if_neg hp, if_neg (by simp only [Bool.and_eq_true]; rintro ⟨h, _⟩; unfold ramB at h; simp only [Bool.and_eq_true] at h; exact hp h.1)]
   rfl
theorem ram_parity {a b : Int} (hE : aE a b = 0) : Hil a b 0 * sg (ramL a b 999).length = 1 := by
 obtain ⟨ha, hb, ha1, hb1⟩ := aE_zero.1 hE
 rw [← prL_prod ha hb]
 have hle : ∀ q : Int, IsP q.toNat → q ∣ a ∨ q ∣ b → q ∈ prL 999 := fun q hq hd => by
  have hq2 := hq.two_le
  have hle : q ≤ 1000 := by
   rcases hd with h | h
   ·have := Int.le_of_dvd (show (0 : Int) < a.natAbs by omega) (dvd_natAbs'.2 h); omega
   ·have := Int.le_of_dvd (show (0 : Int) < b.natAbs by omega) (dvd_natAbs'.2 h); omega
  exact prL_mem.2 ⟨⟨by omega, by omega⟩, isPB_iff.2 ⟨hq, by omega⟩⟩
 refine product_formula ha hb (L := 0 :: prL 999) ⟨?_, List.mem_cons_self .., List.mem_cons_of_mem _ (prL_mem.2 ⟨⟨by omega, by omega⟩, isPB_iff.2 ⟨isP_two, by omega⟩⟩), ?_⟩ (fun q hq h => List.mem_cons_of_mem _ (hle q hq (.inl h))) (fun q hq h => List.mem_cons_of_mem _ (hle q hq (.inr h)))
 ·rw [List.nodup_cons]
  refine ⟨fun h => by have := (prL_mem.1 h).1.1; omega, ?_⟩
  unfold prL
  refine List.Pairwise.filter _ ?_
  rw [List.pairwise_map]
  exact (List.pairwise_lt_range).imp (fun h => by omega)
 ·intro p hp
  rcases List.mem_cons.1 hp with h | h
  ·exact .inl h
  ·exact .inr (isPB_iff.1 (prL_mem.1 h).2).1
theorem ram_all {a b : Int} (hE : aE a b = 0) (h : ramL a b 999 = []) : AllH a b := fun p hp => by
 rcases hp with rfl | hp
 ·have := ram_parity hE; rw [h] at this; simpa [sg] using this
 ·exact ram_local hE h hp
theorem hil_real (a b : Int) : Hil a b 0 = if (decide (a < 0) && decide (b < 0)) = true then -1 else 1 := by
 unfold Hil; simp
theorem ram_even {a b : Int} (hE : aE a b = 0) : ((ramL a b 999).length + (if (decide (a < 0) && decide (b < 0)) = true then 1 else 0)) % 2 = 0 := by
 have h := ram_parity hE
 rw [hil_real] at h
 unfold sg at h
 by_cases c1 : (decide (a < 0) && decide (b < 0)) = true
 ·rw [if_pos c1] at h ⊢
  by_cases c2 : (ramL a b 999).length % 2 = 0
  ·rw [if_pos c2] at h; omega
  ·omega
 ·rw [if_neg c1] at h ⊢
  by_cases c2 : (ramL a b 999).length % 2 = 0
  ·omega
  ·rw [if_neg c2] at h; omega
theorem solve_ex {a b p s q t g : Int} (hE : aE a b = 0) (hH : ramL a b 999 = []) (ea : a = p * (s * s)) (eb : b = q * (t * t)) (sp : SF p) (sq : SF q) (hg : g = Int.gcd p q) :
  ∃ u v w : Int, 0 ≤ u ∧ 0 ≤ v ∧ u * u ≤ q.natAbs ∧ v * v ≤ p.natAbs ∧ Hit g (p.tdiv g) (q.tdiv g) u v w := by
 obtain ⟨ha, hb, -, -⟩ := aE_zero.1 hE
 obtain ⟨x, y, z, hn, e⟩ := legendre _ a b ha hb (Nat.le_refl _) (ram_all hE hH)
 have hp0 : p ≠ 0 := fun h => ha (by rw [ea, h, Int.zero_mul])
 have hq0 : q ≠ 0 := fun h => hb (by rw [eb, h, Int.zero_mul])
 have hs0 : s ≠ 0 := fun h => ha (by rw [ea, h, Int.zero_mul, Int.mul_zero])
 have ht0 : t ≠ 0 := fun h => hb (by rw [eb, h, Int.zero_mul, Int.mul_zero])
 have hg0 : 0 < g := by
  rw [hg]
  have : Int.gcd p q ≠ 0 := fun h => hp0 (Int.gcd_eq_zero_iff.1 h).1
  omega
 obtain ⟨p', hp'⟩ : g ∣ p := hg ▸ Int.gcd_dvd_left ..
 obtain ⟨q', hq'⟩ : g ∣ q := hg ▸ Int.gcd_dvd_right ..
 have hc : Int.gcd p' q' = 1 := by
  have e1 : Int.gcd (g * p') (g * q') = g.natAbs * Int.gcd p' q' := Int.gcd_mul_left ..
  rw [← hp', ← hq'] at e1
  have e2 : g.natAbs = Int.gcd p q := by rw [hg]; rfl
  rw [e2] at e1
  have e3 : Int.gcd p q ≠ 0 := fun h => hp0 (Int.gcd_eq_zero_iff.1 h).1
  exact (Nat.eq_of_mul_eq_mul_left (by omega) (by omega : Int.gcd p q * 1 = Int.gcd p q * Int.gcd p' q')).symm
 have dp : p.tdiv g = p' := by rw [hp']; exact Int.mul_tdiv_cancel_left _ (by omega)
 have dq : q.tdiv g = q' := by rw [hq']; exact Int.mul_tdiv_cancel_left _ (by omega)
 rw [dp, dq]
 rw [ea, eb] at e
 have e2 : g * (p' * (s * x * (s * x)) + q' * (t * y * (t * y))) = z * z := by rw [← e, hp', hq']; grind
 obtain ⟨z1, hz⟩ : g ∣ z := sf_dvd hg0 (sp.of_dvd ⟨p', hp'⟩) ⟨_, e2.symm⟩
 rw [hz] at e2
 have e3 : p' * (s * x * (s * x)) + q' * (t * y * (t * y)) = g * (z1 * z1) := by
  refine Int.eq_of_mul_eq_mul_left (show g ≠ 0 by omega) ?_
  rw [e2]; grind
 have hnz : ¬ (s * x = 0 ∧ t * y = 0 ∧ z1 = 0) := by
  rintro ⟨g1, g2, g3⟩
  refine hn ⟨?_, ?_, by rw [hz, g3, Int.mul_zero]⟩
  ·rcases Int.mul_eq_zero.1 g1 with g | g
   ·exact absurd g hs0
   ·exact g
  ·rcases Int.mul_eq_zero.1 g2 with g | g
   ·exact absurd g ht0
   ·exact g
 obtain ⟨u, v, w, h1, h2, h3, h4⟩ := holzer (g := g) (a := p') (b := q') hg0 (hp' ▸ sp) (hq' ▸ sq) (fun h => hp0 (by rw [hp', h, Int.mul_zero])) (fun h => hq0 (by rw [hq', h, Int.mul_zero])) hc ⟨s * x, t * y, z1, hnz, e3⟩
 rw [← hp'] at h3; rw [← hq'] at h2
 have ab : ∀ t : Int, ((t.natAbs : Int) * t.natAbs) = t * t := Int.natAbs_mul_self'
 refine ⟨u.natAbs, v.natAbs, w.natAbs, by omega, by omega, by rw [ab]; exact h2, by rw [ab]; exact h3, ⟨by omega, ?_, by omega⟩⟩
 unfold hitN
 rw [Int.mul_assoc, Int.mul_assoc, ab, ab, ab]; exact h4
structure Zd (a b x y z : Int) : Prop where
 x0 : 0 ≤ x
 y0 : 0 ≤ y
 z0 : 0 ≤ z
 nz : ¬ (x = 0 ∧ y = 0)
 xb : x * x ≤ b.natAbs
 yb : y * y ≤ a.natAbs
 eq : a * (x * x) + b * (y * y) = z * z
theorem Hit.zd {a b p s q t g u v w : Int} (ea : a = p * (s * s)) (eb : b = q * (t * t)) (s1 : 1 ≤ s) (t1 : 1 ≤ t) (hg : g = Int.gcd p q) (hp0 : p ≠ 0)
  (h : Hit g (p.tdiv g) (q.tdiv g) u v w) (u0 : 0 ≤ u) (v0 : 0 ≤ v) (hu : u * u ≤ q.natAbs) (hv : v * v ≤ p.natAbs) : Zd a b (u * t) (v * s) (g * w * s * t) := by
 have hg0 : 0 < g := by
  rw [hg]
  have : Int.gcd p q ≠ 0 := fun h => hp0 (Int.gcd_eq_zero_iff.1 h).1
  omega
 obtain ⟨p', hp'⟩ : g ∣ p := hg ▸ Int.gcd_dvd_left ..
 obtain ⟨q', hq'⟩ : g ∣ q := hg ▸ Int.gcd_dvd_right ..
 have dp : p.tdiv g = p' := by rw [hp']; exact Int.mul_tdiv_cancel_left _ (by omega)
 have dq : q.tdiv g = q' := by rw [hq']; exact Int.mul_tdiv_cancel_left _ (by omega)
 rw [dp, dq] at h
 obtain ⟨h1, h2, h3⟩ := h
 unfold hitN at h2
 have m : ∀ {x y : Int}, 0 ≤ x → 0 ≤ y → 0 ≤ x * y := fun h g => Int.mul_nonneg h g
 refine ⟨m u0 (by omega), m v0 (by omega), m (m (m (by omega) h3) (by omega)) (by omega), fun h => h1 ?_, ?_, ?_, ?_⟩
 ·have g1 : u = 0 := by rcases Int.mul_eq_zero.1 h.1 with g | g <;> omega
  have g2 : v = 0 := by rcases Int.mul_eq_zero.1 h.2 with g | g <;> omega
  omega
 ·have e : (b.natAbs : Int) = q.natAbs * (t * t) := by
   have h0 : 0 ≤ t * t := m (by omega) (by omega)
   rw [eb, Int.natAbs_mul, Int.natCast_mul, Int.natAbs_of_nonneg h0]
  rw [e, show u * t * (u * t) = u * u * (t * t) by grind]
  exact Int.mul_le_mul_of_nonneg_right hu (m (by omega) (by omega))
 ·have e : (a.natAbs : Int) = p.natAbs * (s * s) := by
   have h0 : 0 ≤ s * s := m (by omega) (by omega)
   rw [ea, Int.natAbs_mul, Int.natCast_mul, Int.natAbs_of_nonneg h0]
  rw [e, show v * s * (v * s) = v * v * (s * s) by grind]
  exact Int.mul_le_mul_of_nonneg_right hv (m (by omega) (by omega))
 ·have e : a * (u * t * (u * t)) + b * (v * s * (v * s)) = s * s * (t * t) * g * (p' * u * u + q' * v * v) := by rw [ea, eb, hp', hq']; grind
  rw [e, h2]; grind
theorem Zd.bounds {a b x y z : Int} (h : Zd a b x y z) (hE : aE a b = 0) : x ≤ 31 ∧ y ≤ 31 ∧ z ≤ 1500 := by
 obtain ⟨-, -, ha, hb⟩ := aE_zero.1 hE
 have hx : x ≤ 31 := by
  apply Classical.byContradiction; intro hn
  have := Int.mul_le_mul (show (32 : Int) ≤ x by omega) (show (32 : Int) ≤ x by omega) (by omega) (by omega)
  have := h.xb; omega
 have hy : y ≤ 31 := by
  apply Classical.byContradiction; intro hn
  have := Int.mul_le_mul (show (32 : Int) ≤ y by omega) (show (32 : Int) ≤ y by omega) (by omega) (by omega)
  have := h.yb; omega
 refine ⟨hx, hy, ?_⟩
 apply Classical.byContradiction; intro hn
 have h1 := Int.mul_le_mul (show (1501 : Int) ≤ z by omega) (show (1501 : Int) ≤ z by omega) (by omega) (by omega)
 have h2 := (mulb ha (show -1000 ≤ x * x ∧ x * x ≤ 1000 by have := h.xb; have := Int.mul_nonneg h.x0 h.x0; omega)).2
 have h3 := (mulb hb (show -1000 ≤ y * y ∧ y * y ≤ 1000 by have := h.yb; have := Int.mul_nonneg h.y0 h.y0; omega)).2
 have h4 := h.eq
 omega
theorem Zd.nm {a b x y z : Int} (h : Zd a b x y z) : nmQ a b ⟨z, x, y, 0, 1⟩ = 0 := by
 have := h.eq
 unfold nmQ
 simp only [Int.mul_zero, Int.add_zero]
 rw [Int.mul_assoc, Int.mul_assoc]; omega
end FF
end
