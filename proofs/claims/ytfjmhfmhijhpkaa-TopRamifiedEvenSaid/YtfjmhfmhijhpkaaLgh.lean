/- Legendre's theorem with Holzer's bound: a ternary equation that is solvable at all places has a small solution. No condition. -/
import Derived.Test.YtfjmhfmhijhpkaaSqh
import Derived.Test.YtfjmhfmhijhpkaaLag0
import Derived.Test.YtfjmhfmhijhpkaaQn0
namespace FF
/-- no square of a prime divides -/
def SF (n : Int) : Prop := ∀ q : Nat, IsP q → ¬ (q : Int) * q ∣ n

theorem root_of_leg {p : Nat} (hp : IsP p) (h2 : p ≠ 2) {a : Int} (h : leg a p = 1) : ∃ t : Int, (p : Int) ∣ t * t - a := by
  apply Classical.byContradiction
  intro hno
  have ho := hp.odd h2
  have hp2 := hp.two_le
  have ha : Cg p (a ^ ((p - 1) / 2)) 1 := by have := leg_cg hp h2 a; rw [h] at this; exact this.symm
  have h1 : ¬ (p : Int) ∣ 1 := fun h => by have := Int.le_of_dvd (by omega) h; omega
  have hl := pow_roots_le hp (n := (p - 1) / 2) (by have := hp.odd h2; omega) (a :: (List.range' 1 ((p - 1) / 2)).map fun k : Nat => (k : Int) * k) ?_ ?_
  · simp only [List.length_cons, List.length_map, List.length_range'] at hl; omega
  · rw [List.pairwise_cons]
    constructor
    · intro y hy hc
      obtain ⟨k, _, rfl⟩ := List.mem_map.1 hy
      exact hno ⟨k, hc.symm⟩
    · refine List.pairwise_map.2 (List.Pairwise.imp_of_mem ?_ List.nodup_range')
      intro x y hx hy hxy hc
      apply hxy
      rw [List.mem_range'_1] at hx hy
      have := small_square hp h1 (x := x) (y := y) ⟨by omega, by omega⟩ ⟨by omega, by omega⟩ (by rw [Int.one_mul, Int.one_mul]; exact hc)
      omega
  · intro x hx
    rcases List.mem_cons.1 hx with rfl | hx
    · exact ha
    · obtain ⟨k, hk, rfl⟩ := List.mem_map.1 hx
      rw [List.mem_range'_1] at hk
      have hf := fermat hp (a := (k : Int)) (nat_lt_not_dvd (p := p) (by omega) (by omega))
      rw [sq_pow, ← Int.pow_add, show (p - 1) / 2 + (p - 1) / 2 = p - 1 by omega]
      exact hf

theorem gauss_r {a b c : Int} (h : a ∣ b * c) (hg : Int.gcd a b = 1) : a ∣ c := by
  have h1 : a.natAbs ∣ b.natAbs * c.natAbs := by rw [← Int.natAbs_mul]; exact Int.natAbs_dvd_natAbs.2 h
  exact Int.natAbs_dvd_natAbs.1 (Nat.Coprime.dvd_of_dvd_mul_left (k := a.natAbs) (m := b.natAbs) hg h1)
theorem gauss_l {a b c : Int} (h : a ∣ b * c) (hg : Int.gcd a c = 1) : a ∣ b := gauss_r (by rw [Int.mul_comm]; exact h) hg
theorem idvd_mul_of_coprime {m n x : Int} (h : Int.gcd m n = 1) (h1 : m ∣ x) (h2 : n ∣ x) : m * n ∣ x := by
  obtain ⟨k, rfl⟩ := h1
  exact Int.mul_dvd_mul_left _ (gauss_r h2 (by rw [Int.gcd_comm]; exact h))

/-- a number that is a square modulo each prime of n, n without squares, is one modulo n -/
theorem root_mod {a : Int} : ∀ (f n : Nat), n ≤ f → 1 ≤ n → SF n → (∀ q : Nat, IsP q → q ∣ n → ∃ t : Int, (q : Int) ∣ t * t - a) → ∃ t : Int, (n : Int) ∣ t * t - a
  | 0, n, hf, h1, _, _ => by omega
  | f + 1, n, hf, h1, hs, hq => by
    by_cases hn : n = 1
    · subst hn; exact ⟨0, Int.one_dvd _⟩
    · have h2 : 2 ≤ n := by omega
      obtain ⟨hP, hd⟩ := minFac_spec h2
      obtain ⟨hm, hm1⟩ := div_minFac h2
      generalize minFac n = q at *
      obtain ⟨m, rfl⟩ := hd
      have e : q * m / q = m := Nat.mul_div_cancel_left _ hP.pos
      rw [e] at hm hm1
      have hqm : ¬ q ∣ m := fun ⟨k, hk⟩ => hs q hP ⟨k, by rw [hk]; push_cast; grind⟩
      obtain ⟨t2, ht2⟩ := root_mod f m (by omega) hm1 (fun r hr hd => hs r hr (Int.dvd_trans hd ⟨q, by push_cast; grind⟩)) (fun r hr hd => hq r hr (Nat.dvd_trans hd ⟨q, Nat.mul_comm ..⟩))
      obtain ⟨t1, ht1⟩ := hq q hP ⟨m, rfl⟩
      have hc : Nat.Coprime q m := hP.coprime hqm
      obtain ⟨x, _, hx⟩ := inv_exists (a := (m : Int)) (m := (q : Int)) (by have := hP.pos; omega) (by rw [Int.gcd_natCast_natCast]; exact hc.symm)
      refine ⟨t2 + m * x * (t1 - t2), ?_⟩
      have c1 : Cg q (t2 + m * x * (t1 - t2)) t1 := ((Cg.refl _ t2).add (hx.mul_right (t1 - t2))).trans (Cg.of_eq (by omega))
      have c2 : Cg m (t2 + m * x * (t1 - t2)) t2 := ⟨x * (t1 - t2), by grind⟩
      generalize t2 + m * x * (t1 - t2) = t at *
      have d1 : (q : Int) ∣ t * t - a := ((c1.mul c1).trans (show Cg q (t1 * t1) a from ht1))
      have d2 : (m : Int) ∣ t * t - a := ((c2.mul c2).trans (show Cg m (t2 * t2) a from ht2))
      have := idvd_mul_of_coprime (by rw [Int.gcd_natCast_natCast]; exact hc) d1 d2
      push_cast; exact this

/-- all symbols are 1 -/
def AllH (a b : Int) : Prop := ∀ p : Int, p = 0 ∨ IsP p.toNat → Hil a b p = 1
/-- a x^2 + b y^2 is a square -/
def Solv (a b : Int) : Prop := ∃ x y z : Int, ¬ (x = 0 ∧ y = 0 ∧ z = 0) ∧ a * (x * x) + b * (y * y) = z * z
theorem AllH.symm {a b : Int} (h : AllH a b) : AllH b a := fun p hp => by rw [hil_comm]; exact h p hp
theorem Solv.symm {a b : Int} (h : Solv a b) : Solv b a := by
  obtain ⟨x, y, z, h1, h2⟩ := h
  exact ⟨y, x, z, fun h => h1 ⟨h.2.1, h.1, h.2.2⟩, by omega⟩

/-- at a prime that divides b once, a is a square -/
theorem square_at {a b : Int} (ha : a ≠ 0) (hb : b ≠ 0) (h : AllH a b) (hs : SF b) {q : Nat} (hq : IsP q) (hd : (q : Int) ∣ b) : ∃ t : Int, (q : Int) ∣ t * t - a := by
  by_cases h2 : q = 2
  · subst h2
    refine ⟨a, ?_⟩
    rcases Int.emod_two_eq a with e | e
    · have : (2 : Int) ∣ a := Int.dvd_of_emod_eq_zero e
      exact Int.dvd_sub (Int.dvd_mul_of_dvd_left this) this
    · have e2 : a * a - a = a * (a - 1) := by grind
      rw [e2]
      exact Int.dvd_mul_of_dvd_right (Int.dvd_of_emod_eq_zero (by omega))
  · by_cases hda : (q : Int) ∣ a
    · exact ⟨0, by obtain ⟨k, rfl⟩ := hda; exact ⟨-k, by rw [Int.mul_neg]; omega⟩⟩
    · apply root_of_leg hq h2
      have hq2 := hq.two_le
      have hv : vp q b = 1 := by
        rw [vp_dvd (by omega) hb hd]
        have : ¬ (q : Int) ∣ b / q := fun ⟨k, hk⟩ => hs q hq ⟨k, by rw [Int.mul_assoc, ← hk, Int.mul_ediv_cancel' hd]⟩
        rw [vp_not this]
      have := h q (.inr (by simpa using hq))
      unfold Hil at this
      rw [if_neg (by omega), if_neg (by omega), vp_not hda, hv, rest_not hda] at this
      simpa [hilp, oddB] using this

/-- a root that is small -/
theorem small_root {a : Int} {n : Nat} (hn : 1 ≤ n) (h : ∃ t : Int, (n : Int) ∣ t * t - a) : ∃ t : Int, (n : Int) ∣ t * t - a ∧ -(n : Int) ≤ 2 * t ∧ 2 * t ≤ n := by
  obtain ⟨t, ht⟩ := h
  have key : ∀ s : Int, Cg n s t → (n : Int) ∣ s * s - a := fun s hs => (hs.mul hs).trans (show Cg n (t * t) a from ht)
  have h0 := Int.emod_nonneg t (show (n : Int) ≠ 0 by omega)
  have h1 := Int.emod_lt_of_pos t (show (0 : Int) < n by omega)
  by_cases c : 2 * (t % n) ≤ n
  · exact ⟨t % n, key _ (Cg.emod _ _), by omega, c⟩
  · exact ⟨t % n - n, key _ ((Cg.emod n t).trans (Cg.refl _ _) |> fun h => ((show Cg n (t % n - n) (t % n) from ⟨-1, by omega⟩).trans h)), by omega, by omega⟩

theorem solv_step {a b t b' : Int} (e : t * t - a = b * b') (hb' : b' ≠ 0) (h : Solv a b') : Solv a b := by
  obtain ⟨X, Y, Z, hn, hs⟩ := h
  by_cases hY : Y = 0
  · subst hY
    exact ⟨X, 0, Z, hn, by rw [← hs]; omega⟩
  · refine ⟨t * X + Z, b' * Y, t * Z + a * X, fun h => ?_, ?_⟩
    · rcases Int.mul_eq_zero.1 h.2.1 with g | g <;> contradiction
    · have e1 : b' * (Y * Y) = Z * Z - a * (X * X) := by omega
      have e2 : b * (b' * Y * (b' * Y)) = (t * t - a) * (Z * Z - a * (X * X)) := by rw [← e1, e]; grind
      rw [e2]; grind

theorem lt_of_quot {S A B B' T : Nat} (hle : A ≤ B) (e1 : S = B * B') (e2 : S ≤ T * T + A) (e4 : 2 * T * (2 * T) ≤ B * B) (hB2 : 2 ≤ B) : B' < B := by
  apply Classical.byContradiction
  intro hge
  have e5 : B * B ≤ B * B' := Nat.mul_le_mul_left B (by omega)
  have e6 : 2 * B ≤ B * B := Nat.mul_le_mul_right B (by omega)
  have e7 : 2 * T * (2 * T) = 4 * (T * T) := by grind
  omega
theorem legendre : ∀ (N : Nat) (a b : Int), a ≠ 0 → b ≠ 0 → a.natAbs + b.natAbs ≤ N → AllH a b → Solv a b
  | 0, a, b, ha, _, hN, _ => by omega
  | N + 1, a, b, ha, hb, hN, h => by
    -- the greater one is divided by squares
    have main : ∀ a b : Int, a ≠ 0 → b ≠ 0 → a.natAbs + b.natAbs ≤ N + 1 → AllH a b → a.natAbs ≤ b.natAbs → Solv a b := by
      clear ha hb hN h a b
      intro a b ha hb hN h hle
      by_cases hs : SF b
      · by_cases hb1 : b.natAbs = 1
        · have ha1 : a.natAbs = 1 := by omega
          have h0 := h 0 (.inl rfl)
          unfold Hil at h0
          rw [if_pos rfl] at h0
          rcases (show a = 1 ∨ a = -1 by omega) with rfl | rfl
          · exact ⟨1, 0, 1, by omega, by omega⟩
          · rcases (show b = 1 ∨ b = -1 by omega) with rfl | rfl
            · exact ⟨0, 1, 1, by omega, by omega⟩
            · simp at h0
        · have hsn : SF (b.natAbs : Int) := fun q hq hd => hs q hq (Int.dvd_natAbs.1 hd)
          obtain ⟨t, ht, t1, t2⟩ := small_root (n := b.natAbs) (by omega) (root_mod (a := a) b.natAbs b.natAbs (Nat.le_refl _) (by omega) hsn fun q hq hd => square_at ha hb h hs hq (Int.dvd_natAbs.1 (Int.ofNat_dvd.2 hd)))
          obtain ⟨b', e⟩ := Int.natAbs_dvd.1 ht
          by_cases hb' : b' = 0
          · subst hb'
            exact ⟨1, 0, t, by omega, by omega⟩
          · have hlt : b'.natAbs < b.natAbs := by
              have e1 : (t * t - a).natAbs = b.natAbs * b'.natAbs := by rw [e, Int.natAbs_mul]
              have e2 : (t * t - a).natAbs ≤ t.natAbs * t.natAbs + a.natAbs := by rw [← Int.natAbs_mul]; generalize t * t = T; omega
              have e3 : 2 * t.natAbs ≤ b.natAbs := by omega
              have e4 := Nat.mul_le_mul e3 e3
              exact lt_of_quot hle e1 e2 e4 (by omega)
            refine solv_step e hb' (legendre N a b' ha hb' (by omega) fun p hp => ?_)
            have h1 := hil_mul_right (c := b') ha hb hb' hp
            rw [h p hp, Int.one_mul, ← e] at h1
            rw [← h1]
            by_cases ht0 : t = 0
            · subst ht0; rw [show (0 : Int) * 0 - a = -a by omega]; exact hil_neg ha hp
            · have hne : t * t - a ≠ 0 := by rw [e]; exact fun h => by rcases Int.mul_eq_zero.1 h with g | g <;> contradiction
              exact hil_norm ha hne ht0 (by omega) hp
      · obtain ⟨q, hq, c, hc⟩ : ∃ q : Nat, IsP q ∧ (q : Int) * q ∣ b := Classical.byContradiction fun hn => hs fun q hq hd => hn ⟨q, hq, hd⟩
        have hq2 := hq.two_le
        have hc0 : c ≠ 0 := fun h => hb (by rw [hc, h, Int.mul_zero])
        have hq0 : (q : Int) ≠ 0 := by omega
        have hlt : c.natAbs < b.natAbs := by
          rw [hc, Int.natAbs_mul, Int.natAbs_mul]
          have h4 : 2 * 2 ≤ q * q := Nat.mul_le_mul hq2 hq2
          have h5 : 4 * c.natAbs ≤ q * q * c.natAbs := Nat.mul_le_mul_right _ h4
          have : c.natAbs ≠ 0 := by omega
          simp only [Int.natAbs_natCast]
          omega
        obtain ⟨x, y, z, hn, hsol⟩ := legendre N a c ha hc0 (by omega) fun p hp => by
          have := hil_sq_right ha hc0 hq0 hp
          rw [← this, Int.mul_comm c, ← hc]; exact h p hp
        refine ⟨q * x, y, q * z, fun h => hn ⟨?_, h.2.1, ?_⟩, ?_⟩
        · rcases Int.mul_eq_zero.1 h.1 with g | g; exact absurd g hq0; exact g
        · rcases Int.mul_eq_zero.1 h.2.2 with g | g; exact absurd g hq0; exact g
        · rw [hc]
          have e1 : (q : Int) * q * (a * (x * x) + c * (y * y)) = q * q * (z * z) := by rw [hsol]
          grind
    rcases Nat.le_total a.natAbs b.natAbs with hle | hle
    · exact main a b ha hb hN h hle
    · exact (main b a hb ha (by omega) h.symm hle).symm
end FF
