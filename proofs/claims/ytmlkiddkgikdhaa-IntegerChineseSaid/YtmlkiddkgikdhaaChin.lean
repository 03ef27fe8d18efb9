/- Plain number theory: residues joined (Chinese remainders for moduli that need not be coprime). -/
import Derived.Test.YtmlkiddkgikdhaaNt
namespace FF

theorem dvd_lcm_split {a b x : Nat} (h : x ∣ Nat.lcm a b) : x ∣ Nat.lcm (Nat.gcd a x) (Nat.gcd b x) := by
  rcases Nat.eq_zero_or_pos x with rfl | hx
  · simp at h ⊢; exact h
  have hg : 0 < Nat.gcd (Nat.gcd a x) (Nat.gcd b x) := Nat.gcd_pos_of_pos_left _ (Nat.gcd_pos_of_pos_right _ hx)
  refine Nat.dvd_of_mul_dvd_mul_left hg ?_
  rw [Nat.gcd_mul_lcm]
  have hab : Nat.gcd (Nat.gcd a x) (Nat.gcd b x) * x ∣ a * b := by
    rw [← Nat.gcd_mul_lcm a b]
    exact Nat.mul_dvd_mul (Nat.dvd_gcd (Nat.dvd_trans (Nat.gcd_dvd_left _ _) (Nat.gcd_dvd_left _ _)) (Nat.dvd_trans (Nat.gcd_dvd_right _ _) (Nat.gcd_dvd_left _ _))) h
  have e : Nat.gcd a x * Nat.gcd b x = Nat.gcd (Nat.gcd (a * b) (a * x)) (Nat.gcd (x * b) (x * x)) := by rw [Nat.gcd_mul_left a b x, Nat.gcd_mul_left x b x, Nat.gcd_mul_right]
  rw [e]
  refine Nat.dvd_gcd (Nat.dvd_gcd hab ?_) (Nat.dvd_gcd ?_ ?_)
  · exact Nat.mul_dvd_mul (Nat.dvd_trans (Nat.gcd_dvd_left _ _) (Nat.gcd_dvd_left _ _)) (Nat.dvd_refl _)
  · rw [Nat.mul_comm]; exact Nat.mul_dvd_mul (Nat.dvd_refl _) (Nat.dvd_trans (Nat.gcd_dvd_right _ _) (Nat.gcd_dvd_left _ _))
  · exact Nat.mul_dvd_mul (Nat.dvd_trans (Nat.gcd_dvd_left _ _) (Nat.gcd_dvd_right _ _)) (Nat.dvd_refl _)
theorem gcd_lcm_dvd {a b m d : Nat} (ha : Nat.gcd a m ∣ d) (hb : Nat.gcd b m ∣ d) : Nat.gcd (Nat.lcm a b) m ∣ d := by
  have h1 := dvd_lcm_split (a := a) (b := b) (x := Nat.gcd (Nat.lcm a b) m) (Nat.gcd_dvd_left _ _)
  have h2 : Nat.gcd (Nat.lcm a b) m ∣ m := Nat.gcd_dvd_right _ _
  generalize Nat.gcd (Nat.lcm a b) m = x at *
  refine Nat.dvd_trans h1 (Nat.lcm_dvd ?_ ?_)
  · exact Nat.dvd_trans (Nat.dvd_gcd (Nat.gcd_dvd_left _ _) (Nat.dvd_trans (Nat.gcd_dvd_right _ _) h2)) ha
  · exact Nat.dvd_trans (Nat.dvd_gcd (Nat.gcd_dvd_left _ _) (Nat.dvd_trans (Nat.gcd_dvd_right _ _) h2)) hb

/-- what one residue more makes of residue and modulus -/
def chinT (R M r m : Int) : Int := (r % m - R).tdiv (Int.gcd M m) % (m / Int.gcd M m) * invM (M / Int.gcd M m) (m / Int.gcd M m) % (m / Int.gcd M m)
def chinR (R M r m : Int) : Int := R + M * chinT R M r m
def chinM (M m : Int) : Int := M * (m / Int.gcd M m)

structure ChinRel (l : List (Int × Int)) (R M : Int) : Prop where
  r0 : 0 ≤ R
  rm : R < M
  all : ∀ x ∈ l, x.2 ∣ M ∧ Cg x.2 R x.1
  most : ∀ m d : Nat, (∀ x ∈ l, Nat.gcd x.2.toNat m ∣ d) → Nat.gcd M.toNat m ∣ d
theorem ChinRel.start : ChinRel [] 0 1 := ⟨by omega, by omega, fun x hx => (by cases hx), fun m d _ => (by simp)⟩

theorem chin_facts {M m : Int} (hM : 1 ≤ M) (hm : 1 ≤ m) : ∃ g a b : Int, (Int.gcd M m : Int) = g ∧ 1 ≤ g ∧ M = g * a ∧ m = g * b ∧ 1 ≤ a ∧ 1 ≤ b ∧ M / g = a ∧ m / g = b ∧ Int.gcd a b = 1 := by
  have hg : 0 < Int.gcd M m := by
    rcases Nat.eq_zero_or_pos (Int.gcd M m) with h | h
    · have := (Int.gcd_eq_zero_iff.1 h).1; omega
    · exact h
  obtain ⟨a, ha⟩ := Int.gcd_dvd_left M m
  obtain ⟨b, hb⟩ := Int.gcd_dvd_right M m
  have hgi : (0 : Int) < (Int.gcd M m : Int) := by omega
  refine ⟨(Int.gcd M m : Int), a, b, rfl, by omega, ha, hb, ?_, ?_, ?_, ?_, ?_⟩
  · rcases Int.lt_or_le 0 a with h | h
    · omega
    · have : (Int.gcd M m : Int) * a ≤ (Int.gcd M m : Int) * 0 := Int.mul_le_mul_of_nonneg_left h (by omega)
      omega
  · rcases Int.lt_or_le 0 b with h | h
    · omega
    · have : (Int.gcd M m : Int) * b ≤ (Int.gcd M m : Int) * 0 := Int.mul_le_mul_of_nonneg_left h (by omega)
      omega
  · exact Int.ediv_eq_of_eq_mul_right (by omega) ha
  · exact Int.ediv_eq_of_eq_mul_right (by omega) hb
  · have h : Int.gcd (Int.gcd M m * a) (Int.gcd M m * b) = Int.gcd M m := by rw [← ha, ← hb]
    rw [Int.gcd_mul_left] at h
    simp only [Int.natAbs_natCast] at h
    exact Nat.eq_of_mul_eq_mul_left hg (by omega)

theorem ChinRel.step {l : List (Int × Int)} {R M r m : Int} (h : ChinRel l R M) (hl : ∀ x ∈ l, 1 ≤ x.2) (hm : 1 ≤ m) (hc : ∀ x ∈ l, Cg (Int.gcd x.2 m) x.1 r) :
    ChinRel (l ++ [(r, m)]) (chinR R M r m) (chinM M m) := by
  have hM : 1 ≤ M := by have := h.r0; have := h.rm; omega
  obtain ⟨g, a, b, hg, g1, hMa, hmb, a1, b1, ea, eb, hab⟩ := chin_facts hM hm
  have hgd : (g : Int) ∣ r - R := by
    have hd := h.most m.toNat (r - R).natAbs (fun x hx => by
      obtain ⟨h1, h2⟩ := h.all x hx
      have hxm := hl x hx
      have e : (Int.gcd x.2 m : Nat) = Nat.gcd x.2.toNat m.toNat := by
        unfold Int.gcd; congr 1 <;> omega
      have h3 : Cg (Int.gcd x.2 m) R r := (h2.of_dvd (Int.gcd_dvd_left _ _)).trans (hc x hx)
      have h4 : (Int.gcd x.2 m : Int) ∣ r - R := by
        obtain ⟨t, ht⟩ := h3
        exact ⟨-t, by rw [Int.mul_neg]; omega⟩
      rw [← e]
      exact Int.ofNat_dvd_left.1 h4)
    have e : Int.gcd M m = Nat.gcd M.toNat m.toNat := by unfold Int.gcd; congr 1 <;> omega
    rw [← hg, e]
    exact Int.ofNat_dvd_left.2 hd
  have hD : (g : Int) ∣ r % m - R := by
    obtain ⟨t, ht⟩ := hgd
    refine ⟨t - b * (r / m), ?_⟩
    have := Int.emod_add_mul_ediv r m
    rw [Int.mul_sub, ← Int.mul_assoc, ← hmb]
    omega
  obtain ⟨D, hD⟩ := hD
  have eD : (r % m - R).tdiv g = D := by rw [hD]; exact Int.mul_tdiv_cancel_left _ (by omega)
  have eT : chinT R M r m = D % b * invM a b % b := by unfold chinT; rw [hg, ea, eb, eD]
  obtain ⟨i0, i1, i2⟩ := invM_spec (a := a) (m := b) (by omega) hab
  have t0 : 0 ≤ chinT R M r m := by rw [eT]; exact Int.emod_nonneg _ (by omega)
  have t1 : chinT R M r m < b := by rw [eT]; exact Int.emod_lt_of_pos _ (by omega)
  have hT : Cg b (a * chinT R M r m) D := by
    rw [eT]
    have h1 : Cg b (D % b * invM a b % b) (D * invM a b) := (Cg.emod _ _).trans ((Cg.emod b D).mul (Cg.refl _ _))
    have h2 : Cg b (a * (D % b * invM a b % b)) (a * (D * invM a b)) := (Cg.refl _ a).mul h1
    refine h2.trans ?_
    rw [show a * (D * invM a b) = D * (a * invM a b) by grind]
    have h3 := (Cg.refl b D).mul i2
    rwa [Int.mul_one] at h3
  have eM : chinM M m = M * b := by unfold chinM; rw [hg, eb]
  have eM2 : chinM M m = a * m := by rw [eM, hMa, hmb]; grind
  have hR : Cg m (chinR R M r m) r := by
    unfold chinR
    generalize chinT R M r m = t at *
    obtain ⟨u, hu⟩ := hT
    refine ⟨u - r / m, ?_⟩
    have h1 := Int.emod_add_mul_ediv r m
    have h2 : M * t = m * u + g * D := by
      rw [hMa, hmb, Int.mul_assoc, show a * t = b * u + D by omega]; grind
    rw [Int.mul_sub]; omega
  refine ⟨?_, ?_, ?_, ?_⟩
  · unfold chinR; have := Int.mul_nonneg (show 0 ≤ M by omega) t0; have := h.r0; omega
  · unfold chinR
    have h1 : M * chinT R M r m ≤ M * (b - 1) := Int.mul_le_mul_of_nonneg_left (by omega) (by omega)
    rw [Int.mul_sub, Int.mul_one] at h1
    rw [eM]
    have := h.rm
    omega
  · intro x hx
    rw [List.mem_append, List.mem_singleton] at hx
    rcases hx with hx | rfl
    · obtain ⟨h1, h2⟩ := h.all x hx
      refine ⟨by rw [eM]; exact Int.dvd_trans h1 ⟨b, rfl⟩, ?_⟩
      obtain ⟨c, hc⟩ := h1
      have h3 : Cg x.2 (chinR R M r m) R := ⟨c * chinT R M r m, by unfold chinR; rw [hc]; grind⟩
      exact h3.trans h2
    · exact ⟨⟨a, by rw [eM2, Int.mul_comm]⟩, hR⟩
  · intro m' d hd
    have e : (chinM M m).toNat = Nat.lcm M.toNat m.toNat := by
      have hb' : b.toNat * g.toNat = m.toNat := by
        have : ((b.toNat * g.toNat : Nat) : Int) = (m.toNat : Int) := by
          rw [Int.natCast_mul, Int.toNat_of_nonneg (by omega), Int.toNat_of_nonneg (by omega), Int.toNat_of_nonneg (by omega), hmb, Int.mul_comm]
        omega
      have hgn : Nat.gcd M.toNat m.toNat = g.toNat := by
        have e : Int.gcd M m = Nat.gcd M.toNat m.toNat := by unfold Int.gcd; congr 1 <;> omega
        omega
      have hl := Nat.gcd_mul_lcm M.toNat m.toNat
      rw [hgn, ← hb'] at hl
      have h2 : g.toNat * Nat.lcm M.toNat (b.toNat * g.toNat) = g.toNat * (M.toNat * b.toNat) := by rw [hl]; grind
      have h3 := Nat.eq_of_mul_eq_mul_left (by omega) h2
      rw [← hb', h3, eM]
      have e1 : ((M * b).toNat : Int) = M * b := Int.toNat_of_nonneg (Int.mul_nonneg (by omega) (by omega))
      have e2 : ((M.toNat * b.toNat : Nat) : Int) = M * b := by rw [Int.natCast_mul, Int.toNat_of_nonneg (by omega), Int.toNat_of_nonneg (by omega)]
      omega
    rw [e]
    refine gcd_lcm_dvd (h.most m' d fun x hx => hd x (List.mem_append_left _ hx)) ?_
    exact hd (r, m) (List.mem_append_right _ (by simp))
end FF
namespace FF
/-- the bounds of one joining -/
theorem chin_bounds {R M r m : Int} (R0 : 0 ≤ R) (RM : R < M) (M9 : M ≤ 1000000000) (m1 : 1 ≤ m) (m9 : m ≤ 1000000000) :
    1 ≤ (Int.gcd M m : Int) ∧ (Int.gcd M m : Int) ≤ 1000000000 ∧ 1 ≤ m / Int.gcd M m ∧ m / Int.gcd M m ≤ 1000000000 ∧ 1 ≤ M / Int.gcd M m ∧ M / Int.gcd M m ≤ 1000000000 ∧ Int.gcd (M / Int.gcd M m) (m / Int.gcd M m) = 1 ∧
    0 ≤ M * (m / Int.gcd M m) ∧ M * (m / Int.gcd M m) ≤ 1000000000000000000 ∧ -1000000000 ≤ (r % m - R).tdiv (Int.gcd M m) ∧ (r % m - R).tdiv (Int.gcd M m) ≤ 1000000000 ∧ -1000000000 ≤ r % m - R ∧ r % m - R ≤ 1000000000 ∧
    M / Int.gcd M m * m = M * (m / Int.gcd M m) := by
  obtain ⟨g, a, b, hg, g1, hMa, hmb, a1, b1, ea, eb, hab⟩ := chin_facts (show 1 ≤ M by omega) m1
  have h1 := Int.emod_nonneg r (b := m) (by omega)
  have h2 := Int.emod_lt_of_pos r (b := m) (by omega)
  have gm : g ≤ m := by
    have : g * 1 ≤ g * b := Int.mul_le_mul_of_nonneg_left b1 (by omega)
    omega
  have bm : b ≤ m := by
    have : 1 * b ≤ g * b := Int.mul_le_mul_of_nonneg_right g1 (by omega)
    omega
  have aM : a ≤ M := by
    have : 1 * a ≤ g * a := Int.mul_le_mul_of_nonneg_right g1 (by omega)
    omega
  have p1 : M * b ≤ 1000000000 * 1000000000 := Int.mul_le_mul M9 (by omega) (by omega) (by omega)
  have p0 : 0 ≤ M * b := Int.mul_nonneg (by omega) (by omega)
  have q : ((r % m - R).tdiv g).natAbs ≤ (r % m - R).natAbs := Int.natAbs_tdiv_le_natAbs ..
  rw [hg, ea, eb]
  refine ⟨g1, by omega, b1, by omega, a1, by omega, hab, p0, by omega, by omega, by omega, by omega, by omega, ?_⟩
  rw [hMa, hmb]; grind
theorem chin_next {R M r m : Int} (R0 : 0 ≤ R) (RM : R < M) (m1 : 1 ≤ m) (M9 : M ≤ 1000000000) (m9 : m ≤ 1000000000) (h : chinM M m ≤ 1000000000) :
    0 ≤ chinT R M r m ∧ chinT R M r m < m / Int.gcd M m ∧ 0 ≤ M * chinT R M r m ∧ M * chinT R M r m ≤ 1000000000 ∧ 0 ≤ chinR R M r m ∧ chinR R M r m < chinM M m := by
  obtain ⟨h1, h2, h3, h4, -⟩ := chin_bounds (r := r) R0 RM M9 m1 m9
  have t0 : 0 ≤ chinT R M r m := Int.emod_nonneg _ (by omega)
  have t1 : chinT R M r m < m / Int.gcd M m := Int.emod_lt_of_pos _ (by omega)
  have h5 : M * chinT R M r m ≤ M * (m / Int.gcd M m - 1) := Int.mul_le_mul_of_nonneg_left (by omega) (by omega)
  rw [Int.mul_sub, Int.mul_one] at h5
  have h6 := Int.mul_nonneg (show 0 ≤ M by omega) t0
  unfold chinM at h ⊢
  unfold chinR
  refine ⟨t0, t1, h6, by omega, by omega, by omega⟩
end FF
