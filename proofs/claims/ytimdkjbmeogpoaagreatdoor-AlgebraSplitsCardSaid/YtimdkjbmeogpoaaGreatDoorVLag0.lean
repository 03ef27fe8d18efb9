/- Plain number theory: a polynomial modulo a prime has no more roots than its degree; a number that is no square residue. Plain number theory: square roots modulo prime powers. Plain number theory: roots of units modulo prime powers; the lift of a root; the root modulo a prime by orders of powers of 2. -/
import Derived.Test.YtimdkjbmeogpoaaGreatDoorVNt
namespace FF
def rootsL (a q : Int) : List Int := ((List.range q.toNat).map fun i : Nat => (i : Int)).filter fun x => x * x % q == a % q
section
variable {p : Nat} (hp : IsP p)
include hp
theorem ppos (k : Nat) : (0 : Int) < (p : Int) ^ k := Int.pow_pos (by have := hp.1; omega)
end
def outL (B : List Int) (step stride : Int) (most : Nat) : List Int := B.flatMap fun y => (List.range most).map fun j : Nat => y * step % stride + j * stride
theorem outL_len (B : List Int) (step stride : Int) (most : Nat) : (outL B step stride most).length = B.length * most := by
  unfold outL
  induction B with
  | nil => simp
  | cons y B ih => rw [List.flatMap_cons, List.length_append, ih, List.length_cons, Nat.add_mul]; simp; omega
end FF
namespace FF
section
variable {p : Nat} (hp : IsP p) (h2 : p ≠ 2)
include hp
omit hp in
theorem dvd_pow_self {k : Nat} (hk : 1 ≤ k) : (p : Int) ∣ (p : Int) ^ k := ⟨(p : Int) ^ (k - 1), by rw [Int.mul_comm, ← Int.pow_succ]; congr 1; omega⟩
omit hp in
theorem unit_root {k : Nat} (hk : 1 ≤ k) {u x : Int} (hu : ¬ (p : Int) ∣ u) (hx : Cg ((p : Int) ^ k) (x * x) u) : ¬ (p : Int) ∣ x := by
  rintro ⟨y, rfl⟩
  refine hu ?_
  have h1 : Cg (p : Int) ((p : Int) * y * (p * y)) u := hx.of_dvd (dvd_pow_self hk)
  have h3 : Cg (p : Int) ((p : Int) * y * (p * y)) 0 := Cg.zero_iff.2 ⟨y * (p * y), by rw [Int.mul_assoc]⟩
  exact Cg.zero_iff.1 (h1.symm.trans h3)
include h2
end
theorem lift_step {m M a x v : Int} (hM2 : M ∣ m * m) (hx : Cg m (x * x) a) (hv : Cg M (2 * x * v) 1) :
    Cg M ((x - (x * x - a) * v) * (x - (x * x - a) * v)) a ∧ Cg m (x - (x * x - a) * v) x := by
  constructor
  · obtain ⟨d, hd⟩ := hx
    obtain ⟨e, he⟩ := hv
    obtain ⟨f, hf⟩ := hM2
    refine ⟨d * d * v * v * f - m * d * e, ?_⟩
    have h1 : (x * x - a) * (x * x - a) = M * (f * (d * d)) := by rw [hd, show m * d * (m * d) = m * m * (d * d) by grind, hf, Int.mul_assoc]
    have h2 : (x - (x * x - a) * v) * (x - (x * x - a) * v) - a = (x * x - a) - (x * x - a) * (2 * x * v) + (x * x - a) * (x * x - a) * (v * v) := by grind
    rw [h2, h1, show 2 * x * v = M * e + 1 by omega, hd]
    grind
  · obtain ⟨d, hd⟩ := hx
    exact ⟨-(d * v), by rw [hd]; grind⟩
structure Ton (p : Nat) (a : Int) (k : Nat) (x c t : Int) : Prop where
  k1 : 1 ≤ k
  xx : Cg p (x * x) (a * t)
  cc : Cg p (c ^ (2 ^ (k - 1))) (-1)
  tt : Cg p (t ^ (2 ^ (k - 1))) 1
theorem pow_two_pow (x : Int) (i : Nat) : x ^ (2 ^ (i + 1)) = x ^ (2 ^ i) * x ^ (2 ^ i) := by rw [Nat.pow_succ, Nat.mul_comm, Nat.two_mul, Int.pow_add]
theorem sq_pow (x : Int) (n : Nat) : (x * x) ^ n = x ^ n * x ^ n := Int.mul_pow ..
theorem Ton.start {p : Nat} (hp : IsP p) (h2 : p ≠ 2) {a z : Int} (ha : leg a p = 1) (hz : leg z p = -1) :
    Ton p a (vp 2 ((p : Int) - 1)) (a ^ (((rest 2 ((p : Int) - 1)).toNat + 1) / 2)) (z ^ (rest 2 ((p : Int) - 1)).toNat) (a ^ (rest 2 ((p : Int) - 1)).toNat) := by
  have ho := hp.odd h2
  have hp2 := hp.1
  have hn : (p : Int) - 1 ≠ 0 := by omega
  have hv : 1 ≤ vp 2 ((p : Int) - 1) := by
    rw [vp_dvd (by omega) hn (Int.dvd_of_emod_eq_zero (by omega))]; omega
  have he := eq_pow_rest (p := 2) (by omega) hn
  have hr := rest_pos (p := 2) (n := (p : Int) - 1) (by omega) (by omega)
  have hro := odd_rest_two hn
  generalize vp 2 ((p : Int) - 1) = k at *
  obtain ⟨o, hor⟩ : ∃ o : Nat, rest 2 ((p : Int) - 1) = o := ⟨(rest 2 ((p : Int) - 1)).toNat, by omega⟩
  have ho2 : o % 2 = 1 := by omega
  rw [hor] at he
  rw [hor, Int.toNat_natCast]
  clear hro hr hor
  have hd : (p - 1) / 2 = o * 2 ^ (k - 1) := by
    have h3 : p - 1 = 2 ^ k * o := by
      have : ((2 ^ k * o : Nat) : Int) = (p : Int) - 1 := by push_cast; exact he.symm
      omega
    have h4 : 2 ^ k = 2 ^ (k - 1) * 2 := by rw [← Nat.pow_succ]; congr 1; omega
    rw [h3, h4, Nat.mul_right_comm, Nat.mul_div_cancel _ (by omega), Nat.mul_comm]
  have hleg : ∀ y : Int, ∀ s : Int, leg y p = s → s ≠ 0 → Cg p ((y ^ o) ^ (2 ^ (k - 1))) s := by
    intro y s hy hs
    rw [← Int.pow_mul, ← hd, ← hy]
    exact (leg_cg hp h2 y).symm
  refine ⟨hv, Cg.of_eq ?_, hleg z (-1) hz (by omega), hleg a 1 ha (by omega)⟩
  have h5 : (o + 1) / 2 + (o + 1) / 2 = o + 1 := by omega
  rw [← Int.pow_add, h5, Int.pow_succ, Int.mul_comm]
theorem Ton.step {p : Nat} (hp : IsP p) {a : Int} {k o : Nat} {x c t : Int} (h : Ton p a k x c t) (ho : 1 ≤ o) (h1 : Cg p (t ^ (2 ^ o)) 1) (hn : ¬ Cg p (t ^ (2 ^ (o - 1))) 1)
    {c' : Int} (hc : Cg p (c' ^ (2 ^ o)) (-1)) : Ton p a o (x * c') (c' * c') (t * (c' * c')) := by
  obtain ⟨k1, xx, cc, tt⟩ := h
  have e : o - 1 + 1 = o := by omega
  have hcc : Cg p ((c' * c') ^ (2 ^ (o - 1))) (-1) := by rw [sq_pow, ← pow_two_pow, e]; exact hc
  refine ⟨ho, ?_, hcc, ?_⟩
  · have := xx.mul_right (c' * c')
    rw [show x * c' * (x * c') = x * x * (c' * c') by grind, show a * (t * (c' * c')) = a * t * (c' * c') by grind]; exact this
  · rw [Int.mul_pow]
    have h3 : Cg p (t ^ (2 ^ (o - 1)) * t ^ (2 ^ (o - 1))) 1 := by rw [← pow_two_pow, e]; exact h1
    rcases Cg.sq_one hp h3 with h4 | h4
    · exact absurd h4 hn
    · exact h4.mul hcc
theorem Ton.down {p : Nat} {c : Int} {k : Nat} (hk : 2 ≤ k) (h : Cg p (c ^ (2 ^ (k - 1))) (-1)) : Cg p ((c * c) ^ (2 ^ (k - 1 - 1))) (-1) := by
  rw [sq_pow, ← pow_two_pow, show k - 1 - 1 + 1 = k - 1 by omega]; exact h
end FF
namespace FF
theorem Ton.congr {p : Nat} {a : Int} {k : Nat} {x c t x' c' t' : Int} (h : Ton p a k x c t) (hx : Cg p x' x) (hc : Cg p c' c) (ht : Cg p t' t) : Ton p a k x' c' t' := by
  obtain ⟨k1, xx, cc, tt⟩ := h
  exact ⟨k1, (hx.mul hx).trans (xx.trans (ht.symm.mul_left a)), (hc.pow _).trans cc, (ht.pow _).trans tt⟩
def OrdRel (p : Nat) (t : Int) (o : Nat) (s : Int) : Prop := Cg p s (t ^ (2 ^ o)) ∧ ∀ i, i < o → ¬ Cg p (t ^ (2 ^ i)) 1
theorem OrdRel.start (p : Nat) (t : Int) : OrdRel p t 0 t := ⟨Cg.of_eq (by show t = t ^ 1; rw [Int.pow_succ, Int.pow_zero, Int.one_mul]), fun i hi => absurd hi (by omega)⟩
theorem OrdRel.ne {p : Nat} (hp : 2 ≤ p) {t s : Int} {o : Nat} (h : OrdRel p t o s) (h0 : 0 ≤ s) (h1 : s < p) (hs : s ≠ 1) : ¬ Cg p (t ^ (2 ^ o)) 1 :=
  fun hc => hs ((h.1.trans hc).eq_of_bounds h0 h1 (by omega) (by omega))
theorem OrdRel.next {p : Nat} (hp : 2 ≤ p) {t s s' : Int} {o : Nat} (h : OrdRel p t o s) (h0 : 0 ≤ s) (h1 : s < p) (hs : s ≠ 1) (hs' : Cg p s' (s * s)) : OrdRel p t (o + 1) s' := by
  refine ⟨hs'.trans (by rw [pow_two_pow]; exact h.1.mul h.1), fun i hi => ?_⟩
  by_cases e : i = o
  · subst e; exact h.ne hp h0 h1 hs
  · exact h.2 i (by omega)
def DownRel (p : Nat) (c : Int) (k : Nat) : Prop := Cg p (c ^ (2 ^ (k - 1))) (-1)
theorem DownRel.next {p : Nat} {c c' : Int} {k : Nat} (hk : 2 ≤ k) (h : DownRel p c k) (hc : Cg p c' (c * c)) : DownRel p c' (k - 1) := (hc.pow _).trans (Ton.down hk h)
end FF
namespace FF
theorem gcd_pow_one {p : Nat} (hp : IsP p) {c : Int} (hc : ¬ (p : Int) ∣ c) (n : Nat) : Int.gcd c ((p : Int) ^ n) = 1 := by
  have h1 : ¬ p ∣ c.natAbs := fun h => hc (Int.dvd_natAbs.1 (Int.natCast_dvd_natCast.2 h))
  have h2 := (hp.coprime h1).symm
  unfold Int.gcd
  rw [Int.natAbs_pow, Int.natAbs_natCast]
  exact Nat.Coprime.pow_right n h2
structure LiftRel (p k : Nat) (a r m x : Int) : Prop where
  pw : ∃ j : Nat, 1 ≤ j ∧ j ≤ k ∧ m = (p : Int) ^ j
  x0 : 0 ≤ x
  xm : x < m
  xx : Cg m (x * x) a
  xr : Cg p x r
theorem LiftRel.start {p k : Nat} (hp : IsP p) (hk : 1 ≤ k) {a r : Int} (h : Cg p (r * r) a) : LiftRel p k a r p (r % p) := by
  have := hp.1
  have h1 := Cg.emod (p : Int) r
  exact ⟨⟨1, Nat.le_refl _, hk, by rw [Int.pow_succ, Int.pow_zero, Int.one_mul]⟩, Int.emod_nonneg _ (by omega), Int.emod_lt_of_pos _ (by omega), (h1.mul h1).trans h, h1⟩
theorem LiftRel.mul {p k : Nat} (hp : IsP p) {a r m x : Int} (h : LiftRel p k a r m x) (hlt : m < (p : Int) ^ k) : m * p ≤ (p : Int) ^ k ∧ 1 ≤ m ∧ 2 * m ≤ m * p := by
  obtain ⟨j, j1, j2, rfl⟩ := h.pw
  have hp2 := hp.1
  have hpos := ppos hp j
  have hjk : j < k := by
    rcases Nat.lt_or_ge j k with g | g
    · exact g
    · obtain rfl : j = k := by omega
      omega
  refine ⟨?_, by omega, ?_⟩
  · rw [← Int.pow_succ]
    have h2 : p ^ (j + 1) ≤ p ^ k := Nat.pow_le_pow_right (by omega) hjk
    have h3 : ((p ^ (j + 1) : Nat) : Int) ≤ ((p ^ k : Nat) : Int) := by omega
    push_cast at h3
    exact h3
  · rw [Int.mul_comm]; exact Int.mul_le_mul_of_nonneg_left (by omega) (by omega)
theorem LiftRel.ndvd {p k : Nat} (hp : IsP p) (h2 : p ≠ 2) {a r m x : Int} (h : LiftRel p k a r m x) (ha : ¬ (p : Int) ∣ a) : ¬ (p : Int) ∣ 2 * x := by
  intro hd
  have hp2 := hp.1
  rcases hp.idvd_mul hd with d | d
  · have := Int.le_of_dvd (by omega) d; omega
  · obtain ⟨j, j1, j2, rfl⟩ := h.pw
    exact unit_root j1 ha h.xx d
theorem LiftRel.gcd {p k : Nat} (hp : IsP p) (h2 : p ≠ 2) {a r m x : Int} (h : LiftRel p k a r m x) (ha : ¬ (p : Int) ∣ a) : Int.gcd (2 * x) (m * p) = 1 := by
  have hn := h.ndvd hp h2 ha
  obtain ⟨j, j1, j2, rfl⟩ := h.pw
  rw [← Int.pow_succ]; exact gcd_pow_one hp hn _
theorem LiftRel.next {p k : Nat} (hp : IsP p) (h2 : p ≠ 2) {a r m x : Int} (h : LiftRel p k a r m x) (ha : ¬ (p : Int) ∣ a) (hlt : m < (p : Int) ^ k) :
    LiftRel p k a r (m * p) ((x - (x * x - a) % (m * p) * invM (2 * x) (m * p)) % (m * p)) := by
  obtain ⟨q1, q2, q3⟩ := h.mul hp hlt
  have hg := h.gcd hp h2 ha
  obtain ⟨i0, i1, i2⟩ := invM_spec (a := 2 * x) (m := m * p) (by omega) hg
  have hM2 : m * p ∣ m * m := by
    obtain ⟨j, j1, j2, rfl⟩ := h.pw
    rw [← Int.pow_succ, ← Int.pow_add]
    exact ⟨(p : Int) ^ (j - 1), by rw [← Int.pow_add]; congr 1; omega⟩
  obtain ⟨s1, s2⟩ := lift_step hM2 h.xx i2
  have hc : Cg (m * p) ((x - (x * x - a) % (m * p) * invM (2 * x) (m * p)) % (m * p)) (x - (x * x - a) * invM (2 * x) (m * p)) := by
    refine (Cg.emod _ _).trans ((Cg.refl _ x).sub (Cg.mul_right _ ?_))
    exact Cg.emod _ _
  obtain ⟨j, j1, j2, hj⟩ := h.pw
  have hjk : j < k := by
    rcases Nat.lt_or_ge j k with g | g
    · exact g
    · obtain rfl : j = k := by omega
      omega
  refine ⟨⟨j + 1, by omega, hjk, by rw [hj, Int.pow_succ]⟩, Int.emod_nonneg _ (by omega), Int.emod_lt_of_pos _ (by omega), (hc.mul hc).trans s1, ?_⟩
  have hpm : (p : Int) ∣ m := hj ▸ dvd_pow_self j1
  exact ((hc.of_dvd (Int.dvd_trans hpm ⟨(p : Int), rfl⟩)).trans (s2.of_dvd hpm)).trans h.xr
theorem LiftRel.done {p k : Nat} (hp : IsP p) {a r m x : Int} (h : LiftRel p k a r m x) (hlt : ¬ m < (p : Int) ^ k) : m = (p : Int) ^ k := by
  obtain ⟨j, j1, j2, rfl⟩ := h.pw
  by_cases e : j = k
  · rw [e]
  · exfalso
    have hp2 := hp.1
    have h2 : p ^ j < p ^ k := Nat.pow_lt_pow_right (by omega) (by omega)
    have h3 : ((p ^ j : Nat) : Int) < ((p ^ k : Nat) : Int) := by omega
    push_cast at h3
    omega
end FF
namespace FF
structure RootsPlan (a q : Int) (B : List Int) (T D : Int) (M : Nat) : Prop where
  srt : ((outL B T D M).mergeSort fun x y => decide (x ≤ y)) = rootsL a q
  len : B.length ≤ 4
  bnd : ∀ y ∈ B, 0 ≤ y * T ∧ y * T ≤ 1000000000
  T1 : 1 ≤ T
  D1 : 1 ≤ D
  M1 : 1 ≤ M
  MD : (M : Int) * D = q
theorem RootsPlan.count {a q T D : Int} {B : List Int} {M : Nat} (h : RootsPlan a q B T D M) : (rootsL a q).length = B.length * M := by
  rw [← h.srt, List.length_mergeSort, outL_len]
end FF
