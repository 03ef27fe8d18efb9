/- Plain number theory, part F: Euclid's pairs. -/
import Derived.Test.YtmlkiddkgikdhaaNtE
namespace FF

theorem gcd_emod_left (a m : Int) : Int.gcd (a % m) m = Int.gcd a m := by
  rw [Int.emod_def]; exact Int.gcd_sub_mul_left_left ..

/-- what holds of Euclid's pairs: r is congruent to a x, s to a y modulo m; x and y have opposite signs and are bounded -/
structure Eu (a m r s x y : Int) : Prop where
  r0 : 0 ≤ r
  rm : r ≤ m
  s0 : 0 ≤ s
  sm : s ≤ m
  cr : Cg m r (a * x)
  cs : Cg m s (a * y)
  g : Int.gcd r s = Int.gcd a m
  sum : s * x.natAbs + r * y.natAbs = m
  opp : (0 ≤ x ∧ y ≤ 0) ∨ (x ≤ 0 ∧ 0 ≤ y)
  xb : x.natAbs ≤ m
  yb : y.natAbs ≤ m

theorem Eu.start {a m : Int} (hm : 1 ≤ m) : Eu a m (a % m) m 1 0 := by
  have h0 := Int.emod_nonneg a (b := m) (by omega)
  have h1 := Int.emod_lt_of_pos a (b := m) (by omega)
  exact { r0 := h0, rm := by omega, s0 := by omega, sm := by omega, cr := by rw [Int.mul_one]; exact Cg.emod m a,
          cs := ⟨1, by omega⟩, g := gcd_emod_left a m,
          sum := by simp, opp := Or.inl ⟨by omega, by omega⟩, xb := by simp; omega, yb := by simp; omega }

theorem Eu.step {a m r s x y : Int} (h : Eu a m r s x y) (hs : s ≠ 0) :
    Eu a m s (r - r / s * s) y (x - r / s * y) ∧ 0 ≤ r / s * s ∧ r / s * s ≤ r ∧ (r / s * y).natAbs ≤ m ∧ 0 ≤ r / s ∧ r / s ≤ m ∧ r - r / s * s < s := by
  obtain ⟨r0, rm, s0, sm, cr, cs, g, sum, opp, xb, yb⟩ := h
  have hsp : 0 < s := by omega
  have e1 := Int.mul_ediv_add_emod r s
  have e2 := Int.emod_nonneg r (b := s) (by omega)
  have e3 := Int.emod_lt_of_pos r hsp
  have q0 : 0 ≤ r / s := Int.ediv_nonneg r0 s0
  have q1 : r / s ≤ m := Int.le_trans (Int.ediv_le_self s r0) rm
  rw [Int.mul_comm] at e1
  generalize hq : r / s = q at *
  have hr' : r - q * s = r % s := by omega
  have hqs : 0 ≤ q * s := Int.mul_nonneg q0 s0
  have hy' : ((x - q * y).natAbs : Int) = x.natAbs + q * y.natAbs := by
    rcases opp with ⟨h1, h2⟩ | ⟨h1, h2⟩
    · have h3 : 0 ≤ q * (-y) := Int.mul_nonneg q0 (by omega)
      rw [Int.mul_neg] at h3
      have h4 : (y.natAbs : Int) = -y := by omega
      rw [h4, Int.mul_neg]; omega
    · have h3 : 0 ≤ q * y := Int.mul_nonneg q0 h2
      have h4 : (y.natAbs : Int) = y := by omega
      rw [h4]; omega
  have hqy : ((q * y).natAbs : Int) = q * y.natAbs := by
    rw [Int.natAbs_mul]; push_cast; rw [show ((q.natAbs : Nat) : Int) = q by omega]
  have hsum' : (r - q * s) * y.natAbs + s * ((x - q * y).natAbs : Int) = m := by
    rw [hy', ← sum]; grind
  have hb : ((x - q * y).natAbs : Int) ≤ m := by
    have h5 : 0 ≤ (r - q * s) * y.natAbs := Int.mul_nonneg (by omega) (by omega)
    have h6 : 1 * ((x - q * y).natAbs : Int) ≤ s * ((x - q * y).natAbs : Int) := Int.mul_le_mul_of_nonneg_right (by omega) (by omega)
    omega
  refine ⟨{ r0 := s0, rm := sm, s0 := by omega, sm := by omega, cr := cs, cs := ?_, g := ?_, sum := hsum', opp := ?_, xb := yb, yb := hb }, hqs, by omega, ?_, q0, q1, by omega⟩
  · have h1 := cr.sub (cs.mul_left q)
    rw [show a * (x - q * y) = a * x - q * (a * y) by grind]
    exact h1
  · rw [← g, Int.gcd_sub_mul_right_right, Int.gcd_comm]
  · rcases opp with ⟨h1, h2⟩ | ⟨h1, h2⟩
    · have h3 : 0 ≤ q * (-y) := Int.mul_nonneg q0 (by omega)
      rw [Int.mul_neg] at h3
      right; constructor <;> omega
    · have h3 : 0 ≤ q * y := Int.mul_nonneg q0 h2
      left; constructor <;> omega
  · rw [hqy]; omega

/-- at the end -/
theorem Eu.done {a m r x y : Int} (hm : 1 ≤ m) (h : Eu a m r 0 x y) (hg : Int.gcd a m = 1) : x % m = invM a m := by
  have hg' := h.g
  rw [Int.gcd_zero_right, hg] at hg'
  have hr : r = 1 := by have := h.r0; omega
  refine invM_unique (by omega) hg (Int.emod_nonneg _ (by omega)) (Int.emod_lt_of_pos _ (by omega)) ?_
  have h1 := h.cr
  rw [hr] at h1
  exact ((Cg.emod m x).mul_left a).trans h1.symm

/-- the signs that a walk wants, as inequalities -/
theorem Eu.bounds {a m r s x y : Int} (h : Eu a m r s x y) : 0 ≤ r ∧ r ≤ m ∧ 0 ≤ s ∧ s ≤ m ∧ -m ≤ x ∧ x ≤ m ∧ -m ≤ y ∧ y ≤ m := by
  have := h.xb; have := h.yb
  exact ⟨h.r0, h.rm, h.s0, h.sm, by omega, by omega, by omega, by omega⟩
end FF
