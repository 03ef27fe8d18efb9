/- Plain number theory: the search for a lift; a lift is unique; units have few roots. -/
import Derived.Test.YtmlkiddkgikdhaaRt2
namespace FF

/-- the search for the next lift y, at x -/
structure InRel (p k : Nat) (a r m y x : Int) : Prop where
  top : LiftRel p k a r (m * p) y
  x0 : 0 ≤ x
  xy : x ≤ y
  cg : Cg m x y
  m1 : 1 ≤ m
  pm : (p : Int) ∣ m
theorem InRel.start {p k : Nat} (hp : IsP p) (h2 : p ≠ 2) {a r m x : Int} (h : LiftRel p k a r m x) (ha : ¬ (p : Int) ∣ a) (hlt : m < (p : Int) ^ k) : ∃ y, InRel p k a r m y x := by
  have hn := h.next hp h2 ha hlt
  obtain ⟨q1, q2, q3⟩ := h.mul hp hlt
  have hg := h.gcd hp h2 ha
  obtain ⟨i0, i1, i2⟩ := invM_spec (a := 2 * x) (m := m * p) (by omega) hg
  have hM2 : m * p ∣ m * m := by
    obtain ⟨j, j1, j2, rfl⟩ := h.pw
    rw [← Int.pow_succ, ← Int.pow_add]
    exact ⟨(p : Int) ^ (j - 1), by rw [← Int.pow_add]; congr 1; omega⟩
  obtain ⟨s1, s2⟩ := lift_step hM2 h.xx i2
  have hc : Cg (m * p) ((x - (x * x - a) % (m * p) * invM (2 * x) (m * p)) % (m * p)) (x - (x * x - a) * invM (2 * x) (m * p)) := by
    refine (Cg.emod _ _).trans ((Cg.refl _ x).sub (Cg.mul_right _ ?_))
    exact Cg.emod _ _
  obtain ⟨j, j1, j2, hj⟩ := h.pw
  have hpm : (p : Int) ∣ m := hj ▸ dvd_pow_self j1
  generalize (x - (x * x - a) % (m * p) * invM (2 * x) (m * p)) % (m * p) = y at *
  have hcm : Cg m y x := (hc.of_dvd ⟨(p : Int), rfl⟩).trans s2
  refine ⟨y, hn, h.x0, ?_, hcm.symm, q2, hpm⟩
  obtain ⟨t, ht⟩ := hcm
  have := h.xm; have := hn.x0
  have ht0 : 0 ≤ t := by
    rcases Int.lt_or_le t 0 with g | g
    · exfalso
      have : m * t ≤ m * (-1) := Int.mul_le_mul_of_nonneg_left (by omega) (by omega)
      omega
    · exact g
  have := Int.mul_nonneg (show 0 ≤ m by omega) ht0
  omega
theorem InRel.next {p k : Nat} {a r m y x : Int} (h : InRel p k a r m y x) (hn : x * x % (m * p) ≠ a % (m * p)) : InRel p k a r m y (x + m) := by
  have hne : x ≠ y := fun e => hn (by rw [e]; exact h.top.xx.emod_eq)
  obtain ⟨t, ht⟩ := h.cg.symm
  have h1 := h.xy; have h2 := h.x0; have h3 := h.m1
  have ht0 : 1 ≤ t := by
    rcases Int.lt_or_le t 1 with g | g
    · exfalso
      have : m * t ≤ m * 0 := Int.mul_le_mul_of_nonneg_left (by omega) (by omega)
      omega
    · exact g
  have : m * 1 ≤ m * t := Int.mul_le_mul_of_nonneg_left ht0 (by omega)
  refine ⟨h.top, by omega, by omega, ?_, h3, h.pm⟩
  exact ⟨1 - t, by rw [Int.mul_sub]; omega⟩
theorem InRel.done {p k : Nat} {a r m y x : Int} (h : InRel p k a r m y x) (hx : x * x % (m * p) = a % (m * p)) : LiftRel p k a r (m * p) x :=
  ⟨h.top.pw, h.x0, by have := h.top.xm; have := h.xy; omega, Cg.of_emod hx, (h.cg.of_dvd h.pm).trans h.top.xr⟩
theorem InRel.lt {p k : Nat} {a r m y x : Int} (h : InRel p k a r m y x) : x < m * p := by have := h.top.xm; have := h.xy; omega

section
variable {p : Nat} (hp : IsP p) (h2 : p ≠ 2)
include hp h2
theorem lift_unique {k : Nat} (hk : 1 ≤ k) {a r x y : Int} (ha : ¬ (p : Int) ∣ a) (hx : Cg ((p : Int) ^ k) (x * x) a) (hy : Cg ((p : Int) ^ k) (y * y) a) (hxr : Cg p x r) (hyr : Cg p y r)
    (x0 : 0 ≤ x) (x1 : x < (p : Int) ^ k) (y0 : 0 ≤ y) (y1 : y < (p : Int) ^ k) : x = y := by
  have hp2 := hp.1
  rcases unit_two_roots hp h2 hk ha hx hy with c | c
  · exact (c.eq_of_bounds y0 y1 x0 x1).symm
  · exfalso
    have h3 : Cg p x (-x) := (hxr.trans hyr.symm).trans (c.of_dvd (dvd_pow_self hk))
    obtain ⟨t, ht⟩ := h3
    have h4 : (p : Int) ∣ 2 * x := ⟨t, by omega⟩
    rcases hp.idvd_mul h4 with d | d
    · have := Int.le_of_dvd (by omega) d
      omega
    · exact unit_root hk ha hx d
theorem two_roots_of {k : Nat} (hk : 1 ≤ k) {a x : Int} (ha : ¬ (p : Int) ∣ a) (hx : Cg ((p : Int) ^ k) (x * x) a) (x0 : 0 ≤ x) (x1 : x < (p : Int) ^ k) : (rootsL a ((p : Int) ^ k)).length = 2 := by
  have h := unit_list hp h2 hk ha hx x0 x1
  rw [← sort_eq h.1 (rootsL_asc a _) fun y => by rw [h.2, mem_rootsL], List.length_mergeSort]
  rfl
end
theorem isRoots_len {B : List Int} {u q : Int} (h : IsRoots B u q) : (rootsL u q).length = B.length := by
  rw [← sort_eq h.1 (rootsL_asc u q) fun y => by rw [h.2, mem_rootsL], List.length_mergeSort]
theorem few_roots {p : Nat} (hp : IsP p) {k : Nat} (hk : 1 ≤ k) {a : Int} (ha : ¬ (p : Int) ∣ a) : (rootsL a ((p : Int) ^ k)).length ≤ 4 := by
  rcases hL : rootsL a ((p : Int) ^ k) with _ | ⟨x, l⟩
  · exact Nat.zero_le _
  · rw [← hL]
    obtain ⟨x0, x1, hx⟩ := mem_rootsL.1 (show x ∈ rootsL a ((p : Int) ^ k) by rw [hL]; simp)
    clear hL
    by_cases h2 : p = 2
    · subst h2
      have ho : x % 2 = 1 := by
        have := unit_root hk ha hx
        rcases Int.emod_two_eq x with e | e
        · exact absurd (Int.dvd_of_emod_eq_zero e) this
        · exact e
      have hk3 : k = 1 ∨ k = 2 ∨ 3 ≤ k := by omega
      rcases hk3 with rfl | rfl | hk3
      · have := List.length_filter_le (fun y : Int => y * y % ((2 : Nat) : Int) ^ 1 == a % ((2 : Nat) : Int) ^ 1) ((List.range (((2 : Nat) : Int) ^ 1).toNat).map fun i : Nat => (i : Int))
        unfold rootsL
        refine Nat.le_trans this ?_
        rw [List.length_map, List.length_range]; decide
      · have := List.length_filter_le (fun y : Int => y * y % ((2 : Nat) : Int) ^ 2 == a % ((2 : Nat) : Int) ^ 2) ((List.range (((2 : Nat) : Int) ^ 2).toNat).map fun i : Nat => (i : Int))
        unfold rootsL
        refine Nat.le_trans this ?_
        rw [List.length_map, List.length_range]; decide
      · have e := pow_two_split (k := k) (by omega)
        have e2 := pow_two_split (k := k - 1) (by omega)
        have e3 : ((2 : Nat) : Int) = 2 := rfl
        rw [e3] at x1 hx ⊢
        by_cases hs : x < 2 ^ (k - 1)
        · rw [isRoots_len (two_list hk3 hx ho x0 hs)]; simp
        · have hc : Cg ((2 : Int) ^ k) ((2 ^ k - x) * (2 ^ k - x)) a := by
            have h3 : Cg ((2 : Int) ^ k) (2 ^ k - x) (-x) := ⟨1, by omega⟩
            have h4 := h3.mul h3
            rw [Int.neg_mul_neg] at h4
            exact h4.trans hx
          have e4 := pow_two_split (k := k - 1) (by omega)
          rw [isRoots_len (two_list hk3 hc (by omega) (by omega) (by omega))]; simp
    · rw [two_roots_of hp h2 hk ha hx x0 x1]; decide
end FF
