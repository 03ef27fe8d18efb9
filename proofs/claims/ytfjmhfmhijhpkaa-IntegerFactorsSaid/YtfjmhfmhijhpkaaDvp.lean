/- Divisors: the plain part. -/
import Derived.Test.YtfjmhfmhijhpkaaApr
namespace Go.Proofs.Ytfjmhfmhijhpkaa
open Go.RowKit FF

/-- the divisors, ascending -/
def DivL (n : Int) (D : List Int) : Prop := D.Pairwise (· < ·) ∧ ∀ x, x ∈ D ↔ 1 ≤ x ∧ x ∣ n
/-- the reference's search -/
def RD (n d : Int) (L H : List Int) : Prop := 1 ≤ d ∧ (d - 1) * (d - 1) ≤ n ∧ L.Pairwise (· < ·) ∧ H.Pairwise (· < ·) ∧ (∀ x, x ∈ L ↔ 1 ≤ x ∧ x < d ∧ x ∣ n) ∧
  (∀ x, x ∈ H ↔ 1 ≤ x ∧ x ∣ n ∧ n < x * x ∧ n / x < d) ∧ (L.length : Int) < d ∧ (H.length : Int) < d

theorem dvd_eq {x n : Int} (h : x ∣ n) : n = x * (n / x) := (Int.mul_ediv_cancel' h).symm
theorem dvd_quo {x n : Int} (hx : 1 ≤ x) (hn : 1 ≤ n) (h : x ∣ n) : 1 ≤ n / x :=
  (Int.le_ediv_iff_mul_le (by omega)).2 (by have := Int.le_of_dvd (by omega) h; omega)
theorem quo_dvd {x n : Int} (h : x ∣ n) : n / x ∣ n := ⟨x, by rw [Int.mul_comm]; exact dvd_eq h⟩
theorem quo_quo {x n : Int} (hx : 1 ≤ x) (hn : 1 ≤ n) (h : x ∣ n) : n / (n / x) = x := by
  have h1 := dvd_eq h
  have h2 := dvd_quo hx hn h
  generalize n / x = q at *
  rw [h1]
  exact Int.mul_ediv_cancel _ (by omega)
theorem RD.start {n : Int} (h : 1 ≤ n) : RD n 1 [] [] := by
  refine ⟨by omega, by omega, .nil, .nil, fun x => ⟨fun h => by simp at h, fun h => by omega⟩, fun x => ⟨fun h => by simp at h, fun ⟨a, b, c, e⟩ => ?_⟩, by simp, by simp⟩
  have := dvd_quo a h b
  omega
theorem RD.skip {n d : Int} {L H : List Int} (h : RD n d L H) (_hn : 1 ≤ n) (hs : d * d ≤ n) (hd : ¬ d ∣ n) : RD n (d + 1) L H := by
  obtain ⟨h1, h2, h3, h4, h5, h6, h7, h8⟩ := h
  refine ⟨by omega, by rw [Int.add_sub_cancel]; exact hs, h3, h4, fun x => ?_, fun x => ?_, by omega, by omega⟩
  · rw [h5 x]
    constructor
    · exact fun ⟨a, b, c⟩ => ⟨a, by omega, c⟩
    · refine fun ⟨a, b, c⟩ => ⟨a, ?_, c⟩
      rcases Int.lt_or_eq_of_le (show x ≤ d by omega) with g | g
      · exact g
      · exact absurd (g ▸ c) hd
  · rw [h6 x]
    constructor
    · exact fun ⟨a, b, c, e⟩ => ⟨a, b, c, by omega⟩
    · refine fun ⟨a, b, c, e⟩ => ⟨a, b, c, ?_⟩
      rcases Int.lt_or_eq_of_le (show n / x ≤ d by omega) with g | g
      · exact g
      · exact absurd (g ▸ quo_dvd b) hd
theorem RD.low {n d : Int} {L H : List Int} (h : RD n d L H) (_hn : 1 ≤ n) (hd : d ∣ n) : (L ++ [d]).Pairwise (· < ·) ∧ (∀ x, x ∈ L ++ [d] ↔ 1 ≤ x ∧ x < d + 1 ∧ x ∣ n) ∧ ((L ++ [d]).length : Int) < d + 1 := by
  obtain ⟨h1, h2, h3, h4, h5, h6, h7, h8⟩ := h
  refine ⟨?_, fun x => ?_, by rw [List.length_append]; simp; exact h7⟩
  · rw [List.pairwise_append]
    exact ⟨h3, List.pairwise_singleton _ _, fun a ha b hb => by rw [List.mem_singleton.1 hb]; exact ((h5 a).1 ha).2.1⟩
  · rw [List.mem_append, h5 x, List.mem_singleton]
    constructor
    · rintro (⟨a, b, c⟩ | rfl)
      · exact ⟨a, by omega, c⟩
      · exact ⟨h1, by omega, hd⟩
    · rintro ⟨a, b, c⟩
      rcases Int.lt_or_eq_of_le (show x ≤ d by omega) with g | g
      · exact .inl ⟨a, g, c⟩
      · exact .inr g
theorem RD.square {n d : Int} {L H : List Int} (h : RD n d L H) (hn : 1 ≤ n) (hd : d ∣ n) (hs : d * d = n) : RD n (d + 1) (L ++ [d]) H := by
  obtain ⟨k1, k2, k3⟩ := h.low hn hd
  obtain ⟨h1, h2, h3, h4, h5, h6, h7, h8⟩ := h
  refine ⟨by omega, by rw [Int.add_sub_cancel]; omega, k1, h4, k2, fun x => ?_, k3, by omega⟩
  rw [h6 x]
  constructor
  · exact fun ⟨a, b, c, e⟩ => ⟨a, b, c, by omega⟩
  · refine fun ⟨a, b, c, e⟩ => ⟨a, b, c, ?_⟩
    rcases Int.lt_or_eq_of_le (show n / x ≤ d by omega) with g | g
    · exact g
    · exfalso
      have q := dvd_eq b
      rw [g] at q
      have : x = d := by
        have : x * d = d * d := by omega
        exact Int.eq_of_mul_eq_mul_right (by omega) this
      rw [this] at c
      omega
theorem RD.both {n d : Int} {L H : List Int} (h : RD n d L H) (hn : 1 ≤ n) (hd : d ∣ n) (hs : d * d < n) : RD n (d + 1) (L ++ [d]) (n / d :: H) := by
  obtain ⟨k1, k2, k3⟩ := h.low hn hd
  obtain ⟨h1, h2, h3, h4, h5, h6, h7, h8⟩ := h
  have e1 := dvd_eq hd
  have e2 := dvd_quo h1 hn hd
  have hde : d < n / d := by
    rcases Int.lt_or_le d (n / d) with g | g
    · exact g
    · have := Int.mul_le_mul_of_nonneg_left g (show 0 ≤ d by omega)
      omega
  refine ⟨by omega, by rw [Int.add_sub_cancel]; omega, k1, ?_, k2, fun x => ?_, k3, by simp; omega⟩
  · rw [List.pairwise_cons]
    refine ⟨fun y hy => ?_, h4⟩
    obtain ⟨a, b, c, e⟩ := (h6 y).1 hy
    have q := dvd_eq b
    rcases Int.lt_or_le (n / d) y with g | g
    · exact g
    · exfalso
      have q0 := dvd_quo a hn b
      have t1 : y * (n / y) ≤ (n / d) * (n / y) := Int.mul_le_mul_of_nonneg_right g (by omega)
      have t2 : (n / d) * (n / y) < (n / d) * d := Int.mul_lt_mul_of_pos_left e (by omega)
      rw [Int.mul_comm (n / d) d] at t2
      omega
  · rw [List.mem_cons, h6 x]
    constructor
    · rintro (rfl | ⟨a, b, c, e⟩)
      · refine ⟨e2, quo_dvd hd, ?_, by rw [quo_quo h1 hn hd]; omega⟩
        have : d * (n / d) < (n / d) * (n / d) := Int.mul_lt_mul_of_pos_right hde (by omega)
        omega
      · exact ⟨a, b, c, by omega⟩
    · rintro ⟨a, b, c, e⟩
      rcases Int.lt_or_eq_of_le (show n / x ≤ d by omega) with g | g
      · exact .inr ⟨a, b, c, g⟩
      · left
        rw [← g, quo_quo a hn b]
theorem RD.done {n d : Int} {L H : List Int} (h : RD n d L H) (hn : 1 ≤ n) (hs : n < d * d) : DivL n (L ++ H) := by
  obtain ⟨h1, h2, h3, h4, h5, h6, h7, h8⟩ := h
  have lt_of_sq : ∀ {a b : Int}, 0 ≤ b → a * a < b * b → 0 ≤ a → a < b := fun {a b} hb hab ha => by
    rcases Int.lt_or_le a b with g | g
    · exact g
    · have := Int.mul_le_mul g g hb ha
      omega
  refine ⟨?_, fun x => ?_⟩
  · rw [List.pairwise_append]
    refine ⟨h3, h4, fun a ha b hb => ?_⟩
    obtain ⟨a1, a2, a3⟩ := (h5 a).1 ha
    obtain ⟨b1, b2, b3, b4⟩ := (h6 b).1 hb
    have := Int.mul_le_mul (show a ≤ d - 1 by omega) (show a ≤ d - 1 by omega) (by omega) (by omega)
    exact lt_of_sq (by omega) (by omega) (by omega)
  · rw [List.mem_append, h5 x, h6 x]
    constructor
    · rintro (⟨a, -, c⟩ | ⟨a, b, -, -⟩)
      · exact ⟨a, c⟩
      · exact ⟨a, b⟩
    · rintro ⟨a, b⟩
      rcases Int.lt_or_le n (x * x) with g | g
      · right
        refine ⟨a, b, g, ?_⟩
        have q := dvd_eq b
        have q0 := dvd_quo a hn b
        generalize n / x = e at *
        have hex : e < x := by
          rcases Int.lt_or_le e x with t | t
          · exact t
          · have := Int.mul_le_mul_of_nonneg_left t (show 0 ≤ x by omega)
            omega
        have : e * e < x * e := Int.mul_lt_mul_of_pos_right hex (by omega)
        exact lt_of_sq (by omega) (by omega) (by omega)
      · left
        exact ⟨a, lt_of_sq (by omega) (by omega) (by omega), b⟩
theorem DivL.unique {n : Int} {D E : List Int} (h : DivL n D) (h' : DivL n E) : D = E := asc_unique h.1 h'.1 fun x => (h.2 x).trans (h'.2 x).symm
end Go.Proofs.Ytfjmhfmhijhpkaa
