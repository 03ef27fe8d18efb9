/- Plain number theory: roots of units modulo prime powers; the lift of a root; the root modulo a prime by orders of powers of 2. -/
import Derived.Test.YtmlkiddkgikdhaaRt
namespace FF

section
variable {p : Nat} (hp : IsP p) (h2 : p ≠ 2)
include hp
omit hp in
theorem dvd_pow_self {k : Nat} (hk : 1 ≤ k) : (p : Int) ∣ (p : Int) ^ k := ⟨(p : Int) ^ (k - 1), by rw [Int.mul_comm, ← Int.pow_succ]; congr 1; omega⟩
omit hp in
theorem unit_root {k : Nat} (hk : 1 ≤ k) {u x : Int} (hu : ¬ (p : Int) ∣ u) (hx : Cg ((p : Int) ^ k) (x * x) u) : ¬ (p : Int) ∣ x := by
  rintro ⟨y, rfl⟩
  refine hu ?_
  have h1 : Cg (p : Int) ((p : Int) * y * (p * y)) u := hx.of_dvd (dvd_pow_self hk)
  have h3 : Cg (p : Int) ((p : Int) * y * (p * y)) 0 := Cg.zero_iff.2 ⟨y * (p * y), by rw [Int.mul_assoc]⟩
  exact Cg.zero_iff.1 (h1.symm.trans h3)
include h2
theorem unit_two_roots {k : Nat} (hk : 1 ≤ k) {u x y : Int} (hu : ¬ (p : Int) ∣ u) (hx : Cg ((p : Int) ^ k) (x * x) u) (hy : Cg ((p : Int) ^ k) (y * y) u) :
    Cg ((p : Int) ^ k) y x ∨ Cg ((p : Int) ^ k) y (-x) := by
  have hd : (p : Int) ^ k ∣ (y - x) * (y + x) := by
    have := hy.trans hx.symm
    unfold Cg at this
    rw [show (y - x) * (y + x) = y * y - x * x by grind]; exact this
  have hx0 := unit_root hk hu hx
  by_cases c : (p : Int) ∣ y - x
  · left
    have hc : ¬ (p : Int) ∣ y + x := fun d => by
      have : (p : Int) ∣ 2 * x := by
        have := Int.dvd_sub d c
        rwa [show y + x - (y - x) = 2 * x by omega] at this
      rcases hp.idvd_mul this with d2 | d2
      · have h3 := Int.le_of_dvd (by omega) d2
        have := hp.1; omega
      · exact hx0 d2
    exact pow_dvd_cancel hp hc k (by rw [Int.mul_comm]; exact hd)
  · right
    unfold Cg
    rw [Int.sub_neg]
    exact pow_dvd_cancel hp c k hd
theorem unit_list {k : Nat} (hk : 1 ≤ k) {u x : Int} (hu : ¬ (p : Int) ∣ u) (hx : Cg ((p : Int) ^ k) (x * x) u) (h0 : 0 ≤ x) (h1 : x < (p : Int) ^ k) : IsRoots [x, (p : Int) ^ k - x] u ((p : Int) ^ k) := by
  have hx0 := unit_root hk hu hx
  have hpos : 0 < x := by
    rcases Int.lt_or_le 0 x with g | g
    · exact g
    · exact absurd (by rw [show x = 0 by omega]; exact Int.dvd_zero _) hx0
  refine ⟨?_, fun y => ⟨fun h => ?_, fun h => ?_⟩⟩
  · rw [List.nodup_cons]
    refine ⟨fun h => ?_, by simp⟩
    rw [List.mem_singleton] at h
    have h3 : (p : Int) ∣ 2 * x := by rw [show 2 * x = (p : Int) ^ k by omega]; exact dvd_pow_self hk
    rcases hp.idvd_mul h3 with d | d
    · have := Int.le_of_dvd (by omega) d
      have := hp.1; omega
    · exact hx0 d
  · simp only [List.mem_cons, List.not_mem_nil, or_false] at h
    rcases h with rfl | rfl
    · exact ⟨h0, h1, hx⟩
    · refine ⟨by omega, by omega, ?_⟩
      have h3 : Cg ((p : Int) ^ k) ((p : Int) ^ k - x) (-x) := ⟨1, by omega⟩
      have h4 := h3.mul h3
      rw [Int.neg_mul_neg] at h4
      exact h4.trans hx
  · obtain ⟨y0, y1, y2⟩ := h
    simp only [List.mem_cons, List.not_mem_nil, or_false]
    rcases unit_two_roots hp h2 hk hu hx y2 with c | c
    · left; exact c.eq_of_bounds y0 y1 h0 h1
    · right
      have h3 : Cg ((p : Int) ^ k) y ((p : Int) ^ k - x) := c.trans ⟨-1, by omega⟩
      exact h3.eq_of_bounds y0 y1 (by omega) (by omega)
theorem unit_none {k : Nat} (hk : 1 ≤ k) {u : Int} (hu : leg u p = -1) : IsRoots [] u ((p : Int) ^ k) := by
  refine ⟨List.nodup_nil, fun y => ⟨fun h => (by cases h), fun ⟨_, _, h⟩ => ?_⟩⟩
  exfalso
  have h1 : Cg (p : Int) (y * y) u := h.of_dvd (dvd_pow_self hk)
  have h3 := jac_congr (n := p) (hp.odd h2) h1
  rw [jac_prime hp, jac_prime hp, hu, leg_mul hp h2] at h3
  rcases leg_bound y p with ⟨b1, b2⟩
  have : leg y p = -1 ∨ leg y p = 0 ∨ leg y p = 1 := by omega
  rcases this with e | e | e <;> rw [e] at h3 <;> omega
end

/-- one step of the lift -/
theorem lift_step {m M a x v : Int} (hM2 : M ∣ m * m) (hx : Cg m (x * x) a) (hv : Cg M (2 * x * v) 1) :
    Cg M ((x - (x * x - a) * v) * (x - (x * x - a) * v)) a ∧ Cg m (x - (x * x - a) * v) x := by
  constructor
  · obtain ⟨d, hd⟩ := hx
    obtain ⟨e, he⟩ := hv
    obtain ⟨f, hf⟩ := hM2
    refine ⟨d * d * v * v * f - m * d * e, ?_⟩
    have h1 : (x * x - a) * (x * x - a) = M * (f * (d * d)) := by rw [hd, show m * d * (m * d) = m * m * (d * d) by grind, hf, Int.mul_assoc]
    have h2 : (x - (x * x - a) * v) * (x - (x * x - a) * v) - a = (x * x - a) - (x * x - a) * (2 * x * v) + (x * x - a) * (x * x - a) * (v * v) := by grind
    rw [h2, h1, show 2 * x * v = M * e + 1 by omega, hd]
    grind
  · obtain ⟨d, hd⟩ := hx
    exact ⟨-(d * v), by rw [hd]; grind⟩

/-- roots modulo powers of 2 -/
theorem two_none {k : Nat} (hk : 1 ≤ k) {u : Int} (ho : u % 2 = 1) (h : u % (min ((2 : Int) ^ k) 8) ≠ 1) : IsRoots [] u ((2 : Int) ^ k) := by
  refine ⟨List.nodup_nil, fun y => ⟨fun h => (by cases h), fun ⟨_, _, hy⟩ => ?_⟩⟩
  exfalso
  have h2 : (2 : Int) ∣ (2 : Int) ^ k := dvd_pow_self (p := 2) hk
  have ho2 : y % 2 = 1 := by
    have h3 := (hy.of_dvd h2).emod_eq
    rw [ho, Int.mul_emod] at h3
    rcases Int.emod_two_eq y with e | e
    · rw [e] at h3; omega
    · exact e
  have h8 : y * y % 8 = 1 := by
    rw [Int.mul_emod]
    have : y % 8 = 1 ∨ y % 8 = 3 ∨ y % 8 = 5 ∨ y % 8 = 7 := by omega
    rcases this with e | e | e | e <;> rw [e] <;> rfl
  have hk3 : k = 1 ∨ k = 2 ∨ 3 ≤ k := by omega
  rcases hk3 with rfl | rfl | hk3
  · have : min ((2 : Int) ^ 1) 8 = 2 := by decide
    rw [this] at h; exact h ho
  · have e4 : min ((2 : Int) ^ 2) 8 = 4 := by decide
    rw [e4] at h
    have h3 := hy.emod_eq
    have : (2 : Int) ^ 2 = 4 := by decide
    rw [this] at h3
    omega
  · have e8 : (8 : Int) ∣ (2 : Int) ^ k := ⟨2 ^ (k - 3), by rw [show (8 : Int) = 2 ^ 3 by decide, ← Int.pow_add]; congr 1; omega⟩
    have h3 := (hy.of_dvd e8).emod_eq
    have : min ((2 : Int) ^ k) 8 = 8 := by
      have := Int.le_of_dvd (Int.pow_pos (by omega)) e8
      omega
    rw [this] at h
    omega
theorem two_one {u : Int} (ho : u % 2 = 1) : IsRoots [1] u 2 := by
  refine ⟨by simp, fun y => ?_⟩
  rw [List.mem_singleton]
  constructor
  · rintro rfl; exact ⟨by omega, by omega, Cg.of_emod (by omega)⟩
  · rintro ⟨h0, h1, h⟩
    have h3 := h.emod_eq
    rcases (show y = 0 ∨ y = 1 by omega) with rfl | rfl
    · simp at h3; omega
    · rfl
theorem two_two {u : Int} (ho : u % 4 = 1) : IsRoots [1, 3] u 4 := by
  refine ⟨by simp, fun y => ?_⟩
  simp only [List.mem_cons, List.not_mem_nil, or_false]
  constructor
  · rintro (rfl | rfl) <;> exact ⟨by omega, by omega, Cg.of_emod (by omega)⟩
  · rintro ⟨h0, h1, h⟩
    have h3 := h.emod_eq
    rcases (show y = 0 ∨ y = 1 ∨ y = 2 ∨ y = 3 by omega) with rfl | rfl | rfl | rfl
    · simp at h3; omega
    · exact .inl rfl
    · simp at h3; omega
    · exact .inr rfl
theorem pow_two_split {k : Nat} (hk : 1 ≤ k) : (2 : Int) ^ k = 2 * 2 ^ (k - 1) := by
  rw [Int.mul_comm, ← Int.pow_succ]; congr 1; omega
theorem two_pow_pos (k : Nat) : (0 : Int) < 2 ^ k := Int.pow_pos (by omega)
theorem odd_cancel {m b : Int} (hm : m % 2 = 1) (k : Nat) (h : (2 : Int) ^ k ∣ m * b) : (2 : Int) ^ k ∣ b :=
  pow_dvd_cancel (p := 2) isP_two (fun d => by have := Int.emod_eq_zero_of_dvd d; push_cast at this; omega) k h
theorem two_list {k : Nat} (hk : 3 ≤ k) {u x : Int} (hx : Cg ((2 : Int) ^ k) (x * x) u) (ho : x % 2 = 1) (h0 : 0 ≤ x) (h1 : x < (2 : Int) ^ (k - 1)) :
    IsRoots [x, (2 : Int) ^ k - x, x + (2 : Int) ^ (k - 1), (2 : Int) ^ (k - 1) - x] u ((2 : Int) ^ k) := by
  have e := pow_two_split (k := k) (by omega)
  have e2 := pow_two_split (k := k - 1) (by omega)
  have e3 := pow_two_split (k := k - 1 - 1) (by omega)
  have hp1 := two_pow_pos (k - 1)
  have hp2 := two_pow_pos (k - 1 - 1)
  have hsq : Cg ((2 : Int) ^ k) ((2 : Int) ^ (k - 1) * (2 : Int) ^ (k - 1)) 0 := Cg.zero_iff.2 ⟨2 ^ (k - 2), by rw [← Int.pow_add, ← Int.pow_add]; congr 1; omega⟩
  have hr : ∀ y : Int, (∃ s t : Int, y = s * x + t * (2 : Int) ^ (k - 1) ∧ s * s = 1) → Cg ((2 : Int) ^ k) (y * y) u := by
    rintro y ⟨s, t, rfl, hs⟩
    obtain ⟨c, hc⟩ := hx
    obtain ⟨d, hd⟩ := hsq
    rw [Int.sub_zero] at hd
    refine ⟨c + s * t * x + t * t * d, ?_⟩
    have h3 : (s * x + t * 2 ^ (k - 1)) * (s * x + t * 2 ^ (k - 1)) = s * s * (x * x) + s * t * x * (2 * 2 ^ (k - 1)) + t * t * (2 ^ (k - 1) * 2 ^ (k - 1)) := by grind
    rw [h3, hs, ← e, hd]
    grind
  refine ⟨?_, fun y => ⟨fun h => ?_, fun ⟨y0, y1, y2⟩ => ?_⟩⟩
  · simp only [List.nodup_cons, List.mem_cons, List.not_mem_nil, or_false, not_or]
    refine ⟨⟨?_, ?_, ?_⟩, ⟨?_, ?_⟩, ?_, ?_⟩ <;> first | omega | simp
  · simp only [List.mem_cons, List.not_mem_nil, or_false] at h
    rcases h with rfl | rfl | rfl | rfl
    · exact ⟨h0, by omega, hx⟩
    · exact ⟨by omega, by omega, hr _ ⟨-1, 2, by omega, by omega⟩⟩
    · exact ⟨by omega, by omega, hr _ ⟨1, 1, by omega, by omega⟩⟩
    · exact ⟨by omega, by omega, hr _ ⟨-1, 1, by omega, by omega⟩⟩
  · have hd : (2 : Int) ^ k ∣ (y - x) * (y + x) := by
      have := y2.trans hx.symm
      unfold Cg at this
      rw [show (y - x) * (y + x) = y * y - x * x by grind]; exact this
    have hyo : y % 2 = 1 := by
      have h3 : y * y % 2 = x * x % 2 := ((y2.trans hx.symm).of_dvd (dvd_pow_self (p := 2) (show 1 ≤ k by omega))).emod_eq
      rw [Int.mul_emod, Int.mul_emod x x, ho] at h3
      rcases Int.emod_two_eq y with e | e
      · rw [e] at h3; simp at h3
      · exact e
    simp only [List.mem_cons, List.not_mem_nil, or_false]
    obtain ⟨m, hm⟩ : ∃ m, y - x = 2 * m := ⟨(y - x) / 2, by omega⟩
    obtain ⟨n, hn⟩ : ∃ n, y + x = 2 * n := ⟨(y + x) / 2, by omega⟩
    have hmn : (m + n) % 2 = 1 := by omega
    have hd2 : 2 * (2 : Int) ^ (k - 1) ∣ 2 * (2 * (m * n)) := by rw [← e, show 2 * (2 * (m * n)) = (2 * m) * (2 * n) by grind, ← hm, ← hn]; exact hd
    have hd3 := Int.dvd_of_mul_dvd_mul_left (by omega) hd2
    rw [e2] at hd3
    have hd4 := Int.dvd_of_mul_dvd_mul_left (by omega) hd3
    rcases Int.emod_two_eq m with em | em
    · -- n is odd
      obtain ⟨c, hc⟩ := odd_cancel (m := n) (b := m) (by omega) _ (by rw [Int.mul_comm]; exact hd4)
      have h3 : y - x = 2 ^ (k - 1) * c := by rw [hm, hc, e2]; grind
      have hcb : -1 ≤ c ∧ c ≤ 1 := by
        constructor
        · rcases Int.lt_or_le c (-1) with g | g
          · have : 2 ^ (k - 1) * c ≤ 2 ^ (k - 1) * (-2) := Int.mul_le_mul_of_nonneg_left (by omega) (by omega)
            omega
          · exact g
        · rcases Int.lt_or_le 1 c with g | g
          · have : 2 ^ (k - 1) * 2 ≤ 2 ^ (k - 1) * c := Int.mul_le_mul_of_nonneg_left (by omega) (by omega)
            omega
          · exact g
      rcases (show c = -1 ∨ c = 0 ∨ c = 1 by omega) with rfl | rfl | rfl
      · omega
      · left; omega
      · right; right; left; omega
    · obtain ⟨c, hc⟩ := odd_cancel (m := m) (b := n) em _ hd4
      have h3 : y + x = 2 ^ (k - 1) * c := by rw [hn, hc, e2]; grind
      have hcb : 0 ≤ c ∧ c ≤ 2 := by
        constructor
        · rcases Int.lt_or_le c 0 with g | g
          · have : 2 ^ (k - 1) * c ≤ 2 ^ (k - 1) * (-1) := Int.mul_le_mul_of_nonneg_left (by omega) (by omega)
            omega
          · exact g
        · rcases Int.lt_or_le 2 c with g | g
          · have : 2 ^ (k - 1) * 3 ≤ 2 ^ (k - 1) * c := Int.mul_le_mul_of_nonneg_left (by omega) (by omega)
            omega
          · exact g
      rcases (show c = 0 ∨ c = 1 ∨ c = 2 by omega) with rfl | rfl | rfl
      · omega
      · right; right; right; omega
      · right; left; omega
/-- one step of the roots modulo powers of 2 -/
theorem two_step {j : Nat} (hj : 3 ≤ j) {u x : Int} (hx : Cg ((2 : Int) ^ j) (x * x) u) (ho : x % 2 = 1) :
    (Cg ((2 : Int) ^ (j + 1)) (x * x) u ∨ ¬ Cg ((2 : Int) ^ (j + 1)) (x * x) u ∧ Cg ((2 : Int) ^ (j + 1)) ((x + 2 ^ (j - 1)) * (x + 2 ^ (j - 1))) u ∧ (x + 2 ^ (j - 1)) % 2 = 1) := by
  by_cases h : Cg ((2 : Int) ^ (j + 1)) (x * x) u
  · exact .inl h
  · right
    refine ⟨h, ?_, ?_⟩
    · obtain ⟨d, hd⟩ := hx
      have e1 : (2 : Int) ^ (j + 1) = 2 * 2 ^ j := pow_two_split (by omega)
      have e2 := pow_two_split (k := j) (by omega)
      have hdo : d % 2 = 1 := by
        rcases Int.emod_two_eq d with e | e
        · exfalso
          obtain ⟨f, rfl⟩ := Int.dvd_of_emod_eq_zero e
          exact h ⟨f, by rw [hd, e1]; grind⟩
        · exact e
      have hs : (2 : Int) ^ (j - 1) * 2 ^ (j - 1) = 2 ^ (j + 1) * 2 ^ (j - 3) := by rw [← Int.pow_add, ← Int.pow_add]; congr 1; omega
      obtain ⟨f, hf⟩ : ∃ f, d + x = 2 * f := ⟨(d + x) / 2, by omega⟩
      refine ⟨f + 2 ^ (j - 3), ?_⟩
      have h3 : (x + 2 ^ (j - 1)) * (x + 2 ^ (j - 1)) - u = (x * x - u) + x * (2 * 2 ^ (j - 1)) + 2 ^ (j - 1) * 2 ^ (j - 1) := by grind
      rw [h3, hd, ← e2, hs, Int.mul_add, e1]
      have : 2 ^ j * d + x * 2 ^ j = 2 * 2 ^ j * f := by rw [show 2 * 2 ^ j * f = 2 ^ j * (2 * f) by grind, ← hf]; grind
      omega
    · have : (2 : Int) ^ (j - 1) = 2 * 2 ^ (j - 2) := pow_two_split (k := j - 1) (by omega)
      omega

/-- what holds in the search of a root modulo a prime -/
structure Ton (p : Nat) (a : Int) (k : Nat) (x c t : Int) : Prop where
  k1 : 1 ≤ k
  xx : Cg p (x * x) (a * t)
  cc : Cg p (c ^ (2 ^ (k - 1))) (-1)
  tt : Cg p (t ^ (2 ^ (k - 1))) 1
theorem pow_two_pow (x : Int) (i : Nat) : x ^ (2 ^ (i + 1)) = x ^ (2 ^ i) * x ^ (2 ^ i) := by rw [Nat.pow_succ, Nat.mul_comm, Nat.two_mul, Int.pow_add]
theorem sq_pow (x : Int) (n : Nat) : (x * x) ^ n = x ^ n * x ^ n := Int.mul_pow ..
theorem Ton.start {p : Nat} (hp : IsP p) (h2 : p ≠ 2) {a z : Int} (ha : leg a p = 1) (hz : leg z p = -1) :
    Ton p a (vp 2 ((p : Int) - 1)) (a ^ (((rest 2 ((p : Int) - 1)).toNat + 1) / 2)) (z ^ (rest 2 ((p : Int) - 1)).toNat) (a ^ (rest 2 ((p : Int) - 1)).toNat) := by
  have ho := hp.odd h2
  have hp2 := hp.1
  have hn : (p : Int) - 1 ≠ 0 := by omega
  have hv : 1 ≤ vp 2 ((p : Int) - 1) := by
    rw [vp_dvd (by omega) hn (Int.dvd_of_emod_eq_zero (by omega))]; omega
  have he := eq_pow_rest (p := 2) (by omega) hn
  have hr := rest_pos (p := 2) (n := (p : Int) - 1) (by omega) (by omega)
  have hro := odd_rest_two hn
  generalize vp 2 ((p : Int) - 1) = k at *
  obtain ⟨o, hor⟩ : ∃ o : Nat, rest 2 ((p : Int) - 1) = o := ⟨(rest 2 ((p : Int) - 1)).toNat, by omega⟩
  have ho2 : o % 2 = 1 := by omega
  rw [hor] at he
  rw [hor, Int.toNat_natCast]
  clear hro hr hor
  have hd : (p - 1) / 2 = o * 2 ^ (k - 1) := by
    have h3 : p - 1 = 2 ^ k * o := by
      have : ((2 ^ k * o : Nat) : Int) = (p : Int) - 1 := by push_cast; exact he.symm
      omega
    have h4 : 2 ^ k = 2 ^ (k - 1) * 2 := by rw [← Nat.pow_succ]; congr 1; omega
    rw [h3, h4, Nat.mul_right_comm, Nat.mul_div_cancel _ (by omega), Nat.mul_comm]
  have hleg : ∀ y : Int, ∀ s : Int, leg y p = s → s ≠ 0 → Cg p ((y ^ o) ^ (2 ^ (k - 1))) s := by
    intro y s hy hs
    rw [← Int.pow_mul, ← hd, ← hy]
    exact (leg_cg hp h2 y).symm
  refine ⟨hv, Cg.of_eq ?_, hleg z (-1) hz (by omega), hleg a 1 ha (by omega)⟩
  have h5 : (o + 1) / 2 + (o + 1) / 2 = o + 1 := by omega
  rw [← Int.pow_add, h5, Int.pow_succ, Int.mul_comm]
/-- the order of t, and the new round -/
theorem Ton.step {p : Nat} (hp : IsP p) {a : Int} {k o : Nat} {x c t : Int} (h : Ton p a k x c t) (ho : 1 ≤ o) (h1 : Cg p (t ^ (2 ^ o)) 1) (hn : ¬ Cg p (t ^ (2 ^ (o - 1))) 1)
    {c' : Int} (hc : Cg p (c' ^ (2 ^ o)) (-1)) : Ton p a o (x * c') (c' * c') (t * (c' * c')) := by
  obtain ⟨k1, xx, cc, tt⟩ := h
  have e : o - 1 + 1 = o := by omega
  have hcc : Cg p ((c' * c') ^ (2 ^ (o - 1))) (-1) := by rw [sq_pow, ← pow_two_pow, e]; exact hc
  refine ⟨ho, ?_, hcc, ?_⟩
  · have := xx.mul_right (c' * c')
    rw [show x * c' * (x * c') = x * x * (c' * c') by grind, show a * (t * (c' * c')) = a * t * (c' * c') by grind]; exact this
  · rw [Int.mul_pow]
    have h3 : Cg p (t ^ (2 ^ (o - 1)) * t ^ (2 ^ (o - 1))) 1 := by rw [← pow_two_pow, e]; exact h1
    rcases Cg.sq_one hp h3 with h4 | h4
    · exact absurd h4 hn
    · exact h4.mul hcc
theorem Ton.down {p : Nat} {c : Int} {k : Nat} (hk : 2 ≤ k) (h : Cg p (c ^ (2 ^ (k - 1))) (-1)) : Cg p ((c * c) ^ (2 ^ (k - 1 - 1))) (-1) := by
  rw [sq_pow, ← pow_two_pow, show k - 1 - 1 + 1 = k - 1 by omega]; exact h
end FF
namespace FF
theorem Ton.congr {p : Nat} {a : Int} {k : Nat} {x c t x' c' t' : Int} (h : Ton p a k x c t) (hx : Cg p x' x) (hc : Cg p c' c) (ht : Cg p t' t) : Ton p a k x' c' t' := by
  obtain ⟨k1, xx, cc, tt⟩ := h
  exact ⟨k1, (hx.mul hx).trans (xx.trans (ht.symm.mul_left a)), (hc.pow _).trans cc, (ht.pow _).trans tt⟩
/-- what holds in the search of the order -/
def OrdRel (p : Nat) (t : Int) (o : Nat) (s : Int) : Prop := Cg p s (t ^ (2 ^ o)) ∧ ∀ i, i < o → ¬ Cg p (t ^ (2 ^ i)) 1
theorem OrdRel.start (p : Nat) (t : Int) : OrdRel p t 0 t := ⟨Cg.of_eq (by show t = t ^ 1; rw [Int.pow_succ, Int.pow_zero, Int.one_mul]), fun i hi => absurd hi (by omega)⟩
theorem OrdRel.ne {p : Nat} (hp : 2 ≤ p) {t s : Int} {o : Nat} (h : OrdRel p t o s) (h0 : 0 ≤ s) (h1 : s < p) (hs : s ≠ 1) : ¬ Cg p (t ^ (2 ^ o)) 1 :=
  fun hc => hs ((h.1.trans hc).eq_of_bounds h0 h1 (by omega) (by omega))
theorem OrdRel.next {p : Nat} (hp : 2 ≤ p) {t s s' : Int} {o : Nat} (h : OrdRel p t o s) (h0 : 0 ≤ s) (h1 : s < p) (hs : s ≠ 1) (hs' : Cg p s' (s * s)) : OrdRel p t (o + 1) s' := by
  refine ⟨hs'.trans (by rw [pow_two_pow]; exact h.1.mul h.1), fun i hi => ?_⟩
  by_cases e : i = o
  · subst e; exact h.ne hp h0 h1 hs
  · exact h.2 i (by omega)
/-- the rest of the powers of c -/
def DownRel (p : Nat) (c : Int) (k : Nat) : Prop := Cg p (c ^ (2 ^ (k - 1))) (-1)
theorem DownRel.next {p : Nat} {c c' : Int} {k : Nat} (hk : 2 ≤ k) (h : DownRel p c k) (hc : Cg p c' (c * c)) : DownRel p c' (k - 1) := (hc.pow _).trans (Ton.down hk h)
end FF
namespace FF
theorem gcd_pow_one {p : Nat} (hp : IsP p) {c : Int} (hc : ¬ (p : Int) ∣ c) (n : Nat) : Int.gcd c ((p : Int) ^ n) = 1 := by
  have h1 : ¬ p ∣ c.natAbs := fun h => hc (Int.dvd_natAbs.1 (Int.natCast_dvd_natCast.2 h))
  have h2 := (hp.coprime h1).symm
  unfold Int.gcd
  rw [Int.natAbs_pow, Int.natAbs_natCast]
  exact Nat.Coprime.pow_right n h2
/-- what holds in the lift of a root -/
structure LiftRel (p k : Nat) (a r m x : Int) : Prop where
  pw : ∃ j : Nat, 1 ≤ j ∧ j ≤ k ∧ m = (p : Int) ^ j
  x0 : 0 ≤ x
  xm : x < m
  xx : Cg m (x * x) a
  xr : Cg p x r
theorem LiftRel.start {p k : Nat} (hp : IsP p) (hk : 1 ≤ k) {a r : Int} (h : Cg p (r * r) a) : LiftRel p k a r p (r % p) := by
  have := hp.1
  have h1 := Cg.emod (p : Int) r
  exact ⟨⟨1, Nat.le_refl _, hk, by rw [Int.pow_succ, Int.pow_zero, Int.one_mul]⟩, Int.emod_nonneg _ (by omega), Int.emod_lt_of_pos _ (by omega), (h1.mul h1).trans h, h1⟩
theorem LiftRel.mul {p k : Nat} (hp : IsP p) {a r m x : Int} (h : LiftRel p k a r m x) (hlt : m < (p : Int) ^ k) : m * p ≤ (p : Int) ^ k ∧ 1 ≤ m ∧ 2 * m ≤ m * p := by
  obtain ⟨j, j1, j2, rfl⟩ := h.pw
  have hp2 := hp.1
  have hpos := ppos hp j
  have hjk : j < k := by
    rcases Nat.lt_or_ge j k with g | g
    · exact g
    · obtain rfl : j = k := by omega
      omega
  refine ⟨?_, by omega, ?_⟩
  · rw [← Int.pow_succ]
    have h2 : p ^ (j + 1) ≤ p ^ k := Nat.pow_le_pow_right (by omega) hjk
    have h3 : ((p ^ (j + 1) : Nat) : Int) ≤ ((p ^ k : Nat) : Int) := by omega
    push_cast at h3
    exact h3
  · rw [Int.mul_comm]; exact Int.mul_le_mul_of_nonneg_left (by omega) (by omega)
theorem LiftRel.ndvd {p k : Nat} (hp : IsP p) (h2 : p ≠ 2) {a r m x : Int} (h : LiftRel p k a r m x) (ha : ¬ (p : Int) ∣ a) : ¬ (p : Int) ∣ 2 * x := by
  intro hd
  have hp2 := hp.1
  rcases hp.idvd_mul hd with d | d
  · have := Int.le_of_dvd (by omega) d; omega
  · obtain ⟨j, j1, j2, rfl⟩ := h.pw
    exact unit_root j1 ha h.xx d
theorem LiftRel.gcd {p k : Nat} (hp : IsP p) (h2 : p ≠ 2) {a r m x : Int} (h : LiftRel p k a r m x) (ha : ¬ (p : Int) ∣ a) : Int.gcd (2 * x) (m * p) = 1 := by
  have hn := h.ndvd hp h2 ha
  obtain ⟨j, j1, j2, rfl⟩ := h.pw
  rw [← Int.pow_succ]; exact gcd_pow_one hp hn _
theorem LiftRel.next {p k : Nat} (hp : IsP p) (h2 : p ≠ 2) {a r m x : Int} (h : LiftRel p k a r m x) (ha : ¬ (p : Int) ∣ a) (hlt : m < (p : Int) ^ k) :
    LiftRel p k a r (m * p) ((x - (x * x - a) % (m * p) * invM (2 * x) (m * p)) % (m * p)) := by
  obtain ⟨q1, q2, q3⟩ := h.mul hp hlt
  have hg := h.gcd hp h2 ha
  obtain ⟨i0, i1, i2⟩ := invM_spec (a := 2 * x) (m := m * p) (by omega) hg
  have hM2 : m * p ∣ m * m := by
    obtain ⟨j, j1, j2, rfl⟩ := h.pw
    rw [← Int.pow_succ, ← Int.pow_add]
    exact ⟨(p : Int) ^ (j - 1), by rw [← Int.pow_add]; congr 1; omega⟩
  obtain ⟨s1, s2⟩ := lift_step hM2 h.xx i2
  have hc : Cg (m * p) ((x - (x * x - a) % (m * p) * invM (2 * x) (m * p)) % (m * p)) (x - (x * x - a) * invM (2 * x) (m * p)) := by
    refine (Cg.emod _ _).trans ((Cg.refl _ x).sub (Cg.mul_right _ ?_))
    exact Cg.emod _ _
  obtain ⟨j, j1, j2, hj⟩ := h.pw
  have hjk : j < k := by
    rcases Nat.lt_or_ge j k with g | g
    · exact g
    · obtain rfl : j = k := by omega
      omega
  refine ⟨⟨j + 1, by omega, hjk, by rw [hj, Int.pow_succ]⟩, Int.emod_nonneg _ (by omega), Int.emod_lt_of_pos _ (by omega), (hc.mul hc).trans s1, ?_⟩
  have hpm : (p : Int) ∣ m := hj ▸ dvd_pow_self j1
  exact ((hc.of_dvd (Int.dvd_trans hpm ⟨(p : Int), rfl⟩)).trans (s2.of_dvd hpm)).trans h.xr
theorem LiftRel.done {p k : Nat} (hp : IsP p) {a r m x : Int} (h : LiftRel p k a r m x) (hlt : ¬ m < (p : Int) ^ k) : m = (p : Int) ^ k := by
  obtain ⟨j, j1, j2, rfl⟩ := h.pw
  by_cases e : j = k
  · rw [e]
  · exfalso
    have hp2 := hp.1
    have h2 : p ^ j < p ^ k := Nat.pow_lt_pow_right (by omega) (by omega)
    have h3 : ((p ^ j : Nat) : Int) < ((p ^ k : Nat) : Int) := by omega
    push_cast at h3
    omega
end FF
namespace FF
theorem rootsL_congr {a b q : Int} (h : a % q = b % q) : rootsL a q = rootsL b q := by unfold rootsL; rw [h]
/-- the row of one root -/
def rowL (y step stride : Int) (m : Nat) : List Int := (List.range m).map fun j : Nat => y * step % stride + j * stride
theorem rowL_succ (y step stride : Int) (m : Nat) : rowL y step stride (m + 1) = rowL y step stride m ++ [y * step % stride + m * stride] := by
  unfold rowL; rw [List.range_succ, List.map_append]; rfl
theorem rowL_len (y step stride : Int) (m : Nat) : (rowL y step stride m).length = m := by simp [rowL]
theorem outL_take {B : List Int} {step stride : Int} {most i : Nat} (h : i < B.length) : outL (B.take (i + 1)) step stride most = outL (B.take i) step stride most ++ rowL (B.getD i 0) step stride most := by
  unfold outL rowL
  rw [List.take_succ_eq_append_getElem h, List.flatMap_append, List.getD_eq_getElem?_getD, List.getElem?_eq_getElem h]
  simp
/-- what the tail of Roots needs of a list of roots of the unit: all roots, at steps and strides -/
structure RootsPlan (a q : Int) (B : List Int) (T D : Int) (M : Nat) : Prop where
  srt : ((outL B T D M).mergeSort fun x y => decide (x ≤ y)) = rootsL a q
  len : B.length ≤ 4
  bnd : ∀ y ∈ B, 0 ≤ y * T ∧ y * T ≤ 1000000000
  T1 : 1 ≤ T
  D1 : 1 ≤ D
  M1 : 1 ≤ M
  MD : (M : Int) * D = q
theorem RootsPlan.count {a q T D : Int} {B : List Int} {M : Nat} (h : RootsPlan a q B T D M) : (rootsL a q).length = B.length * M := by
  rw [← h.srt, List.length_mergeSort, outL_len]
theorem pow_le_q {p i k : Nat} (hp : 1 ≤ p) (h : i ≤ k) : (p : Int) ^ i ≤ (p : Int) ^ k := by
  have h2 : p ^ i ≤ p ^ k := Nat.pow_le_pow_right hp h
  have h3 : ((p ^ i : Nat) : Int) ≤ ((p ^ k : Nat) : Int) := by omega
  push_cast at h3
  exact h3
theorem div_pow {p : Nat} (hp : IsP p) {i k : Nat} (h : i ≤ k) : (p : Int) ^ k / (p : Int) ^ i = (p : Int) ^ (k - i) := by
  rw [pow_split (p := p) (show i + (k - i) = k by omega)]
  exact Int.mul_ediv_cancel_left _ (by have := ppos hp i; omega)
theorem plan_zero {p : Nat} (hp : IsP p) {k : Nat} (hk : 1 ≤ k) : RootsPlan 0 ((p : Int) ^ k) [0] ((p : Int) ^ ((k + 1) / 2)) ((p : Int) ^ ((k + 1) / 2)) (p ^ (k - (k + 1) / 2)) := by
  have h1 := ppos hp ((k + 1) / 2)
  refine ⟨roots_zero hp (by omega) (by omega) (by omega), by simp, fun y hy => by simp at hy; subst hy; omega, by omega, by omega, Nat.pow_pos hp.pos, ?_⟩
  push_cast
  rw [← Int.pow_add]; congr 1; omega
theorem plan_unit {p : Nat} (hp : IsP p) {s k : Nat} {u : Int} {B : List Int} (hk : 2 * s < k) (hB : IsRoots B u ((p : Int) ^ (k - 2 * s))) (hl : B.length ≤ 4) (hq : (p : Int) ^ k ≤ 1000000000) :
    RootsPlan ((p : Int) ^ (2 * s) * u) ((p : Int) ^ k) B ((p : Int) ^ s) ((p : Int) ^ (k - s)) (p ^ s) := by
  have h1 := ppos hp s
  have h2 := ppos hp (k - s)
  refine ⟨roots_unit hp hk hB, hl, fun y hy => ?_, by omega, by omega, Nat.pow_pos hp.pos, ?_⟩
  · obtain ⟨y0, y1, _⟩ := (hB.2 y).1 hy
    have h3 : 0 ≤ y * (p : Int) ^ s := Int.mul_nonneg y0 (by omega)
    have h4 : y * (p : Int) ^ s ≤ (p : Int) ^ (k - 2 * s) * (p : Int) ^ s := Int.mul_le_mul_of_nonneg_right (by omega) (by omega)
    rw [← Int.pow_add, show k - 2 * s + s = k - s by omega] at h4
    have h5 := pow_le_q (p := p) (i := k - s) (k := k) hp.pos (by omega)
    omega
  · push_cast
    rw [← Int.pow_add]; congr 1; omega
end FF
