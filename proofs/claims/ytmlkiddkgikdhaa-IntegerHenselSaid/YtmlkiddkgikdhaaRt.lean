/- Plain number theory: square roots modulo prime powers. -/
import Derived.Test.YtmlkiddkgikdhaaLag
namespace FF

/-- all square roots of a modulo q, ascending -/
def rootsL (a q : Int) : List Int := ((List.range q.toNat).map fun i : Nat => (i : Int)).filter fun x => x * x % q == a % q
theorem mem_rootsL {a q x : Int} : x ∈ rootsL a q ↔ 0 ≤ x ∧ x < q ∧ Cg q (x * x) a := by
  unfold rootsL
  rw [List.mem_filter, List.mem_map, beq_iff_eq]
  constructor
  · rintro ⟨⟨i, hi, rfl⟩, h⟩
    rw [List.mem_range] at hi
    exact ⟨by omega, by omega, Cg.of_emod h⟩
  · rintro ⟨h1, h2, h3⟩
    exact ⟨⟨x.toNat, List.mem_range.2 (by omega), by omega⟩, h3.emod_eq⟩
theorem rootsL_asc (a q : Int) : (rootsL a q).Pairwise (· < ·) := by
  unfold rootsL
  refine List.Pairwise.filter _ ?_
  rw [List.pairwise_map]
  exact List.Pairwise.imp (fun h => by omega) List.pairwise_lt_range
theorem asc_ext : ∀ l m : List Int, l.Pairwise (· < ·) → m.Pairwise (· < ·) → (∀ x, x ∈ l ↔ x ∈ m) → l = m
  | [], [], _, _, _ => rfl
  | [], y :: m, _, _, h => by have := (h y).2 (by simp); simp at this
  | x :: l, [], _, _, h => by have := (h x).1 (by simp); simp at this
  | x :: l, y :: m, hl, hm, h => by
    obtain ⟨l1, l2⟩ := List.pairwise_cons.1 hl
    obtain ⟨m1, m2⟩ := List.pairwise_cons.1 hm
    have e : x = y := by
      rcases List.mem_cons.1 ((h x).1 (by simp)) with e | hx
      · exact e
      · rcases List.mem_cons.1 ((h y).2 (by simp)) with e | hy
        · exact e.symm
        · have := l1 y hy; have := m1 x hx; omega
    subst e
    rw [asc_ext l m l2 m2 (fun z => ?_)]
    have hz := h z
    rw [List.mem_cons, List.mem_cons] at hz
    constructor
    · intro g
      rcases hz.1 (.inr g) with e | g2
      · have := l1 z g; omega
      · exact g2
    · intro g
      rcases hz.2 (.inr g) with e | g2
      · have := m1 z g; omega
      · exact g2
theorem sort_eq {l m : List Int} (hn : l.Nodup) (hm : m.Pairwise (· < ·)) (h : ∀ x, x ∈ l ↔ x ∈ m) : (l.mergeSort fun x y => decide (x ≤ y)) = m := by
  have hp := List.mergeSort_perm l (fun x y => decide (x ≤ y))
  have hs := List.pairwise_mergeSort (le := fun x y : Int => decide (x ≤ y)) (fun a b c h1 h2 => by simp at *; omega) (fun a b => by simp; omega) l
  have hnd : (l.mergeSort fun x y => decide (x ≤ y)).Nodup := hp.nodup_iff.2 hn
  refine asc_ext _ _ ?_ hm (fun x => by rw [hp.mem_iff]; exact h x)
  refine List.Pairwise.imp₂ (R := fun x y => decide (x ≤ y) = true) (S := fun x y => x ≠ y) (fun {a b} h1 h2 => ?_) hs hnd
  simp at h1; omega

theorem pow_dvd_cancel {p : Nat} (hp : IsP p) {b c : Int} (hc : ¬ (p : Int) ∣ c) : ∀ k : Nat, (p : Int) ^ k ∣ c * b → (p : Int) ^ k ∣ b
  | 0, _ => ⟨b, by simp⟩
  | k + 1, h => by
    have hpos : (0 : Int) < (p : Int) ^ k := Int.pow_pos (by have := hp.1; omega)
    obtain ⟨b', rfl⟩ := pow_dvd_cancel hp hc k (Int.dvd_trans ⟨(p : Int), Int.pow_succ ..⟩ h)
    have h2 : (p : Int) ^ k * p ∣ (p : Int) ^ k * (c * b') := by rw [← Int.pow_succ, ← Int.mul_assoc, Int.mul_comm _ c, Int.mul_assoc]; exact h
    have h3 := Int.dvd_of_mul_dvd_mul_left (by omega) h2
    rcases hp.idvd_mul h3 with d | d
    · exact absurd d hc
    · rw [Int.pow_succ]; exact Int.mul_dvd_mul_left _ d
theorem sq_dvd {p : Nat} (hp : IsP p) : ∀ (s : Nat) (x : Int), (p : Int) ^ (2 * s) ∣ x * x → (p : Int) ^ s ∣ x
  | 0, x, _ => ⟨x, by simp⟩
  | s + 1, x, h => by
    have hp0 : (0 : Int) < p := by have := hp.1; omega
    have h1 : (p : Int) ∣ x := by
      have : (p : Int) ∣ x * x := Int.dvd_trans ⟨(p : Int) ^ (2 * s + 1), by rw [show 2 * (s + 1) = 2 * s + 1 + 1 by omega, Int.pow_succ, Int.mul_comm]⟩ h
      rcases hp.idvd_mul this with d | d <;> exact d
    obtain ⟨y, rfl⟩ := h1
    have h2 : (p : Int) * p * (p : Int) ^ (2 * s) ∣ (p : Int) * p * (y * y) := by
      have e1 : (p : Int) * p * (p : Int) ^ (2 * s) = (p : Int) ^ (2 * (s + 1)) := by rw [show 2 * (s + 1) = 2 * s + 1 + 1 by omega, Int.pow_succ, Int.pow_succ]; grind
      rw [e1, show (p : Int) * p * (y * y) = p * y * (p * y) by grind]; exact h
    have h3 := sq_dvd hp s y (Int.dvd_of_mul_dvd_mul_left (by have := Int.mul_pos hp0 hp0; omega) h2)
    rw [Int.pow_succ, Int.mul_comm]; exact Int.mul_dvd_mul_left _ h3

section
variable {p : Nat} (hp : IsP p)
include hp
theorem ppos (k : Nat) : (0 : Int) < (p : Int) ^ k := Int.pow_pos (by have := hp.1; omega)
omit hp in
theorem pow_split {i j k : Nat} (h : i + j = k) : (p : Int) ^ k = (p : Int) ^ i * (p : Int) ^ j := by rw [← h, Int.pow_add]
/-- an odd exponent: no roots -/
theorem no_root_odd {s k : Nat} {u x : Int} (hk : 2 * s + 1 < k) (hu : ¬ (p : Int) ∣ u) (h : Cg ((p : Int) ^ k) (x * x) ((p : Int) ^ (2 * s + 1) * u)) : False := by
  obtain ⟨m, hm⟩ := h
  have e := pow_split (p := p) (show (2 * s + 1) + (k - (2 * s + 1)) = k by omega)
  have h1 : (p : Int) ^ (2 * s + 1) ∣ x * x := ⟨u + (p : Int) ^ (k - (2 * s + 1)) * m, by rw [Int.mul_add, ← Int.mul_assoc, ← e]; omega⟩
  have h2 : (p : Int) ^ s ∣ x := sq_dvd hp s x (Int.dvd_trans ⟨(p : Int), Int.pow_succ ..⟩ h1)
  obtain ⟨z, rfl⟩ := h2
  have h3 : (p : Int) ^ (2 * s) * p ∣ (p : Int) ^ (2 * s) * (z * z) := by
    rw [← Int.pow_succ, show (p : Int) ^ (2 * s) * (z * z) = (p : Int) ^ s * z * ((p : Int) ^ s * z) by rw [show 2 * s = s + s by omega, Int.pow_add]; grind]; exact h1
  have h4 := Int.dvd_of_mul_dvd_mul_left (by have := ppos hp (2 * s); omega) h3
  have h5 : (p : Int) ∣ z := by rcases hp.idvd_mul h4 with d | d <;> exact d
  obtain ⟨y, rfl⟩ := h5
  have e2 := pow_split (p := p) (show (2 * s + 1 + 1) + (k - (2 * s + 2)) = k by omega)
  have e3 : (p : Int) ^ (2 * s + 1 + 1) = (p : Int) ^ (2 * s + 1) * p := Int.pow_succ ..
  have e4 : (p : Int) ^ s * (p * y) * ((p : Int) ^ s * (p * y)) = (p : Int) ^ (2 * s + 1) * (p * (y * y)) := by
    rw [show 2 * s + 1 = s + s + 1 by omega, Int.pow_succ, Int.pow_add]; grind
  rw [e4, e2, e3] at hm
  have h6 : (p : Int) ^ (2 * s + 1) * u = (p : Int) ^ (2 * s + 1) * (p * (y * y - (p : Int) ^ (k - (2 * s + 2)) * m)) := by
    rw [Int.mul_sub p, Int.mul_sub]
    have : (p : Int) ^ (2 * s + 1) * p * (p : Int) ^ (k - (2 * s + 2)) * m = (p : Int) ^ (2 * s + 1) * (p * ((p : Int) ^ (k - (2 * s + 2)) * m)) := by grind
    omega
  have h7 := Int.eq_of_mul_eq_mul_left (by have := ppos hp (2 * s + 1); omega) h6
  exact hu ⟨_, h7⟩
/-- an even exponent: the roots are multiples -/
theorem root_even {s k : Nat} {u x : Int} (hk : 2 * s < k) (h : Cg ((p : Int) ^ k) (x * x) ((p : Int) ^ (2 * s) * u)) : ∃ z, x = (p : Int) ^ s * z ∧ Cg ((p : Int) ^ (k - 2 * s)) (z * z) u := by
  obtain ⟨m, hm⟩ := h
  have e := pow_split (p := p) (show 2 * s + (k - 2 * s) = k by omega)
  have h1 : (p : Int) ^ (2 * s) ∣ x * x := ⟨u + (p : Int) ^ (k - 2 * s) * m, by rw [Int.mul_add, ← Int.mul_assoc, ← e]; omega⟩
  obtain ⟨z, rfl⟩ := sq_dvd hp s x h1
  refine ⟨z, rfl, m, ?_⟩
  have e2 : (p : Int) ^ s * z * ((p : Int) ^ s * z) = (p : Int) ^ (2 * s) * (z * z) := by rw [show 2 * s = s + s by omega, Int.pow_add]; grind
  rw [e2, e, ← Int.mul_sub, Int.mul_assoc] at hm
  exact Int.eq_of_mul_eq_mul_left (by have := ppos hp (2 * s); omega) hm
omit hp in
theorem root_even' {s k : Nat} {u z : Int} (hk : 2 * s ≤ k) (h : Cg ((p : Int) ^ (k - 2 * s)) (z * z) u) : Cg ((p : Int) ^ k) ((p : Int) ^ s * z * ((p : Int) ^ s * z)) ((p : Int) ^ (2 * s) * u) := by
  obtain ⟨m, hm⟩ := h
  have e := pow_split (p := p) (show 2 * s + (k - 2 * s) = k by omega)
  refine ⟨m, ?_⟩
  have e2 : (p : Int) ^ s * z * ((p : Int) ^ s * z) = (p : Int) ^ (2 * s) * (z * z) := by rw [show 2 * s = s + s by omega, Int.pow_add]; grind
  rw [e2, e, ← Int.mul_sub, hm, Int.mul_assoc]
end

/-- what the program builds of the roots of the unit -/
def outL (B : List Int) (step stride : Int) (most : Nat) : List Int := B.flatMap fun y => (List.range most).map fun j : Nat => y * step % stride + j * stride
theorem outL_len (B : List Int) (step stride : Int) (most : Nat) : (outL B step stride most).length = B.length * most := by
  unfold outL
  induction B with
  | nil => simp
  | cons y B ih => rw [List.flatMap_cons, List.length_append, ih, List.length_cons, Nat.add_mul]; simp; omega
theorem mem_outL {B : List Int} {step stride : Int} {most : Nat} {x : Int} : x ∈ outL B step stride most ↔ ∃ y ∈ B, ∃ j : Nat, j < most ∧ x = y * step % stride + j * stride := by
  unfold outL
  simp only [List.mem_flatMap, List.mem_map, List.mem_range]
  constructor
  · rintro ⟨y, hy, j, hj, rfl⟩; exact ⟨y, hy, j, hj, rfl⟩
  · rintro ⟨y, hy, j, hj, rfl⟩; exact ⟨y, hy, j, hj, rfl⟩
theorem stride_eq {r r' stride : Int} {j j' : Nat} (h0 : 0 ≤ r) (h1 : r < stride) (h0' : 0 ≤ r') (h1' : r' < stride) (h : r + j * stride = r' + j' * stride) : r = r' ∧ j = j' := by
  have hs : 0 < stride := by omega
  have e1 : (r + j * stride) % stride = r := by rw [Int.add_mul_emod_self_right]; exact Int.emod_eq_of_lt h0 h1
  have e2 : (r' + j' * stride) % stride = r' := by rw [Int.add_mul_emod_self_right]; exact Int.emod_eq_of_lt h0' h1'
  have e3 : r = r' := by rw [← e1, h, e2]
  refine ⟨e3, ?_⟩
  subst e3
  have h4 : (j : Int) * stride = j' * stride := by omega
  have := Int.eq_of_mul_eq_mul_right (by omega) h4
  omega
theorem outL_nodup {B : List Int} {step stride q' : Int} {most : Nat} (hB : B.Nodup) (hr : ∀ y ∈ B, 0 ≤ y ∧ y < q') (hs : 0 < step) (hst : stride = q' * step) : (outL B step stride most).Nodup := by
  have hm : ∀ y ∈ B, 0 ≤ y * step ∧ y * step < stride ∧ y * step % stride = y * step := fun y hy => by
    obtain ⟨h1, h2⟩ := hr y hy
    have h3 : 0 ≤ y * step := Int.mul_nonneg h1 (by omega)
    have h4 : y * step < stride := by rw [hst]; exact Int.mul_lt_mul_of_pos_right h2 hs
    exact ⟨h3, h4, Int.emod_eq_of_lt h3 h4⟩
  unfold outL
  rw [List.Nodup, List.pairwise_flatMap]
  refine ⟨fun y hy => ?_, ?_⟩
  · rw [List.pairwise_map]
    refine List.Pairwise.imp (fun {a b} hab e => ?_) (List.nodup_range (n := most))
    obtain ⟨h1, h2, h3⟩ := hm y hy
    rw [h3] at e
    exact hab (stride_eq h1 h2 h1 h2 e).2
  · refine List.Pairwise.imp_of_mem (fun {a b} ha hb hab => ?_) hB
    intro x hx y hy e
    obtain ⟨j, _, rfl⟩ := List.mem_map.1 hx
    obtain ⟨j', _, rfl⟩ := List.mem_map.1 hy
    obtain ⟨h1, h2, h3⟩ := hm a ha
    obtain ⟨h1', h2', h3'⟩ := hm b hb
    rw [h3, h3'] at e
    have := (stride_eq h1 h2 h1' h2' e).1
    exact hab (Int.eq_of_mul_eq_mul_right (by omega) this)

/-- a list of all roots -/
def IsRoots (B : List Int) (u q : Int) : Prop := B.Nodup ∧ ∀ y, y ∈ B ↔ 0 ≤ y ∧ y < q ∧ Cg q (y * y) u

theorem roots_unit {p : Nat} (hp : IsP p) {s k : Nat} {u : Int} {B : List Int} (hk : 2 * s < k) (hB : IsRoots B u ((p : Int) ^ (k - 2 * s))) :
    ((outL B ((p : Int) ^ s) ((p : Int) ^ (k - s)) (p ^ s)).mergeSort fun x y => decide (x ≤ y)) = rootsL ((p : Int) ^ (2 * s) * u) ((p : Int) ^ k) := by
  have hst : (p : Int) ^ (k - s) = (p : Int) ^ (k - 2 * s) * (p : Int) ^ s := by rw [← Int.pow_add]; congr 1; omega
  have hq : (p : Int) ^ k = (p : Int) ^ (k - s) * (p : Int) ^ s := by rw [← Int.pow_add]; congr 1; omega
  have ps := ppos hp s
  have pq := ppos hp (k - 2 * s)
  have hr : ∀ y ∈ B, 0 ≤ y ∧ y < (p : Int) ^ (k - 2 * s) := fun y hy => by have := (hB.2 y).1 hy; exact ⟨this.1, this.2.1⟩
  refine sort_eq (outL_nodup hB.1 hr ps hst) (rootsL_asc _ _) fun x => ?_
  rw [mem_outL, mem_rootsL]
  constructor
  · rintro ⟨y, hy, j, hj, rfl⟩
    obtain ⟨y0, y1, y2⟩ := (hB.2 y).1 hy
    have h3 : 0 ≤ y * (p : Int) ^ s := Int.mul_nonneg y0 (by omega)
    have h4 : y * (p : Int) ^ s < (p : Int) ^ (k - s) := by rw [hst]; exact Int.mul_lt_mul_of_pos_right y1 ps
    rw [Int.emod_eq_of_lt h3 h4]
    have hj2 : (j : Int) + 1 ≤ (p : Int) ^ s := by
      have : ((p ^ s : Nat) : Int) = (p : Int) ^ s := by push_cast; rfl
      omega
    have hj0 : 0 ≤ (j : Int) * (p : Int) ^ (k - s) := Int.mul_nonneg (by omega) (by omega)
    have hjm : ((j : Int) + 1) * (p : Int) ^ (k - s) ≤ (p : Int) ^ s * (p : Int) ^ (k - s) := Int.mul_le_mul_of_nonneg_right hj2 (by omega)
    rw [Int.add_mul, Int.one_mul] at hjm
    refine ⟨by omega, by rw [hq, Int.mul_comm ((p : Int) ^ (k - s)) ((p : Int) ^ s)]; omega, ?_⟩
    have e : y * (p : Int) ^ s + j * (p : Int) ^ (k - s) = (p : Int) ^ s * (y + j * (p : Int) ^ (k - 2 * s)) := by rw [hst]; grind
    rw [e]
    refine root_even' (p := p) (by omega) ?_
    have h5 : Cg ((p : Int) ^ (k - 2 * s)) (y + j * (p : Int) ^ (k - 2 * s)) y := ⟨j, by rw [Int.mul_comm]; omega⟩
    exact (h5.mul h5).trans y2
  · rintro ⟨x0, x1, x2⟩
    obtain ⟨z, rfl, hz⟩ := root_even hp hk x2
    have z0 : 0 ≤ z := by
      rcases Int.lt_or_le z 0 with g | g
      · have := Int.mul_neg_of_pos_of_neg ps g; omega
      · exact g
    have em := Int.emod_nonneg z (b := (p : Int) ^ (k - 2 * s)) (by omega)
    have em2 := Int.emod_lt_of_pos z pq
    have hy : z % (p : Int) ^ (k - 2 * s) ∈ B := (hB.2 _).2 ⟨em, em2, by have h5 := Cg.emod ((p : Int) ^ (k - 2 * s)) z; exact (h5.mul h5).trans hz⟩
    have hd := Int.mul_ediv_add_emod z ((p : Int) ^ (k - 2 * s))
    have hd0 := Int.ediv_nonneg z0 (show 0 ≤ (p : Int) ^ (k - 2 * s) by omega)
    refine ⟨_, hy, (z / (p : Int) ^ (k - 2 * s)).toNat, ?_, ?_⟩
    · have h6 : z < (p : Int) ^ (k - s) := by
        have : (p : Int) ^ s * z < (p : Int) ^ s * (p : Int) ^ (k - s) := by rw [Int.mul_comm _ ((p : Int) ^ (k - s)), ← hq]; exact x1
        exact Int.lt_of_mul_lt_mul_left this (by omega)
      have h7 : z / (p : Int) ^ (k - 2 * s) < (p : Int) ^ s := by
        refine Int.ediv_lt_of_lt_mul pq ?_
        rw [Int.mul_comm, ← hst]; exact h6
      have : ((p ^ s : Nat) : Int) = (p : Int) ^ s := by push_cast; rfl
      omega
    · have h3 : 0 ≤ z % (p : Int) ^ (k - 2 * s) * (p : Int) ^ s := Int.mul_nonneg em (by omega)
      have h4 : z % (p : Int) ^ (k - 2 * s) * (p : Int) ^ s < (p : Int) ^ (k - s) := by rw [hst]; exact Int.mul_lt_mul_of_pos_right em2 ps
      rw [Int.emod_eq_of_lt h3 h4, Int.toNat_of_nonneg hd0, hst]
      conv => lhs; rw [← hd]
      grind

theorem roots_zero {p : Nat} (hp : IsP p) {s k : Nat} (hk : k ≤ 2 * s) (hk2 : 2 * s ≤ k + 1) (hsk : s ≤ k) :
    ((outL [0] ((p : Int) ^ s) ((p : Int) ^ s) (p ^ (k - s))).mergeSort fun x y => decide (x ≤ y)) = rootsL 0 ((p : Int) ^ k) := by
  have hq : (p : Int) ^ k = (p : Int) ^ (k - s) * (p : Int) ^ s := by rw [← Int.pow_add]; congr 1; omega
  have ps := ppos hp s
  have pks := ppos hp (k - s)
  have hc : ((p ^ (k - s) : Nat) : Int) = (p : Int) ^ (k - s) := by push_cast; rfl
  refine sort_eq (outL_nodup (q' := 1) (by simp) (fun y hy => by simp at hy; omega) ps (by omega)) (rootsL_asc _ _) fun x => ?_
  rw [mem_outL, mem_rootsL]
  constructor
  · rintro ⟨y, hy, j, hj, rfl⟩
    simp at hy; subst hy
    have e : (0 : Int) * (p : Int) ^ s % (p : Int) ^ s + j * (p : Int) ^ s = j * (p : Int) ^ s := by simp
    rw [e]
    have hj0 : 0 ≤ (j : Int) * (p : Int) ^ s := Int.mul_nonneg (by omega) (by omega)
    have hjm : (j : Int) * (p : Int) ^ s < (p : Int) ^ (k - s) * (p : Int) ^ s := Int.mul_lt_mul_of_pos_right (by omega) ps
    refine ⟨hj0, by rw [hq]; exact hjm, ?_⟩
    refine Cg.zero_iff.2 (Int.dvd_trans ⟨(p : Int) ^ (2 * s - k), ?_⟩ ⟨(j : Int) * j, show _ = (p : Int) ^ (2 * s) * ((j : Int) * j) from ?_⟩)
    · rw [← Int.pow_add]; congr 1; omega
    · rw [show 2 * s = s + s by omega, Int.pow_add]; grind
  · rintro ⟨x0, x1, x2⟩
    have hd := Cg.zero_iff.1 x2
    have h1 : (p : Int) ^ s ∣ x := by
      by_cases hev : k = 2 * s
      · exact sq_dvd hp s x (hev ▸ hd)
      · have hs1 : k = 2 * (s - 1) + 1 := by omega
        obtain ⟨z, rfl⟩ := sq_dvd hp (s - 1) x (Int.dvd_trans ⟨(p : Int), by rw [← Int.pow_succ]; congr 1⟩ hd)
        have h3 : (p : Int) ^ (2 * (s - 1)) * p ∣ (p : Int) ^ (2 * (s - 1)) * (z * z) := by
          have e1 : (p : Int) ^ (2 * (s - 1)) * p = (p : Int) ^ k := by
            conv => rhs; rw [hs1, Int.pow_succ]
          rw [e1, show (p : Int) ^ (2 * (s - 1)) * (z * z) = (p : Int) ^ (s - 1) * z * ((p : Int) ^ (s - 1) * z) by rw [show 2 * (s - 1) = (s - 1) + (s - 1) by omega, Int.pow_add]; grind]; exact hd
        have h4 := Int.dvd_of_mul_dvd_mul_left (by have := ppos hp (2 * (s - 1)); omega) h3
        have h5 : (p : Int) ∣ z := by rcases hp.idvd_mul h4 with d | d <;> exact d
        obtain ⟨y, rfl⟩ := h5
        exact ⟨y, by rw [show (p : Int) ^ s = (p : Int) ^ (s - 1) * p by rw [← Int.pow_succ]; congr 1; omega]; grind⟩
    obtain ⟨z, rfl⟩ := h1
    have z0 : 0 ≤ z := by
      rcases Int.lt_or_le z 0 with g | g
      · have := Int.mul_neg_of_pos_of_neg ps g; omega
      · exact g
    refine ⟨0, by simp, z.toNat, ?_, ?_⟩
    · have : (p : Int) ^ s * z < (p : Int) ^ s * (p : Int) ^ (k - s) := by rw [Int.mul_comm _ ((p : Int) ^ (k - s)), ← hq]; exact x1
      have := Int.lt_of_mul_lt_mul_left this (by omega)
      omega
    · rw [Int.toNat_of_nonneg z0]; simp; rw [Int.mul_comm]
end FF
