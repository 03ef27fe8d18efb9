/- Plain number theory: a polynomial modulo a prime has no more roots than its degree; a number that is no square residue. Plain number theory: square roots modulo prime powers. Plain number theory: roots of units modulo prime powers; the lift of a root; the root modulo a prime by orders of powers of 2. -/
import Derived.Test.YtfjmhfmhijhpkaaGreatDoorNt
namespace FF

/-- the value of a polynomial, lowest coefficient first -/
def evalP : List Int → Int → Int
  | [], _ => 0
  | c :: l, x => c + x * evalP l x
/-- the quotient by x - r -/
def divP (r : Int) : List Int → List Int
  | [] => []
  | _ :: l => match l with
    | [] => []
    | c' :: l' => evalP (c' :: l') r :: divP r (c' :: l')
theorem divP_spec (r : Int) : ∀ l : List Int, ∀ x, evalP l x - evalP l r = (x - r) * evalP (divP r l) x
  | [], x => by simp [evalP, divP]
  | [c], x => by simp [evalP, divP]
  | c :: c' :: l, x => by
    have ih := divP_spec r (c' :: l) x
    show c + x * evalP (c' :: l) x - (c + r * evalP (c' :: l) r) = (x - r) * (evalP (c' :: l) r + x * evalP (divP r (c' :: l)) x)
    have e1 : x * (evalP (c' :: l) x - evalP (c' :: l) r) = x * ((x - r) * evalP (divP r (c' :: l)) x) := by rw [ih]
    rw [Int.mul_sub] at e1
    rw [Int.mul_add, Int.sub_mul (x) r (evalP (c' :: l) r)]
    have e2 : (x - r) * (x * evalP (divP r (c' :: l)) x) = x * ((x - r) * evalP (divP r (c' :: l)) x) := by
      rw [← Int.mul_assoc, Int.mul_comm (x - r) x, Int.mul_assoc]
    omega
theorem divP_len (r : Int) : ∀ l : List Int, l ≠ [] → (divP r l).length + 1 = l.length
  | [], h => absurd rfl h
  | [c], _ => rfl
  | c :: c' :: l, _ => by show (divP r (c' :: l)).length + 1 + 1 = (c' :: l).length + 1; rw [divP_len r (c' :: l) (by simp)]
theorem divP_last (r : Int) : ∀ l : List Int, 2 ≤ l.length → (divP r l).getLast? = l.getLast?
  | [], h => by simp at h
  | [c], h => by simp at h
  | [c, c'], _ => by simp [divP, evalP]
  | c :: c' :: c'' :: l, _ => by
    have ih := divP_last r (c' :: c'' :: l) (by simp)
    show (evalP _ r :: evalP _ r :: divP r (c'' :: l)).getLast? = _
    rw [List.getLast?_cons_cons]
    rw [show (c :: c' :: c'' :: l).getLast? = (c' :: c'' :: l).getLast? from List.getLast?_cons_cons, ← ih]
    rfl

/-- no more roots than the degree -/
theorem roots_le {p : Nat} (hp : IsP p) : ∀ (R l : List Int) (c : Int), l.getLast? = some c → ¬ (p : Int) ∣ c → R.Pairwise (fun x y => ¬ Cg p x y) → (∀ x ∈ R, (p : Int) ∣ evalP l x) → R.length < l.length := by
  intro R
  induction R with
  | nil => intro l c hl _ _ _; cases l with
    | nil => simp at hl
    | cons _ _ => simp
  | cons r R ih =>
    intro l c hl hc hpw hr
    have hne : l ≠ [] := by rintro rfl; simp at hl
    have hlen := divP_len r l hne
    by_cases h1 : l.length = 1
    · exfalso
      match l, h1 with
      | [c0], _ =>
        simp at hl; subst hl
        have := hr r (by simp)
        simp [evalP] at this
        exact hc this
    · have h2 : 2 ≤ l.length := by
        have : l.length ≠ 0 := fun h => hne (List.eq_nil_of_length_eq_zero h)
        omega
      have := ih (divP r l) c (by rw [divP_last r l h2]; exact hl) hc (List.pairwise_cons.1 hpw).2 (fun x hx => by
        have d1 := hr x (by simp [hx])
        have d2 := hr r (by simp)
        have d3 : (p : Int) ∣ (x - r) * evalP (divP r l) x := by rw [← divP_spec]; exact Int.dvd_sub d1 d2
        rcases hp.idvd_mul d3 with d | d
        · exact absurd (Cg.symm (n := (p : Int)) (a := x) (b := r) d) ((List.pairwise_cons.1 hpw).1 x hx)
        · exact d)
      rw [List.length_cons]; omega

/-- x^n - 1 -/
def powP (n : Nat) : List Int := (-1) :: (List.replicate (n - 1) 0 ++ [1])
theorem evalP_rep (m : Nat) (x : Int) : evalP (List.replicate m 0 ++ [1]) x = x ^ m := by
  induction m with
  | zero => simp [evalP]
  | succ m ih =>
    rw [List.replicate_succ, List.cons_append]
    show 0 + x * evalP _ x = _
    rw [ih, Int.pow_succ, Int.mul_comm]; omega
theorem evalP_pow {n : Nat} (hn : 1 ≤ n) (x : Int) : evalP (powP n) x = x ^ n - 1 := by
  show -1 + x * evalP _ x = _
  rw [evalP_rep]
  have : n = n - 1 + 1 := by omega
  conv => rhs; rw [this, Int.pow_succ]
  rw [Int.mul_comm]; omega
/-- of p - 1 residues no more than n have the n-th power 1 -/
theorem pow_roots_le {p : Nat} (hp : IsP p) {n : Nat} (hn : 1 ≤ n) (R : List Int) (hpw : R.Pairwise (fun x y => ¬ Cg p x y)) (hr : ∀ x ∈ R, Cg p (x ^ n) 1) : R.length ≤ n := by
  have := roots_le hp R (powP n) 1 (by show ((-1 :: List.replicate (n - 1) 0) ++ [1]).getLast? = some 1; exact List.getLast?_concat) (fun h => by have := hp.1; have := Int.le_of_dvd (by omega) h; omega) hpw (fun x hx => by rw [evalP_pow hn]; exact hr x hx)
  simp [powP] at this
  omega
/-- the residues from 1 to m -/
def resL (m : Nat) : List Int := (List.range' 1 m).map fun i : Nat => (i : Int)
theorem resL_pw {p m : Nat} (h : m < p) : (resL m).Pairwise (fun x y => ¬ Cg p x y) := by
  unfold resL
  rw [List.pairwise_map]
  have h1 := List.pairwise_lt_range' (s := 1) (n := m) 
  refine List.Pairwise.imp_of_mem (fun {a b} ha hb hab => ?_) h1
  rw [List.mem_range'_1] at ha hb
  intro hc
  have := hc.eq_of_bounds (by omega) (by omega) (by omega) (by omega)
  omega
theorem resL_len (m : Nat) : (resL m).length = m := by simp [resL]
/-- a number that is no square residue -/
theorem nonresidue {p : Nat} (hp : IsP p) (h2 : p ≠ 2) : ∃ z : Nat, 2 ≤ z ∧ z < p ∧ leg z p = -1 := by
  apply Classical.byContradiction
  intro hno
  have ho := hp.odd h2
  have hp2 := hp.1
  have h := pow_roots_le hp (n := (p - 1) / 2) (by omega) (resL (p - 1)) (resL_pw (by omega)) (fun x hx => by
    obtain ⟨i, hi, rfl⟩ := List.mem_map.1 hx
    rw [List.mem_range'_1] at hi
    by_cases h1 : i = 1
    · subst h1; exact Cg.of_eq (by show (1 : Int) ^ _ = 1; exact Int.one_pow)
    · have hnd : ¬ (p : Int) ∣ (i : Int) := nat_lt_not_dvd (by omega) (by omega)
      rcases leg_ne hnd with e | e
      · unfold leg at e
        rw [if_neg (fun e => hnd (Int.dvd_of_emod_eq_zero e))] at e
        by_cases c : (i : Int) ^ ((p - 1) / 2) % p = 1
        · exact Cg.of_emod (by rw [c]; exact (Int.emod_eq_of_lt (by omega) (by omega)).symm)
        · rw [if_neg c] at e; omega
      · exact absurd ⟨i, by omega, by omega, e⟩ hno)
  rw [resL_len] at h
  omega
end FF
namespace FF

/-- all square roots of a modulo q, ascending -/
def rootsL (a q : Int) : List Int := ((List.range q.toNat).map fun i : Nat => (i : Int)).filter fun x => x * x % q == a % q
theorem mem_rootsL {a q x : Int} : x ∈ rootsL a q ↔ 0 ≤ x ∧ x < q ∧ Cg q (x * x) a := by
  unfold rootsL
  rw [List.mem_filter, List.mem_map, beq_iff_eq]
  constructor
  · rintro ⟨⟨i, hi, rfl⟩, h⟩
    rw [List.mem_range] at hi
    exact ⟨by omega, by omega, Cg.of_emod h⟩
  · rintro ⟨h1, h2, h3⟩
    exact ⟨⟨x.toNat, List.mem_range.2 (by omega), by omega⟩, h3.emod_eq⟩
theorem rootsL_asc (a q : Int) : (rootsL a q).Pairwise (· < ·) := by
  unfold rootsL
  refine List.Pairwise.filter _ ?_
  rw [List.pairwise_map]
  exact List.Pairwise.imp (fun h => by omega) List.pairwise_lt_range
theorem asc_ext : ∀ l m : List Int, l.Pairwise (· < ·) → m.Pairwise (· < ·) → (∀ x, x ∈ l ↔ x ∈ m) → l = m
  | [], [], _, _, _ => rfl
  | [], y :: m, _, _, h => by have := (h y).2 (by simp); simp at this
  | x :: l, [], _, _, h => by have := (h x).1 (by simp); simp at this
  | x :: l, y :: m, hl, hm, h => by
    obtain ⟨l1, l2⟩ := List.pairwise_cons.1 hl
    obtain ⟨m1, m2⟩ := List.pairwise_cons.1 hm
    have e : x = y := by
      rcases List.mem_cons.1 ((h x).1 (by simp)) with e | hx
      · exact e
      · rcases List.mem_cons.1 ((h y).2 (by simp)) with e | hy
        · exact e.symm
        · have := l1 y hy; have := m1 x hx; omega
    subst e
    rw [asc_ext l m l2 m2 (fun z => ?_)]
    have hz := h z
    rw [List.mem_cons, List.mem_cons] at hz
    constructor
    · intro g
      rcases hz.1 (.inr g) with e | g2
      · have := l1 z g; omega
      · exact g2
    · intro g
      rcases hz.2 (.inr g) with e | g2
      · have := m1 z g; omega
      · exact g2
theorem sort_eq {l m : List Int} (hn : l.Nodup) (hm : m.Pairwise (· < ·)) (h : ∀ x, x ∈ l ↔ x ∈ m) : (l.mergeSort fun x y => decide (x ≤ y)) = m := by
  have hp := List.mergeSort_perm l (fun x y => decide (x ≤ y))
  have hs := List.pairwise_mergeSort (le := fun x y : Int => decide (x ≤ y)) (fun a b c h1 h2 => by simp at *; omega) (fun a b => by simp; omega) l
  have hnd : (l.mergeSort fun x y => decide (x ≤ y)).Nodup := hp.nodup_iff.2 hn
  refine asc_ext _ _ ?_ hm (fun x => by rw [hp.mem_iff]; exact h x)
  refine List.Pairwise.imp₂ (R := fun x y => decide (x ≤ y) = true) (S := fun x y => x ≠ y) (fun {a b} h1 h2 => ?_) hs hnd
  simp at h1; omega

theorem pow_dvd_cancel {p : Nat} (hp : IsP p) {b c : Int} (hc : ¬ (p : Int) ∣ c) : ∀ k : Nat, (p : Int) ^ k ∣ c * b → (p : Int) ^ k ∣ b
  | 0, _ => ⟨b, by simp⟩
  | k + 1, h => by
    have hpos : (0 : Int) < (p : Int) ^ k := Int.pow_pos (by have := hp.1; omega)
    obtain ⟨b', rfl⟩ := pow_dvd_cancel hp hc k (Int.dvd_trans ⟨(p : Int), Int.pow_succ ..⟩ h)
    have h2 : (p : Int) ^ k * p ∣ (p : Int) ^ k * (c * b') := by rw [← Int.pow_succ, ← Int.mul_assoc, Int.mul_comm _ c, Int.mul_assoc]; exact h
    have h3 := Int.dvd_of_mul_dvd_mul_left (by omega) h2
    rcases hp.idvd_mul h3 with d | d
    · exact absurd d hc
    · rw [Int.pow_succ]; exact Int.mul_dvd_mul_left _ d
theorem sq_dvd {p : Nat} (hp : IsP p) : ∀ (s : Nat) (x : Int), (p : Int) ^ (2 * s) ∣ x * x → (p : Int) ^ s ∣ x
  | 0, x, _ => ⟨x, by simp⟩
  | s + 1, x, h => by
    have hp0 : (0 : Int) < p := by have := hp.1; omega
    have h1 : (p : Int) ∣ x := by
      have : (p : Int) ∣ x * x := Int.dvd_trans ⟨(p : Int) ^ (2 * s + 1), by rw [show 2 * (s + 1) = 2 * s + 1 + 1 by omega, Int.pow_succ, Int.mul_comm]⟩ h
      rcases hp.idvd_mul this with d | d <;> exact d
    obtain ⟨y, rfl⟩ := h1
    have h2 : (p : Int) * p * (p : Int) ^ (2 * s) ∣ (p : Int) * p * (y * y) := by
      have e1 : (p : Int) * p * (p : Int) ^ (2 * s) = (p : Int) ^ (2 * (s + 1)) := by rw [show 2 * (s + 1) = 2 * s + 1 + 1 by omega, Int.pow_succ, Int.pow_succ]; grind
      rw [e1, show (p : Int) * p * (y * y) = p * y * (p * y) by grind]; exact h
    have h3 := sq_dvd hp s y (Int.dvd_of_mul_dvd_mul_left (by have := Int.mul_pos hp0 hp0; omega) h2)
    rw [Int.pow_succ, Int.mul_comm]; exact Int.mul_dvd_mul_left _ h3

section
variable {p : Nat} (hp : IsP p)
include hp
theorem ppos (k : Nat) : (0 : Int) < (p : Int) ^ k := Int.pow_pos (by have := hp.1; omega)
omit hp in
theorem pow_split {i j k : Nat} (h : i + j = k) : (p : Int) ^ k = (p : Int) ^ i * (p : Int) ^ j := by rw [← h, Int.pow_add]
/-- an odd exponent: no roots -/
theorem no_root_odd {s k : Nat} {u x : Int} (hk : 2 * s + 1 < k) (hu : ¬ (p : Int) ∣ u) (h : Cg ((p : Int) ^ k) (x * x) ((p : Int) ^ (2 * s + 1) * u)) : False := by
  obtain ⟨m, hm⟩ := h
  have e := pow_split (p := p) (show (2 * s + 1) + (k - (2 * s + 1)) = k by omega)
  have h1 : (p : Int) ^ (2 * s + 1) ∣ x * x := ⟨u + (p : Int) ^ (k - (2 * s + 1)) * m, by rw [Int.mul_add, ← Int.mul_assoc, ← e]; omega⟩
  have h2 : (p : Int) ^ s ∣ x := sq_dvd hp s x (Int.dvd_trans ⟨(p : Int), Int.pow_succ ..⟩ h1)
  obtain ⟨z, rfl⟩ := h2
  have h3 : (p : Int) ^ (2 * s) * p ∣ (p : Int) ^ (2 * s) * (z * z) := by
    rw [← Int.pow_succ, show (p : Int) ^ (2 * s) * (z * z) = (p : Int) ^ s * z * ((p : Int) ^ s * z) by rw [show 2 * s = s + s by omega, Int.pow_add]; grind]; exact h1
  have h4 := Int.dvd_of_mul_dvd_mul_left (by have := ppos hp (2 * s); omega) h3
  have h5 : (p : Int) ∣ z := by rcases hp.idvd_mul h4 with d | d <;> exact d
  obtain ⟨y, rfl⟩ := h5
  have e2 := pow_split (p := p) (show (2 * s + 1 + 1) + (k - (2 * s + 2)) = k by omega)
  have e3 : (p : Int) ^ (2 * s + 1 + 1) = (p : Int) ^ (2 * s + 1) * p := Int.pow_succ ..
  have e4 : (p : Int) ^ s * (p * y) * ((p : Int) ^ s * (p * y)) = (p : Int) ^ (2 * s + 1) * (p * (y * y)) := by
    rw [show 2 * s + 1 = s + s + 1 by omega, Int.pow_succ, Int.pow_add]; grind
  rw [e4, e2, e3] at hm
  have h6 : (p : Int) ^ (2 * s + 1) * u = (p : Int) ^ (2 * s + 1) * (p * (y * y - (p : Int) ^ (k - (2 * s + 2)) * m)) := by
    rw [Int.mul_sub p, Int.mul_sub]
    have : (p : Int) ^ (2 * s + 1) * p * (p : Int) ^ (k - (2 * s + 2)) * m = (p : Int) ^ (2 * s + 1) * (p * ((p : Int) ^ (k - (2 * s + 2)) * m)) := by grind
    omega
  have h7 := Int.eq_of_mul_eq_mul_left (by have := ppos hp (2 * s + 1); omega) h6
  exact hu ⟨_, h7⟩
/-- an even exponent: the roots are multiples -/
theorem root_even {s k : Nat} {u x : Int} (hk : 2 * s < k) (h : Cg ((p : Int) ^ k) (x * x) ((p : Int) ^ (2 * s) * u)) : ∃ z, x = (p : Int) ^ s * z ∧ Cg ((p : Int) ^ (k - 2 * s)) (z * z) u := by
  obtain ⟨m, hm⟩ := h
  have e := pow_split (p := p) (show 2 * s + (k - 2 * s) = k by omega)
  have h1 : (p : Int) ^ (2 * s) ∣ x * x := ⟨u + (p : Int) ^ (k - 2 * s) * m, by rw [Int.mul_add, ← Int.mul_assoc, ← e]; omega⟩
  obtain ⟨z, rfl⟩ := sq_dvd hp s x h1
  refine ⟨z, rfl, m, ?_⟩
  have e2 : (p : Int) ^ s * z * ((p : Int) ^ s * z) = (p : Int) ^ (2 * s) * (z * z) := by rw [show 2 * s = s + s by omega, Int.pow_add]; grind
  rw [e2, e, ← Int.mul_sub, Int.mul_assoc] at hm
  exact Int.eq_of_mul_eq_mul_left (by have := ppos hp (2 * s); omega) hm
omit hp in
theorem root_even' {s k : Nat} {u z : Int} (hk : 2 * s ≤ k) (h : Cg ((p : Int) ^ (k - 2 * s)) (z * z) u) : Cg ((p : Int) ^ k) ((p : Int) ^ s * z * ((p : Int) ^ s * z)) ((p : Int) ^ (2 * s) * u) := by
  obtain ⟨m, hm⟩ := h
  have e := pow_split (p := p) (show 2 * s + (k - 2 * s) = k by omega)
  refine ⟨m, ?_⟩
  have e2 : (p : Int) ^ s * z * ((p : Int) ^ s * z) = (p : Int) ^ (2 * s) * (z * z) := by rw [show 2 * s = s + s by omega, Int.pow_add]; grind
  rw [e2, e, ← Int.mul_sub, hm, Int.mul_assoc]
end

/-- what the program builds of the roots of the unit -/
def outL (B : List Int) (step stride : Int) (most : Nat) : List Int := B.flatMap fun y => (List.range most).map fun j : Nat => y * step % stride + j * stride
theorem outL_len (B : List Int) (step stride : Int) (most : Nat) : (outL B step stride most).length = B.length * most := by
  unfold outL
  induction B with
  | nil => simp
  | cons y B ih => rw [List.flatMap_cons, List.length_append, ih, List.length_cons, Nat.add_mul]; simp; omega
theorem mem_outL {B : List Int} {step stride : Int} {most : Nat} {x : Int} : x ∈ outL B step stride most ↔ ∃ y ∈ B, ∃ j : Nat, j < most ∧ x = y * step % stride + j * stride := by
  unfold outL
  simp only [List.mem_flatMap, List.mem_map, List.mem_range]
  constructor
  · rintro ⟨y, hy, j, hj, rfl⟩; exact ⟨y, hy, j, hj, rfl⟩
  · rintro ⟨y, hy, j, hj, rfl⟩; exact ⟨y, hy, j, hj, rfl⟩
theorem stride_eq {r r' stride : Int} {j j' : Nat} (h0 : 0 ≤ r) (h1 : r < stride) (h0' : 0 ≤ r') (h1' : r' < stride) (h : r + j * stride = r' + j' * stride) : r = r' ∧ j = j' := by
  have hs : 0 < stride := by omega
  have e1 : (r + j * stride) % stride = r := by rw [Int.add_mul_emod_self_right]; exact Int.emod_eq_of_lt h0 h1
  have e2 : (r' + j' * stride) % stride = r' := by rw [Int.add_mul_emod_self_right]; exact Int.emod_eq_of_lt h0' h1'
  have e3 : r = r' := by rw [← e1, h, e2]
  refine ⟨e3, ?_⟩
  subst e3
  have h4 : (j : Int) * stride = j' * stride := by omega
  have := Int.eq_of_mul_eq_mul_right (by omega) h4
  omega
theorem outL_nodup {B : List Int} {step stride q' : Int} {most : Nat} (hB : B.Nodup) (hr : ∀ y ∈ B, 0 ≤ y ∧ y < q') (hs : 0 < step) (hst : stride = q' * step) : (outL B step stride most).Nodup := by
  have hm : ∀ y ∈ B, 0 ≤ y * step ∧ y * step < stride ∧ y * step % stride = y * step := fun y hy => by
    obtain ⟨h1, h2⟩ := hr y hy
    have h3 : 0 ≤ y * step := Int.mul_nonneg h1 (by omega)
    have h4 : y * step < stride := by rw [hst]; exact Int.mul_lt_mul_of_pos_right h2 hs
    exact ⟨h3, h4, Int.emod_eq_of_lt h3 h4⟩
  unfold outL
  rw [List.Nodup, List.pairwise_flatMap]
  refine ⟨fun y hy => ?_, ?_⟩
  · rw [List.pairwise_map]
    refine List.Pairwise.imp (fun {a b} hab e => ?_) (List.nodup_range (n := most))
    obtain ⟨h1, h2, h3⟩ := hm y hy
    rw [h3] at e
    exact hab (stride_eq h1 h2 h1 h2 e).2
  · refine List.Pairwise.imp_of_mem (fun {a b} ha hb hab => ?_) hB
    intro x hx y hy e
    obtain ⟨j, _, rfl⟩ := List.mem_map.1 hx
    obtain ⟨j', _, rfl⟩ := List.mem_map.1 hy
    obtain ⟨h1, h2, h3⟩ := hm a ha
    obtain ⟨h1', h2', h3'⟩ := hm b hb
    rw [h3, h3'] at e
    have := (stride_eq h1 h2 h1' h2' e).1
    exact hab (Int.eq_of_mul_eq_mul_right (by omega) this)

/-- a list of all roots -/
def IsRoots (B : List Int) (u q : Int) : Prop := B.Nodup ∧ ∀ y, y ∈ B ↔ 0 ≤ y ∧ y < q ∧ Cg q (y * y) u

theorem roots_unit {p : Nat} (hp : IsP p) {s k : Nat} {u : Int} {B : List Int} (hk : 2 * s < k) (hB : IsRoots B u ((p : Int) ^ (k - 2 * s))) :
    ((outL B ((p : Int) ^ s) ((p : Int) ^ (k - s)) (p ^ s)).mergeSort fun x y => decide (x ≤ y)) = rootsL ((p : Int) ^ (2 * s) * u) ((p : Int) ^ k) := by
  have hst : (p : Int) ^ (k - s) = (p : Int) ^ (k - 2 * s) * (p : Int) ^ s := by rw [← Int.pow_add]; congr 1; omega
  have hq : (p : Int) ^ k = (p : Int) ^ (k - s) * (p : Int) ^ s := by rw [← Int.pow_add]; congr 1; omega
  have ps := ppos hp s
  have pq := ppos hp (k - 2 * s)
  have hr : ∀ y ∈ B, 0 ≤ y ∧ y < (p : Int) ^ (k - 2 * s) := fun y hy => by have := (hB.2 y).1 hy; exact ⟨this.1, this.2.1⟩
  refine sort_eq (outL_nodup hB.1 hr ps hst) (rootsL_asc _ _) fun x => ?_
  rw [mem_outL, mem_rootsL]
  constructor
  · rintro ⟨y, hy, j, hj, rfl⟩
    obtain ⟨y0, y1, y2⟩ := (hB.2 y).1 hy
    have h3 : 0 ≤ y * (p : Int) ^ s := Int.mul_nonneg y0 (by omega)
    have h4 : y * (p : Int) ^ s < (p : Int) ^ (k - s) := by rw [hst]; exact Int.mul_lt_mul_of_pos_right y1 ps
    rw [Int.emod_eq_of_lt h3 h4]
    have hj2 : (j : Int) + 1 ≤ (p : Int) ^ s := by
      have : ((p ^ s : Nat) : Int) = (p : Int) ^ s := by push_cast; rfl
      omega
    have hj0 : 0 ≤ (j : Int) * (p : Int) ^ (k - s) := Int.mul_nonneg (by omega) (by omega)
    have hjm : ((j : Int) + 1) * (p : Int) ^ (k - s) ≤ (p : Int) ^ s * (p : Int) ^ (k - s) := Int.mul_le_mul_of_nonneg_right hj2 (by omega)
    rw [Int.add_mul, Int.one_mul] at hjm
    refine ⟨by omega, by rw [hq, Int.mul_comm ((p : Int) ^ (k - s)) ((p : Int) ^ s)]; omega, ?_⟩
    have e : y * (p : Int) ^ s + j * (p : Int) ^ (k - s) = (p : Int) ^ s * (y + j * (p : Int) ^ (k - 2 * s)) := by rw [hst]; grind
    rw [e]
    refine root_even' (p := p) (by omega) ?_
    have h5 : Cg ((p : Int) ^ (k - 2 * s)) (y + j * (p : Int) ^ (k - 2 * s)) y := ⟨j, by rw [Int.mul_comm]; omega⟩
    exact (h5.mul h5).trans y2
  · rintro ⟨x0, x1, x2⟩
    obtain ⟨z, rfl, hz⟩ := root_even hp hk x2
    have z0 : 0 ≤ z := by
      rcases Int.lt_or_le z 0 with g | g
      · have := Int.mul_neg_of_pos_of_neg ps g; omega
      · exact g
    have em := Int.emod_nonneg z (b := (p : Int) ^ (k - 2 * s)) (by omega)
    have em2 := Int.emod_lt_of_pos z pq
    have hy : z % (p : Int) ^ (k - 2 * s) ∈ B := (hB.2 _).2 ⟨em, em2, by have h5 := Cg.emod ((p : Int) ^ (k - 2 * s)) z; exact (h5.mul h5).trans hz⟩
    have hd := Int.mul_ediv_add_emod z ((p : Int) ^ (k - 2 * s))
    have hd0 := Int.ediv_nonneg z0 (show 0 ≤ (p : Int) ^ (k - 2 * s) by omega)
    refine ⟨_, hy, (z / (p : Int) ^ (k - 2 * s)).toNat, ?_, ?_⟩
    · have h6 : z < (p : Int) ^ (k - s) := by
        have : (p : Int) ^ s * z < (p : Int) ^ s * (p : Int) ^ (k - s) := by rw [Int.mul_comm _ ((p : Int) ^ (k - s)), ← hq]; exact x1
        exact Int.lt_of_mul_lt_mul_left this (by omega)
      have h7 : z / (p : Int) ^ (k - 2 * s) < (p : Int) ^ s := by
        refine Int.ediv_lt_of_lt_mul pq ?_
        rw [Int.mul_comm, ← hst]; exact h6
      have : ((p ^ s : Nat) : Int) = (p : Int) ^ s := by push_cast; rfl
      omega
    · have h3 : 0 ≤ z % (p : Int) ^ (k - 2 * s) * (p : Int) ^ s := Int.mul_nonneg em (by omega)
      have h4 : z % (p : Int) ^ (k - 2 * s) * (p : Int) ^ s < (p : Int) ^ (k - s) := by rw [hst]; exact Int.mul_lt_mul_of_pos_right em2 ps
      rw [Int.emod_eq_of_lt h3 h4, Int.toNat_of_nonneg hd0, hst]
      conv => lhs; rw [← hd]
      grind

theorem roots_zero {p : Nat} (hp : IsP p) {s k : Nat} (hk : k ≤ 2 * s) (hk2 : 2 * s ≤ k + 1) (hsk : s ≤ k) :
    ((outL [0] ((p : Int) ^ s) ((p : Int) ^ s) (p ^ (k - s))).mergeSort fun x y => decide (x ≤ y)) = rootsL 0 ((p : Int) ^ k) := by
  have hq : (p : Int) ^ k = (p : Int) ^ (k - s) * (p : Int) ^ s := by rw [← Int.pow_add]; congr 1; omega
  have ps := ppos hp s
  have pks := ppos hp (k - s)
  have hc : ((p ^ (k - s) : Nat) : Int) = (p : Int) ^ (k - s) := by push_cast; rfl
  refine sort_eq (outL_nodup (q' := 1) (by simp) (fun y hy => by simp at hy; omega) ps (by omega)) (rootsL_asc _ _) fun x => ?_
  rw [mem_outL, mem_rootsL]
  constructor
  · rintro ⟨y, hy, j, hj, rfl⟩
    simp at hy; subst hy
    have e : (0 : Int) * (p : Int) ^ s % (p : Int) ^ s + j * (p : Int) ^ s = j * (p : Int) ^ s := by simp
    rw [e]
    have hj0 : 0 ≤ (j : Int) * (p : Int) ^ s := Int.mul_nonneg (by omega) (by omega)
    have hjm : (j : Int) * (p : Int) ^ s < (p : Int) ^ (k - s) * (p : Int) ^ s := Int.mul_lt_mul_of_pos_right (by omega) ps
    refine ⟨hj0, by rw [hq]; exact hjm, ?_⟩
    refine Cg.zero_iff.2 (Int.dvd_trans ⟨(p : Int) ^ (2 * s - k), ?_⟩ ⟨(j : Int) * j, show _ = (p : Int) ^ (2 * s) * ((j : Int) * j) from ?_⟩)
    · rw [← Int.pow_add]; congr 1; omega
    · rw [show 2 * s = s + s by omega, Int.pow_add]; grind
  · rintro ⟨x0, x1, x2⟩
    have hd := Cg.zero_iff.1 x2
    have h1 : (p : Int) ^ s ∣ x := by
      by_cases hev : k = 2 * s
      · exact sq_dvd hp s x (hev ▸ hd)
      · have hs1 : k = 2 * (s - 1) + 1 := by omega
        obtain ⟨z, rfl⟩ := sq_dvd hp (s - 1) x (Int.dvd_trans ⟨(p : Int), by rw [← Int.pow_succ]; congr 1⟩ hd)
        have h3 : (p : Int) ^ (2 * (s - 1)) * p ∣ (p : Int) ^ (2 * (s - 1)) * (z * z) := by
          have e1 : (p : Int) ^ (2 * (s - 1)) * p = (p : Int) ^ k := by
            conv => rhs; rw [hs1, Int.pow_succ]
          rw [e1, show (p : Int) ^ (2 * (s - 1)) * (z * z) = (p : Int) ^ (s - 1) * z * ((p : Int) ^ (s - 1) * z) by rw [show 2 * (s - 1) = (s - 1) + (s - 1) by omega, Int.pow_add]; grind]; exact hd
        have h4 := Int.dvd_of_mul_dvd_mul_left (by have := ppos hp (2 * (s - 1)); omega) h3
        have h5 : (p : Int) ∣ z := by rcases hp.idvd_mul h4 with d | d <;> exact d
        obtain ⟨y, rfl⟩ := h5
        exact ⟨y, by rw [show (p : Int) ^ s = (p : Int) ^ (s - 1) * p by rw [← Int.pow_succ]; congr 1; omega]; grind⟩
    obtain ⟨z, rfl⟩ := h1
    have z0 : 0 ≤ z := by
      rcases Int.lt_or_le z 0 with g | g
      · have := Int.mul_neg_of_pos_of_neg ps g; omega
      · exact g
    refine ⟨0, by simp, z.toNat, ?_, ?_⟩
    · have : (p : Int) ^ s * z < (p : Int) ^ s * (p : Int) ^ (k - s) := by rw [Int.mul_comm _ ((p : Int) ^ (k - s)), ← hq]; exact x1
      have := Int.lt_of_mul_lt_mul_left this (by omega)
      omega
    · rw [Int.toNat_of_nonneg z0]; simp; rw [Int.mul_comm]
end FF
namespace FF

section
variable {p : Nat} (hp : IsP p) (h2 : p ≠ 2)
include hp
omit hp in
theorem dvd_pow_self {k : Nat} (hk : 1 ≤ k) : (p : Int) ∣ (p : Int) ^ k := ⟨(p : Int) ^ (k - 1), by rw [Int.mul_comm, ← Int.pow_succ]; congr 1; omega⟩
omit hp in
theorem unit_root {k : Nat} (hk : 1 ≤ k) {u x : Int} (hu : ¬ (p : Int) ∣ u) (hx : Cg ((p : Int) ^ k) (x * x) u) : ¬ (p : Int) ∣ x := by
  rintro ⟨y, rfl⟩
  refine hu ?_
  have h1 : Cg (p : Int) ((p : Int) * y * (p * y)) u := hx.of_dvd (dvd_pow_self hk)
  have h3 : Cg (p : Int) ((p : Int) * y * (p * y)) 0 := Cg.zero_iff.2 ⟨y * (p * y), by rw [Int.mul_assoc]⟩
  exact Cg.zero_iff.1 (h1.symm.trans h3)
include h2
theorem unit_two_roots {k : Nat} (hk : 1 ≤ k) {u x y : Int} (hu : ¬ (p : Int) ∣ u) (hx : Cg ((p : Int) ^ k) (x * x) u) (hy : Cg ((p : Int) ^ k) (y * y) u) :
    Cg ((p : Int) ^ k) y x ∨ Cg ((p : Int) ^ k) y (-x) := by
  have hd : (p : Int) ^ k ∣ (y - x) * (y + x) := by
    have := hy.trans hx.symm
    unfold Cg at this
    rw [show (y - x) * (y + x) = y * y - x * x by grind]; exact this
  have hx0 := unit_root hk hu hx
  by_cases c : (p : Int) ∣ y - x
  · left
    have hc : ¬ (p : Int) ∣ y + x := fun d => by
      have : (p : Int) ∣ 2 * x := by
        have := Int.dvd_sub d c
        rwa [show y + x - (y - x) = 2 * x by omega] at this
      rcases hp.idvd_mul this with d2 | d2
      · have h3 := Int.le_of_dvd (by omega) d2
        have := hp.1; omega
      · exact hx0 d2
    exact pow_dvd_cancel hp hc k (by rw [Int.mul_comm]; exact hd)
  · right
    unfold Cg
    rw [Int.sub_neg]
    exact pow_dvd_cancel hp c k hd
theorem unit_list {k : Nat} (hk : 1 ≤ k) {u x : Int} (hu : ¬ (p : Int) ∣ u) (hx : Cg ((p : Int) ^ k) (x * x) u) (h0 : 0 ≤ x) (h1 : x < (p : Int) ^ k) : IsRoots [x, (p : Int) ^ k - x] u ((p : Int) ^ k) := by
  have hx0 := unit_root hk hu hx
  have hpos : 0 < x := by
    rcases Int.lt_or_le 0 x with g | g
    · exact g
    · exact absurd (by rw [show x = 0 by omega]; exact Int.dvd_zero _) hx0
  refine ⟨?_, fun y => ⟨fun h => ?_, fun h => ?_⟩⟩
  · rw [List.nodup_cons]
    refine ⟨fun h => ?_, by simp⟩
    rw [List.mem_singleton] at h
    have h3 : (p : Int) ∣ 2 * x := by rw [show 2 * x = (p : Int) ^ k by omega]; exact dvd_pow_self hk
    rcases hp.idvd_mul h3 with d | d
    · have := Int.le_of_dvd (by omega) d
      have := hp.1; omega
    · exact hx0 d
  · simp only [List.mem_cons, List.not_mem_nil, or_false] at h
    rcases h with rfl | rfl
    · exact ⟨h0, h1, hx⟩
    · refine ⟨by omega, by omega, ?_⟩
      have h3 : Cg ((p : Int) ^ k) ((p : Int) ^ k - x) (-x) := ⟨1, by omega⟩
      have h4 := h3.mul h3
      rw [Int.neg_mul_neg] at h4
      exact h4.trans hx
  · obtain ⟨y0, y1, y2⟩ := h
    simp only [List.mem_cons, List.not_mem_nil, or_false]
    rcases unit_two_roots hp h2 hk hu hx y2 with c | c
    · left; exact c.eq_of_bounds y0 y1 h0 h1
    · right
      have h3 : Cg ((p : Int) ^ k) y ((p : Int) ^ k - x) := c.trans ⟨-1, by omega⟩
      exact h3.eq_of_bounds y0 y1 (by omega) (by omega)
theorem unit_none {k : Nat} (hk : 1 ≤ k) {u : Int} (hu : leg u p = -1) : IsRoots [] u ((p : Int) ^ k) := by
  refine ⟨List.nodup_nil, fun y => ⟨fun h => (by cases h), fun ⟨_, _, h⟩ => ?_⟩⟩
  exfalso
  have h1 : Cg (p : Int) (y * y) u := h.of_dvd (dvd_pow_self hk)
  have h3 := jac_congr (n := p) (hp.odd h2) h1
  rw [jac_prime hp, jac_prime hp, hu, leg_mul hp h2] at h3
  rcases leg_bound y p with ⟨b1, b2⟩
  have : leg y p = -1 ∨ leg y p = 0 ∨ leg y p = 1 := by omega
  rcases this with e | e | e <;> rw [e] at h3 <;> omega
end

/-- one step of the lift -/
theorem lift_step {m M a x v : Int} (hM2 : M ∣ m * m) (hx : Cg m (x * x) a) (hv : Cg M (2 * x * v) 1) :
    Cg M ((x - (x * x - a) * v) * (x - (x * x - a) * v)) a ∧ Cg m (x - (x * x - a) * v) x := by
  constructor
  · obtain ⟨d, hd⟩ := hx
    obtain ⟨e, he⟩ := hv
    obtain ⟨f, hf⟩ := hM2
    refine ⟨d * d * v * v * f - m * d * e, ?_⟩
    have h1 : (x * x - a) * (x * x - a) = M * (f * (d * d)) := by rw [hd, show m * d * (m * d) = m * m * (d * d) by grind, hf, Int.mul_assoc]
    have h2 : (x - (x * x - a) * v) * (x - (x * x - a) * v) - a = (x * x - a) - (x * x - a) * (2 * x * v) + (x * x - a) * (x * x - a) * (v * v) := by grind
    rw [h2, h1, show 2 * x * v = M * e + 1 by omega, hd]
    grind
  · obtain ⟨d, hd⟩ := hx
    exact ⟨-(d * v), by rw [hd]; grind⟩

/-- roots modulo powers of 2 -/
theorem two_none {k : Nat} (hk : 1 ≤ k) {u : Int} (ho : u % 2 = 1) (h : u % (min ((2 : Int) ^ k) 8) ≠ 1) : IsRoots [] u ((2 : Int) ^ k) := by
  refine ⟨List.nodup_nil, fun y => ⟨fun h => (by cases h), fun ⟨_, _, hy⟩ => ?_⟩⟩
  exfalso
  have h2 : (2 : Int) ∣ (2 : Int) ^ k := dvd_pow_self (p := 2) hk
  have ho2 : y % 2 = 1 := by
    have h3 := (hy.of_dvd h2).emod_eq
    rw [ho, Int.mul_emod] at h3
    rcases Int.emod_two_eq y with e | e
    · rw [e] at h3; omega
    · exact e
  have h8 : y * y % 8 = 1 := by
    rw [Int.mul_emod]
    have : y % 8 = 1 ∨ y % 8 = 3 ∨ y % 8 = 5 ∨ y % 8 = 7 := by omega
    rcases this with e | e | e | e <;> rw [e] <;> rfl
  have hk3 : k = 1 ∨ k = 2 ∨ 3 ≤ k := by omega
  rcases hk3 with rfl | rfl | hk3
  · have : min ((2 : Int) ^ 1) 8 = 2 := by decide
    rw [this] at h; exact h ho
  · have e4 : min ((2 : Int) ^ 2) 8 = 4 := by decide
    rw [e4] at h
    have h3 := hy.emod_eq
    have : (2 : Int) ^ 2 = 4 := by decide
    rw [this] at h3
    omega
  · have e8 : (8 : Int) ∣ (2 : Int) ^ k := ⟨2 ^ (k - 3), by rw [show (8 : Int) = 2 ^ 3 by decide, ← Int.pow_add]; congr 1; omega⟩
    have h3 := (hy.of_dvd e8).emod_eq
    have : min ((2 : Int) ^ k) 8 = 8 := by
      have := Int.le_of_dvd (Int.pow_pos (by omega)) e8
      omega
    rw [this] at h
    omega
theorem two_one {u : Int} (ho : u % 2 = 1) : IsRoots [1] u 2 := by
  refine ⟨by simp, fun y => ?_⟩
  rw [List.mem_singleton]
  constructor
  · rintro rfl; exact ⟨by omega, by omega, Cg.of_emod (by omega)⟩
  · rintro ⟨h0, h1, h⟩
    have h3 := h.emod_eq
    rcases (show y = 0 ∨ y = 1 by omega) with rfl | rfl
    · simp at h3; omega
    · rfl
theorem two_two {u : Int} (ho : u % 4 = 1) : IsRoots [1, 3] u 4 := by
  refine ⟨by simp, fun y => ?_⟩
  simp only [List.mem_cons, List.not_mem_nil, or_false]
  constructor
  · rintro (rfl | rfl) <;> exact ⟨by omega, by omega, Cg.of_emod (by omega)⟩
  · rintro ⟨h0, h1, h⟩
    have h3 := h.emod_eq
    rcases (show y = 0 ∨ y = 1 ∨ y = 2 ∨ y = 3 by omega) with rfl | rfl | rfl | rfl
    · simp at h3; omega
    · exact .inl rfl
    · simp at h3; omega
    · exact .inr rfl
theorem pow_two_split {k : Nat} (hk : 1 ≤ k) : (2 : Int) ^ k = 2 * 2 ^ (k - 1) := by
  rw [Int.mul_comm, ← Int.pow_succ]; congr 1; omega
theorem two_pow_pos (k : Nat) : (0 : Int) < 2 ^ k := Int.pow_pos (by omega)
theorem odd_cancel {m b : Int} (hm : m % 2 = 1) (k : Nat) (h : (2 : Int) ^ k ∣ m * b) : (2 : Int) ^ k ∣ b :=
  pow_dvd_cancel (p := 2) isP_two (fun d => by have := Int.emod_eq_zero_of_dvd d; push_cast at this; omega) k h
theorem two_list {k : Nat} (hk : 3 ≤ k) {u x : Int} (hx : Cg ((2 : Int) ^ k) (x * x) u) (ho : x % 2 = 1) (h0 : 0 ≤ x) (h1 : x < (2 : Int) ^ (k - 1)) :
    IsRoots [x, (2 : Int) ^ k - x, x + (2 : Int) ^ (k - 1), (2 : Int) ^ (k - 1) - x] u ((2 : Int) ^ k) := by
  have e := pow_two_split (k := k) (by omega)
  have e2 := pow_two_split (k := k - 1) (by omega)
  have e3 := pow_two_split (k := k - 1 - 1) (by omega)
  have hp1 := two_pow_pos (k - 1)
  have hp2 := two_pow_pos (k - 1 - 1)
  have hsq : Cg ((2 : Int) ^ k) ((2 : Int) ^ (k - 1) * (2 : Int) ^ (k - 1)) 0 := Cg.zero_iff.2 ⟨2 ^ (k - 2), by rw [← Int.pow_add, ← Int.pow_add]; congr 1; omega⟩
  have hr : ∀ y : Int, (∃ s t : Int, y = s * x + t * (2 : Int) ^ (k - 1) ∧ s * s = 1) → Cg ((2 : Int) ^ k) (y * y) u := by
    rintro y ⟨s, t, rfl, hs⟩
    obtain ⟨c, hc⟩ := hx
    obtain ⟨d, hd⟩ := hsq
    rw [Int.sub_zero] at hd
    refine ⟨c + s * t * x + t * t * d, ?_⟩
    have h3 : (s * x + t * 2 ^ (k - 1)) * (s * x + t * 2 ^ (k - 1)) = s * s * (x * x) + s * t * x * (2 * 2 ^ (k - 1)) + t * t * (2 ^ (k - 1) * 2 ^ (k - 1)) := by grind
    rw [h3, hs, ← e, hd]
    grind
  refine ⟨?_, fun y => ⟨fun h => ?_, fun ⟨y0, y1, y2⟩ => ?_⟩⟩
  · simp only [List.nodup_cons, List.mem_cons, List.not_mem_nil, or_false, not_or]
    refine ⟨⟨?_, ?_, ?_⟩, ⟨?_, ?_⟩, ?_, ?_⟩ <;> first | omega | simp
  · simp only [List.mem_cons, List.not_mem_nil, or_false] at h
    rcases h with rfl | rfl | rfl | rfl
    · exact ⟨h0, by omega, hx⟩
    · exact ⟨by omega, by omega, hr _ ⟨-1, 2, by omega, by omega⟩⟩
    · exact ⟨by omega, by omega, hr _ ⟨1, 1, by omega, by omega⟩⟩
    · exact ⟨by omega, by omega, hr _ ⟨-1, 1, by omega, by omega⟩⟩
  · have hd : (2 : Int) ^ k ∣ (y - x) * (y + x) := by
      have := y2.trans hx.symm
      unfold Cg at this
      rw [show (y - x) * (y + x) = y * y - x * x by grind]; exact this
    have hyo : y % 2 = 1 := by
      have h3 : y * y % 2 = x * x % 2 := ((y2.trans hx.symm).of_dvd (dvd_pow_self (p := 2) (show 1 ≤ k by omega))).emod_eq
      rw [Int.mul_emod, Int.mul_emod x x, ho] at h3
      rcases Int.emod_two_eq y with e | e
      · rw [e] at h3; simp at h3
      · exact e
    simp only [List.mem_cons, List.not_mem_nil, or_false]
    obtain ⟨m, hm⟩ : ∃ m, y - x = 2 * m := ⟨(y - x) / 2, by omega⟩
    obtain ⟨n, hn⟩ : ∃ n, y + x = 2 * n := ⟨(y + x) / 2, by omega⟩
    have hmn : (m + n) % 2 = 1 := by omega
    have hd2 : 2 * (2 : Int) ^ (k - 1) ∣ 2 * (2 * (m * n)) := by rw [← e, show 2 * (2 * (m * n)) = (2 * m) * (2 * n) by grind, ← hm, ← hn]; exact hd
    have hd3 := Int.dvd_of_mul_dvd_mul_left (by omega) hd2
    rw [e2] at hd3
    have hd4 := Int.dvd_of_mul_dvd_mul_left (by omega) hd3
    rcases Int.emod_two_eq m with em | em
    · -- n is odd
      obtain ⟨c, hc⟩ := odd_cancel (m := n) (b := m) (by omega) _ (by rw [Int.mul_comm]; exact hd4)
      have h3 : y - x = 2 ^ (k - 1) * c := by rw [hm, hc, e2]; grind
      have hcb : -1 ≤ c ∧ c ≤ 1 := by
        constructor
        · rcases Int.lt_or_le c (-1) with g | g
          · have : 2 ^ (k - 1) * c ≤ 2 ^ (k - 1) * (-2) := Int.mul_le_mul_of_nonneg_left (by omega) (by omega)
            omega
          · exact g
        · rcases Int.lt_or_le 1 c with g | g
          · have : 2 ^ (k - 1) * 2 ≤ 2 ^ (k - 1) * c := Int.mul_le_mul_of_nonneg_left (by omega) (by omega)
            omega
          · exact g
      rcases (show c = -1 ∨ c = 0 ∨ c = 1 by omega) with rfl | rfl | rfl
      · omega
      · left; omega
      · right; right; left; omega
    · obtain ⟨c, hc⟩ := odd_cancel (m := m) (b := n) em _ hd4
      have h3 : y + x = 2 ^ (k - 1) * c := by rw [hn, hc, e2]; grind
      have hcb : 0 ≤ c ∧ c ≤ 2 := by
        constructor
        · rcases Int.lt_or_le c 0 with g | g
          · have : 2 ^ (k - 1) * c ≤ 2 ^ (k - 1) * (-1) := Int.mul_le_mul_of_nonneg_left (by omega) (by omega)
            omega
          · exact g
        · rcases Int.lt_or_le 2 c with g | g
          · have : 2 ^ (k - 1) * 3 ≤ 2 ^ (k - 1) * c := Int.mul_le_mul_of_nonneg_left (by omega) (by omega)
            omega
          · exact g
      rcases (show c = 0 ∨ c = 1 ∨ c = 2 by omega) with rfl | rfl | rfl
      · omega
      · right; right; right; omega
      · right; left; omega
/-- one step of the roots modulo powers of 2 -/
theorem two_step {j : Nat} (hj : 3 ≤ j) {u x : Int} (hx : Cg ((2 : Int) ^ j) (x * x) u) (ho : x % 2 = 1) :
    (Cg ((2 : Int) ^ (j + 1)) (x * x) u ∨ ¬ Cg ((2 : Int) ^ (j + 1)) (x * x) u ∧ Cg ((2 : Int) ^ (j + 1)) ((x + 2 ^ (j - 1)) * (x + 2 ^ (j - 1))) u ∧ (x + 2 ^ (j - 1)) % 2 = 1) := by
  by_cases h : Cg ((2 : Int) ^ (j + 1)) (x * x) u
  · exact .inl h
  · right
    refine ⟨h, ?_, ?_⟩
    · obtain ⟨d, hd⟩ := hx
      have e1 : (2 : Int) ^ (j + 1) = 2 * 2 ^ j := pow_two_split (by omega)
      have e2 := pow_two_split (k := j) (by omega)
      have hdo : d % 2 = 1 := by
        rcases Int.emod_two_eq d with e | e
        · exfalso
          obtain ⟨f, rfl⟩ := Int.dvd_of_emod_eq_zero e
          exact h ⟨f, by rw [hd, e1]; grind⟩
        · exact e
      have hs : (2 : Int) ^ (j - 1) * 2 ^ (j - 1) = 2 ^ (j + 1) * 2 ^ (j - 3) := by rw [← Int.pow_add, ← Int.pow_add]; congr 1; omega
      obtain ⟨f, hf⟩ : ∃ f, d + x = 2 * f := ⟨(d + x) / 2, by omega⟩
      refine ⟨f + 2 ^ (j - 3), ?_⟩
      have h3 : (x + 2 ^ (j - 1)) * (x + 2 ^ (j - 1)) - u = (x * x - u) + x * (2 * 2 ^ (j - 1)) + 2 ^ (j - 1) * 2 ^ (j - 1) := by grind
      rw [h3, hd, ← e2, hs, Int.mul_add, e1]
      have : 2 ^ j * d + x * 2 ^ j = 2 * 2 ^ j * f := by rw [show 2 * 2 ^ j * f = 2 ^ j * (2 * f) by grind, ← hf]; grind
      omega
    · have : (2 : Int) ^ (j - 1) = 2 * 2 ^ (j - 2) := pow_two_split (k := j - 1) (by omega)
      omega

/-- what holds in the search of a root modulo a prime -/
structure Ton (p : Nat) (a : Int) (k : Nat) (x c t : Int) : Prop where
  k1 : 1 ≤ k
  xx : Cg p (x * x) (a * t)
  cc : Cg p (c ^ (2 ^ (k - 1))) (-1)
  tt : Cg p (t ^ (2 ^ (k - 1))) 1
theorem pow_two_pow (x : Int) (i : Nat) : x ^ (2 ^ (i + 1)) = x ^ (2 ^ i) * x ^ (2 ^ i) := by rw [Nat.pow_succ, Nat.mul_comm, Nat.two_mul, Int.pow_add]
theorem sq_pow (x : Int) (n : Nat) : (x * x) ^ n = x ^ n * x ^ n := Int.mul_pow ..
theorem Ton.start {p : Nat} (hp : IsP p) (h2 : p ≠ 2) {a z : Int} (ha : leg a p = 1) (hz : leg z p = -1) :
    Ton p a (vp 2 ((p : Int) - 1)) (a ^ (((rest 2 ((p : Int) - 1)).toNat + 1) / 2)) (z ^ (rest 2 ((p : Int) - 1)).toNat) (a ^ (rest 2 ((p : Int) - 1)).toNat) := by
  have ho := hp.odd h2
  have hp2 := hp.1
  have hn : (p : Int) - 1 ≠ 0 := by omega
  have hv : 1 ≤ vp 2 ((p : Int) - 1) := by
    rw [vp_dvd (by omega) hn (Int.dvd_of_emod_eq_zero (by omega))]; omega
  have he := eq_pow_rest (p := 2) (by omega) hn
  have hr := rest_pos (p := 2) (n := (p : Int) - 1) (by omega) (by omega)
  have hro := odd_rest_two hn
  generalize vp 2 ((p : Int) - 1) = k at *
  obtain ⟨o, hor⟩ : ∃ o : Nat, rest 2 ((p : Int) - 1) = o := ⟨(rest 2 ((p : Int) - 1)).toNat, by omega⟩
  have ho2 : o % 2 = 1 := by omega
  rw [hor] at he
  rw [hor, Int.toNat_natCast]
  clear hro hr hor
  have hd : (p - 1) / 2 = o * 2 ^ (k - 1) := by
    have h3 : p - 1 = 2 ^ k * o := by
      have : ((2 ^ k * o : Nat) : Int) = (p : Int) - 1 := by push_cast; exact he.symm
      omega
    have h4 : 2 ^ k = 2 ^ (k - 1) * 2 := by rw [← Nat.pow_succ]; congr 1; omega
    rw [h3, h4, Nat.mul_right_comm, Nat.mul_div_cancel _ (by omega), Nat.mul_comm]
  have hleg : ∀ y : Int, ∀ s : Int, leg y p = s → s ≠ 0 → Cg p ((y ^ o) ^ (2 ^ (k - 1))) s := by
    intro y s hy hs
    rw [← Int.pow_mul, ← hd, ← hy]
    exact (leg_cg hp h2 y).symm
  refine ⟨hv, Cg.of_eq ?_, hleg z (-1) hz (by omega), hleg a 1 ha (by omega)⟩
  have h5 : (o + 1) / 2 + (o + 1) / 2 = o + 1 := by omega
  rw [← Int.pow_add, h5, Int.pow_succ, Int.mul_comm]
/-- the order of t, and the new round -/
theorem Ton.step {p : Nat} (hp : IsP p) {a : Int} {k o : Nat} {x c t : Int} (h : Ton p a k x c t) (ho : 1 ≤ o) (h1 : Cg p (t ^ (2 ^ o)) 1) (hn : ¬ Cg p (t ^ (2 ^ (o - 1))) 1)
    {c' : Int} (hc : Cg p (c' ^ (2 ^ o)) (-1)) : Ton p a o (x * c') (c' * c') (t * (c' * c')) := by
  obtain ⟨k1, xx, cc, tt⟩ := h
  have e : o - 1 + 1 = o := by omega
  have hcc : Cg p ((c' * c') ^ (2 ^ (o - 1))) (-1) := by rw [sq_pow, ← pow_two_pow, e]; exact hc
  refine ⟨ho, ?_, hcc, ?_⟩
  · have := xx.mul_right (c' * c')
    rw [show x * c' * (x * c') = x * x * (c' * c') by grind, show a * (t * (c' * c')) = a * t * (c' * c') by grind]; exact this
  · rw [Int.mul_pow]
    have h3 : Cg p (t ^ (2 ^ (o - 1)) * t ^ (2 ^ (o - 1))) 1 := by rw [← pow_two_pow, e]; exact h1
    rcases Cg.sq_one hp h3 with h4 | h4
    · exact absurd h4 hn
    · exact h4.mul hcc
theorem Ton.down {p : Nat} {c : Int} {k : Nat} (hk : 2 ≤ k) (h : Cg p (c ^ (2 ^ (k - 1))) (-1)) : Cg p ((c * c) ^ (2 ^ (k - 1 - 1))) (-1) := by
  rw [sq_pow, ← pow_two_pow, show k - 1 - 1 + 1 = k - 1 by omega]; exact h
end FF
namespace FF
theorem Ton.congr {p : Nat} {a : Int} {k : Nat} {x c t x' c' t' : Int} (h : Ton p a k x c t) (hx : Cg p x' x) (hc : Cg p c' c) (ht : Cg p t' t) : Ton p a k x' c' t' := by
  obtain ⟨k1, xx, cc, tt⟩ := h
  exact ⟨k1, (hx.mul hx).trans (xx.trans (ht.symm.mul_left a)), (hc.pow _).trans cc, (ht.pow _).trans tt⟩
/-- what holds in the search of the order -/
def OrdRel (p : Nat) (t : Int) (o : Nat) (s : Int) : Prop := Cg p s (t ^ (2 ^ o)) ∧ ∀ i, i < o → ¬ Cg p (t ^ (2 ^ i)) 1
theorem OrdRel.start (p : Nat) (t : Int) : OrdRel p t 0 t := ⟨Cg.of_eq (by show t = t ^ 1; rw [Int.pow_succ, Int.pow_zero, Int.one_mul]), fun i hi => absurd hi (by omega)⟩
theorem OrdRel.ne {p : Nat} (hp : 2 ≤ p) {t s : Int} {o : Nat} (h : OrdRel p t o s) (h0 : 0 ≤ s) (h1 : s < p) (hs : s ≠ 1) : ¬ Cg p (t ^ (2 ^ o)) 1 :=
  fun hc => hs ((h.1.trans hc).eq_of_bounds h0 h1 (by omega) (by omega))
theorem OrdRel.next {p : Nat} (hp : 2 ≤ p) {t s s' : Int} {o : Nat} (h : OrdRel p t o s) (h0 : 0 ≤ s) (h1 : s < p) (hs : s ≠ 1) (hs' : Cg p s' (s * s)) : OrdRel p t (o + 1) s' := by
  refine ⟨hs'.trans (by rw [pow_two_pow]; exact h.1.mul h.1), fun i hi => ?_⟩
  by_cases e : i = o
  · subst e; exact h.ne hp h0 h1 hs
  · exact h.2 i (by omega)
/-- the rest of the powers of c -/
def DownRel (p : Nat) (c : Int) (k : Nat) : Prop := Cg p (c ^ (2 ^ (k - 1))) (-1)
theorem DownRel.next {p : Nat} {c c' : Int} {k : Nat} (hk : 2 ≤ k) (h : DownRel p c k) (hc : Cg p c' (c * c)) : DownRel p c' (k - 1) := (hc.pow _).trans (Ton.down hk h)
end FF
namespace FF
theorem gcd_pow_one {p : Nat} (hp : IsP p) {c : Int} (hc : ¬ (p : Int) ∣ c) (n : Nat) : Int.gcd c ((p : Int) ^ n) = 1 := by
  have h1 : ¬ p ∣ c.natAbs := fun h => hc (Int.dvd_natAbs.1 (Int.natCast_dvd_natCast.2 h))
  have h2 := (hp.coprime h1).symm
  unfold Int.gcd
  rw [Int.natAbs_pow, Int.natAbs_natCast]
  exact Nat.Coprime.pow_right n h2
/-- what holds in the lift of a root -/
structure LiftRel (p k : Nat) (a r m x : Int) : Prop where
  pw : ∃ j : Nat, 1 ≤ j ∧ j ≤ k ∧ m = (p : Int) ^ j
  x0 : 0 ≤ x
  xm : x < m
  xx : Cg m (x * x) a
  xr : Cg p x r
theorem LiftRel.start {p k : Nat} (hp : IsP p) (hk : 1 ≤ k) {a r : Int} (h : Cg p (r * r) a) : LiftRel p k a r p (r % p) := by
  have := hp.1
  have h1 := Cg.emod (p : Int) r
  exact ⟨⟨1, Nat.le_refl _, hk, by rw [Int.pow_succ, Int.pow_zero, Int.one_mul]⟩, Int.emod_nonneg _ (by omega), Int.emod_lt_of_pos _ (by omega), (h1.mul h1).trans h, h1⟩
theorem LiftRel.mul {p k : Nat} (hp : IsP p) {a r m x : Int} (h : LiftRel p k a r m x) (hlt : m < (p : Int) ^ k) : m * p ≤ (p : Int) ^ k ∧ 1 ≤ m ∧ 2 * m ≤ m * p := by
  obtain ⟨j, j1, j2, rfl⟩ := h.pw
  have hp2 := hp.1
  have hpos := ppos hp j
  have hjk : j < k := by
    rcases Nat.lt_or_ge j k with g | g
    · exact g
    · obtain rfl : j = k := by omega
      omega
  refine ⟨?_, by omega, ?_⟩
  · rw [← Int.pow_succ]
    have h2 : p ^ (j + 1) ≤ p ^ k := Nat.pow_le_pow_right (by omega) hjk
    have h3 : ((p ^ (j + 1) : Nat) : Int) ≤ ((p ^ k : Nat) : Int) := by omega
    push_cast at h3
    exact h3
  · rw [Int.mul_comm]; exact Int.mul_le_mul_of_nonneg_left (by omega) (by omega)
theorem LiftRel.ndvd {p k : Nat} (hp : IsP p) (h2 : p ≠ 2) {a r m x : Int} (h : LiftRel p k a r m x) (ha : ¬ (p : Int) ∣ a) : ¬ (p : Int) ∣ 2 * x := by
  intro hd
  have hp2 := hp.1
  rcases hp.idvd_mul hd with d | d
  · have := Int.le_of_dvd (by omega) d; omega
  · obtain ⟨j, j1, j2, rfl⟩ := h.pw
    exact unit_root j1 ha h.xx d
theorem LiftRel.gcd {p k : Nat} (hp : IsP p) (h2 : p ≠ 2) {a r m x : Int} (h : LiftRel p k a r m x) (ha : ¬ (p : Int) ∣ a) : Int.gcd (2 * x) (m * p) = 1 := by
  have hn := h.ndvd hp h2 ha
  obtain ⟨j, j1, j2, rfl⟩ := h.pw
  rw [← Int.pow_succ]; exact gcd_pow_one hp hn _
theorem LiftRel.next {p k : Nat} (hp : IsP p) (h2 : p ≠ 2) {a r m x : Int} (h : LiftRel p k a r m x) (ha : ¬ (p : Int) ∣ a) (hlt : m < (p : Int) ^ k) :
    LiftRel p k a r (m * p) ((x - (x * x - a) % (m * p) * invM (2 * x) (m * p)) % (m * p)) := by
  obtain ⟨q1, q2, q3⟩ := h.mul hp hlt
  have hg := h.gcd hp h2 ha
  obtain ⟨i0, i1, i2⟩ := invM_spec (a := 2 * x) (m := m * p) (by omega) hg
  have hM2 : m * p ∣ m * m := by
    obtain ⟨j, j1, j2, rfl⟩ := h.pw
    rw [← Int.pow_succ, ← Int.pow_add]
    exact ⟨(p : Int) ^ (j - 1), by rw [← Int.pow_add]; congr 1; omega⟩
  obtain ⟨s1, s2⟩ := lift_step hM2 h.xx i2
  have hc : Cg (m * p) ((x - (x * x - a) % (m * p) * invM (2 * x) (m * p)) % (m * p)) (x - (x * x - a) * invM (2 * x) (m * p)) := by
    refine (Cg.emod _ _).trans ((Cg.refl _ x).sub (Cg.mul_right _ ?_))
    exact Cg.emod _ _
  obtain ⟨j, j1, j2, hj⟩ := h.pw
  have hjk : j < k := by
    rcases Nat.lt_or_ge j k with g | g
    · exact g
    · obtain rfl : j = k := by omega
      omega
  refine ⟨⟨j + 1, by omega, hjk, by rw [hj, Int.pow_succ]⟩, Int.emod_nonneg _ (by omega), Int.emod_lt_of_pos _ (by omega), (hc.mul hc).trans s1, ?_⟩
  have hpm : (p : Int) ∣ m := hj ▸ dvd_pow_self j1
  exact ((hc.of_dvd (Int.dvd_trans hpm ⟨(p : Int), rfl⟩)).trans (s2.of_dvd hpm)).trans h.xr
theorem LiftRel.done {p k : Nat} (hp : IsP p) {a r m x : Int} (h : LiftRel p k a r m x) (hlt : ¬ m < (p : Int) ^ k) : m = (p : Int) ^ k := by
  obtain ⟨j, j1, j2, rfl⟩ := h.pw
  by_cases e : j = k
  · rw [e]
  · exfalso
    have hp2 := hp.1
    have h2 : p ^ j < p ^ k := Nat.pow_lt_pow_right (by omega) (by omega)
    have h3 : ((p ^ j : Nat) : Int) < ((p ^ k : Nat) : Int) := by omega
    push_cast at h3
    omega
end FF
namespace FF
theorem rootsL_congr {a b q : Int} (h : a % q = b % q) : rootsL a q = rootsL b q := by unfold rootsL; rw [h]
/-- the row of one root -/
def rowL (y step stride : Int) (m : Nat) : List Int := (List.range m).map fun j : Nat => y * step % stride + j * stride
theorem rowL_succ (y step stride : Int) (m : Nat) : rowL y step stride (m + 1) = rowL y step stride m ++ [y * step % stride + m * stride] := by
  unfold rowL; rw [List.range_succ, List.map_append]; rfl
theorem rowL_len (y step stride : Int) (m : Nat) : (rowL y step stride m).length = m := by simp [rowL]
theorem outL_take {B : List Int} {step stride : Int} {most i : Nat} (h : i < B.length) : outL (B.take (i + 1)) step stride most = outL (B.take i) step stride most ++ rowL (B.getD i 0) step stride most := by
  unfold outL rowL
  rw [List.take_succ_eq_append_getElem h, List.flatMap_append, List.getD_eq_getElem?_getD, List.getElem?_eq_getElem h]
  simp
/-- what the tail of Roots needs of a list of roots of the unit: all roots, at steps and strides -/
structure RootsPlan (a q : Int) (B : List Int) (T D : Int) (M : Nat) : Prop where
  srt : ((outL B T D M).mergeSort fun x y => decide (x ≤ y)) = rootsL a q
  len : B.length ≤ 4
  bnd : ∀ y ∈ B, 0 ≤ y * T ∧ y * T ≤ 1000000000
  T1 : 1 ≤ T
  D1 : 1 ≤ D
  M1 : 1 ≤ M
  MD : (M : Int) * D = q
theorem RootsPlan.count {a q T D : Int} {B : List Int} {M : Nat} (h : RootsPlan a q B T D M) : (rootsL a q).length = B.length * M := by
  rw [← h.srt, List.length_mergeSort, outL_len]
theorem pow_le_q {p i k : Nat} (hp : 1 ≤ p) (h : i ≤ k) : (p : Int) ^ i ≤ (p : Int) ^ k := by
  have h2 : p ^ i ≤ p ^ k := Nat.pow_le_pow_right hp h
  have h3 : ((p ^ i : Nat) : Int) ≤ ((p ^ k : Nat) : Int) := by omega
  push_cast at h3
  exact h3
theorem div_pow {p : Nat} (hp : IsP p) {i k : Nat} (h : i ≤ k) : (p : Int) ^ k / (p : Int) ^ i = (p : Int) ^ (k - i) := by
  rw [pow_split (p := p) (show i + (k - i) = k by omega)]
  exact Int.mul_ediv_cancel_left _ (by have := ppos hp i; omega)
theorem plan_zero {p : Nat} (hp : IsP p) {k : Nat} (hk : 1 ≤ k) : RootsPlan 0 ((p : Int) ^ k) [0] ((p : Int) ^ ((k + 1) / 2)) ((p : Int) ^ ((k + 1) / 2)) (p ^ (k - (k + 1) / 2)) := by
  have h1 := ppos hp ((k + 1) / 2)
  refine ⟨roots_zero hp (by omega) (by omega) (by omega), by simp, fun y hy => by simp at hy; subst hy; omega, by omega, by omega, Nat.pow_pos hp.pos, ?_⟩
  push_cast
  rw [← Int.pow_add]; congr 1; omega
theorem plan_unit {p : Nat} (hp : IsP p) {s k : Nat} {u : Int} {B : List Int} (hk : 2 * s < k) (hB : IsRoots B u ((p : Int) ^ (k - 2 * s))) (hl : B.length ≤ 4) (hq : (p : Int) ^ k ≤ 1000000000) :
    RootsPlan ((p : Int) ^ (2 * s) * u) ((p : Int) ^ k) B ((p : Int) ^ s) ((p : Int) ^ (k - s)) (p ^ s) := by
  have h1 := ppos hp s
  have h2 := ppos hp (k - s)
  refine ⟨roots_unit hp hk hB, hl, fun y hy => ?_, by omega, by omega, Nat.pow_pos hp.pos, ?_⟩
  · obtain ⟨y0, y1, _⟩ := (hB.2 y).1 hy
    have h3 : 0 ≤ y * (p : Int) ^ s := Int.mul_nonneg y0 (by omega)
    have h4 : y * (p : Int) ^ s ≤ (p : Int) ^ (k - 2 * s) * (p : Int) ^ s := Int.mul_le_mul_of_nonneg_right (by omega) (by omega)
    rw [← Int.pow_add, show k - 2 * s + s = k - s by omega] at h4
    have h5 := pow_le_q (p := p) (i := k - s) (k := k) hp.pos (by omega)
    omega
  · push_cast
    rw [← Int.pow_add]; congr 1; omega
end FF
