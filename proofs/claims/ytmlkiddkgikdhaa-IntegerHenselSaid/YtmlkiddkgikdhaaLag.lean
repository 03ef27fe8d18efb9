/- Plain number theory: a polynomial modulo a prime has no more roots than its degree; a number that is no square residue. -/
import Derived.Test.YtmlkiddkgikdhaaNt
namespace FF

/-- the value of a polynomial, lowest coefficient first -/
def evalP : List Int → Int → Int
  | [], _ => 0
  | c :: l, x => c + x * evalP l x
/-- the quotient by x - r -/
def divP (r : Int) : List Int → List Int
  | [] => []
  | _ :: l => match l with
    | [] => []
    | c' :: l' => evalP (c' :: l') r :: divP r (c' :: l')
theorem divP_spec (r : Int) : ∀ l : List Int, ∀ x, evalP l x - evalP l r = (x - r) * evalP (divP r l) x
  | [], x => by simp [evalP, divP]
  | [c], x => by simp [evalP, divP]
  | c :: c' :: l, x => by
    have ih := divP_spec r (c' :: l) x
    show c + x * evalP (c' :: l) x - (c + r * evalP (c' :: l) r) = (x - r) * (evalP (c' :: l) r + x * evalP (divP r (c' :: l)) x)
    have e1 : x * (evalP (c' :: l) x - evalP (c' :: l) r) = x * ((x - r) * evalP (divP r (c' :: l)) x) := by rw [ih]
    rw [Int.mul_sub] at e1
    rw [Int.mul_add, Int.sub_mul (x) r (evalP (c' :: l) r)]
    have e2 : (x - r) * (x * evalP (divP r (c' :: l)) x) = x * ((x - r) * evalP (divP r (c' :: l)) x) := by
      rw [← Int.mul_assoc, Int.mul_comm (x - r) x, Int.mul_assoc]
    omega
theorem divP_len (r : Int) : ∀ l : List Int, l ≠ [] → (divP r l).length + 1 = l.length
  | [], h => absurd rfl h
  | [c], _ => rfl
  | c :: c' :: l, _ => by show (divP r (c' :: l)).length + 1 + 1 = (c' :: l).length + 1; rw [divP_len r (c' :: l) (by simp)]
theorem divP_last (r : Int) : ∀ l : List Int, 2 ≤ l.length → (divP r l).getLast? = l.getLast?
  | [], h => by simp at h
  | [c], h => by simp at h
  | [c, c'], _ => by simp [divP, evalP]
  | c :: c' :: c'' :: l, _ => by
    have ih := divP_last r (c' :: c'' :: l) (by simp)
    show (evalP _ r :: evalP _ r :: divP r (c'' :: l)).getLast? = _
    rw [List.getLast?_cons_cons]
    rw [show (c :: c' :: c'' :: l).getLast? = (c' :: c'' :: l).getLast? from List.getLast?_cons_cons, ← ih]
    rfl

/-- no more roots than the degree -/
theorem roots_le {p : Nat} (hp : IsP p) : ∀ (R l : List Int) (c : Int), l.getLast? = some c → ¬ (p : Int) ∣ c → R.Pairwise (fun x y => ¬ Cg p x y) → (∀ x ∈ R, (p : Int) ∣ evalP l x) → R.length < l.length := by
  intro R
  induction R with
  | nil => intro l c hl _ _ _; cases l with
    | nil => simp at hl
    | cons _ _ => simp
  | cons r R ih =>
    intro l c hl hc hpw hr
    have hne : l ≠ [] := by rintro rfl; simp at hl
    have hlen := divP_len r l hne
    by_cases h1 : l.length = 1
    · exfalso
      match l, h1 with
      | [c0], _ =>
        simp at hl; subst hl
        have := hr r (by simp)
        simp [evalP] at this
        exact hc this
    · have h2 : 2 ≤ l.length := by
        have : l.length ≠ 0 := fun h => hne (List.eq_nil_of_length_eq_zero h)
        omega
      have := ih (divP r l) c (by rw [divP_last r l h2]; exact hl) hc (List.pairwise_cons.1 hpw).2 (fun x hx => by
        have d1 := hr x (by simp [hx])
        have d2 := hr r (by simp)
        have d3 : (p : Int) ∣ (x - r) * evalP (divP r l) x := by rw [← divP_spec]; exact Int.dvd_sub d1 d2
        rcases hp.idvd_mul d3 with d | d
        · exact absurd (Cg.symm (n := (p : Int)) (a := x) (b := r) d) ((List.pairwise_cons.1 hpw).1 x hx)
        · exact d)
      rw [List.length_cons]; omega

/-- x^n - 1 -/
def powP (n : Nat) : List Int := (-1) :: (List.replicate (n - 1) 0 ++ [1])
theorem evalP_rep (m : Nat) (x : Int) : evalP (List.replicate m 0 ++ [1]) x = x ^ m := by
  induction m with
  | zero => simp [evalP]
  | succ m ih =>
    rw [List.replicate_succ, List.cons_append]
    show 0 + x * evalP _ x = _
    rw [ih, Int.pow_succ, Int.mul_comm]; omega
theorem evalP_pow {n : Nat} (hn : 1 ≤ n) (x : Int) : evalP (powP n) x = x ^ n - 1 := by
  show -1 + x * evalP _ x = _
  rw [evalP_rep]
  have : n = n - 1 + 1 := by omega
  conv => rhs; rw [this, Int.pow_succ]
  rw [Int.mul_comm]; omega
/-- of p - 1 residues no more than n have the n-th power 1 -/
theorem pow_roots_le {p : Nat} (hp : IsP p) {n : Nat} (hn : 1 ≤ n) (R : List Int) (hpw : R.Pairwise (fun x y => ¬ Cg p x y)) (hr : ∀ x ∈ R, Cg p (x ^ n) 1) : R.length ≤ n := by
  have := roots_le hp R (powP n) 1 (by show ((-1 :: List.replicate (n - 1) 0) ++ [1]).getLast? = some 1; exact List.getLast?_concat) (fun h => by have := hp.1; have := Int.le_of_dvd (by omega) h; omega) hpw (fun x hx => by rw [evalP_pow hn]; exact hr x hx)
  simp [powP] at this
  omega
/-- the residues from 1 to m -/
def resL (m : Nat) : List Int := (List.range' 1 m).map fun i : Nat => (i : Int)
theorem resL_pw {p m : Nat} (h : m < p) : (resL m).Pairwise (fun x y => ¬ Cg p x y) := by
  unfold resL
  rw [List.pairwise_map]
  have h1 := List.pairwise_lt_range' (s := 1) (n := m) 
  refine List.Pairwise.imp_of_mem (fun {a b} ha hb hab => ?_) h1
  rw [List.mem_range'_1] at ha hb
  intro hc
  have := hc.eq_of_bounds (by omega) (by omega) (by omega) (by omega)
  omega
theorem resL_len (m : Nat) : (resL m).length = m := by simp [resL]
/-- a number that is no square residue -/
theorem nonresidue {p : Nat} (hp : IsP p) (h2 : p ≠ 2) : ∃ z : Nat, 2 ≤ z ∧ z < p ∧ leg z p = -1 := by
  apply Classical.byContradiction
  intro hno
  have ho := hp.odd h2
  have hp2 := hp.1
  have h := pow_roots_le hp (n := (p - 1) / 2) (by omega) (resL (p - 1)) (resL_pw (by omega)) (fun x hx => by
    obtain ⟨i, hi, rfl⟩ := List.mem_map.1 hx
    rw [List.mem_range'_1] at hi
    by_cases h1 : i = 1
    · subst h1; exact Cg.of_eq (by show (1 : Int) ^ _ = 1; exact Int.one_pow)
    · have hnd : ¬ (p : Int) ∣ (i : Int) := nat_lt_not_dvd (by omega) (by omega)
      rcases leg_ne hnd with e | e
      · unfold leg at e
        rw [if_neg (fun e => hnd (Int.dvd_of_emod_eq_zero e))] at e
        by_cases c : (i : Int) ^ ((p - 1) / 2) % p = 1
        · exact Cg.of_emod (by rw [c]; exact (Int.emod_eq_of_lt (by omega) (by omega)).symm)
        · rw [if_neg c] at e; omega
      · exact absurd ⟨i, by omega, by omega, e⟩ hno)
  rw [resL_len] at h
  omega
end FF
