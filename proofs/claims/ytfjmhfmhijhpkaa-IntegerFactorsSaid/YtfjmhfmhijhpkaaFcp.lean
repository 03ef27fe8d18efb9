/- When a list of prime powers is the factorization of a number: plain. -/
import Derived.Test.YtfjmhfmhijhpkaaCer
namespace Go.Proofs.Ytfjmhfmhijhpkaa
open Go.RowKit FF

theorem not_dvd_pow_other {p q : Nat} (hp : IsP p) (hq : IsP q) (hne : q ≠ p) (k : Nat) : ¬ (q : Int) ∣ (p : Int) ^ k := by
  induction k with
  | zero => intro h; have := Int.le_of_dvd (by decide) (show (q : Int) ∣ 1 from h); have := hq.1; omega
  | succ k ih =>
    intro h
    rw [Int.pow_succ] at h
    rcases hq.idvd_mul h with g | g
    · exact ih g
    · have g' := Int.natCast_dvd_natCast.1 g
      rcases hp.2 q g' with e | e
      · have := hq.1; omega
      · exact hne e
theorem vp_rest_other {p q m : Int} (hp : IsP p.toNat) (hq : IsP q.toNat) (hne : q ≠ p) (hm : 1 ≤ m) : vp q (rest p m) = vp q m := by
  have p2 := hp.1
  have q2 := hq.1
  obtain ⟨P, rfl⟩ : ∃ P : Nat, p = (P : Int) := ⟨p.toNat, by omega⟩
  obtain ⟨Q, rfl⟩ : ∃ Q : Nat, q = (Q : Int) := ⟨q.toNat, by omega⟩
  rw [Int.toNat_natCast] at hp hq p2 q2
  have he := eq_pow_rest (p := (P : Int)) (n := m) (by omega) (by omega)
  have hr := rest_pos (p := (P : Int)) (n := m) (by omega) (by omega)
  have h1 := (vp_mul hq (m := (P : Int) ^ vp P m) (n := rest P m) (Int.ne_of_gt (Int.pow_pos (by omega))) (by omega)).1
  rw [← he, vp_not (not_dvd_pow_other hp hq (by omega) _)] at h1
  omega
theorem vp_restL {q : Int} (hq : IsP q.toNat) : ∀ (ps : List Int) (m : Int), 1 ≤ m → (∀ p ∈ ps, IsP p.toNat ∧ q ≠ p) → vp q (restL m ps) = vp q m
  | [], _, _, _ => rfl
  | p :: ps, m, hm, h => by
    obtain ⟨h1, h2⟩ := h p (by simp)
    have p2 := h1.1
    show vp q (restL (rest p m) ps) = _
    rw [vp_restL hq ps (rest p m) (rest_le (by omega) hm).1 (fun x hx => h x (by simp [hx])), vp_rest_other h1 hq h2 hm]
theorem vp_self' {p : Int} (hp : 2 ≤ p) : vp p p = 1 := by
  have h := (vp_unique hp (k := 1) (r := 1) (fun h => by have := Int.le_of_dvd (by decide) h; omega)).1
  rwa [Int.mul_one, Int.pow_succ, Int.pow_zero, Int.one_mul] at h
theorem facT_vp : ∀ (f : Nat) (p n : Int), 2 ≤ p → 1 ≤ n → NoDiv p n → n + 1 ≤ f + p → ∀ x ∈ facT p n, x.2 = vp x.1 n := by
  refine fac_induction (Q := fun p n => ∀ x ∈ facT p n, x.2 = vp x.1 n) ?_ ?_ ?_
  · intro p n hp hn hd hl hm ih
    rw [facT_go hp hn hl, if_pos hm]
    intro x hx
    have hdv := Int.dvd_of_emod_eq_zero hm
    have hpp := hd.prime hp hdv
    have hok := facs_ok (n := n) hn
    rcases List.mem_cons.1 hx with rfl | hx
    · rfl
    · have h1 := ih x hx
      have hrl := (rest_le hp hn).1
      have hok2 := facT_ok (rest p n).toNat (p + 1) (rest p n) (by omega) hrl (by
        intro d d1 d2 d3
        rcases Int.lt_or_le d p with g | g
        · exact hd d d1 g (Int.dvd_trans d3 (rest_dvd_self hp (by omega)))
        · have : d = p := by omega
          subst this
          exact not_dvd_rest hp (by omega) d3) (by omega)
      obtain ⟨h2, h3, h4, h5⟩ := hok2.prime x hx
      rw [h1, vp_rest_other hpp h2 (by omega) hn]
  · intro p n hp hn hd hl hm ih
    rw [facT_go hp hn hl, if_neg hm]
    exact ih
  · intro p n hp hn hd hl
    rw [facT_end hl]
    intro x hx
    by_cases h1 : 1 < n
    · rw [if_pos h1, List.mem_singleton] at hx
      subst hx
      exact (vp_self' (by omega)).symm
    · rw [if_neg h1] at hx; cases hx
theorem facs_vp {n : Int} (hn : 1 ≤ n) : ∀ x ∈ facs n, x.2 = vp x.1 n := facT_vp n.toNat 2 n (by omega) hn (NoDiv.two n) (by omega)
/-- the factorization, with exponents as numbers -/
def castP (l : List (Int × Nat)) : List (Int × Int) := l.map fun x => (x.1, (x.2 : Int))
theorem castP_facs {n : Int} (hn : 1 ≤ n) : castP (facs n) = (primesOf n).map fun p => (p, (vp p n : Int)) := by
  unfold castP primesOf
  rw [List.map_map]
  exact List.map_congr_left fun x hx => by rw [facs_vp hn x hx]; rfl
/-- what CheckFactor looks at at one place; ok: whether the proof there is right -/
def cfStep (n : Int) (l : List (Int × Int)) (ok : Nat → Prop) (i : Nat) : Prop :=
  1 ≤ (l.getD i (0, 0)).2 ∧ (0 < i → (l.getD (i - 1) (0, 0)).1 < (l.getD i (0, 0)).1) ∧ ok i ∧ (vp (l.getD i (0, 0)).1 (restL n ((l.take i).map fun x => x.1)) : Int) = (l.getD i (0, 0)).2
theorem getD_lt {l : List (Int × Int)} {i : Nat} (h : i < l.length) : l.getD i (0, 0) = l[i] := by
  rw [List.getD_eq_getElem?_getD, List.getElem?_eq_getElem h]; rfl
theorem cf_asc {n : Int} {l : List (Int × Int)} {ok : Nat → Prop} (h : ∀ i, i < l.length → cfStep n l ok i) : ∀ j i, i < j → j < l.length → (l.getD i (0, 0)).1 < (l.getD j (0, 0)).1 := by
  intro j
  induction j with
  | zero => intro i hi; omega
  | succ j ih =>
    intro i hi hj
    have h1 := (h (j + 1) hj).2.1 (by omega)
    rw [Nat.add_sub_cancel] at h1
    rcases Nat.lt_or_ge i j with g | g
    · have := ih i g (by omega); omega
    · rw [show i = j by omega]; exact h1
theorem cf_asc' {n : Int} {l : List (Int × Int)} {ok : Nat → Prop} (h : ∀ i, i < l.length → cfStep n l ok i) : (l.map fun x => x.1).Pairwise (· < ·) := by
  rw [List.pairwise_iff_getElem]
  intro i j hi hj hij
  rw [List.length_map] at hi hj
  have := cf_asc h j i hij hj
  rw [getD_lt hi, getD_lt hj] at this
  simpa using this
theorem cf_vp {n : Int} (hn : 1 ≤ n) {l : List (Int × Int)} {ok : Nat → Prop} (hok : ∀ i, i < l.length → ok i → IsP (l.getD i (0, 0)).1.toNat) (h : ∀ i, i < l.length → cfStep n l ok i) : ∀ i, i < l.length → (l.getD i (0, 0)).2 = (vp (l.getD i (0, 0)).1 n : Int) := by
  intro i hi
  rw [← (h i hi).2.2.2, vp_restL (hok i hi (h i hi).2.2.1) _ n hn]
  intro p hp
  obtain ⟨x, hx, rfl⟩ := List.mem_map.1 hp
  obtain ⟨j, hj, rfl⟩ := List.mem_iff_getElem.1 hx
  rw [List.length_take] at hj
  rw [List.getElem_take]
  have hjl : j < l.length := by omega
  have h1 := hok j hjl (h j hjl).2.2.1
  have h2 := cf_asc h i j (by omega) hi
  rw [getD_lt hjl] at h1 h2
  exact ⟨h1, by omega⟩
theorem cf_sound {n : Int} (hn : 1 ≤ n) {l : List (Int × Int)} {ok : Nat → Prop} (hok : ∀ i, i < l.length → ok i → IsP (l.getD i (0, 0)).1.toNat) (h : ∀ i, i < l.length → cfStep n l ok i) (hr : restL n (l.map fun x => x.1) = 1) : l = castP (facs n) := by
  have hv := cf_vp hn hok h
  have hps : ∀ p ∈ l.map (fun x => x.1), ∃ i, i < l.length ∧ (l.getD i (0, 0)).1 = p := by
    intro p hp
    obtain ⟨x, hx, rfl⟩ := List.mem_map.1 hp
    obtain ⟨j, hj, rfl⟩ := List.mem_iff_getElem.1 hx
    exact ⟨j, hj, by rw [getD_lt hj]⟩
  have hpr : ∀ p ∈ l.map (fun x => x.1), IsP p.toNat := by
    intro p hp
    obtain ⟨i, hi, rfl⟩ := hps p hp
    exact hok i hi (h i hi).2.2.1
  have heq : l.map (fun x => x.1) = primesOf n := by
    refine asc_unique (cf_asc' h) (primesOf_asc hn) (fun q => ?_)
    rw [primesOf_mem hn]
    constructor
    · intro hq
      obtain ⟨i, hi, rfl⟩ := hps q hq
      have h1 := hpr _ hq
      have h2 := h1.1
      refine ⟨h1, by omega, ?_⟩
      apply Classical.byContradiction
      intro hnd
      have h3 := hv i hi
      rw [vp_not hnd] at h3
      have := (h i hi).1
      omega
    · rintro ⟨h1, h2, h3⟩
      apply Classical.byContradiction
      intro hq
      have h4 := (restL_dvd h1 (l.map fun x => x.1) n hn (fun x hx => ⟨hpr x hx, fun e => hq (e ▸ hx)⟩)).2 h3
      rw [hr] at h4
      have := Int.le_of_dvd (by decide) h4
      have := h1.1
      omega
  rw [castP_facs hn, ← heq, List.map_map]
  conv => lhs; rw [← List.map_id l]
  refine List.map_congr_left fun x hx => ?_
  obtain ⟨j, hj, rfl⟩ := List.mem_iff_getElem.1 hx
  have := hv j hj
  rw [getD_lt hj] at this
  show l[j] = (l[j].1, _)
  exact Prod.ext rfl this
theorem cf_complete {n : Int} (hn : 1 ≤ n) {l : List (Int × Int)} {ok : Nat → Prop} (hl : l = castP (facs n)) (hok : ∀ i, i < l.length → ok i) : (∀ i, i < l.length → cfStep n l ok i) ∧ restL n (l.map fun x => x.1) = 1 := by
  have hm : l.map (fun x => x.1) = primesOf n := by
    rw [hl]; unfold castP primesOf; rw [List.map_map]; rfl
  have hasc := primesOf_asc hn
  refine ⟨fun i hi => ?_, by rw [hm]; exact restL_primesOf hn⟩
  have hlen : i < (primesOf n).length := by rw [← hm, List.length_map]; exact hi
  have hget : ∀ j, j < l.length → (l.getD j (0, 0)).1 = (primesOf n).getD j 0 ∧ (l.getD j (0, 0)).2 = (vp ((primesOf n).getD j 0) n : Int) := by
    intro j hj
    have hj2 : j < (primesOf n).length := by rw [← hm, List.length_map]; exact hj
    have e : l = (primesOf n).map fun p => (p, (vp p n : Int)) := by rw [hl, castP_facs hn]
    have e2 : l.getD j (0, 0) = ((primesOf n).getD j 0, (vp ((primesOf n).getD j 0) n : Int)) := by
      rw [e, List.getD_eq_getElem?_getD, List.getElem?_map, List.getElem?_eq_getElem hj2, List.getD_eq_getElem?_getD, List.getElem?_eq_getElem hj2]; rfl
    rw [e2]; exact ⟨rfl, rfl⟩
  obtain ⟨e1, e2⟩ := hget i hi
  obtain ⟨m1, m2, m3⟩ := (primesOf_mem hn).1 (getD_mem hlen)
  have q2 := m1.1
  refine ⟨?_, fun h0 => ?_, hok i hi, ?_⟩
  · rw [e2]
    have := vp_pos (p := (primesOf n).getD i 0) (n := n) (by omega) hn (Int.emod_eq_zero_of_dvd m3)
    omega
  · rw [e1, (hget (i - 1) (by omega)).1]
    exact asc_getD hasc (by omega) hlen
  · rw [e1, e2, List.map_take, hm, vp_restL m1 _ n hn]
    intro p hp
    obtain ⟨j, hj, rfl⟩ := List.mem_iff_getElem.1 hp
    rw [List.length_take] at hj
    have hj2 : j < (primesOf n).length := by omega
    have hlt := asc_getD hasc (i := j) (j := i) (by omega) hlen
    rw [List.getElem_take]
    have : (primesOf n).getD j 0 = (primesOf n)[j] := by rw [List.getD_eq_getElem?_getD, List.getElem?_eq_getElem hj2]; rfl
    rw [← this]
    exact ⟨((primesOf_mem hn).1 (getD_mem hj2)).1, by omega⟩
end Go.Proofs.Ytfjmhfmhijhpkaa
