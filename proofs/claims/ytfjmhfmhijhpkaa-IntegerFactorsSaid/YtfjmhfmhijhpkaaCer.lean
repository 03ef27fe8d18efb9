/- The steps that Certify lists, and that they prove the number a prime. -/
import Derived.Test.YtfjmhfmhijhpkaaCkp
import Derived.Test.YtfjmhfmhijhpkaaCrt0
namespace Go.Proofs.Ytfjmhfmhijhpkaa
open Go.RowKit FF

theorem least_nat {P : Nat → Prop} (r : Nat) : P r → ∃ m, P m ∧ m ≤ r ∧ ∀ s, s < m → ¬ P s := by
  induction r using Nat.strongRecOn with
  | ind r ih =>
    intro h
    by_cases hx : ∃ s, s < r ∧ P s
    · obtain ⟨s, hs, hp⟩ := hx
      obtain ⟨m, h1, h2, h3⟩ := ih s hs hp
      exact ⟨m, h1, by omega, h3⟩
    · exact ⟨r, h, Nat.le_refl _, fun s hs hp => hx ⟨s, hs, hp⟩⟩
theorem mem_of_primesOf {p q : Int} (hp : IsP p.toNat) (h : q ∈ primesOf (p - 1)) : IsP q.toNat ∧ 2 ≤ q ∧ q ≤ p - 1 ∧ (p - 1) % q = 0 := by
  have p2 := hp.1
  obtain ⟨h1, h2, h3⟩ := (primesOf_mem (by omega)).1 h
  have q2 := h1.1
  exact ⟨h1, by omega, Int.le_of_dvd (by omega) h3, Int.emod_eq_zero_of_dvd h3⟩
theorem root_exists {p : Int} (hp : IsP p.toNat) : ∃ r : Int, 1 ≤ r ∧ r < p ∧ genB r p (primesOf (p - 1)) = true ∧ ∀ s, 1 ≤ s → s < r → genB s p (primesOf (p - 1)) = false := by
  have p2 := hp.1
  have hm := fun q => mem_of_primesOf (q := q) hp
  have hnd := asc_nodup (primesOf_asc (m := p - 1) (by omega))
  obtain ⟨P, rfl⟩ : ∃ P : Nat, p = (P : Int) := ⟨p.toNat, by omega⟩
  rw [Int.toNat_natCast] at hp p2
  have hN : ((primesOf ((P : Int) - 1)).map Int.toNat).Nodup := by
    rw [List.Nodup, List.pairwise_map]
    refine hnd.imp_of_mem ?_
    intro a b ha hb hab
    have := (hm a ha).2.1
    have := (hm b hb).2.1
    omega
  obtain ⟨r, r1, r2, r3⟩ := primitive_root hp ((primesOf ((P : Int) - 1)).map Int.toNat) hN (by
    intro q hq
    obtain ⟨x, hx, rfl⟩ := List.mem_map.1 hq
    obtain ⟨h1, h2, h3, h4⟩ := hm x hx
    refine ⟨h1, ?_⟩
    have := Int.natAbs_dvd_natAbs.2 (Int.dvd_of_emod_eq_zero h4)
    rwa [show x.natAbs = x.toNat by omega, show ((P : Int) - 1).natAbs = P - 1 by omega] at this)
  have hg : genB (r : Int) P (primesOf ((P : Int) - 1)) = true := by
    unfold genB
    refine List.all_eq_true.2 (fun q hq => ?_)
    obtain ⟨h1, h2, h3, h4⟩ := hm q hq
    have := r3 q.toNat (List.mem_map.2 ⟨q, hq, rfl⟩)
    rw [gen1_one (by omega)]
    have hk : (((P : Int) - 1) / q).toNat = (P - 1) / q.toNat := by
      obtain ⟨Q, rfl⟩ : ∃ Q : Nat, q = (Q : Int) := ⟨q.toNat, by omega⟩
      rw [show (P : Int) - 1 = ((P - 1 : Nat) : Int) by omega, ← Int.natCast_ediv, Int.toNat_natCast, Int.toNat_natCast]
    rw [hk]
    cases hb : ((r : Int) ^ ((P - 1) / q.toNat) % (P : Int) == 1)
    · rfl
    · exfalso
      refine this (Cg.of_emod ?_)
      rw [eq_of_beq hb, one_mod (by omega)]
  obtain ⟨m, ⟨m1, m2⟩, m3, m4⟩ := least_nat (P := fun r : Nat => 1 ≤ r ∧ genB (r : Int) P (primesOf ((P : Int) - 1)) = true) r ⟨r1, hg⟩
  refine ⟨m, by omega, by omega, m2, fun s s1 s2 => ?_⟩
  cases hb : genB s P (primesOf ((P : Int) - 1))
  · rfl
  · exfalso
    refine m4 s.toNat (by omega) ⟨by omega, ?_⟩
    rw [show ((s.toNat : Nat) : Int) = s by omega]; exact hb
open Classical in
/-- the least primitive root -/
noncomputable def rootOf (p : Int) : Int := if h : ∃ r : Int, 1 ≤ r ∧ r < p ∧ genB r p (primesOf (p - 1)) = true ∧ ∀ s, 1 ≤ s → s < r → genB s p (primesOf (p - 1)) = false then Classical.choose h else 1
theorem rootOf_spec {p : Int} (hp : IsP p.toNat) : 1 ≤ rootOf p ∧ rootOf p < p ∧ genB (rootOf p) p (primesOf (p - 1)) = true ∧ ∀ s, 1 ≤ s → s < rootOf p → genB s p (primesOf (p - 1)) = false := by
  have h := root_exists hp
  unfold rootOf
  rw [dif_pos h]
  exact Classical.choose_spec h
theorem fermat_mod {p : Int} (hp : IsP p.toNat) {r : Int} (h1 : 1 ≤ r) (h2 : r < p) : r ^ (p - 1).toNat % p = 1 := by
  have p2 := hp.1
  obtain ⟨P, rfl⟩ : ∃ P : Nat, p = (P : Int) := ⟨p.toNat, by omega⟩
  rw [Int.toNat_natCast] at hp p2
  have := (fermat hp (a := r) (fun h => by have := Int.le_of_dvd (by omega) h; omega)).emod_eq
  rw [one_mod (by omega)] at this
  rw [show ((P : Int) - 1).toNat = P - 1 by omega]; exact this
/-- the step of a prime -/
noncomputable def stepOf (p : Int) : Stpp := (p, rootOf p, primesOf (p - 1))

theorem restL_not {q : Int} (hq : IsP q.toNat) : ∀ (l : List Int) (m : Int), 1 ≤ m → (∀ x ∈ l, IsP x.toNat) → l.Nodup → q ∈ l → ¬ q ∣ restL m l
  | [], _, _, _, _, h => by cases h
  | x :: l, m, hm, hl, hnd, h => by
    have hx := hl x (by simp)
    have x2 := hx.1
    obtain ⟨n1, n2⟩ := List.nodup_cons.1 hnd
    have hr := rest_le (p := x) (by omega) hm
    show ¬ q ∣ restL (rest x m) l
    by_cases hqx : q = x
    · rw [restL_dvd hq l (rest x m) hr.1 (fun y hy => ⟨hl y (by simp [hy]), fun e => n1 (by rw [← hqx, ← e]; exact hy)⟩), hqx]
      exact not_dvd_rest (by omega) (by omega)
    · rcases List.mem_cons.1 h with e | h
      · exact absurd e hqx
      · exact restL_not hq l (rest x m) hr.1 (fun y hy => hl y (by simp [hy])) n2 h
theorem restL_primesOf {m : Int} (hm : 1 ≤ m) : restL m (primesOf m) = 1 := by
  have hq := fun q => primesOf_mem (q := q) hm
  have h1 := restL_pos (l := primesOf m) hm (fun x hx => (primesOf_le hm hx).1)
  apply Classical.byContradiction
  intro hne
  obtain ⟨P, hP⟩ : ∃ P : Nat, restL m (primesOf m) = (P : Int) := ⟨(restL m (primesOf m)).toNat, by omega⟩
  obtain ⟨q, q1, q2⟩ := exists_prime_dvd P (by omega)
  have q3 : (q : Int) ∣ restL m (primesOf m) := by rw [hP]; exact Int.natCast_dvd_natCast.2 q2
  have q4 : IsP (q : Int).toNat := by rw [Int.toNat_natCast]; exact q1
  by_cases hmem : (q : Int) ∈ primesOf m
  · exact restL_not q4 _ m hm (fun x hx => ((hq x).1 hx).1) (asc_nodup (primesOf_asc hm)) hmem q3
  · refine hmem ((hq _).2 ⟨q4, by omega, ?_⟩)
    exact (restL_dvd q4 _ m hm (fun x hx => ⟨((hq x).1 hx).1, fun e => hmem (e ▸ hx)⟩)).1 q3
theorem getD_mem {l : List Int} {j : Nat} (h : j < l.length) : l.getD j 0 ∈ l := by
  rw [List.getD_eq_getElem?_getD, List.getElem?_eq_getElem h]; exact List.getElem_mem _
theorem asc_getD {l : List Int} (h : l.Pairwise (· < ·)) {i j : Nat} (hij : i < j) (hj : j < l.length) : l.getD i 0 < l.getD j 0 := by
  rw [List.getD_eq_getElem?_getD, List.getElem?_eq_getElem (by omega), List.getD_eq_getElem?_getD, List.getElem?_eq_getElem hj]
  exact List.pairwise_iff_getElem.1 h i j (by omega) hj hij
theorem mem_getD {l : List Int} {x : Int} (h : x ∈ l) : ∃ j, j < l.length ∧ l.getD j 0 = x := by
  obtain ⟨j, hj, he⟩ := List.mem_iff_getElem.1 h
  exact ⟨j, hj, by rw [List.getD_eq_getElem?_getD, List.getElem?_eq_getElem hj]; exact he⟩
/-- the step of a prime follows when its primes are known -/
theorem stepOk_of {S : List Int} {p : Int} (hp : IsP p.toNat) (h9 : p ≤ 1000000000) (hS : ∀ q ∈ primesOf (p - 1), q ∈ S) : stepOk S p (rootOf p) (primesOf (p - 1)) := by
  have p2 := hp.1
  obtain ⟨r1, r2, r3, r4⟩ := rootOf_spec hp
  refine ⟨⟨by omega, h9, r1, by omega⟩, fun j hj => ⟨hS _ (getD_mem hj), fun h0 => asc_getD (primesOf_asc (by omega)) (by omega) hj, (mem_of_primesOf hp (getD_mem hj)).2.2.2⟩, restL_primesOf (by omega), fermat_mod hp r1 r2, r3⟩
theorem map_getD {ks : List Int} {i : Nat} (h : i < ks.length) : (ks.map stepOf).getD i (0, 0, []) = stepOf (ks.getD i 0) := by
  rw [List.getD_eq_getElem?_getD, List.getElem?_map, List.getElem?_eq_getElem h, List.getD_eq_getElem?_getD, List.getElem?_eq_getElem h]; rfl
theorem nums_map {ks : List Int} : nums (ks.map stepOf) = ks := by
  unfold nums
  rw [List.map_map]
  exact (List.map_congr_left (fun a _ => rfl)).trans (List.map_id _)
theorem mem_take_of {l : List Int} {i j : Nat} (hj : j < l.length) (h : j < i) : l.getD j 0 ∈ l.take i := by
  rw [List.getD_eq_getElem?_getD, List.getElem?_eq_getElem hj]
  exact List.mem_take_iff_getElem.2 ⟨j, by omega, rfl⟩
/-- the steps of the numbers that are reached prove the number a prime -/
theorem cert_ok {n : Int} (hn : IsP n.toNat) (hn9 : n ≤ 1000000000) {ks : List Int} (hasc : ks.Pairwise (· < ·)) (hk : ∀ m, m ∈ ks ↔ FF.Reach n m) : CkE n (ks.map stepOf) 0 := by
  have hlen := reach_short hn hn9 (asc_nodup hasc) (fun m hm => (hk m).1 hm)
  obtain ⟨jn, jn1, jn2⟩ := mem_getD ((hk n).2 FF.Reach.base)
  refine .inr (.inl ⟨by rw [List.length_map]; omega, ⟨fun i hi => ?_, by rw [List.length_map]; omega, ?_⟩, rfl⟩)
  · rw [List.length_map] at hi
    rw [map_getD hi, ← List.map_take, nums_map]
    have hr := (hk _).1 (getD_mem hi)
    obtain ⟨h1, h2, h3⟩ := hr.prime hn
    show stepOk _ (ks.getD i 0) (rootOf (ks.getD i 0)) (primesOf (ks.getD i 0 - 1))
    refine stepOk_of h1 (by omega) (fun q hq => ?_)
    obtain ⟨q1, q2, q3, q4⟩ := mem_of_primesOf h1 hq
    obtain ⟨j, j1, j2⟩ := mem_getD ((hk q).2 (hr.step hq))
    rw [← j2]
    refine mem_take_of j1 ?_
    apply Classical.byContradiction
    intro hge
    rcases Nat.lt_or_ge i j with g | g
    · have := asc_getD hasc g j1; omega
    · rw [show j = i by omega] at j2; omega
  · rw [List.length_map, map_getD (by omega)]
    show ks.getD (ks.length - 1) 0 = n
    have hr := (hk _).1 (getD_mem (l := ks) (j := ks.length - 1) (by omega))
    obtain ⟨h1, h2, h3⟩ := hr.prime hn
    apply Classical.byContradiction
    intro hne
    rcases Nat.lt_or_ge jn (ks.length - 1) with g | g
    · have := asc_getD hasc g (by omega); omega
    · rw [show jn = ks.length - 1 by omega] at jn2; exact hne jn2
end Go.Proofs.Ytfjmhfmhijhpkaa
