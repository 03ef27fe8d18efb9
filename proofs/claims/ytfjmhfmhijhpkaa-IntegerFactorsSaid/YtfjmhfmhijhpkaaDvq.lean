/- Divisors of the program: the plain part. -/
import Derived.Test.YtfjmhfmhijhpkaaDvp
import Derived.Test.YtfjmhfmhijhpkaaUnits0
namespace Go.Proofs.Ytfjmhfmhijhpkaa
open Go.RowKit FF

/-- the divisors of M, in some order -/
def DS (M : Int) (O : List Int) : Prop := O.Nodup ∧ ∀ x, x ∈ O ↔ 1 ≤ x ∧ x ∣ M
theorem DS.one : DS 1 [1] := ⟨by simp, fun x => by
  rw [List.mem_singleton]
  constructor
  · rintro rfl; exact ⟨by decide, Int.dvd_refl 1⟩
  · rintro ⟨a, b⟩
    have := Int.le_of_dvd (by decide) b
    omega⟩
theorem ipow_dvd (p : Int) {a b : Nat} (h : a ≤ b) : p ^ a ∣ p ^ b := ⟨p ^ (b - a), by rw [← Int.pow_add, Nat.add_sub_cancel' h]⟩
theorem cancel_prime {p r : Int} (hp : IsP p.toNat) (h2 : 2 ≤ p) (hr : ¬ p ∣ r) (M : Int) : ∀ k : Nat, r ∣ M * p ^ k → r ∣ M
  | 0, h => by simpa using h
  | k + 1, h => by
    refine cancel_prime hp h2 hr M k ?_
    obtain ⟨c, hc⟩ := h
    obtain ⟨P, rfl⟩ : ∃ P : Nat, p = (P : Int) := ⟨p.toNat, by omega⟩
    rw [Int.toNat_natCast] at hp
    have : (P : Int) ∣ r * c := ⟨M * P ^ k, by rw [← hc, Int.pow_succ, Int.mul_comm (P : Int), Int.mul_assoc]⟩
    rcases hp.idvd_mul this with g | ⟨d, rfl⟩
    · exact absurd g hr
    · refine ⟨d, Int.eq_of_mul_eq_mul_right (show (P : Int) ≠ 0 by omega) ?_⟩
      rw [Int.mul_assoc, ← Int.pow_succ, hc, Int.mul_assoc, Int.mul_comm d]
theorem dvd_lower {p x M : Int} (hp : IsP p.toNat) (h2 : 2 ≤ p) (hx : 1 ≤ x) (j : Nat) (h : x ∣ M * p ^ (j + 1)) (hn : ¬ p ^ (j + 1) ∣ x) : x ∣ M * p ^ j := by
  have e := eq_pow_rest (p := p) h2 (show x ≠ 0 by omega)
  have hr := not_dvd_rest (p := p) h2 (show x ≠ 0 by omega)
  have hd := rest_dvd_self (p := p) h2 (show x ≠ 0 by omega)
  have h1 := cancel_prime hp h2 hr M (j + 1) (Int.dvd_trans hd h)
  have hv : vp p x ≤ j := by
    rcases Nat.lt_or_ge j (vp p x) with g | g
    · exfalso
      apply hn
      rw [e]
      exact Int.dvd_trans (ipow_dvd p (show j + 1 ≤ vp p x from g)) (Int.dvd_mul_right _ _)
    · exact g
  rw [e, Int.mul_comm M]
  exact Int.mul_dvd_mul (ipow_dvd p hv) h1
theorem DS.step {p M : Int} {j : Nat} {O D : List Int} (hp : IsP p.toNat) (h2 : 2 ≤ p) (hM : ¬ p ∣ M) (hO : DS (M * p ^ j) O) (hD : DS M D) : DS (M * p ^ (j + 1)) (O ++ D.map (· * p ^ (j + 1))) := by
  have hP : 1 ≤ p ^ (j + 1) := Int.pow_pos (by omega)
  have hPj : 1 ≤ p ^ j := Int.pow_pos (by omega)
  refine ⟨?_, fun x => ?_⟩
  · rw [List.nodup_append]
    refine ⟨hO.1, ?_, fun a ha b hb hab => ?_⟩
    · unfold List.Nodup
      rw [List.pairwise_map]
      exact hD.1.imp fun {a b} hne he => hne (Int.eq_of_mul_eq_mul_right (by omega) he)
    · subst hab
      obtain ⟨d, hd, rfl⟩ := List.mem_map.1 hb
      obtain ⟨-, h3⟩ := (hO.2 _).1 ha
      apply hM
      obtain ⟨c, hc⟩ := h3
      refine ⟨d * c, Int.eq_of_mul_eq_mul_right (show p ^ j ≠ 0 by omega) ?_⟩
      rw [hc, Int.pow_succ]
      simp only [Int.mul_comm, Int.mul_left_comm, Int.mul_assoc]
  · rw [List.mem_append, hO.2 x, List.mem_map]
    constructor
    · rintro (⟨a, b⟩ | ⟨d, hd, rfl⟩)
      · exact ⟨a, Int.dvd_trans b (Int.mul_dvd_mul (Int.dvd_refl M) (ipow_dvd p (Nat.le_succ j)))⟩
      · obtain ⟨a, b⟩ := (hD.2 d).1 hd
        refine ⟨?_, Int.mul_dvd_mul b (Int.dvd_refl _)⟩
        have := Int.mul_pos (show 0 < d by omega) (show 0 < p ^ (j + 1) by omega)
        show 1 ≤ d * p ^ (j + 1)
        omega
    · rintro ⟨a, b⟩
      by_cases hd : p ^ (j + 1) ∣ x
      · right
        obtain ⟨d, rfl⟩ := hd
        refine ⟨d, (hD.2 d).2 ⟨?_, ?_⟩, Int.mul_comm _ _⟩
        · rcases Int.lt_or_le 0 d with g | g
          · omega
          · have := Int.mul_nonpos_of_nonneg_of_nonpos (show 0 ≤ p ^ (j + 1) by omega) g
            omega
        · obtain ⟨c, hc⟩ := b
          refine ⟨c, Int.eq_of_mul_eq_mul_right (show p ^ (j + 1) ≠ 0 by omega) ?_⟩
          rw [hc]
          simp only [Int.mul_comm, Int.mul_left_comm, Int.mul_assoc]
      · exact .inl ⟨a, dvd_lower hp h2 a j b hd⟩
theorem succ_le_pow {p : Int} (h : 2 ≤ p) : ∀ j : Nat, ((j + 1 : Nat) : Int) ≤ p ^ j
  | 0 => by simp
  | j + 1 => by
    have ih := succ_le_pow h j
    have := Int.mul_le_mul_of_nonneg_left h (show 0 ≤ p ^ j by omega)
    rw [Int.pow_succ]
    omega
/-- the list as it grows by one prime -/
def DW (M p : Int) (j : Nat) (D O : List Int) : Prop := DS (M * p ^ j) O ∧ O.length = D.length * (j + 1)
theorem DW.start {M p : Int} {D : List Int} (h : DS M D) : DW M p 0 D D := ⟨by simpa using h, by omega⟩
theorem DW.step {p M : Int} {j : Nat} {O D : List Int} (hp : IsP p.toNat) (h2 : 2 ≤ p) (hM : ¬ p ∣ M) (hO : DW M p j D O) (hD : DS M D) : DW M p (j + 1) D (O ++ D.map (· * p ^ (j + 1))) :=
  ⟨DS.step hp h2 hM hO.1 hD, by rw [List.length_append, List.length_map, hO.2]; rw [Nat.mul_add D.length (j + 1) 1, Nat.mul_one]⟩
theorem DW.len {p M : Int} {j : Nat} {O D : List Int} (h2 : 2 ≤ p) (h : DW M p j D O) (hD : (D.length : Int) ≤ M) : (O.length : Int) ≤ M * p ^ j := by
  rw [h.2, Int.natCast_mul]
  exact Int.mul_le_mul hD (succ_le_pow h2 j) (by omega) (by omega)
theorem DS.sorted {n : Int} {O : List Int} (h : DS n O) : DivL n (sortI O) := by
  have hp := List.mergeSort_perm O (fun x y => decide (x ≤ y))
  have hs := List.pairwise_mergeSort (le := fun x y : Int => decide (x ≤ y)) (fun a b c h1 h2 => by simp at *; omega) (fun a b => by simp; omega) O
  have hnd : (sortI O).Nodup := hp.nodup_iff.2 h.1
  exact ⟨List.Pairwise.imp₂ (R := fun x y => decide (x ≤ y) = true) (S := fun x y => x ≠ y) (fun {a b} h1 h2 => by simp at h1; omega) hs hnd, fun x => by rw [← h.2 x]; exact hp.mem_iff⟩
theorem prodF_append : ∀ a b : List (Int × Nat), prodF (a ++ b) = prodF a * prodF b
  | [], b => by show prodF b = 1 * prodF b; omega
  | x :: a, b => by show x.1 ^ x.2 * prodF (a ++ b) = x.1 ^ x.2 * prodF a * prodF b; rw [prodF_append a b, Int.mul_assoc]
theorem prodF_take {F : List (Int × Nat)} {i : Nat} (h : i < F.length) : prodF (F.take (i + 1)) = prodF (F.take i) * (F.getD i (0, 0)).1 ^ (F.getD i (0, 0)).2 := by
  rw [List.take_add_one, List.getElem?_eq_getElem h, prodF_append, List.getD_eq_getElem?_getD, List.getElem?_eq_getElem h]
  show _ * (F[i].1 ^ F[i].2 * 1) = _
  rw [Int.mul_one]; rfl
theorem prodF_pos : ∀ l : List (Int × Nat), (∀ x ∈ l, 2 ≤ x.1) → 1 ≤ prodF l
  | [], _ => Int.le_refl 1
  | x :: l, h => by
    have h1 : 0 < x.1 ^ x.2 := Int.pow_pos (by have := h x (by simp); omega)
    have h2 := prodF_pos l (fun y hy => h y (by simp [hy]))
    exact Int.mul_pos h1 (by omega)
theorem prodF_not_dvd {q : Int} (hq : IsP q.toNat) (h0 : 2 ≤ q) : ∀ l : List (Int × Nat), (∀ x ∈ l, IsP x.1.toNat ∧ 2 ≤ x.1 ∧ x.1 ≠ q) → ¬ q ∣ prodF l
  | [], _, h => by have := Int.le_of_dvd (by decide) (show q ∣ 1 from h); omega
  | x :: l, hl, h => by
    obtain ⟨Q, rfl⟩ : ∃ Q : Nat, q = (Q : Int) := ⟨q.toNat, by omega⟩
    obtain ⟨h1, h2, h3⟩ := hl x (by simp)
    rw [Int.toNat_natCast] at hq
    rcases hq.idvd_mul h with g | g
    · have g2 := hq.idvd_pow g
      have : Q ∣ x.1.toNat := by
        have := Int.natAbs_dvd_natAbs.2 g2
        rwa [Int.natAbs_natCast, show x.1.natAbs = x.1.toNat by omega] at this
      have := hq.eq_of_dvd h1 this
      omega
    · exact prodF_not_dvd (q := (Q : Int)) (by rw [Int.toNat_natCast]; exact hq) h0 l (fun y hy => hl y (by simp [hy])) g
/-- what the i-th prime of a number brings -/
theorem facs_at {n : Int} (hn : 1 ≤ n) {i : Nat} (hi : i < (facs n).length) : ∃ p e M, (facs n).getD i (0, 0) = (p, e) ∧ prodF ((facs n).take i) = M ∧ prodF ((facs n).take (i + 1)) = M * p ^ e ∧ IsP p.toNat ∧ 2 ≤ p ∧ p ≤ n ∧ 1 ≤ e ∧ 1 ≤ M ∧ ¬ p ∣ M ∧ M * p ^ e ≤ n := by
  have ok := facs_ok hn
  have hmem : (facs n).getD i (0, 0) ∈ facs n := by rw [List.getD_eq_getElem?_getD, List.getElem?_eq_getElem hi]; exact List.getElem_mem _
  have hall : ∀ x ∈ facs n, 2 ≤ x.1 := fun x hx => by have := (ok.prime x hx).2.2.1; omega
  obtain ⟨q1, q2, q3, q4⟩ := ok.prime _ hmem
  have hM := prodF_pos ((facs n).take i) (fun x hx => hall x (List.mem_of_mem_take hx))
  have hD := prodF_pos ((facs n).drop (i + 1)) (fun x hx => hall x (List.mem_of_mem_drop hx))
  have hT := prodF_take hi
  have hprod : prodF ((facs n).take (i + 1)) * prodF ((facs n).drop (i + 1)) = n := by rw [← prodF_append, List.take_append_drop]; exact ok.prod
  have hnd := prodF_not_dvd q1 (by omega) ((facs n).take i) (fun x hx => by
    have hx' := List.mem_of_mem_take hx
    refine ⟨(ok.prime x hx').1, hall x hx', ?_⟩
    obtain ⟨j, hj, he⟩ := List.mem_iff_getElem.1 hx
    rw [List.length_take] at hj
    rw [List.getElem_take] at he
    have := List.pairwise_iff_getElem.1 ok.asc j i (by omega) hi (by omega)
    rw [List.getD_eq_getElem?_getD, List.getElem?_eq_getElem hi]
    show x.1 ≠ (facs n)[i].1
    rw [← he]; omega)
  have hT1 := prodF_pos ((facs n).take (i + 1)) (fun x hx => hall x (List.mem_of_mem_take hx))
  refine ⟨_, _, _, rfl, rfl, hT, q1, q3, q4, q2, hM, hnd, Int.le_trans (Int.le_of_eq hT.symm) ?_⟩
  have := Int.mul_le_mul_of_nonneg_left hD (show 0 ≤ prodF ((facs n).take (i + 1)) by omega)
  omega
end Go.Proofs.Ytfjmhfmhijhpkaa
