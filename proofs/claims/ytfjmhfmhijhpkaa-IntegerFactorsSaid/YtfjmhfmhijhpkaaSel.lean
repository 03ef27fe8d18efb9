/- The choice of the next number in order: plain. -/
import Derived.Test.YtfjmhfmhijhpkaaCer
namespace Go.Proofs.Ytfjmhfmhijhpkaa
open Go.RowKit FF

theorem insert_sorted (x : Int) : ∀ ks : List Int, ks.Pairwise (· < ·) → x ∉ ks → ∃ k2 : List Int, k2.Pairwise (· < ·) ∧ (∀ m, m ∈ k2 ↔ m = x ∨ m ∈ ks) ∧ k2.length = ks.length + 1
  | [], _, _ => ⟨[x], by simp, by simp, rfl⟩
  | y :: ks, h, hx => by
    obtain ⟨h1, h2⟩ := List.pairwise_cons.1 h
    have hxy : x ≠ y := fun e => hx (by rw [e]; simp)
    by_cases hlt : x < y
    · refine ⟨x :: y :: ks, List.pairwise_cons.2 ⟨fun a ha => ?_, h⟩, fun m => List.mem_cons, rfl⟩
      rcases List.mem_cons.1 ha with e | ha
      · omega
      · have := h1 a ha; omega
    · obtain ⟨k2, a1, a2, a3⟩ := insert_sorted x ks h2 (fun e => hx (by simp [e]))
      refine ⟨y :: k2, List.pairwise_cons.2 ⟨fun a ha => ?_, a1⟩, fun m => ?_, by simp [a3]⟩
      · rcases (a2 a).1 ha with e | ha
        · omega
        · exact h1 a ha
      · rw [List.mem_cons, a2 m, List.mem_cons]
        constructor
        · rintro (e | e | e)
          · exact .inr (.inl e)
          · exact .inl e
          · exact .inr (.inr e)
        · rintro (e | e | e)
          · exact .inr (.inl e)
          · exact .inl e
          · exact .inr (.inr e)
theorem sorted_exists : ∀ L : List Int, L.Nodup → ∃ ks : List Int, ks.Pairwise (· < ·) ∧ (∀ m, m ∈ ks ↔ m ∈ L) ∧ ks.length = L.length
  | [], _ => ⟨[], .nil, fun _ => Iff.rfl, rfl⟩
  | x :: L, h => by
    obtain ⟨h1, h2⟩ := List.nodup_cons.1 h
    obtain ⟨ks, a1, a2, a3⟩ := sorted_exists L h2
    obtain ⟨k2, b1, b2, b3⟩ := insert_sorted x ks a1 (fun e => h1 ((a2 x).1 e))
    exact ⟨k2, b1, fun m => by rw [b2 m, a2 m, List.mem_cons], by rw [b3, a3]; rfl⟩
/-- v is the least above last of the first i, or 0 -/
def Sel (L : List Int) (last v : Int) (i : Nat) : Prop :=
  (v = 0 ∧ ∀ j, j < i → L.getD j 0 ≤ last) ∨ (v ∈ L ∧ last < v ∧ ∀ j, j < i → last < L.getD j 0 → v ≤ L.getD j 0)
theorem Sel.start (L : List Int) (last : Int) : Sel L last 0 0 := .inl ⟨rfl, fun j hj => absurd hj (by omega)⟩
theorem below_succ {i : Nat} {P : Nat → Prop} (h : ∀ j, j < i → P j) (hi : P i) : ∀ j, j < i + 1 → P j := fun j hj => by
  rcases Nat.lt_or_ge j i with g | g
  · exact h j g
  · rw [show j = i by omega]; exact hi
theorem Sel.pick {L : List Int} {last v : Int} {i : Nat} (h : Sel L last v i) (hi : i < L.length) (h0 : ∀ m ∈ L, 2 ≤ m) (h1 : last < L.getD i 0) (h2 : v = 0 ∨ L.getD i 0 < v) : Sel L last (L.getD i 0) (i + 1) := by
  refine .inr ⟨getD_mem hi, h1, below_succ (fun j hj hl => ?_) (fun _ => Int.le_refl _)⟩
  rcases h with ⟨e, g⟩ | ⟨e1, e2, g⟩
  · have := g j hj; omega
  · have := g j hj hl
    rcases h2 with h2 | h2
    · have := h0 _ e1; omega
    · omega
theorem Sel.skip {L : List Int} {last v : Int} {i : Nat} (h : Sel L last v i) (h1 : L.getD i 0 ≤ last ∨ (v ≠ 0 ∧ v ≤ L.getD i 0)) : Sel L last v (i + 1) := by
  rcases h with ⟨e, g⟩ | ⟨e1, e2, g⟩
  · refine .inl ⟨e, below_succ g ?_⟩
    rcases h1 with h1 | h1
    · exact h1
    · exact absurd e h1.1
  · refine .inr ⟨e1, e2, below_succ g (fun h => ?_)⟩
    rcases h1 with h1 | h1
    · omega
    · exact h1.2
/-- the number before the t-th -/
def lastOf (ks : List Int) (t : Nat) : Int := if t = 0 then 0 else ks.getD (t - 1) 0
theorem Sel.done {L ks : List Int} {v : Int} {t : Nat} (hasc : ks.Pairwise (· < ·)) (hk : ∀ m, m ∈ ks ↔ m ∈ L) (h2 : ∀ m ∈ L, 2 ≤ m) (ht : t < ks.length) (h : Sel L (lastOf ks t) v L.length) : v = ks.getD t 0 := by
  have hx : ks.getD t 0 ∈ L := (hk _).1 (getD_mem ht)
  have hlt : lastOf ks t < ks.getD t 0 := by
    unfold lastOf
    split
    · have := h2 _ hx; omega
    · exact asc_getD hasc (by omega) ht
  obtain ⟨j, j1, j2⟩ := mem_getD hx
  rcases h with ⟨e, g⟩ | ⟨e1, e2, g⟩
  · have := g j j1; omega
  · have h3 := g j j1 (by omega)
    obtain ⟨u, u1, u2⟩ := mem_getD ((hk v).2 e1)
    rcases Nat.lt_or_ge u t with q | q
    · exfalso
      unfold lastOf at e2
      rw [if_neg (by omega)] at e2
      rcases Nat.lt_or_ge u (t - 1) with r | r
      · have := asc_getD hasc r (by omega); omega
      · rw [show t - 1 = u by omega] at e2; omega
    · rcases Nat.lt_or_ge t u with r | r
      · have := asc_getD hasc r u1; omega
      · rw [← u2, show u = t by omega]
end Go.Proofs.Ytfjmhfmhijhpkaa
