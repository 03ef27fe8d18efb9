/- Lists of prime powers and lists of proofs in memory, and as they came in. -/
import Derived.Test.YtfjmhfmhijhpkaaOst
import Derived.Test.YtfjmhfmhijhpkaaFacs0
import Derived.Test.YtfjmhfmhijhpkaaFcp
namespace Go.Proofs.Ytfjmhfmhijhpkaa
open Go.RowKit Go.WideShapes Go.ChangeShapes Go.Joins Go.Deep FF

/-- a list of pairs of numbers -/
def ShowsW (w : World) (A : Option Addr) (l : List (Int × Int)) : Prop :=
  0 < l.length → ∃ b o, A = some ⟨b, o, none⟩ ∧ b < w.heap.size ∧ ∀ i, i < l.length → w.cell? ⟨b, o + i * 2, none⟩ = some (.int .i64 (l.getD i (0, 0)).1) ∧ w.cell? ⟨b, o + i * 2 + 1, none⟩ = some (.int .i64 (l.getD i (0, 0)).2)
theorem ShowsW.below {w w' : World} {A : Option Addr} {l : List (Int × Int)} (h : ShowsW w A l) (hb : Below w.heap.size w w') : ShowsW w' A l := by
  intro hl
  obtain ⟨b, o, e, hlt, hc⟩ := h hl
  exact ⟨b, o, e, Nat.lt_of_lt_of_le hlt hb.size, fun i hi => ⟨(hb.cell (p := ⟨b, o + i * 2, none⟩) hlt).trans (hc i hi).1, (hb.cell (p := ⟨b, o + i * 2 + 1, none⟩) hlt).trans (hc i hi).2⟩⟩
theorem castP_get {l : List (Int × Nat)} {i : Nat} (h : i < l.length) : (castP l).getD i (0, 0) = ((l.getD i (0, 0)).1, ((l.getD i (0, 0)).2 : Int)) := by
  unfold castP
  rw [List.getD_eq_getElem?_getD, List.getElem?_map, List.getElem?_eq_getElem h, List.getD_eq_getElem?_getD, List.getElem?_eq_getElem h]; rfl
theorem castP_len (l : List (Int × Nat)) : (castP l).length = l.length := by unfold castP; rw [List.length_map]
theorem ShowsW.flat {w : World} {A : Option Addr} {l : List (Int × Nat)} (h : ShowsI w A (flatP l)) : ShowsW w A (castP l) := by
  intro hl
  rw [castP_len] at hl
  obtain ⟨b, o, e, hb, hc⟩ := h (by rw [flatP_len]; omega)
  refine ⟨b, o, e, hb, fun i hi => ?_⟩
  rw [castP_len] at hi
  have h0 := hc (2 * i) (by rw [flatP_len]; omega)
  have h1 := hc (2 * i + 1) (by rw [flatP_len]; omega)
  rw [(flatP_get hi).1, Nat.mul_comm 2 i] at h0
  rw [(flatP_get hi).2, Nat.mul_comm 2 i, ← Nat.add_assoc] at h1
  rw [castP_get hi]
  exact ⟨h0, h1⟩
/-- a list of lists of steps -/
def ShowsL (w : World) (A : Option Addr) (Ls : List (List Stpp)) : Prop :=
  0 < Ls.length → ∃ b o, A = some ⟨b, o, none⟩ ∧ b < w.heap.size ∧ ∀ i, i < Ls.length → ∃ A' c', w.cell? ⟨b, o + i, none⟩ = some (.slice A' (Ls.getD i []).length c') ∧ ShowsS w A' (Ls.getD i []) ∧ (Ls.getD i []).length ≤ c' ∧ c' ≤ maxLen
theorem ShowsL.below {w w' : World} {A : Option Addr} {Ls : List (List Stpp)} (h : ShowsL w A Ls) (hb : Below w.heap.size w w') : ShowsL w' A Ls := by
  intro hl
  obtain ⟨b, o, e, hlt, hc⟩ := h hl
  refine ⟨b, o, e, Nat.lt_of_lt_of_le hlt hb.size, fun i hi => ?_⟩
  obtain ⟨A', c', h1, h2, h3⟩ := hc i hi
  exact ⟨A', c', (hb.cell (p := ⟨b, o + i, none⟩) hlt).trans h1, h2.below hb, h3⟩
/-- the numbers of all proofs are machine integers -/
def ListsI (Ls : List (List Stpp)) : Prop := ∀ i, i < Ls.length → StepsI (Ls.getD i [])
section
variable {H : Type} {enc : TypeId × Value → H} {P : Program} {w : World} {base : Nat} {spare : Nat → Bool} {held : Bool}
theorem open_pairsW {t e ti : TypeId} {f0 f1 : Field} {v : Value} {d : DataW H} {p : List MemPlace} (ht : P.underlying t = some (.slice e)) (he : P.underlying e = some (.struct #[f0, f1])) (hC : P.cellsOf e = 2) (o0 : f0.offset = 0) (o1 : f1.offset = 1) (c0 : P.cellsOf ti = 1)
    (e0 : f0.type = ti) (e1 : f1.type = ti) (hi : P.underlying ti = some (.int .i64)) {r : Reach} {b0 : Nat} (hv : Value.okWide P w r b0 t v) (h : DataW.Trod enc P w base spare held t v d p) :
    ∃ (A : Option Addr) (l : List (Int × Int)) (c : Nat), v = .slice A l.length c ∧ ShowsW w A l ∧ l.length ≤ c ∧ c ≤ maxLen ∧ (∀ i, i < l.length → I64 (l.getD i (0, 0)).1) ∧ (∀ i, i < l.length → I64 (l.getD i (0, 0)).2) := by
  obtain ⟨va, vl, vc, rfl⟩ := okWide_slice ht hv
  obtain ⟨fuel, hf⟩ := h
  subst e0
  rcases open_slice_pairs ht he hC o0 o1 c0 (by rw [e1]; exact c0) hf with ⟨hcs, _⟩ | ⟨a, len, cap, m, n, V0, V1, D0, D1, P0, P1, hcs, _, hl, hm, hmm, _, hx⟩
  · simp only [Value.cells, List.cons.injEq, and_true] at hcs
    refine ⟨none, [], 0, hcs, fun h => absurd h (by simp), Nat.le_refl _, by unfold maxLen; omega, fun i hi => absurd hi (by simp), fun i hi => absurd hi (by simp)⟩
  · have hlm : len ≤ m := by rw [hmm]; split <;> omega
    have each : ∀ i, i < len → ∃ q : Int × Int, w.cell? (a.add (i * 2)) = some (.int .i64 q.1) ∧ w.cell? (a.add (i * 2 + 1)) = some (.int .i64 q.2) ∧ I64 q.1 ∧ I64 q.2 := by
      intro i hi'
      obtain ⟨h0, h1, h2, h3⟩ := hx i (by omega)
      rw [e1] at h3
      obtain ⟨a0, g0, _, w0⟩ := DataW.trod_int hi h2
      obtain ⟨a1, g1, _, w1⟩ := DataW.trod_int hi h3
      injection g0 with g0; injection g1 with g1
      exact ⟨(a0, a1), by rw [h0, g0], by rw [h1, g1], i64_of_wf w0, i64_of_wf w1⟩
    obtain ⟨q, hq⟩ := choose_lt each
    simp only [Value.cells, List.cons.injEq, and_true] at hcs
    have hlen : ((List.range len).map q).length = len := by simp
    refine ⟨some a, (List.range len).map q, cap, by rw [hlen]; exact hcs, ?_, by omega, hm, fun i hi => ?_, fun i hi => ?_⟩
    · intro hp
      rw [hlen] at hp
      obtain ⟨b, o, rfl, hb⟩ := addr_none (hq 0 hp).1
      refine ⟨b, o, rfl, hb, fun i hi => ?_⟩
      rw [hlen] at hi
      rw [range_get (0, 0) q hi, Nat.add_assoc, ← Go.WideShapes.add_plain, ← Go.WideShapes.add_plain]
      exact ⟨(hq i hi).1, (hq i hi).2.1⟩
    · rw [hlen] at hi; rw [range_get (0, 0) q hi]; exact (hq i hi).2.2.1
    · rw [hlen] at hi; rw [range_get (0, 0) q hi]; exact (hq i hi).2.2.2
theorem open_lists {tt t e ti tl : TypeId} {f0 f1 f2 : Field} {v : Value} {d : DataW H} {p : List MemPlace} (htt : P.underlying tt = some (.slice t)) (ct : P.cellsOf t = 1) (ht : P.underlying t = some (.slice e)) (he : P.underlying e = some (.struct #[f0, f1, f2])) (ce : P.cellsOf e = 3)
    (o0 : f0.offset = 0) (o1 : f1.offset = 1) (o2 : f2.offset = 2) (e0 : f0.type = ti) (e1 : f1.type = ti) (e2 : f2.type = tl) (ci : P.cellsOf ti = 1) (cl : P.cellsOf tl = 1)
    (hi : P.underlying ti = some (.int .i64)) (hl' : P.underlying tl = some (.slice ti)) {r : Reach} {b0 : Nat} (hv : Value.okWide P w r b0 tt v) (h : DataW.Trod enc P w base spare held tt v d p) :
    ∃ (A : Option Addr) (Ls : List (List Stpp)) (c : Nat), v = .slice A Ls.length c ∧ ShowsL w A Ls ∧ Ls.length ≤ c ∧ c ≤ maxLen ∧ ListsI Ls := by
  obtain ⟨va, vl, vc, rfl⟩ := okWide_slice htt hv
  obtain ⟨fuel, hf⟩ := h
  rcases open_slice1 htt ct hf with ⟨hcs, _⟩ | ⟨a, len, cap, m, n, V, D, Pl, hcs, _, hl, hm, hmm, _, hx⟩
  · simp only [Value.cells, List.cons.injEq, and_true] at hcs
    exact ⟨none, [], 0, hcs, fun h => absurd h (by simp), Nat.le_refl _, by unfold maxLen; omega, fun i hi => absurd hi (by simp)⟩
  · have hlm : len ≤ m := by rw [hmm]; split <;> omega
    have each : ∀ i, i < len → ∃ q : List Stpp × Option Addr × Nat, w.cell? (a.add i) = some (.slice q.2.1 q.1.length q.2.2) ∧ ShowsS w q.2.1 q.1 ∧ q.1.length ≤ q.2.2 ∧ q.2.2 ≤ maxLen ∧ StepsI q.1 := by
      intro i hi'
      obtain ⟨h0, h1⟩ := hx i (by omega)
      obtain ⟨A', L, c', e', s1, s2, s3, s4⟩ := steps_of_trod ht he ce o0 o1 o2 e0 e1 e2 ci cl hi hl' h1
      exact ⟨(L, A', c'), by rw [h0, e'], s1, s2, s3, s4⟩
    obtain ⟨q, hq⟩ := choose_lt each
    simp only [Value.cells, List.cons.injEq, and_true] at hcs
    have hlen : ((List.range len).map fun i => (q i).1).length = len := by simp
    refine ⟨some a, (List.range len).map fun i => (q i).1, cap, by rw [hlen]; exact hcs, ?_, by omega, hm, fun i hi => ?_⟩
    · intro hp
      rw [hlen] at hp
      obtain ⟨b, o, rfl, hb⟩ := addr_none (hq 0 hp).1
      refine ⟨b, o, rfl, hb, fun i hi => ?_⟩
      rw [hlen] at hi
      rw [range_get [] (fun i => (q i).1) hi, ← Go.WideShapes.add_plain]
      obtain ⟨q1, q2, q3, q4, -⟩ := hq i hi
      exact ⟨(q i).2.1, (q i).2.2, q1, q2, q3, q4⟩
    · rw [hlen] at hi; rw [range_get [] (fun i => (q i).1) hi]; exact (hq i hi).2.2.2.2
end
end Go.Proofs.Ytfjmhfmhijhpkaa
