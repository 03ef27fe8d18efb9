/- A slice of structs of two numbers that came in. -/
import Derived.Test.YtmlkiddkgikdhaaOpen2
import Derived.Test.YtmlkiddkgikdhaaChn
import Derived.Lib.SmallJoins
import Derived.Deep.SlicePairs
namespace Go.Proofs.Ytmlkiddkgikdhaa
open Go.RowKit Go.WideShapes Go.ChangeShapes Go.Joins Go.Deep FF
section
variable {H : Type} {enc : TypeId × Value → H} {P : Program} {w : World} {base : Nat} {held : Bool}
theorem open_pairs {t e ti : TypeId} {f0 f1 : Field} {v : Value} {d : DataW H} {p : List MemPlace} (ht : P.underlying t = some (.slice e)) (he : P.underlying e = some (.struct #[f0, f1])) (hC : P.cellsOf e = 2) (o0 : f0.offset = 0) (o1 : f1.offset = 1) (c0 : P.cellsOf ti = 1)
    (e0 : f0.type = ti) (e1 : f1.type = ti) (hi : P.underlying ti = some (.int .i64)) {r : Reach} {b0 : Nat} (hv : Value.okWide P w r b0 t v) (h : DataW.Trod enc P w base (fun _ => true) held t v d p) :
    ∃ (A : Option Addr) (l : List (Int × Int)) (c : Nat), v = .slice A l.length c ∧ ShowsP w A l ∧ l.length ≤ c ∧ c ≤ maxLen ∧ (∀ i, i < l.length → I64 (l.getD i (0, 0)).1) ∧ (∀ i, i < l.length → I64 (l.getD i (0, 0)).2) := by
  obtain ⟨va, vl, vc, rfl⟩ := okWide_slice ht hv
  obtain ⟨fuel, hf⟩ := h
  subst e0
  rcases open_slice_pairs ht he hC o0 o1 c0 (by rw [e1]; exact c0) hf with ⟨hcs, _⟩ | ⟨a, len, cap, m, n, V0, V1, D0, D1, P0, P1, hcs, _, hl, hm, hmm, _, hx⟩
  · simp only [Value.cells, List.cons.injEq, and_true] at hcs
    refine ⟨none, [], 0, hcs, fun h => absurd h (by simp), Nat.le_refl _, by unfold maxLen; omega, fun i hi => absurd hi (by simp), fun i hi => absurd hi (by simp)⟩
  · rw [if_pos rfl] at hmm
    have each : ∀ i, i < len → ∃ q : Int × Int, w.cell? (a.add (i * 2)) = some (.int .i64 q.1) ∧ w.cell? (a.add (i * 2 + 1)) = some (.int .i64 q.2) ∧ I64 q.1 ∧ I64 q.2 := by
      intro i hi'
      obtain ⟨h0, h1, h2, h3⟩ := hx i (by omega)
      rw [e1] at h3
      obtain ⟨a0, g0, _, w0⟩ := DataW.trod_int hi h2
      obtain ⟨a1, g1, _, w1⟩ := DataW.trod_int hi h3
      injection g0 with g0; injection g1 with g1
      exact ⟨(a0, a1), by rw [h0, g0], by rw [h1, g1], i64_of_wf w0, i64_of_wf w1⟩
    obtain ⟨q, hq⟩ := choose_lt each
    simp only [Value.cells, List.cons.injEq, and_true] at hcs
    have hlen : ((List.range len).map q).length = len := by simp
    have hget : ∀ i, i < len → ((List.range len).map q).getD i (0, 0) = q i := fun i hi => by
      rw [List.getD_eq_getElem?_getD, List.getElem?_map, List.getElem?_range hi]; rfl
    refine ⟨some a, (List.range len).map q, cap, by rw [hlen]; exact hcs, ?_, by omega, hm, fun i hi => ?_, fun i hi => ?_⟩
    · intro hp
      rw [hlen] at hp
      obtain ⟨b, o, spot⟩ := a
      have hspot : spot = none := by simpa [Addr.add] using World.cell?_spot (hq 0 hp).1
      subst hspot
      refine ⟨b, o, rfl, cell_block (by have := (hq 0 hp).1; rwa [Go.WideShapes.add_plain] at this), fun i hi => ?_⟩
      rw [hlen] at hi
      rw [hget i hi, Nat.add_assoc, ← Go.WideShapes.add_plain, ← Go.WideShapes.add_plain]
      exact ⟨(hq i hi).1, (hq i hi).2.1⟩
    · rw [hlen] at hi; rw [hget i hi]; exact (hq i hi).2.2.1
    · rw [hlen] at hi; rw [hget i hi]; exact (hq i hi).2.2.2
end
end Go.Proofs.Ytmlkiddkgikdhaa
