/- Lists of steps that came in. -/
import Derived.Test.YtfjmhfmhijhpkaaOpen0
import Derived.Test.YtfjmhfmhijhpkaaCkp
import Derived.Lib.SmallJoins
import Derived.Deep.SlicePairs
namespace Go.Proofs.Ytfjmhfmhijhpkaa
open Go.RowKit Go.WideShapes Go.ChangeShapes Go.Joins Go.Deep FF
section
variable {H : Type} {enc : TypeId × Value → H} {P : Program} {w : World} {base : Nat} {spare : Nat → Bool} {held : Bool}
theorem addr_none {a : Addr} {v : Value} (h : w.cell? (a.add 0) = some v) : ∃ b o, a = ⟨b, o, none⟩ ∧ b < w.heap.size := by
  obtain ⟨b, o, spot⟩ := a
  have hspot : spot = none := by simpa [Addr.add] using World.cell?_spot h
  subst hspot
  exact ⟨b, o, rfl, cell_block (by rwa [Go.WideShapes.add_plain] at h)⟩
theorem range_get {α : Type} (d : α) (q : Nat → α) {n i : Nat} (h : i < n) : ((List.range n).map q).getD i d = q i := by
  rw [List.getD_eq_getElem?_getD, List.getElem?_map, List.getElem?_range h]; rfl
/-- a list of integers -/
theorem ints_of_trod {t ti : TypeId} {fuel : Nat} {v : Value} {x : DataW H × List MemPlace} (ht : P.underlying t = some (.slice ti)) (hc : P.cellsOf ti = 1) (hi : P.underlying ti = some (.int .i64)) (h : DataW.trod enc P w base spare held fuel t [v] = some x) :
    ∃ (A : Option Addr) (xs : List Int) (c : Nat), v = .slice A xs.length c ∧ ShowsI w A xs ∧ xs.length ≤ c ∧ c ≤ maxLen ∧ ∀ j, j < xs.length → I64 (xs.getD j 0) := by
  rcases open_slice1 ht hc h with ⟨hcs, _⟩ | ⟨a, len, cap, m, n, V, D, Pl, hcs, _, hl, hm, hmm, _, hx⟩
  · simp only [List.cons.injEq, and_true] at hcs
    exact ⟨none, [], 0, hcs, ShowsI.nil, Nat.le_refl _, by unfold maxLen; omega, fun i hi => absurd hi (by simp)⟩
  · have hlm : len ≤ m := by rw [hmm]; split <;> omega
    simp only [List.cons.injEq, and_true] at hcs
    have each : ∀ i, i < len → ∃ q : Int, w.cell? (a.add i) = some (.int .i64 q) ∧ I64 q := by
      intro i hi'
      obtain ⟨h0, h1⟩ := hx i (by omega)
      obtain ⟨a0, g0, _, w0⟩ := DataW.trod_int hi h1
      injection g0 with g0
      exact ⟨a0, by rw [h0, g0], i64_of_wf w0⟩
    obtain ⟨q, hq⟩ := choose_lt each
    have hlen : ((List.range len).map q).length = len := by simp
    refine ⟨some a, (List.range len).map q, cap, by rw [hlen]; exact hcs, fun hp => ?_, by omega, hm, fun i hi => ?_⟩
    · rw [hlen] at hp
      obtain ⟨b, o, rfl, hb⟩ := addr_none (hq 0 hp).1
      refine ⟨b, o, rfl, hb, fun i hi => ?_⟩
      rw [hlen] at hi
      rw [range_get 0 q hi, ← Go.WideShapes.add_plain]
      exact (hq i hi).1
    · rw [hlen] at hi; rw [range_get 0 q hi]; exact (hq i hi).2
/-- a list of steps -/
theorem steps_of_trod {t e ti tl : TypeId} {f0 f1 f2 : Field} {fuel : Nat} {v : Value} {x : DataW H × List MemPlace} (ht : P.underlying t = some (.slice e)) (he : P.underlying e = some (.struct #[f0, f1, f2])) (ce : P.cellsOf e = 3)
    (o0 : f0.offset = 0) (o1 : f1.offset = 1) (o2 : f2.offset = 2) (e0 : f0.type = ti) (e1 : f1.type = ti) (e2 : f2.type = tl) (ci : P.cellsOf ti = 1) (cl : P.cellsOf tl = 1)
    (hi : P.underlying ti = some (.int .i64)) (hl' : P.underlying tl = some (.slice ti)) (h : DataW.trod enc P w base spare held fuel t [v] = some x) :
    ∃ (A : Option Addr) (L : List Stpp) (c : Nat), v = .slice A L.length c ∧ ShowsS w A L ∧ L.length ≤ c ∧ c ≤ maxLen ∧ StepsI L := by
  rcases open_slice ht h with ⟨hcs, _⟩ | ⟨a, len, cap, m, n, D, Pl, hcs, _, hl, hm, hmm, _, hx⟩
  · simp only [List.cons.injEq, and_true] at hcs
    exact ⟨none, [], 0, hcs, fun h => absurd h (by simp), Nat.le_refl _, by unfold maxLen; omega, fun i hi => absurd hi (by simp)⟩
  · have hlm : len ≤ m := by rw [hmm]; split <;> omega
    simp only [List.cons.injEq, and_true] at hcs
    have each : ∀ i, i < len → ∃ q : Stpp × Option Addr × Nat, w.cell? (a.add (i * 3)) = some (.int .i64 q.1.1) ∧ w.cell? (a.add (i * 3 + 1)) = some (.int .i64 q.1.2.1) ∧ w.cell? (a.add (i * 3 + 2)) = some (.slice q.2.1 q.1.2.2.length q.2.2) ∧
        ShowsI w q.2.1 q.1.2.2 ∧ q.1.2.2.length ≤ q.2.2 ∧ q.2.2 ≤ maxLen ∧ I64 q.1.1 ∧ I64 q.1.2.1 ∧ ∀ j, j < q.1.2.2.length → I64 (q.1.2.2.getD j 0) := by
      intro i hi'
      obtain ⟨cs', h1, h2⟩ := hx i (by omega)
      rw [ce] at h1
      obtain ⟨_, hlen, hcell⟩ := World.cells?_some h1
      obtain ⟨xs, k, hk, hxy, _, hxl, hf⟩ := DataW.trod_struct he h2
      match xs, hxl, cs', hlen with
      | [z0, z1, z2], _, [v0, v1, v2], _ =>
        have g0 := hf 0 f0 rfl
        have g1 := hf 1 f1 rfl
        have g2 := hf 2 f2 rfl
        simp [o0, o1, o2, e0, e1, e2, ci, cl] at g0 g1 g2
        have c0 := hcell 0 (by omega)
        have c1 := hcell 1 (by omega)
        have c2 := hcell 2 (by omega)
        rw [add_add] at c0 c1 c2
        obtain ⟨a0, b0, _, w0⟩ := DataW.trod_int hi g0
        obtain ⟨a1, b1, _, w1⟩ := DataW.trod_int hi g1
        injection b0 with b0
        injection b1 with b1
        obtain ⟨A', qs, c', rfl, s1, s2, s3, s4⟩ := ints_of_trod hl' ci hi g2
        subst b0 b1
        exact ⟨((a0, a1, qs), A', c'), by simpa using c0, by simpa using c1, by simpa using c2, s1, s2, s3, i64_of_wf w0, i64_of_wf w1, s4⟩
    obtain ⟨q, hq⟩ := choose_lt each
    have hlen : ((List.range len).map fun i => (q i).1).length = len := by simp
    refine ⟨some a, (List.range len).map fun i => (q i).1, cap, by rw [hlen]; exact hcs, fun hp => ?_, by omega, hm, fun i hi => ?_⟩
    · rw [hlen] at hp
      obtain ⟨b, o, rfl, hb⟩ := addr_none (hq 0 hp).1
      refine ⟨b, o, rfl, hb, fun i hi => ?_⟩
      rw [hlen] at hi
      rw [range_get (0, 0, []) (fun i => (q i).1) hi, Nat.add_assoc, Nat.add_assoc, ← Go.WideShapes.add_plain, ← Go.WideShapes.add_plain, ← Go.WideShapes.add_plain]
      obtain ⟨q1, q2, q3, q4, q5, q6, -⟩ := hq i hi
      exact ⟨(q i).2.1, (q i).2.2, q1, q2, q3, q4, q5, q6⟩
    · rw [hlen] at hi
      rw [range_get (0, 0, []) (fun i => (q i).1) hi]
      exact (hq i hi).2.2.2.2.2.2
theorem open_steps {t e ti tl : TypeId} {f0 f1 f2 : Field} {v : Value} {d : DataW H} {p : List MemPlace} (ht : P.underlying t = some (.slice e)) (he : P.underlying e = some (.struct #[f0, f1, f2])) (ce : P.cellsOf e = 3)
    (o0 : f0.offset = 0) (o1 : f1.offset = 1) (o2 : f2.offset = 2) (e0 : f0.type = ti) (e1 : f1.type = ti) (e2 : f2.type = tl) (ci : P.cellsOf ti = 1) (cl : P.cellsOf tl = 1)
    (hi : P.underlying ti = some (.int .i64)) (hl' : P.underlying tl = some (.slice ti)) {r : Reach} {b0 : Nat} (hv : Value.okWide P w r b0 t v) (h : DataW.Trod enc P w base spare held t v d p) :
    ∃ (A : Option Addr) (L : List Stpp) (c : Nat), v = .slice A L.length c ∧ ShowsS w A L ∧ L.length ≤ c ∧ c ≤ maxLen ∧ StepsI L := by
  obtain ⟨va, vl, vc, rfl⟩ := okWide_slice ht hv
  obtain ⟨fuel, hf⟩ := h
  exact steps_of_trod ht he ce o0 o1 o2 e0 e1 e2 ci cl hi hl' hf
end
end Go.Proofs.Ytfjmhfmhijhpkaa
