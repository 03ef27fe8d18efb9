/- The law AlgebraProofs answers true at all algebras and lists of elements. -/
import Derived.Test.YtfjmhfmhijhpkaaGreatDoorRci
import Derived.Test.YtfjmhfmhijhpkaaGreatDoorAw30
import Derived.Deep.Slices
namespace Go.Proofs.YtfjmhfmhijhpkaaGreatDoor
open Go.RowKit Go.WideShapes Go.ChangeShapes Go.Joins Go.Deep FF

section
variable {H : Type} {enc : TypeId × Value → H} {P : Program} {w : World} {base : Nat} {held : Bool}
/-- a slice of elements that came in -/
theorem open_quats {nn : Nat} {t e : TypeId} {v : Value} {d : DataW H} {p : List MemPlace} (ht : P.underlying t = some (.slice e)) (hB : intCells P nn e = true) (hC : P.cellsOf e = 5) {r : Reach} {b0 : Nat} (hv : Value.okWide P w r b0 t v) (h : DataW.Trod enc P w base (fun _ => true) held t v d p) :
    ∃ (A : Option Addr) (l : List Qt) (c : Nat), v = .slice A l.length c ∧ ShowsI w A (flatQ l) := by
  obtain ⟨va, vl, vc, rfl⟩ := okWide_slice ht hv
  obtain ⟨fuel, hf⟩ := h
  rcases open_slice ht hf with ⟨hcs, _⟩ | ⟨a, len, cap, m, n, D, Pl, hcs, _, hl, hm, hmm, _, hx⟩
  · simp only [Value.cells, List.cons.injEq, and_true] at hcs
    exact ⟨none, [], 0, hcs, fun h => absurd h (by simp [flatQ])⟩
  · rw [if_pos rfl] at hmm
    have each : ∀ i, i < len → ∃ q : Qt, w.cell? ((a.add (i * 5)).add 0) = some (.int .i64 q.w) ∧ w.cell? ((a.add (i * 5)).add 1) = some (.int .i64 q.x) ∧ w.cell? ((a.add (i * 5)).add 2) = some (.int .i64 q.y) ∧ w.cell? ((a.add (i * 5)).add 3) = some (.int .i64 q.z) ∧ w.cell? ((a.add (i * 5)).add 4) = some (.int .i64 q.d) := by
      intro i hi'
      obtain ⟨cs', h1, h2⟩ := hx i (by omega)
      rw [hC] at h1
      obtain ⟨_, hlen, hcell⟩ := World.cells?_some h1
      have key := fun j (hj : j < 5) => intCells_spec hB h2 j (by omega)
      obtain ⟨a0, e0, -⟩ := key 0 (by omega)
      obtain ⟨a1, e1, -⟩ := key 1 (by omega)
      obtain ⟨a2, e2, -⟩ := key 2 (by omega)
      obtain ⟨a3, e3, -⟩ := key 3 (by omega)
      obtain ⟨a4, e4, -⟩ := key 4 (by omega)
      refine ⟨⟨a0, a1, a2, a3, a4⟩, ?_, ?_, ?_, ?_, ?_⟩
      · rw [hcell 0 (by omega), List.getElem?_eq_getElem (by omega), e0]
      · rw [hcell 1 (by omega), List.getElem?_eq_getElem (by omega), e1]
      · rw [hcell 2 (by omega), List.getElem?_eq_getElem (by omega), e2]
      · rw [hcell 3 (by omega), List.getElem?_eq_getElem (by omega), e3]
      · rw [hcell 4 (by omega), List.getElem?_eq_getElem (by omega), e4]
    haveI : Inhabited Qt := ⟨Qt.zero⟩
    obtain ⟨q, hq⟩ := choose_lt each
    simp only [Value.cells, List.cons.injEq, and_true] at hcs
    have hlen : ((List.range len).map q).length = len := by simp
    have hget : ∀ i, i < len → ((List.range len).map q).getD i Qt.zero = q i := fun i hi => by
      rw [List.getD_eq_getElem?_getD, List.getElem?_map, List.getElem?_range hi]; rfl
    refine ⟨some a, (List.range len).map q, cap, by rw [hlen]; exact hcs, fun hp => ?_⟩
    rw [flatQ_len, hlen] at hp
    obtain ⟨b, o, spot⟩ := a
    have hspot : spot = none := by
      have := World.cell?_spot (hq 0 (by omega)).1
      simpa [Addr.add] using this
    subst hspot
    simp only [Go.WideShapes.add_plain] at hq
    refine ⟨b, o, rfl, cell_block (hq 0 (by omega)).1, fun i hi => ?_⟩
    rw [flatQ_len, hlen] at hi
    have hi5 : i / 5 < len := by omega
    obtain ⟨f0, f1, f2, f3, f4⟩ := flatQ_get (l := (List.range len).map q) (i := i / 5) (by rw [hlen]; exact hi5)
    rw [hget _ hi5] at f0 f1 f2 f3 f4
    obtain ⟨g0, g1, g2, g3, g4⟩ := hq (i / 5) hi5
    have hj : i % 5 = 0 ∨ i % 5 = 1 ∨ i % 5 = 2 ∨ i % 5 = 3 ∨ i % 5 = 4 := by omega
    rcases hj with h | h | h | h | h
    · rw [show i = 5 * (i / 5) by omega, f0, show o + 5 * (i / 5) = o + i / 5 * 5 + 0 by omega]; exact g0
    · rw [show i = 5 * (i / 5) + 1 by omega, f1, show o + (5 * (i / 5) + 1) = o + i / 5 * 5 + 1 by omega]; exact g1
    · rw [show i = 5 * (i / 5) + 2 by omega, f2, show o + (5 * (i / 5) + 2) = o + i / 5 * 5 + 2 by omega]; exact g2
    · rw [show i = 5 * (i / 5) + 3 by omega, f3, show o + (5 * (i / 5) + 3) = o + i / 5 * 5 + 3 by omega]; exact g3
    · rw [show i = 5 * (i / 5) + 4 by omega, f4, show o + (5 * (i / 5) + 4) = o + i / 5 * 5 + 4 by omega]; exact g4
end
theorem two_of {l : List Qt} (h : l.length = 2) : ∃ p0 p1 p2 p3 p4 q0 q1 q2 q3 q4, l = [⟨p0, p1, p2, p3, p4⟩, ⟨q0, q1, q2, q3, q4⟩] := by
  match l, h with
  | [⟨p0, p1, p2, p3, p4⟩, ⟨q0, q1, q2, q3, q4⟩], _ => exact ⟨p0, p1, p2, p3, p4, q0, q1, q2, q3, q4, rfl⟩
theorem qCheckIso_any (a b c d : Int) (A : Option Addr) (l : List Qt) (cp : Nat) (w : World) (hx : ShowsI w A (flatQ l)) :
    Calls Tryz.prog 14 #[.agg #[.int .i64 a, .int .i64 b], .agg #[.int .i64 c, .int .i64 d], .slice A l.length cp] w fun r w' => r = .returned (.int .i64 (isoF a b c d l)) ∧ Below w.heap.size w w' := by
  by_cases h2 : l.length = 2
  · by_cases ha : aE a b = 0
    · by_cases hc : aE c d = 0
      · obtain ⟨p0, p1, p2, p3, p4, q0, q1, q2, q3, q4, rfl⟩ := two_of h2
        have := qCheckIso_two a b c d p0 p1 p2 p3 p4 q0 q1 q2 q3 q4 A cp w ha hc hx
        rw [isoF, if_pos ha, if_pos hc]
        exact this
      · exact qCheckIso_short a b c d A l _ cp w rfl (.inr (.inr hc))
    · exact qCheckIso_short a b c d A l _ cp w rfl (.inr (.inl ha))
  · exact qCheckIso_short a b c d A l _ cp w rfl (.inl h2)
end Go.Proofs.YtfjmhfmhijhpkaaGreatDoor
