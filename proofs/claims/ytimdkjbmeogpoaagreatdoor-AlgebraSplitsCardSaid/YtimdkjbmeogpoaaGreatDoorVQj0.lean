/- Lowest terms in the reference. Products, conjugates, what fits in the reference. Fractions in lowest terms, valid fractions: in the program and in the reference. -/
import Derived.Test.YtimdkjbmeogpoaaGreatDoorVQf0
namespace Go.Proofs.YtimdkjbmeogpoaaGreatDoor
open Go.RowKit FF
theorem Cells.set_ne {W : World} {b r : Nat} {vs : Array Value} (h : Cells W b vs) (hr : r ≠ b) (k : Nat) (v : Value) : Cells (W.setCell ⟨r, k, none⟩ v) b vs :=
  ⟨by simpa [World.setCell] using h.1, fun i hi => by rw [World.cell?_setCell_other _ _ _ _ (fun e => hr (by injection e with e)), h.2.1 i hi], fun i => by simp [go_sem, h.2.2 i]⟩
theorem store5 {w W : World} {r : Nat} {v0 v1 v2 v3 v4 : Value} (hB : Below w.heap.size w W) (hr : w.heap.size ≤ r) (hc : Cells W r #[v0, v1, v2, v3, v4]) (u0 u1 u2 u3 u4 : Value) :
    ∃ W9, (((((W.setCell ⟨r, 0, none⟩ u0).setCell ⟨r, 1, none⟩ u1).setCell ⟨r, 2, none⟩ u2).setCell ⟨r, 3, none⟩ u3).setCell ⟨r, 4, none⟩ u4) = W9 ∧ Below w.heap.size w W9 ∧ Cells W9 r #[u0, u1, u2, u3, u4] ∧
      (∀ b vs, r ≠ b → Cells W b vs → Cells W9 b vs) ∧ W9.heap.size = W.heap.size := by
  obtain ⟨h0, h1, h2, h3, h4⟩ := hc.five
  refine ⟨_, rfl, below_set5 hB hr _ _ _ _ _, ⟨by simpa [World.setCell] using hc.1, fun i hi => ?_, fun i => by simp [go_sem, hc.2.2 i]⟩, fun b vs hb h => ((((h.set_ne hb _ _).set_ne hb _ _).set_ne hb _ _).set_ne hb _ _).set_ne hb _ _, by simp [World.setCell]⟩
  match i, hi with
  | 0, _ => simp [go_sem, h0]
  | 1, _ => simp [go_sem, h1]
  | 2, _ => simp [go_sem, h2]
  | 3, _ => simp [go_sem, h3]
  | 4, _ => simp [go_sem, h4]
end Go.Proofs.YtimdkjbmeogpoaaGreatDoor
namespace Go.Proofs.YtimdkjbmeogpoaaGreatDoor
open Go.RowKit FF
section
variable {w w0 w1 : World} {L : List (Nat × Array Value)} {r n : Nat}
theorem Reg.set2 (h : Reg w L r 2 w0) (u0 u1 : Value) : Reg w L r 2 ((w0.setCell ⟨r, 0, none⟩ u0).setCell ⟨r, 1, none⟩ u1) := (h.set 0 u0).set 1 u1
theorem Reg.fin2 (h : Reg w L r 2 w0) (u0 u1 : Value) : ∃ W9, ((w0.setCell ⟨r, 0, none⟩ u0).setCell ⟨r, 1, none⟩ u1) = W9 ∧
    W9.cell? ⟨r, 0, none⟩ = some u0 ∧ W9.cell? ⟨r, 1, none⟩ = some u1 ∧ Below w.heap.size w W9 := by
  obtain ⟨v0, h0⟩ := h.rc 0 (by omega)
  obtain ⟨v1, h1⟩ := h.rc 1 (by omega)
  refine ⟨_, rfl, ?_, ?_, (h.set2 u0 u1).below⟩ <;> simp [go_sem, h0, h1]
end
def fvv (a b : Int) : Value := .agg #[.int .i64 a, .int .i64 b]
end Go.Proofs.YtimdkjbmeogpoaaGreatDoor
