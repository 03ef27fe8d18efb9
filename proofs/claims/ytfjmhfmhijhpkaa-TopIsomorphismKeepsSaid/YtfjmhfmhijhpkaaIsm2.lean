/- The first images that the reference finds. -/
import Derived.Test.YtfjmhfmhijhpkaaIsr
import Derived.BigRegion
namespace Go.Proofs.Ytfjmhfmhijhpkaa
open Go.RowKit FF

theorem Cells.five_ {W : World} {b : Nat} {v0 v1 v2 v3 v4 : Value} (h : Cells W b #[v0, v1, v2, v3, v4]) : W.cell? ⟨b, 0, none⟩ = some v0 ∧ W.cell? ⟨b, 1, none⟩ = some v1 ∧ W.cell? ⟨b, 2, none⟩ = some v2 ∧ W.cell? ⟨b, 3, none⟩ = some v3 ∧ W.cell? ⟨b, 4, none⟩ = some v4 :=
  ⟨h.2.1 0 (by simp), h.2.1 1 (by simp), h.2.1 2 (by simp), h.2.1 3 (by simp), h.2.1 4 (by simp)⟩
/-- two results are stored -/
theorem Bx.fin55 {w W : World} {L : List (Nat × Array Value)} {i j : Nat} {x0 x1 x2 x3 x4 y0 y1 y2 y3 y4 : Value} (h : Bx w L W) (hi : (i, #[x0, x1, x2, x3, x4]) ∈ L) (hj : (j, #[y0, y1, y2, y3, y4]) ∈ L) (hne : i ≠ j) (u0 u1 u2 u3 u4 v0 v1 v2 v3 v4 : Value) :
    ∃ W9, ((((((((((W.setCell ⟨i, 0, none⟩ u0).setCell ⟨i, 1, none⟩ u1).setCell ⟨i, 2, none⟩ u2).setCell ⟨i, 3, none⟩ u3).setCell ⟨i, 4, none⟩ u4).setCell ⟨j, 0, none⟩ v0).setCell ⟨j, 1, none⟩ v1).setCell ⟨j, 2, none⟩ v2).setCell ⟨j, 3, none⟩ v3).setCell ⟨j, 4, none⟩ v4) = W9 ∧
      (W9.cell? ⟨i, 0, none⟩ = some u0 ∧ W9.cell? ⟨i, 1, none⟩ = some u1 ∧ W9.cell? ⟨i, 2, none⟩ = some u2 ∧ W9.cell? ⟨i, 3, none⟩ = some u3 ∧ W9.cell? ⟨i, 4, none⟩ = some u4) ∧
      (W9.cell? ⟨j, 0, none⟩ = some v0 ∧ W9.cell? ⟨j, 1, none⟩ = some v1 ∧ W9.cell? ⟨j, 2, none⟩ = some v2 ∧ W9.cell? ⟨j, 3, none⟩ = some v3 ∧ W9.cell? ⟨j, 4, none⟩ = some v4) ∧ Below w.heap.size w W9 := by
  have c1 := (h.own _ hi).2.put5 u0 u1 u2 u3 u4
  have o1 := Only.put5 W i u0 u1 u2 u3 u4
  have d1 := (h.own _ hj).2.only o1 (fun e => hne e.symm)
  have c2 := d1.put5 v0 v1 v2 v3 v4
  have o2 := Only.put5 (((((W.setCell ⟨i, 0, none⟩ u0).setCell ⟨i, 1, none⟩ u1).setCell ⟨i, 2, none⟩ u2).setCell ⟨i, 3, none⟩ u3).setCell ⟨i, 4, none⟩ u4) j v0 v1 v2 v3 v4
  have e1 := c1.only o2 hne
  exact ⟨_, rfl, e1.five_, c2.five_, o2.below (o1.below h.below (h.own _ hi).1) (h.own _ hj).1⟩

end Go.Proofs.Ytfjmhfmhijhpkaa
