/- Boxes beside stores and new boxes. -/
import Derived.Test.YtfjmhfmhijhpkaaQo0
import Derived.Test.YtfjmhfmhijhpkaaScl
import Derived.Deep.DeepCutAuto
namespace Go.Proofs.Ytfjmhfmhijhpkaa
open Go.RowKit FF

section
variable {w W W0 : World} {L : List (Nat × Array Value)}
theorem Bx.store_ge (h : Bx w L W) (h0 : Bx w L W0) {g : Nat} (hg : W0.heap.size ≤ g) (u0 u1 u2 u3 u4 : Value) : Bx w L (((((W.setCell ⟨g, 0, none⟩ u0).setCell ⟨g, 1, none⟩ u1).setCell ⟨g, 2, none⟩ u2).setCell ⟨g, 3, none⟩ u3).setCell ⟨g, 4, none⟩ u4) :=
  ⟨below_set5 h.below (Nat.le_trans h0.below.size hg) u0 u1 u2 u3 u4, fun x hx => ⟨(h.own x hx).1, by
    have hne : g ≠ x.1 := fun e => by have := (h0.own x hx).2.1; omega
    exact (((((h.own x hx).2.set_ne hne _ _).set_ne hne _ _).set_ne hne _ _).set_ne hne _ _).set_ne hne _ _⟩⟩
theorem Cells.put5 {b : Nat} {v0 v1 v2 v3 v4 : Value} (hc : Cells W b #[v0, v1, v2, v3, v4]) (u0 u1 u2 u3 u4 : Value) : Cells (((((W.setCell ⟨b, 0, none⟩ u0).setCell ⟨b, 1, none⟩ u1).setCell ⟨b, 2, none⟩ u2).setCell ⟨b, 3, none⟩ u3).setCell ⟨b, 4, none⟩ u4) b #[u0, u1, u2, u3, u4] := by
  obtain ⟨h0, h1, h2, h3, h4⟩ := hc.five
  refine ⟨by simpa [World.setCell] using hc.1, fun i hi => ?_, fun i => by simp [go_sem, hc.2.2 i]⟩
  match i, hi with
  | 0, _ => simp [go_sem, h0]
  | 1, _ => simp [go_sem, h1]
  | 2, _ => simp [go_sem, h2]
  | 3, _ => simp [go_sem, h3]
  | 4, _ => simp [go_sem, h4]
theorem Bx.again {o o2 : Obj} (h : Bx w L (W.alloc o)) (h0 : Bx w L W0) (hg : W0.heap.size ≤ W.heap.size) : Bx w L (W.alloc o2) := by
  have hw : w.heap.size ≤ W.heap.size := Nat.le_trans h0.below.size hg
  have hb : Below w.heap.size w (W.alloc o2) := by
    refine ⟨h.below.os, h.below.tape, h.below.output, by rw [World.size_alloc]; have := h.below.size; rw [World.size_alloc] at this; exact this, fun j hj => ?_⟩
    have := h.below.block j hj
    rw [Below.heap_alloc W o j (by omega)] at this
    rw [Below.heap_alloc W o2 j (by omega)]
    exact this
  refine ⟨hb, fun x hx => ⟨(h.own x hx).1, ?_⟩⟩
  have hlt : x.1 < W.heap.size := Nat.lt_of_lt_of_le (h0.own x hx).2.1 hg
  have hc := (h.own x hx).2
  refine ⟨by rw [World.size_alloc]; omega, fun i hi => ?_, fun i => ?_⟩
  · have := hc.2.1 i hi
    rw [World.cell?_alloc_lt _ _ _ hlt] at this
    rw [World.cell?_alloc_lt _ _ _ hlt]; exact this
  · have := hc.2.2 i
    simp only [World.frozen?, Below.heap_alloc W o x.1 hlt] at this
    simp only [World.frozen?, Below.heap_alloc W o2 x.1 hlt]; exact this
theorem newq_keep {c : Array Value} {T : TypeId} (b : Below (W.alloc (.cells c T)).heap.size (W.alloc (.cells c T)) W0) : Cells W0 W.heap.size c := (Cells.new W c T rfl).keep b
theorem newq_drew {c : Array Value} {T : TypeId} (b : Below (W.alloc (.cells c T)).drew.heap.size (W.alloc (.cells c T)).drew W0) : Cells W0 W.heap.size c := newq_keep ⟨b.os, b.tape, b.output, b.size, b.block⟩
end
end Go.Proofs.Ytfjmhfmhijhpkaa
