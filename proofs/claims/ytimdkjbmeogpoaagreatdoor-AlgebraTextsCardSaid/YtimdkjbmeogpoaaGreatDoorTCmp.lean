/- The verifier's comparisons: SameInt, Ints. -/
import Derived.Test.YtimdkjbmeogpoaaGreatDoorTWordA
namespace Go.Proofs.YtimdkjbmeogpoaaGreatDoor
open Go.RowKit FF
def ShowsI (w : World) (A : Option Addr) (xs : List Int) : Prop :=
  0 < xs.length → ∃ b o, A = some ⟨b, o, none⟩ ∧ b < w.heap.size ∧ ∀ i, i < xs.length → w.cell? ⟨b, o + i, none⟩ = some (.int .i64 (xs.getD i 0))
section
variable {w w' : World} {A : Option Addr} {xs : List Int}
theorem ShowsI.nil : ShowsI w A [] := fun h => absurd h (by simp)
theorem ShowsI.keep (h : ShowsI w A xs) (hs : w.heap.size ≤ w'.heap.size) (hk : ∀ p : Addr, p.block < w.heap.size → w'.cell? p = w.cell? p) : ShowsI w' A xs := by
  intro hn
  obtain ⟨b, o, e, hb, hc⟩ := h hn
  exact ⟨b, o, e, by omega, fun i hi => (hk ⟨b, o + i, none⟩ hb).trans (hc i hi)⟩
theorem ShowsI.below (h : ShowsI w A xs) (hb : Below w.heap.size w w') : ShowsI w' A xs := h.keep hb.size fun _ hp => hb.cell hp
theorem ShowsI.new {w : World} {cs : Array Value} {T : TypeId} {xs : List Int} (h : ∀ i, i < xs.length → cs[i]? = some (.int .i64 (xs.getD i 0))) :
    ShowsI (w.alloc (.cells cs T)) (some ⟨w.heap.size, 0, none⟩) xs := by
  intro _
  refine ⟨w.heap.size, 0, rfl, by simp, fun i hi => ?_⟩
  rw [Nat.zero_add]
  exact (World.cell?_alloc_at (w := w) cs T w.heap.size i rfl).trans (h i hi)
end
end Go.Proofs.YtimdkjbmeogpoaaGreatDoor
