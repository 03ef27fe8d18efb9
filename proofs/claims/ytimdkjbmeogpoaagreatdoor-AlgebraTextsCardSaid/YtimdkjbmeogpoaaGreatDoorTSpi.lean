/- Words about integers, fractions and matrices that lie in memory; the calls that the fractions of both sides are made of. -/
import Derived.Test.YtimdkjbmeogpoaaGreatDoorTRpf
import Derived.Test.YtimdkjbmeogpoaaGreatDoorTWordA
import Derived.Laws.Bits64b
import Derived.Test.YtimdkjbmeogpoaaGreatDoorTOwn0
import Derived.Deep.RegionHeld3
import Derived.Deep.AppendLies
import Derived.Deep.LoopGhost
namespace Go.Proofs.YtimdkjbmeogpoaaGreatDoor
open Go.RowKit FF
theorem Cells.set {W : World} {b : Nat} {vs : Array Value} (h : Cells W b vs) {k : Nat} (hk : k < vs.size) (u : Value) : Cells (W.setCell ⟨b, k, none⟩ u) b (vs.set k u) := by
  have hc : ∃ v, W.cell? ⟨b, k, none⟩ = some v := ⟨vs[k], by rw [h.2.1 k hk, Array.getElem?_eq_getElem hk]⟩
  refine ⟨by rw [(Only.setCell W b k u).size]; exact h.1, fun i hi => ?_, fun i => by simp [go_sem, h.2.2 i]⟩
  rw [Array.getElem?_set]
  by_cases hik : k = i
  · subst hik
    rw [if_pos rfl]
    obtain ⟨v, hv⟩ := hc
    exact World.cell?_setCell_same' _ _ _ (by rw [hv]; rfl)
  · rw [if_neg hik]
    rw [← h.2.1 i (by simpa using hi)]
    simp [go_sem]
theorem Cells.setL {W : World} {b : Nat} {vs vs' : Array Value} (h : Cells W b vs) (k : Nat) (u : Value) (hk : k < vs.size) (he : vs.toList.set k u = vs'.toList) : Cells (W.setCell ⟨b, k, none⟩ u) b vs' := by
  have e : vs.set k u hk = vs' := by
    apply Array.toList_inj.1
    rw [Array.toList_set]; exact he
  rw [← e]
  exact h.set hk u
end Go.Proofs.YtimdkjbmeogpoaaGreatDoor
