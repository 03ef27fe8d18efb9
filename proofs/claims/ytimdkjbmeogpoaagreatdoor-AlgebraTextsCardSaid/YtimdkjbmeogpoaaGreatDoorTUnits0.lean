/- rootModulo and lift of the program. Sorting and compacting what a call has built. units of the program: the roots of a unit modulo a prime power. -/
import Derived.Test.YtimdkjbmeogpoaaGreatDoorTIntA
import Derived.Test.YtimdkjbmeogpoaaGreatDoorTNt
import Derived.Test.YtimdkjbmeogpoaaGreatDoorTOwn0
import Derived.Test.YtimdkjbmeogpoaaGreatDoorTShelf
import Derived.Sort.OwnSortedInts
import Derived.Lib.OwnBridge
import Derived.Laws.IdiomCopy
namespace Go.Proofs.YtimdkjbmeogpoaaGreatDoor
open Go.RowKit FF
def sortI (xs : List Int) : List Int := xs.mergeSort fun x y => decide (x ≤ y)
theorem sortI_length (xs : List Int) : (sortI xs).length = xs.length := List.length_mergeSort xs
theorem Sort_own {B : Nat} (v : Value) (xs : List Int) (w : World) (h : w.ownsRow B 3 1 v xs.length (cellsI xs)) (hl : xs.length < 4611686018427387904) :
    Calls Tryz.prog 107 #[v] w fun e w' => e = .returned (.tuple #[]) ∧ w'.ownsRow B 3 1 v xs.length (cellsI (sortI xs)) ∧ w.grownBy w' v.ownBlock := by
  rcases h.2 with ⟨rfl, h0⟩ | ⟨g, cap, cur, rfl, hb, hg, hnc, hcm, hcs, ht⟩
  · have hx : xs = [] := List.eq_nil_of_length_eq_zero h0
    subst hx
    refine (Tryz.slices_Sort_int_none none 0 w).mono ?_
    rintro e w' ⟨rfl, rfl⟩
    refine ⟨rfl, ?_, ⟨rfl, rfl, rfl, Nat.le_refl _, fun _ _ _ => rfl⟩⟩
    have : sortI [] = [] := List.eq_nil_of_length_eq_zero (sortI_length [])
    rw [this]; exact h
  · obtain ⟨g', cap', hv, _, hgl, _, _, _, hH⟩ := Lib.holds_of_ownsRow (enc := Value.int .i64) h (by simp)
    cases hv
    refine (Tryz.slices_Sort_int g 0 cap xs w hH hgl hl).mono ?_
    rintro e w' ⟨rfl, n, os, rfl⟩
    exact ⟨rfl, _root_.Go.ownsRow_sortedI (sortI_length xs) hb hg hnc hcm hcs, _root_.Go.grownBy_sortedI _⟩
end Go.Proofs.YtimdkjbmeogpoaaGreatDoor
