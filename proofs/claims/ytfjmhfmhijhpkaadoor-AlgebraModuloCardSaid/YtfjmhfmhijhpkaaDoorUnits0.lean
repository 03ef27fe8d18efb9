/- rootModulo and lift of the program. Sorting and compacting what a call has built. units of the program: the roots of a unit modulo a prime power. -/
import Derived.Test.YtfjmhfmhijhpkaaDoorIntA
import Derived.Test.YtfjmhfmhijhpkaaDoorLag0
import Derived.Test.YtfjmhfmhijhpkaaDoorOwn0
import Derived.Test.YtfjmhfmhijhpkaaDoorShelf
import Derived.Sort.OwnSortedInts
import Derived.Lib.OwnBridge
import Derived.Laws.IdiomCopy
namespace Go.Proofs.YtfjmhfmhijhpkaaDoor
open Go.RowKit FF

/-- it returns some number of which P holds, and has at most drawn -/
def RetI (P : Int → Prop) (w : World) (e : Ending) (w' : World) : Prop := ∃ x : Int, P x ∧ e = .returned (.int .i64 x) ∧ ∃ n, w' = w.drewN n
theorem RetI.mk {P : Int → Prop} {w : World} {x : Int} (n : Nat) (h : P x) : RetI P w (.returned (.int .i64 x)) (w.drewN n) := ⟨x, h, rfl, n, rfl⟩

theorem vp2_small {p : Int} (h2 : 2 < p) (hp : p ≤ 1000000000) : vp 2 (p - 1) ≤ 40 := by
  have h1 := vp_lt (p := 2) (n := p - 1) (by omega) (by omega)
  rcases Nat.lt_or_ge 40 (vp 2 (p - 1)) with g | g
  · exfalso
    have h2 : 2 ^ 41 ≤ 2 ^ vp 2 (p - 1) := Nat.pow_le_pow_right (by omega) g
    omega
  · exact g

end Go.Proofs.YtfjmhfmhijhpkaaDoor
namespace Go.Proofs.YtfjmhfmhijhpkaaDoor
open Go.RowKit FF
end Go.Proofs.YtfjmhfmhijhpkaaDoor
namespace Go.Proofs.YtfjmhfmhijhpkaaDoor
open Go.RowKit FF

/-- ascending -/
def sortI (xs : List Int) : List Int := xs.mergeSort fun x y => decide (x ≤ y)
theorem sortI_length (xs : List Int) : (sortI xs).length = xs.length := List.length_mergeSort xs

theorem Sort_own {B : Nat} (v : Value) (xs : List Int) (w : World) (h : w.ownsRow B 3 1 v xs.length (cellsI xs)) (hl : xs.length < 4611686018427387904) :
    Calls Tryd.prog 50 #[v] w fun e w' => e = .returned (.tuple #[]) ∧ w'.ownsRow B 3 1 v xs.length (cellsI (sortI xs)) ∧ w.grownBy w' v.ownBlock := by
  rcases h.2 with ⟨rfl, h0⟩ | ⟨g, cap, cur, rfl, hb, hg, hnc, hcm, hcs, ht⟩
  · have hx : xs = [] := List.eq_nil_of_length_eq_zero h0
    subst hx
    refine (Tryd.slices_Sort_int_none none 0 w).mono ?_
    rintro e w' ⟨rfl, rfl⟩
    refine ⟨rfl, ?_, ⟨rfl, rfl, rfl, Nat.le_refl _, fun _ _ _ => rfl⟩⟩
    have : sortI [] = [] := List.eq_nil_of_length_eq_zero (sortI_length [])
    rw [this]; exact h
  · obtain ⟨g', cap', hv, _, hgl, _, _, _, hH⟩ := Lib.holds_of_ownsRow (enc := Value.int .i64) h (by simp)
    cases hv
    refine (Tryd.slices_Sort_int g 0 cap xs w hH hgl hl).mono ?_
    rintro e w' ⟨rfl, n, os, rfl⟩
    exact ⟨rfl, _root_.Go.ownsRow_sortedI (sortI_length xs) hb hg hnc hcm hcs, _root_.Go.grownBy_sortedI _⟩
end Go.Proofs.YtfjmhfmhijhpkaaDoor
namespace Go.Proofs.YtfjmhfmhijhpkaaDoor
open Go.RowKit FF

theorem below_setCells {B b : Nat} (hb : B ≤ b) {a : World} : ∀ (vs : List Value) (o : Nat) (w : World), Below B a w → Below B a (w.setCells b o vs)
  | [], _, _, h => h
  | v :: r, o, w, h => below_setCells hb r (o + 1) (w.setCell ⟨b, o, none⟩ v) (h.setCell hb v)
theorem Compact_own {B : Nat} (v : Value) (xs : List Int) (w : World) (h : w.ownsRow B 3 1 v xs.length (cellsI xs)) (hl : xs.length < 4611686018427387904) (h0 : 0 < xs.length) :
    Calls Tryd.prog 51 #[v] w fun e w' => ∃ A c, e = .returned (.slice A (Lib.compact xs).length c) ∧ ShowsI w' A (Lib.compact xs) ∧ (Lib.compact xs).length ≤ c ∧ c ≤ maxLen ∧ Below B w w' := by
  rcases h.2 with ⟨rfl, hn⟩ | ⟨g, cap, cur, rfl, hb, hg, hnc, hcm, hcs, ht⟩
  · omega
  · have hcell : ∀ j, j < xs.length → w.cell? ⟨g, 0 + j, none⟩ = some (.int .i64 (xs.getD j 0)) := fun j hj => by
      have := h.cellAt j (by omega)
      rw [Nat.zero_add, this, cellsI_get hj]
    have hfr : ∀ j, j < xs.length → w.frozen? ⟨g, 0 + j, none⟩ = false := fun j _ => h.frozenAt _
    have hle := Lib.compact_length_le xs
    refine (Tryd.slices_Compact_int_cells g 0 xs.length cap xs w (Nat.le_refl _) (by omega) hnc hcell hfr).mono ?_
    rw [List.take_length]
    rintro e w' ⟨rfl, q, rfl⟩
    have hlt : g < w.heap.size := (Array.getElem?_eq_some_iff.1 hg).1
    refine ⟨some ⟨g, 0, none⟩, cap, rfl, fun _ => ⟨g, 0, rfl, ?_, fun i hi => ?_⟩, by omega, hcm, below_setCells hb _ _ _ (below_drewN (Below.refl _ _) q)⟩
    · exact Nat.lt_of_lt_of_le (show g < (w.drewN q).heap.size from hlt) (below_setCells (B := 0) (b := g) (Nat.zero_le _) (a := w.drewN q) ((Lib.compact xs ++ List.replicate (xs.length - (Lib.compact xs).length) 0).map (Value.int .i64)) 0 (w.drewN q) (Below.refl _ _)).size
    · have hlen : ((Lib.compact xs ++ List.replicate (xs.length - (Lib.compact xs).length) 0).map (Value.int .i64)).length = xs.length := by simp; omega
      rw [World.cell?_setCells_in g _ 0 (w.drewN q) (fun j hj => by rw [hlen] at hj; rw [World.cell?_drewN, hcell j hj]; rfl) i (by rw [hlen]; omega)]
      rw [List.getElem_map, List.getElem_append_left hi, List.getD_eq_getElem?_getD, List.getElem?_eq_getElem hi]
      rfl

/-- a new block of integers is a row of the call's own -/
theorem own_new (w : World) (xs : List Int) (n : Nat) (vs : Array Value) (hn : xs.length = n) (hv : vs.toList = cellsI xs) (hm : n ≤ maxLen) :
    (w.alloc (.cells vs 3)).ownsRow w.heap.size 3 1 (.slice (some ⟨w.heap.size, 0, none⟩) n n) n (cellsI xs) := by
  have hs : vs.size = n := by rw [← Array.length_toList, hv, cellsI_length, hn]
  refine ⟨by rw [cellsI_length, hn, Nat.mul_one], .inr ⟨w.heap.size, n, vs, rfl, Nat.le_refl _, ?_, Nat.le_refl _, hm, by omega, ?_⟩⟩
  · exact (MapKept.heap_alloc w _).1
  · rw [hv, Nat.mul_one, List.take_of_length_le (by rw [cellsI_length]; omega)]
theorem compact_asc {l : List Int} (h : l.Pairwise (· < ·)) : Lib.compact l = l := by
  refine Lib.compact_all l fun j hj => ?_
  by_cases h0 : j = 0
  · subst h0; simp [Lib.keeps]
  · refine Lib.keeps_pos ?_
    have h1 := List.pairwise_iff_getElem.1 h (j - 1) j (by omega) hj (by omega)
    rw [getElem!_pos _ j (by simpa using hj), getElem!_pos _ (j - 1) (by simp; omega)]
    simp
    omega
theorem sortI_roots {l : List Int} {u q : Int} (h : IsRoots l u q) : IsRoots (sortI l) u q ∧ (sortI l).Pairwise (· < ·) := by
  have hp := List.mergeSort_perm l (fun x y => decide (x ≤ y))
  have hs := List.pairwise_mergeSort (le := fun x y : Int => decide (x ≤ y)) (fun a b c h1 h2 => by simp at *; omega) (fun a b => by simp; omega) l
  have hnd : (sortI l).Nodup := hp.nodup_iff.2 h.1
  exact ⟨⟨hnd, fun y => by rw [← h.2 y]; exact hp.mem_iff⟩, List.Pairwise.imp₂ (R := fun x y => decide (x ≤ y) = true) (S := fun x y => x ≠ y) (fun {a b} h1 h2 => by simp at h1; omega) hs hnd⟩
theorem four_roots : sortI [1, 3, 3, 1] = [1, 1, 3, 3] ∧ Lib.compact [(1 : Int), 1, 3, 3] = [1, 3] := by
  refine ⟨?_, by decide⟩
  simp [sortI, List.mergeSort, List.MergeSort.Internal.splitInTwo]

/-- what units hands back -/
def UnitsPost (u q : Int) (w : World) (e : Ending) (w' : World) : Prop := ∃ (B : List Int) (A : Option Addr) (c : Nat), IsRoots B u q ∧ B.length ≤ 4 ∧ e = .returned (.slice A B.length c) ∧ ShowsI w' A B ∧ B.length ≤ c ∧ c ≤ maxLen ∧ Below w.heap.size w w'

end Go.Proofs.YtfjmhfmhijhpkaaDoor
namespace Go.Proofs.YtfjmhfmhijhpkaaDoor
open Go.RowKit FF
theorem two_bounds {j k : Nat} (h : j ≤ k) (hk : k ≤ 29) : (1 : Int) ≤ 2 ^ j ∧ (2 : Int) ^ j ≤ 536870912 := by
  have h1 : 2 ^ j ≤ 2 ^ 29 := Nat.pow_le_pow_right (by omega) (by omega)
  have h2 : ((2 ^ j : Nat) : Int) = 2 ^ j := by push_cast; rfl
  have h3 := two_pow_pos j
  omega
/-- what holds in the loop over powers of 2 -/
def TwoRel (u : Int) (j : Nat) (x : Int) : Prop := Cg ((2 : Int) ^ j) (x * x) u ∧ x % 2 = 1 ∧ 0 ≤ x ∧ x < (2 : Int) ^ (j - 1)

end Go.Proofs.YtfjmhfmhijhpkaaDoor
namespace Go.Proofs.YtfjmhfmhijhpkaaDoor
open Go.RowKit FF
end Go.Proofs.YtfjmhfmhijhpkaaDoor
