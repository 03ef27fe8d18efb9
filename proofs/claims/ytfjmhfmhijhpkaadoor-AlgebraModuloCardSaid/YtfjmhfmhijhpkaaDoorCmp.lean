/- The verifier's comparisons: SameInt, Ints. -/
import Derived.Test.YtfjmhfmhijhpkaaDoorWordA
namespace Go.Proofs.YtfjmhfmhijhpkaaDoor
open Go.RowKit FF

/-- lists that agree up to i -/
def agreeTo {α : Type} (xs ys : List α) (i : Nat) : Prop := xs.take i = ys.take i
theorem agree_step {α : Type} {xs ys : List α} {i : Nat} {d : α} (hl : xs.length = ys.length) (hi : i < xs.length) (h : xs.take i = ys.take i) (he : xs.getD i d = ys.getD i d) : xs.take (i + 1) = ys.take (i + 1) := by
  simp only [List.getD_eq_getElem?_getD] at he
  rw [List.getElem?_eq_getElem hi, List.getElem?_eq_getElem (hl ▸ hi)] at he
  simp only [Option.getD_some] at he
  rw [List.take_add_one, List.take_add_one, h, List.getElem?_eq_getElem hi, List.getElem?_eq_getElem (hl ▸ hi), he]
theorem agree_not {α : Type} {xs ys : List α} {i : Nat} {d : α} (he : xs.getD i d ≠ ys.getD i d) : xs ≠ ys := fun h => he (by rw [h])

theorem below_two {w : World} {o1 o2 : Obj} (m : Nat) : Below w.heap.size w (((w.alloc o1).alloc o2).drewN m) :=
  below_drewN (((Below.refl _ _).alloc (Nat.le_refl _) _).alloc (by simp) _) m
/-- the slice at A shows the machine integers xs -/
def ShowsI (w : World) (A : Option Addr) (xs : List Int) : Prop :=
  0 < xs.length → ∃ b o, A = some ⟨b, o, none⟩ ∧ b < w.heap.size ∧ ∀ i, i < xs.length → w.cell? ⟨b, o + i, none⟩ = some (.int .i64 (xs.getD i 0))
section
variable {w w' : World} {A : Option Addr} {xs : List Int}
theorem ShowsI.nil : ShowsI w A [] := fun h => absurd h (by simp)
theorem ShowsI.keep (h : ShowsI w A xs) (hs : w.heap.size ≤ w'.heap.size) (hk : ∀ p : Addr, p.block < w.heap.size → w'.cell? p = w.cell? p) : ShowsI w' A xs := by
  intro hn
  obtain ⟨b, o, e, hb, hc⟩ := h hn
  exact ⟨b, o, e, by omega, fun i hi => (hk ⟨b, o + i, none⟩ hb).trans (hc i hi)⟩
theorem ShowsI.below (h : ShowsI w A xs) (hb : Below w.heap.size w w') : ShowsI w' A xs := h.keep hb.size fun _ hp => hb.cell hp
theorem ShowsI.drewN (h : ShowsI w A xs) (n : Nat) : ShowsI (w.drewN n) A xs := h
theorem ShowsI.alloc (h : ShowsI w A xs) (o : Obj) : ShowsI (w.alloc o) A xs := h.keep (by simp) fun p hp => World.cell?_alloc_lt w o p hp
theorem ShowsI.setCell {B : Nat} (h : ShowsI w A xs) (hf : Fresh B A) {p : Addr} (hp : p.block < B) (v : Value) : ShowsI (w.setCell p v) A xs := by
  intro hn
  obtain ⟨b, o, e, hb, hc⟩ := h hn
  refine ⟨b, o, e, by simpa [World.setCell] using hb, fun i hi => ?_⟩
  rw [World.cell?_setCell_other w p ⟨b, o + i, Option.none⟩ v (fun e2 => by
    have := hf _ e
    have e3 : p.block = b := by rw [e2]
    simp at this
    omega)]
  exact hc i hi
theorem ShowsI.new {w : World} {cs : Array Value} {T : TypeId} {xs : List Int} (h : ∀ i, i < xs.length → cs[i]? = some (.int .i64 (xs.getD i 0))) :
    ShowsI (w.alloc (.cells cs T)) (some ⟨w.heap.size, 0, none⟩) xs := by
  intro _
  refine ⟨w.heap.size, 0, rfl, by simp, fun i hi => ?_⟩
  rw [Nat.zero_add]
  exact (World.cell?_alloc_at (w := w) cs T w.heap.size i rfl).trans (h i hi)
end

end Go.Proofs.YtfjmhfmhijhpkaaDoor
