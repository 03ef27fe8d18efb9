/- A set of integers as a map[int]bool of the call's own. -/
import Derived.Test.YtfjmhfmhijhpkaaBase
import Derived.Test.YtfjmhfmhijhpkaaWordA
import Derived.Maps.Own
import Derived.Maps.OwnOps
import Derived.Maps.OwnSet
import Derived.Maps.Views
namespace Go.Proofs.Ytfjmhfmhijhpkaa
open Go.RowKit FF
open Go.Maps (Keyed int_keyed keyOf_int_mk)

theorem intKey : Keyed Try.prog 3 := int_keyed Try.underlying3
theorem zeroBool (w : World) : (zeroValue 4).run Try.prog w = .ok (.bool false) w := by kernel_rfl
/-- block b is a map from integers to true, the keys are those of S -/
def SetOf (w : World) (b n : Nat) (S : List Int) : Prop :=
  ∃ D : DataW Unit, w.ownsMap Try.prog 3 (plainElem Try.prog 4) b n D ∧ Maps.IsMap D ∧ ∀ q : Int, D.atKey (.int .i64 q) (.lit (.bool false)) = .lit (.bool (decide (q ∈ S)))
theorem SetOf.made (w : World) : SetOf (w.alloc (.map #[] 0)) w.heap.size 0 [] :=
  ⟨.map [], World.ownsMap_made _ _ _ _, Maps.isMap_empty, fun q => by simp [DataW.atKey]⟩
theorem SetOf.kept {w w' : World} {b n : Nat} {S : List Int} {row : Option Nat} (h : SetOf w b n S) (hg : w.grownBy w' row) (hne : some b ≠ row) : SetOf w' b n S := by
  obtain ⟨D, h1, h2⟩ := h
  exact ⟨D, h1.kept hg hne, h2⟩
theorem SetOf.keep {w w' : World} {b n : Nat} {S : List Int} (h : SetOf w b n S) (hb : Below w.heap.size w w') : SetOf w' b n S := by
  obtain ⟨D, ⟨es, clock, g1, g2⟩, h2⟩ := h
  exact ⟨D, ⟨es, clock, by rw [hb.block b (Array.getElem?_eq_some_iff.1 g1).1]; exact g1, g2⟩, h2⟩
theorem SetOf.lt {w : World} {b n : Nat} {S : List Int} (h : SetOf w b n S) : b < w.heap.size := by
  obtain ⟨D, h1, -⟩ := h
  exact h1.lt
theorem plainElem_bool_inv {P : Program} {e : TypeId} (he : P.underlying e = some .bool) {v : Value} {x : Bool} {ps : List MemPlace} (h : plainElem (H := Unit) P e v = some (.lit (.bool x), ps)) : v = .bool x := by
  unfold plainElem at h
  rw [he] at h
  cases v <;> simp at h
  rw [h.1]
theorem wpList_lookup_set (w : World) {ops : Array Oper} {rest : List Oper} {o : Oper} {a : Act} {Q : Exit → Act → World → Prop} (hg : o.guard = none) (m x : Operand) (hop : o.op = Op.lookup 117 m x false)
    (b n : Nat) (S : List Int) (hm : a.eval m = .map (some b)) (hS : SetOf w b n S) (q : Int) (hx : a.eval x = .int .i64 q) (hq : I64 q)
    (hK : wpList Try.prog ops Q rest (a.put o.dst (.bool (decide (q ∈ S)))) w) : wpList Try.prog ops Q (o :: rest) a w := by
  obtain ⟨D, h1, h2, h3⟩ := hS
  obtain ⟨v, ps, hrun, hv⟩ := h1.lookup intKey Try.underlying117 (zeroBool w) (plainElem_bool Try.underlying4 false) (keyOf_int_mk Try.underlying3 (WalkArith.wf_i64 hq))
  rw [h3 q] at hv
  obtain rfl := plainElem_bool_inv Try.underlying4 hv
  refine wpList_plain hg fun K' hK' => ?_
  unfold Oper.wp
  simp [execOp, hop, hm, hx, hrun, Result.andThen]
  exact hK' _ _ hK
theorem wpList_update_set (w : World) {ops : Array Oper} {rest : List Oper} {o : Oper} {a : Act} {Q : Exit → Act → World → Prop} (hg : o.guard = none) (m x v : Operand) (hop : o.op = Op.mapUpdate 117 m x v)
    (b n : Nat) (S : List Int) (hm : a.eval m = .map (some b)) (hS : SetOf w b n S) (hn : n < maxLen) (q : Int) (hx : a.eval x = .int .i64 q) (hv : a.eval v = .bool true) (hq : I64 q)
    (hK : ∀ w', SetOf w' b (n + 1) (q :: S) → w.grownBy w' (some b) → wpList Try.prog ops Q rest (a.put o.dst undef) w') : wpList Try.prog ops Q (o :: rest) a w := by
  obtain ⟨D, h1, h2, h3⟩ := hS
  refine wpList_mapUpdate_own w hg m x v 117 hop 3 4 intKey Try.underlying117 _ b n D hm h1 hn _ _ _ hx hv (keyOf_int_mk Try.underlying3 (WalkArith.wf_i64 hq)) _ [] (plainElem_bool Try.underlying4 true) ?_
  intro w' h4 h5
  refine hK w' ⟨_, h4, h2.put _ _, fun r => ?_⟩ h5
  by_cases hr : r = q
  · subst hr
    rw [Maps.atKey_put_same h2 (by trivial)]
    simp
  · rw [Maps.atKey_put_other (by intro e; injection e with _ e2; exact hr e2), h3 r]
    simp [hr]
end Go.Proofs.Ytfjmhfmhijhpkaa
