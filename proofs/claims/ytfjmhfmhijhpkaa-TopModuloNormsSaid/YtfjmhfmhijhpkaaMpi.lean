/- A map[int]int of the call's own that holds a root of each square modulo p. -/
import Derived.Test.YtfjmhfmhijhpkaaMdo
import Derived.Maps.Own
import Derived.Maps.OwnOps
import Derived.Maps.OwnSet
import Derived.Maps.Views
namespace Go.Proofs.Ytfjmhfmhijhpkaa
open Go.RowKit FF
open Go.Maps (Keyed int_keyed keyOf_int_mk)

theorem intKey : Keyed Try.prog 3 := int_keyed Try.underlying3
theorem zeroInt (w : World) : (zeroValue 3).run Try.prog w = .ok (.int .i64 0) w := by kernel_rfl
/-- block b is a map that gives to each square of a number below t, modulo p, such a number -/
def SqMap (w : World) (b n : Nat) (p : Int) (t : Nat) : Prop :=
  ∃ D : DataW Unit, w.ownsMap Try.prog 3 (plainElem Try.prog 3) b n D ∧ Maps.IsMap D ∧ ∀ q : Int,
    (Maps.has D (.int .i64 q) = true ∧ ∃ u : Nat, u < t ∧ ((u : Int) * u).tmod p = q ∧ D.atKey (.int .i64 q) (.lit (.int .i64 0)) = .lit (.int .i64 u)) ∨
    (Maps.has D (.int .i64 q) = false ∧ ∀ u : Nat, u < t → ((u : Int) * u).tmod p ≠ q)
theorem SqMap.made (w : World) (p : Int) : SqMap (w.alloc (.map #[] 0)) w.heap.size 0 p 0 :=
  ⟨.map [], World.ownsMap_made _ _ _ _, Maps.isMap_empty, fun q => .inr ⟨rfl, fun u hu => absurd hu (by omega)⟩⟩
theorem SqMap.keep {w w' : World} {b n : Nat} {p : Int} {t : Nat} (h : SqMap w b n p t) (hb : Below w.heap.size w w') : SqMap w' b n p t := by
  obtain ⟨D, ⟨es, clock, g1, g2⟩, h2⟩ := h
  exact ⟨D, ⟨es, clock, by rw [hb.block b (Array.getElem?_eq_some_iff.1 g1).1]; exact g1, g2⟩, h2⟩
theorem SqMap.lt {w : World} {b n : Nat} {p : Int} {t : Nat} (h : SqMap w b n p t) : b < w.heap.size := by
  obtain ⟨D, h1, -⟩ := h
  exact h1.lt
theorem wpList_update_sq (w : World) {ops : Array Oper} {rest : List Oper} {o : Oper} {a : Act} {Q : Exit → Act → World → Prop} (hg : o.guard = none) (m x v : Operand) (hop : o.op = Op.mapUpdate 93 m x v)
    (b n : Nat) (p : Int) (t : Nat) (hm : a.eval m = .map (some b)) (hS : SqMap w b n p t) (hn : n < maxLen) (hx : a.eval x = .int .i64 (((t : Int) * t).tmod p)) (hv : a.eval v = .int .i64 t) (hq : I64 (((t : Int) * t).tmod p)) (ht : I64 t)
    (hK : ∀ w', SqMap w' b (n + 1) p (t + 1) → w.grownBy w' (some b) → wpList Try.prog ops Q rest (a.put o.dst undef) w') : wpList Try.prog ops Q (o :: rest) a w := by
  obtain ⟨D, h1, h2, h3⟩ := hS
  refine wpList_mapUpdate_own w hg m x v 93 hop 3 3 intKey Try.underlying93 _ b n D hm h1 hn _ _ _ hx hv (keyOf_int_mk Try.underlying3 (WalkArith.wf_i64 hq)) _ [] (plainElem_int Try.underlying3 (WalkArith.wf_i64 ht)) ?_
  intro w' h4 h5
  refine hK w' ⟨_, h4, h2.put _ _, fun r => ?_⟩ h5
  by_cases hr : r = ((t : Int) * t).tmod p
  · subst hr
    exact .inl ⟨Maps.has_put_same h2 (by trivial) _, t, by omega, rfl, Maps.atKey_put_same h2 (by trivial) _ _⟩
  · have hne : (Lit.int IntKind.i64 r) ≠ .int .i64 (((t : Int) * t).tmod p) := by intro e; injection e with _ e2; exact hr e2
    rw [Maps.has_put_other hne, Maps.atKey_put_other hne]
    rcases h3 r with ⟨k1, u, k2, k3, k4⟩ | ⟨k1, k2⟩
    · exact .inl ⟨k1, u, by omega, k3, k4⟩
    · refine .inr ⟨k1, fun u hu => ?_⟩
      rcases Nat.lt_or_ge u t with g | g
      · exact k2 u g
      · rw [show u = t by omega]; exact fun e => hr e.symm
/-- the square is there -/
theorem wpList_lookup_hit (w : World) {ops : Array Oper} {rest : List Oper} {o : Oper} {a : Act} {Q : Exit → Act → World → Prop} (hg : o.guard = none) (m x : Operand) (hop : o.op = Op.lookup 93 m x true)
    (b n : Nat) (p : Int) (t : Nat) (hm : a.eval m = .map (some b)) (hS : SqMap w b n p t) (q : Int) (hx : a.eval x = .int .i64 q) (hq : I64 q) (hyes : ∃ u : Nat, u < t ∧ ((u : Int) * u).tmod p = q)
    (hK : ∀ u : Nat, u < t → ((u : Int) * u).tmod p = q → wpList Try.prog ops Q rest (a.put o.dst (.tuple #[.int .i64 u, .bool true])) w) : wpList Try.prog ops Q (o :: rest) a w := by
  obtain ⟨D, h1, h2, h3⟩ := hS
  refine wpList_lookup_own_ok_int w hg m x 93 hop 3 3 .i64 intKey Try.underlying93 Try.underlying3 (zeroInt w) b n D hm h1 _ _ hx (keyOf_int_mk Try.underlying3 (WalkArith.wf_i64 hq)) ?_
  intro c hc _
  rcases h3 q with ⟨k1, u, k2, k3, k4⟩ | ⟨_, k2⟩
  · rw [k4] at hc
    injection hc with hc
    injection hc with _ hc
    subst hc
    rw [k1]
    exact hK u k2 k3
  · obtain ⟨u, g1, g2⟩ := hyes
    exact absurd g2 (k2 u g1)
/-- it is not -/
theorem wpList_lookup_miss (w : World) {ops : Array Oper} {rest : List Oper} {o : Oper} {a : Act} {Q : Exit → Act → World → Prop} (hg : o.guard = none) (m x : Operand) (hop : o.op = Op.lookup 93 m x true)
    (b n : Nat) (p : Int) (t : Nat) (hm : a.eval m = .map (some b)) (hS : SqMap w b n p t) (q : Int) (hx : a.eval x = .int .i64 q) (hq : I64 q) (hno : ∀ u : Nat, u < t → ((u : Int) * u).tmod p ≠ q)
    (hK : ∀ c : Int, wpList Try.prog ops Q rest (a.put o.dst (.tuple #[.int .i64 c, .bool false])) w) : wpList Try.prog ops Q (o :: rest) a w := by
  obtain ⟨D, h1, h2, h3⟩ := hS
  refine wpList_lookup_own_ok_int w hg m x 93 hop 3 3 .i64 intKey Try.underlying93 Try.underlying3 (zeroInt w) b n D hm h1 _ _ hx (keyOf_int_mk Try.underlying3 (WalkArith.wf_i64 hq)) ?_
  intro c _ _
  rcases h3 q with ⟨_, u, k2, k3, _⟩ | ⟨k1, _⟩
  · exact absurd k3 (hno u k2)
  · rw [k1]
    exact hK c
end Go.Proofs.Ytfjmhfmhijhpkaa
