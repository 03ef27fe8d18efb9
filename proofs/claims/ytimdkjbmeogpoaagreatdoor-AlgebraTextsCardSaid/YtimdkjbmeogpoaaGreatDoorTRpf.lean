/- A law of regions that draw their order: what an operation yields is known by a word about it, boxes are laid and filled with what was yielded; whatever the order, all of it holds behind the region. -/
import Derived.Test.YtimdkjbmeogpoaaGreatDoorTRin
namespace Go.Proofs.YtimdkjbmeogpoaaGreatDoor
open Go.RowKit FF
abbrev Wd := Nat × Nat × (Value → World → Prop)
structure BxS where
  at' : Nat
  slot : Nat
  st : Nat
  so : Nat
  src : Nat
  zero : Array Value
structure BxO where
  g : Nat
  st : Nat
  so : Nat
  src : Nat
  zero : Array Value
  fill : Value → Array Value → Prop
section
variable {P : Program} {ops : Array Oper} {Q : Exit → Act → World → Prop} {a : Act} {w : World} {B : Nat} {pr : List Wd} {bxs : List BxS} {olds : List BxO} {ex : World → Prop}
structure WpS (P : Program) (o : Oper) (a : Act) (W : World) (K : Act → World → Prop) (Q' : Exit → Act → World → Prop) : Prop where
  out : Oper.wp P o a W K Q'
def FGuard (pr : List Wd) (o : Oper) (j : Nat) (want b : Bool) : Prop := o.guard = some (j, want) ∧ depB o j = true ∧ ∃ x ∈ pr, x.1 = j ∧ ∀ v W, x.2.2 v W → v = .bool b
def fullB (ops : Array Oper) (n : Nat) (vs : List (Nat × Nat)) (bs : List (Nat × Nat × Nat × Nat × Nat)) (os : List (Nat × Nat × Nat)) : Bool :=
  ((List.range ops.size).all fun i => ((ops[i]?).map fun o => o.after.all fun e => !Region.binds .any e || decide (e.on < i)).getD true) &&
  ((List.range ops.size).all fun i => (List.range ops.size).all fun j => i == j || (match dstAt ops i, dstAt ops j with | some d, some e => d != e | _, _ => true)) &&
  (vs.all fun x => dstAt ops x.1 == some x.2 && decide (x.2 < n)) &&
  (bs.all fun b => (dstAt ops b.1 == some b.2.1 && decide (b.2.1 < n)) && decide (b.2.2.1 < ops.size) && dstAt ops b.2.2.2.1 == some b.2.2.2.2) && decide (ops.size ≤ 999) &&
  (os.all fun c => !decide (c.1 < ops.size) || dstAt ops c.2.1 == some c.2.2)
end
theorem word_only {pr : List Wd} {i d : Nat} {p : Value → World → Prop} {v : Value} {W : World} (h : pr.filter (fun x => x.1 == i) = [(i, d, p)]) (hv : p v W) : ∀ x ∈ pr, x.1 = i → x.2.2 v W := by
  intro x hx he
  have : x ∈ pr.filter (fun x => x.1 == i) := List.mem_filter.2 ⟨hx, by simp [he]⟩
  rw [h, List.mem_singleton] at this
  rw [this]; exact hv
theorem word_get {pr : List Wd} {j t : Nat} {p : Value → World → Prop} (h : pr.find? (fun x => x.1 == j) = some (j, t, p)) : (j, t, p) ∈ pr := List.mem_of_find?_eq_some h
def VC (e : Value) : Value → World → Prop := fun v _ => v = e
def PostW (p : Value → World → Prop) (w : World) (e : Ending) (w' : World) : Prop := ∃ v, e = .returned v ∧ p v w' ∧ Below w.heap.size w w'
end Go.Proofs.YtimdkjbmeogpoaaGreatDoor
