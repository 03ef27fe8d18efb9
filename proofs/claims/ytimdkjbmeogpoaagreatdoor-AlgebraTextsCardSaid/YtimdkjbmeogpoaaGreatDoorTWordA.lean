/- Slices that show lists of numbers; what keeps them. Words of integers: of, size, made, Of, negative. Words of integers: Of. Words: compare. Words: plus, minus. -/
import Derived.Test.YtimdkjbmeogpoaaGreatDoorTBase
import Derived.Below
import Derived.Handy
import Derived.Deep.Draws
import Derived.Deep.AppendSrc
import Derived.OwnWalk
import Derived.Deep.OwnRows
namespace Go.Proofs.YtimdkjbmeogpoaaGreatDoor
open Go.RowKit FF
def Fresh (B : Nat) (A : Option Addr) : Prop := ∀ a, A = some a → B ≤ a.block
theorem Fresh.none {B : Nat} : Fresh B none := fun _ h => by cases h
theorem Fresh.mk {B b o : Nat} (h : B ≤ b) : Fresh B (some ⟨b, o, Option.none⟩) := fun a e => by injection e with e; subst e; exact h
end Go.Proofs.YtimdkjbmeogpoaaGreatDoor
namespace Go.Proofs.YtimdkjbmeogpoaaGreatDoor
open Go.RowKit FF
theorem info_int : (Tryz.prog.info? 3).map (fun i => (i.zero, i.size, i.bytes)) = some (some (.int .i64 0), 1, 8) := by kernel_rfl
end Go.Proofs.YtimdkjbmeogpoaaGreatDoor
namespace Go.Proofs.YtimdkjbmeogpoaaGreatDoor
open Go.RowKit FF
theorem below_drewN {B : Nat} {a w : World} (h : Below B a w) (n : Nat) : Below B a (w.drewN n) := ⟨h.os, h.tape, h.output, h.size, h.block⟩
end Go.Proofs.YtimdkjbmeogpoaaGreatDoor
