/- Arguments of more types, opened. -/
import Derived.Test.YtmlkiddkgikdhaaOpen
namespace Go.Proofs.Ytmlkiddkgikdhaa
open Go.RowKit Go.WideShapes Go.ChangeShapes Go.Joins Go.Deep FF
section
variable {H : Type} {enc : TypeId × Value → H} {P : Program} {w : World} {base : Nat} {spare : Nat → Bool} {held : Bool}
/-- a struct of two numbers that came in -/
theorem open_pair {r : Reach} {b0 : Nat} {t ti : TypeId} {f0 f1 : Field} {v : Value} {d : DataW H} {p : List MemPlace} {k : IntKind} (ht : P.underlying t = some (.struct #[f0, f1])) (hone : oneCellFields P #[f0, f1] = true) (hC : P.cellsOf t = 2)
    (e0 : f0.type = ti) (e1 : f1.type = ti) (hi : P.underlying ti = some (.int k))
    (hv : Value.okWide P w r b0 t v) (h : DataW.Trod enc P w base spare held t v d p) :
    ∃ a0 a1 : Int, v = .agg #[.int k a0, .int k a1] ∧ (Lit.int k a0).wf = true ∧ (Lit.int k a1).wf = true := by
  obtain ⟨v0, v1, y0, y1, n, rfl, _, _, h0, h1⟩ := open_agg2 ht hone hC hv h
  subst e0
  rw [e1] at h1
  obtain ⟨a0, h0, _, w0⟩ := DataW.trod_int hi h0
  obtain ⟨a1, h1, _, w1⟩ := DataW.trod_int hi h1
  injection h0 with h0; injection h1 with h1
  subst h0; subst h1
  exact ⟨a0, a1, rfl, w0, w1⟩
end
end Go.Proofs.Ytmlkiddkgikdhaa
