/- Minimal polynomials in the program. -/
import Derived.Test.YtfjmhfmhijhpkaaSm3
namespace Go.Proofs.Ytfjmhfmhijhpkaa
open Go.RowKit FF

/-- rational elements -/
def ratB (q : Qt) : Bool := q.x == 0 && q.y == 0 && q.z == 0
/-- the coefficients of the minimal polynomial, numerators and denominators one after the other -/
def polL (a b : Int) (q : Qt) : List Int := if ratB q then [lowN (-q.w) q.d, lowD (-q.w) q.d, 1, 1] else [nmN a b q, nmD a b q, lowN (-2 * q.w) q.d, lowD (-2 * q.w) q.d, 1, 1]
def polN (q : Qt) : Nat := if ratB q then 2 else 3
theorem shows_cells4 {W : World} {T : TypeId} {B : Nat} (hB : W.heap.size = B) (a b c d : Int) : ShowsI (W.alloc (.cells #[.int .i64 a, .int .i64 b, .int .i64 c, .int .i64 d] T)) (some ⟨B, 0, none⟩) [a, b, c, d] := by
  subst hB
  exact ShowsI.new fun i hi => by match i, hi with | 0, _ => rfl | 1, _ => rfl | 2, _ => rfl | 3, _ => rfl
theorem shows_cells6 {W : World} {T : TypeId} {B : Nat} (hB : W.heap.size = B) (a b c d e f : Int) : ShowsI (W.alloc (.cells #[.int .i64 a, .int .i64 b, .int .i64 c, .int .i64 d, .int .i64 e, .int .i64 f] T)) (some ⟨B, 0, none⟩) [a, b, c, d, e, f] := by
  subst hB
  exact ShowsI.new fun i hi => by match i, hi with | 0, _ => rfl | 1, _ => rfl | 2, _ => rfl | 3, _ => rfl | 4, _ => rfl | 5, _ => rfl
/-- what Polynomial leaves -/
def PolPost (w : World) (n : Nat) (L : Array Value) (e : Ending) (w' : World) : Prop :=
  ∃ g c, e = .returned (.tuple #[.slice (some ⟨g, 0, none⟩) n c, .int .i64 0]) ∧ w.heap.size ≤ g ∧ Cells w' g L ∧ n ≤ c ∧ c ≤ 10 ∧ Below w.heap.size w w'

end Go.Proofs.Ytfjmhfmhijhpkaa
