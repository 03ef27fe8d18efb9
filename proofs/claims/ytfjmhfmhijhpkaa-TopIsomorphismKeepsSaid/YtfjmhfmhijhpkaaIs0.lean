/- What the search for images keeps's search. -/
import Derived.Test.YtfjmhfmhijhpkaaIsb
import Derived.Test.YtfjmhfmhijhpkaaRci
import Derived.Test.YtfjmhfmhijhpkaaGoq
namespace Go.Proofs.Ytfjmhfmhijhpkaa
open Go.RowKit FF

/-- what the search keeps -/
def rtB (c d n : Int) (q : Qt) : Bool := decide (gq q = 1) && sqB c d n q
theorem nrm_gq {q : Qt} (hd : 1 ≤ q.d) : nrm q = q ↔ gq q = 1 := by
  have hs : gs q = gq q := by unfold gs; rw [if_neg (by omega)]
  constructor
  · intro h
    have h4 : q.d.tdiv (gs q) = q.d := congrArg Qt.d h
    have hg := gs_ne (q := q) (by omega)
    rw [hs] at h4 hg
    apply Classical.byContradiction; intro hn
    have h2 : (2 : Int) ≤ gq q := by omega
    rw [Int.tdiv_eq_ediv_of_nonneg (by omega)] at h4
    have h5 := Int.ediv_mul_le q.d (b := (gq q : Int)) (by omega)
    rw [h4] at h5
    have h6 := Int.mul_le_mul_of_nonneg_left h2 (show (0 : Int) ≤ q.d by omega)
    omega
  · intro h
    unfold nrm
    rw [hs, h]
    simp
def PurePost (w : World) (l : List Qt) (e : Ending) (w' : World) : Prop :=
  ∃ A cp, e = .returned (.slice A l.length cp) ∧ ShowsI w' A (qflat l) ∧ l.length ≤ cp ∧ cp ≤ maxLen ∧ Below w.heap.size w w' ∧ Fresh w.heap.size A
theorem eq5q (x0 x1 x2 x3 x4 y0 y1 y2 y3 y4 : Int) (w : World) : Sem.run Try.prog (Op.equalIn 10000 25 (.agg #[.int .i64 x0, .int .i64 x1, .int .i64 x2, .int .i64 x3, .int .i64 x4]) (.agg #[.int .i64 y0, .int .i64 y1, .int .i64 y2, .int .i64 y3, .int .i64 y4])) w = .ok (x0 == y0 && (x1 == y1 && (x2 == y2 && (x3 == y3 && x4 == y4)))) w := by
  have h := run_equalIn_agg (P := Try.prog) w 9999 25 #[.int .i64 x0, .int .i64 x1, .int .i64 x2, .int .i64 x3, .int .i64 x4] #[.int .i64 y0, .int .i64 y1, .int .i64 y2, .int .i64 y3, .int .i64 y4] (by kernel_rfl) (by kernel_rfl)
  rw [show (10000 : Nat) = 9999 + 1 from rfl, h]
  cases h0 : (x0 == y0) <;> cases h1 : (x1 == y1) <;> cases h2 : (x2 == y2) <;> cases h3 : (x3 == y3) <;> cases h4 : (x4 == y4) <;> simp [go_sem, h0, h1, h2, h3, h4, -beq_iff_eq, -beq_eq_false_iff_ne]
theorem info_quat : (Try.prog.info? 25).map (fun i => (i.zero, i.size, i.bytes)) = some (some (.agg #[.int .i64 0, .int .i64 0, .int .i64 0, .int .i64 0, .int .i64 0]), 5, 40) := by kernel_rfl

end Go.Proofs.Ytfjmhfmhijhpkaa
