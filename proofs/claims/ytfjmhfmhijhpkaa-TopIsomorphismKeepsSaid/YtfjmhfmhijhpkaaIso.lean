/- Images of i and j: which are accepted by the program. -/
import Derived.Test.YtfjmhfmhijhpkaaTrn
namespace Go.Proofs.Ytfjmhfmhijhpkaa
open Go.RowKit FF

/-- the error of images whose algebras are valid -/
def isoE (a b c d : Int) (l : List Qt) : Int := if l.length = 2 then (if qsE l = 0 then (if sqB c d a (l.getD 0 Qt.zero) && (sqB c d b (l.getD 1 Qt.zero) && opB c d (l.getD 0 Qt.zero) (l.getD 1 Qt.zero)) then 0 else 18) else qsE l) else 9
def isoF (a b c d : Int) (l : List Qt) : Int := if aE a b = 0 then (if aE c d = 0 then isoE a b c d l else aE c d) else aE a b
theorem cells10 {w : World} {A : Option Addr} {p0 p1 p2 p3 p4 q0 q1 q2 q3 q4 : Int} (h : ShowsI w A (flatQ [⟨p0, p1, p2, p3, p4⟩, ⟨q0, q1, q2, q3, q4⟩])) :
    ∃ b o, A = some ⟨b, o, none⟩ ∧ b < w.heap.size ∧ w.cell? ⟨b, o, none⟩ = some (.int .i64 p0) ∧ w.cell? ⟨b, o + 1, none⟩ = some (.int .i64 p1) ∧ w.cell? ⟨b, o + 2, none⟩ = some (.int .i64 p2) ∧ w.cell? ⟨b, o + 3, none⟩ = some (.int .i64 p3) ∧ w.cell? ⟨b, o + 4, none⟩ = some (.int .i64 p4) ∧
      w.cell? ⟨b, o + 5, none⟩ = some (.int .i64 q0) ∧ w.cell? ⟨b, o + 6, none⟩ = some (.int .i64 q1) ∧ w.cell? ⟨b, o + 7, none⟩ = some (.int .i64 q2) ∧ w.cell? ⟨b, o + 8, none⟩ = some (.int .i64 q3) ∧ w.cell? ⟨b, o + 9, none⟩ = some (.int .i64 q4) := by
  obtain ⟨b, o, e, hb, hc⟩ := h (by simp [flatQ])
  have hf : ∀ i, i < 10 → w.cell? ⟨b, o + i, none⟩ = some (.int .i64 ((flatQ [⟨p0, p1, p2, p3, p4⟩, ⟨q0, q1, q2, q3, q4⟩]).getD i 0)) := fun i hi => hc i (by simpa [flatQ] using hi)
  exact ⟨b, o, e, hb, hf 0 (by omega), hf 1 (by omega), hf 2 (by omega), hf 3 (by omega), hf 4 (by omega), hf 5 (by omega), hf 6 (by omega), hf 7 (by omega), hf 8 (by omega), hf 9 (by omega)⟩

end Go.Proofs.Ytfjmhfmhijhpkaa
