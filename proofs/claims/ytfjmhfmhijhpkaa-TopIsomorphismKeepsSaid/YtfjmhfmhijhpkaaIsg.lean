/- Isomorphism of the program at valid algebras; what it finds is accepted. -/
import Derived.Test.YtfjmhfmhijhpkaaIsk
namespace Go.Proofs.Ytfjmhfmhijhpkaa
open Go.RowKit FF

theorem qIsomorphism_good (a b c d : Int) (w : World) (h1 : aE a b = 0) (h2 : aE c d = 0) :
    Calls Try.prog 31 #[.agg #[.int .i64 a, .int .i64 b], .agg #[.int .i64 c, .int .i64 d]] w fun r w' => r = .returned (.tuple #[qv (isoXX a b c d), qv (isoYY a b c d), .int .i64 (isoErr a b c d)]) ∧ Below w.heap.size w w' := by
  cases hF : isoB a b c d
  · obtain ⟨e1, e2, e3⟩ := iso_no hF
    rw [e1, e2, e3]
    exact qIsomorphism_no a b c d w h1 h2 hF
  · have h := callsIn_wide.1 (qIsomorphism_in a b c d w h1 h2 hF 3 (Nat.le_refl _))
    have e1 : isoXX a b c d = isoX (isoO a b c d) := if_pos hF
    have e2 : isoYY a b c d = isoY (isoO a b c d) := if_pos hF
    have e3 : isoErr a b c d = if (isoO a b c d).isSome then 0 else 21 := if_pos hF
    rw [e1, e2, e3]
    exact h
/-- what was found -/
structure Found (a b c d : Int) (p q : Qt) : Prop where
  bp : InBox p
  bq : InBox q
  sp : sqB c d a p = true
  sq : sqB c d b q = true
  op : opB c d p q = true
theorem iso_found {a b c d : Int} (h : isoErr a b c d = 0) : isoB a b c d = true ∧ Found a b c d (isoXX a b c d) (isoYY a b c d) := by
  cases hF : isoB a b c d
  · rw [(iso_no hF).1] at h; omega
  · cases hO : isoO a b c d with
    | none => rw [(iso_none hF hO).1] at h; omega
    | some x =>
      obtain ⟨p, q⟩ := x
      obtain ⟨-, e2, e3⟩ := iso_some hF hO
      rw [e2, e3]
      obtain ⟨m1, m2, m3⟩ := firstP_mem hO
      obtain ⟨b1, r1⟩ := mem_pick (Nat.le_refl _) m1
      obtain ⟨b2, r2⟩ := mem_pick (Nat.le_refl _) m2
      unfold rtB at r1 r2
      rw [Bool.and_eq_true] at r1 r2
      exact ⟨rfl, b1, b2, r1.2, r2.2, m3⟩
theorem iso_cases (a b c d : Int) : isoErr a b c d = 0 ∨ isoErr a b c d = 21 ∧ isoB a b c d = true ∨ isoErr a b c d = 12 ∧ isoB a b c d = false := by
  cases hF : isoB a b c d
  · exact .inr (.inr ⟨(iso_no hF).1, rfl⟩)
  · cases hO : isoO a b c d with
    | none => exact .inr (.inl ⟨(iso_none hF hO).1, rfl⟩)
    | some x => exact .inl (iso_some (p := x.1) (q := x.2) hF hO).1
theorem iso_check {a b c d : Int} (h1 : aE a b = 0) (h2 : aE c d = 0) (h : isoErr a b c d = 0) : isoF a b c d [isoXX a b c d, isoYY a b c d] = 0 := by
  obtain ⟨-, f⟩ := iso_found h
  generalize isoXX a b c d = p at *
  generalize isoYY a b c d = q at *
  have hs : qsE [p, q] = 0 := qsE_zero.2 (by simp [f.bp.qB, f.bq.qB])
  unfold isoF
  rw [if_pos h1, if_pos h2]
  unfold isoE
  have e1 : ([p, q] : List Qt).getD 0 Qt.zero = p := rfl
  have e2 : ([p, q] : List Qt).getD 1 Qt.zero = q := rfl
  have e3 : ([p, q] : List Qt).length = 2 := rfl
  rw [if_pos e3, if_pos hs, e1, e2, f.sp, f.sq, f.op]
  rfl
end Go.Proofs.Ytfjmhfmhijhpkaa
