/- Traces, norms, minimal polynomials and integral elements in the program: all answers. -/
import Derived.Test.YtfjmhfmhijhpkaaPly
namespace Go.Proofs.Ytfjmhfmhijhpkaa
open Go.RowKit FF

/-- the trace as a fraction -/
def trN (q : Qt) : Int := lowN (2 * q.w) q.d
def trD (q : Qt) : Int := lowD (2 * q.w) q.d

set_option maxHeartbeats 4000000 in
set_option maxRecDepth 100000 in
theorem qTrace_good (p0 p1 p2 p3 p4 : Int) (w : World) (hq : qB ⟨p0, p1, p2, p3, p4⟩ = true) :
    Calls Try.prog 14 #[qv ⟨p0, p1, p2, p3, p4⟩] w fun r w' => r = .returned (.tuple #[fvv (trN ⟨p0, p1, p2, p3, p4⟩) (trD ⟨p0, p1, p2, p3, p4⟩), .int .i64 0]) ∧ Below w.heap.size w w' := by
  have HC := Lib.hid (fun w => (qE_zero.2 hq) ▸ qcheck_any ⟨p0, p1, p2, p3, p4⟩ w)
  have hd := (qB_iff.1 hq).2.2.2.2
  have h0 := (qB_iff.1 hq).1
  simp only at hd h0
  have HF := Lib.hid (fun w => (show Calls Try.prog 47 #[.int .i64 (2 * p0), .int .i64 p4] w fun r w' => r = .returned (fvv (trN ⟨p0, p1, p2, p3, p4⟩) (trD ⟨p0, p1, p2, p3, p4⟩)) ∧ Below w.heap.size w w' from qfraction_any (2 * p0) p4 w (by omega) (by omega) (by omega)))
  have e3 : IntKind.i64.wrap (2 * p0) = 2 * p0 := wrap_id _ (by omega) (by omega)
  clear hd h0 hq
  generalize trN ⟨p0, p1, p2, p3, p4⟩ = FN at *
  generalize trD ⟨p0, p1, p2, p3, p4⟩ = FD at *
  simp only [fvv] at HF
  simp only [qv, fvv] at HC ⊢
  go_enter Try.func14, Try.ntmps14
  go_wp2_with fail
  refine (HC.out _).mono ?_
  rintro e1 w1 ⟨rfl, hbb⟩
  have HG := Lib.hid (show Reg w [(w.heap.size, #[.int .i64 p0, .int .i64 p1, .int .i64 p2, .int .i64 p3, .int .i64 p4])] (w.heap.size + 1) 2 w1 from ((Reg.nil (vs := #[.int .i64 0, .int .i64 0]) (((Below.refl _ _).alloc (Nat.le_refl _) _).alloc (by simp; try omega) _) (by omega) (Cells.new _ _ _ (by simp))).cons ((Cells.new _ _ _ (by simp)).alloc _) (by omega)).keep hbb)
  clear hbb HC
  obtain ⟨c0_0, c0_1, c0_2, c0_3, c0_4⟩ := HG.out.five (List.mem_cons_self ..)
  obtain ⟨z0, z1, f0, f1⟩ := HG.out.res2
  go_wp2_with fail
  refine (HF.out _).mono ?_
  rintro e2 w2 ⟨rfl, hbb⟩
  have HG2 := Lib.hid (HG.out.keep hbb)
  clear hbb c0_0 c0_1 c0_2 c0_3 c0_4 z0 z1 f0 f1 HG
  obtain ⟨c0_0, c0_1, c0_2, c0_3, c0_4⟩ := HG2.out.five (List.mem_cons_self ..)
  obtain ⟨z0, z1, f0, f1⟩ := HG2.out.res2
  go_wp2_with fail
  obtain ⟨W9, e9, q0, q1, B9⟩ := HG2.out.fin2 (.int .i64 (FN)) (.int .i64 (FD))
  rw [e9]
  refine bodyPost_ret (v := .tuple #[.agg #[.int .i64 FN, .int .i64 FD], .int .i64 0]) (by simp [results, Try.results14, go_sem, q0, q1]) rfl ?_
  exact ⟨rfl, B9⟩
theorem qTrace_bad (p0 p1 p2 p3 p4 : Int) (w : World) (hq : qE ⟨p0, p1, p2, p3, p4⟩ ≠ 0) :
    Calls Try.prog 14 #[qv ⟨p0, p1, p2, p3, p4⟩] w fun r w' => r = .returned (.tuple #[fvv 0 0, .int .i64 (qE ⟨p0, p1, p2, p3, p4⟩)]) ∧ Below w.heap.size w w' := by
  have HC := Lib.hid (fun w => qcheck_any ⟨p0, p1, p2, p3, p4⟩ w)
  generalize qE ⟨p0, p1, p2, p3, p4⟩ = E at *
  have d1 : (E == 0) = false := f_beq hq
  simp only [qv, fvv] at HC ⊢
  go_enter Try.func14, Try.ntmps14
  go_wp2_with fail
  refine (HC.out _).mono ?_
  rintro e1 w1 ⟨rfl, hbb⟩
  have HG := Lib.hid (show Reg w [(w.heap.size, #[.int .i64 p0, .int .i64 p1, .int .i64 p2, .int .i64 p3, .int .i64 p4])] (w.heap.size + 1) 2 w1 from ((Reg.nil (vs := #[.int .i64 0, .int .i64 0]) (((Below.refl _ _).alloc (Nat.le_refl _) _).alloc (by simp; try omega) _) (by omega) (Cells.new _ _ _ (by simp))).cons ((Cells.new _ _ _ (by simp)).alloc _) (by omega)).keep hbb)
  clear hbb HC
  obtain ⟨c0_0, c0_1, c0_2, c0_3, c0_4⟩ := HG.out.five (List.mem_cons_self ..)
  obtain ⟨z0, z1, f0, f1⟩ := HG.out.res2
  go_wp2_with fail
  obtain ⟨W9, e9, q0, q1, B9⟩ := HG.out.fin2 (.int .i64 (0)) (.int .i64 (0))
  rw [e9]
  refine bodyPost_ret (v := .tuple #[.agg #[.int .i64 0, .int .i64 0], .int .i64 E]) (by simp [results, Try.results14, go_sem, q0, q1]) rfl ?_
  exact ⟨rfl, B9⟩

set_option maxHeartbeats 4000000 in
set_option maxRecDepth 100000 in
theorem qNorm_bad (a b p0 p1 p2 p3 p4 : Int) (w : World) (hE : allE a b [⟨p0, p1, p2, p3, p4⟩] ≠ 0) :
    Calls Try.prog 13 #[.agg #[.int .i64 a, .int .i64 b], qv ⟨p0, p1, p2, p3, p4⟩] w fun r w' => r = .returned (.tuple #[fvv 0 0, .int .i64 (allE a b [⟨p0, p1, p2, p3, p4⟩])]) ∧ Below w.heap.size w w' := by
  have HC := Lib.hid (fun A c w hx => qboth_any a b A [⟨p0, p1, p2, p3, p4⟩] 1 c w hx rfl (by omega))
  generalize allE a b [⟨p0, p1, p2, p3, p4⟩] = E at *
  have d1 : (E == 0) = false := f_beq hE
  simp only [qv, fvv]
  go_enter Try.func13, Try.ntmps13
  go_wp2_with fail
  refine (HC.out _ _ _ (shows_flat1 (by simp) p0 p1 p2 p3 p4)).mono ?_
  rintro e1 w1 ⟨rfl, hbb⟩
  have HG := Lib.hid (show Reg w [(w.heap.size, #[.int .i64 a, .int .i64 b]), (w.heap.size + 1, #[.int .i64 p0, .int .i64 p1, .int .i64 p2, .int .i64 p3, .int .i64 p4])] (w.heap.size + 2) 2 w1 from ((((Reg.nil (vs := #[.int .i64 0, .int .i64 0]) ((((Below.refl _ _).alloc (Nat.le_refl _) _).alloc (by simp; try omega) _).alloc (by simp; try omega) _) (by omega) (Cells.new _ _ _ (by simp))).cons ((Cells.new _ _ _ (by simp)).alloc _) (by omega)).cons (((Cells.new _ _ _ (by simp)).alloc _).alloc _) (by omega)).keep ((Below.refl _ _).alloc (Nat.le_refl _) _)).keep hbb)
  clear hbb HC
  obtain ⟨z0, z1, f0, f1⟩ := HG.out.res2
  go_wp2_with fail
  obtain ⟨W9, e9, q0, q1, B9⟩ := HG.out.fin2 (.int .i64 (0)) (.int .i64 (0))
  rw [e9]
  refine bodyPost_ret (v := .tuple #[.agg #[.int .i64 0, .int .i64 0], .int .i64 E]) (by simp [results, Try.results13, go_sem, q0, q1]) rfl ?_
  exact ⟨rfl, B9⟩

/-- what the reference's Polynomial leaves -/
def PolPostR (w : World) (n : Nat) (L : Array Value) (e : Ending) (w' : World) : Prop :=
  ∃ g c, e = .returned (.slice (some ⟨g, 0, none⟩) n c) ∧ w.heap.size ≤ g ∧ Cells w' g L ∧ n ≤ c ∧ c ≤ 10 ∧ Below w.heap.size w w'

end Go.Proofs.Ytfjmhfmhijhpkaa
