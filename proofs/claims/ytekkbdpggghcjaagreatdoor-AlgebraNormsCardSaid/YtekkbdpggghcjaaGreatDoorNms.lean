/- Traces, norms, minimal polynomials and integral elements in the program: all answers. -/
import Derived.Test.YtekkbdpggghcjaaGreatDoorPly
namespace Go.Proofs.YtekkbdpggghcjaaGreatDoor
open Go.RowKit FF

/-- the trace as a fraction -/
def trN (q : Qt) : Int := lowN (2 * q.w) q.d
def trD (q : Qt) : Int := lowD (2 * q.w) q.d

set_option maxHeartbeats 4000000 in
set_option maxRecDepth 100000 in
theorem qTrace_good (p0 p1 p2 p3 p4 : Int) (w : World) (hq : qB ⟨p0, p1, p2, p3, p4⟩ = true) :
    Calls Tryz.prog 9 #[qv ⟨p0, p1, p2, p3, p4⟩] w fun r w' => r = .returned (.tuple #[fvv (trN ⟨p0, p1, p2, p3, p4⟩) (trD ⟨p0, p1, p2, p3, p4⟩), .int .i64 0]) ∧ Below w.heap.size w w' := by
  have HC := Lib.hid (fun w => (qE_zero.2 hq) ▸ qcheck_any ⟨p0, p1, p2, p3, p4⟩ w)
  have hd := (qB_iff.1 hq).2.2.2.2
  have h0 := (qB_iff.1 hq).1
  simp only at hd h0
  have HF := Lib.hid (fun w => (show Calls Tryz.prog 40 #[.int .i64 (2 * p0), .int .i64 p4] w fun r w' => r = .returned (fvv (trN ⟨p0, p1, p2, p3, p4⟩) (trD ⟨p0, p1, p2, p3, p4⟩)) ∧ Below w.heap.size w w' from qfraction_any (2 * p0) p4 w (by omega) (by omega) (by omega)))
  have e3 : IntKind.i64.wrap (2 * p0) = 2 * p0 := wrap_id _ (by omega) (by omega)
  clear hd h0 hq
  generalize trN ⟨p0, p1, p2, p3, p4⟩ = FN at *
  generalize trD ⟨p0, p1, p2, p3, p4⟩ = FD at *
  simp only [fvv] at HF
  simp only [qv, fvv] at HC ⊢
  go_enter Tryz.func9, Tryz.ntmps9
  go_wp2_with fail
  refine (HC.out _).mono ?_
  rintro e1 w1 ⟨rfl, hbb⟩
  have HG := Lib.hid (show Reg w [(w.heap.size, #[.int .i64 p0, .int .i64 p1, .int .i64 p2, .int .i64 p3, .int .i64 p4])] (w.heap.size + 1) 2 w1 from ((Reg.nil (vs := #[.int .i64 0, .int .i64 0]) (((Below.refl _ _).alloc (Nat.le_refl _) _).alloc (by simp; try omega) _) (by omega) (Cells.new _ _ _ (by simp))).cons ((Cells.new _ _ _ (by simp)).alloc _) (by omega)).keep hbb)
  clear hbb HC
  obtain ⟨c0_0, c0_1, c0_2, c0_3, c0_4⟩ := HG.out.five (List.mem_cons_self ..)
  obtain ⟨z0, z1, f0, f1⟩ := HG.out.res2
  go_wp2_with fail
  refine (HF.out _).mono ?_
  rintro e2 w2 ⟨rfl, hbb⟩
  have HG2 := Lib.hid (HG.out.keep hbb)
  clear hbb c0_0 c0_1 c0_2 c0_3 c0_4 z0 z1 f0 f1 HG
  obtain ⟨c0_0, c0_1, c0_2, c0_3, c0_4⟩ := HG2.out.five (List.mem_cons_self ..)
  obtain ⟨z0, z1, f0, f1⟩ := HG2.out.res2
  go_wp2_with fail
  obtain ⟨W9, e9, q0, q1, B9⟩ := HG2.out.fin2 (.int .i64 (FN)) (.int .i64 (FD))
  rw [e9]
  refine bodyPost_ret (v := .tuple #[.agg #[.int .i64 FN, .int .i64 FD], .int .i64 0]) (by simp [results, Tryz.results9, go_sem, q0, q1]) rfl ?_
  exact ⟨rfl, B9⟩
theorem qTrace_bad (p0 p1 p2 p3 p4 : Int) (w : World) (hq : qE ⟨p0, p1, p2, p3, p4⟩ ≠ 0) :
    Calls Tryz.prog 9 #[qv ⟨p0, p1, p2, p3, p4⟩] w fun r w' => r = .returned (.tuple #[fvv 0 0, .int .i64 (qE ⟨p0, p1, p2, p3, p4⟩)]) ∧ Below w.heap.size w w' := by
  have HC := Lib.hid (fun w => qcheck_any ⟨p0, p1, p2, p3, p4⟩ w)
  generalize qE ⟨p0, p1, p2, p3, p4⟩ = E at *
  have d1 : (E == 0) = false := f_beq hq
  simp only [qv, fvv] at HC ⊢
  go_enter Tryz.func9, Tryz.ntmps9
  go_wp2_with fail
  refine (HC.out _).mono ?_
  rintro e1 w1 ⟨rfl, hbb⟩
  have HG := Lib.hid (show Reg w [(w.heap.size, #[.int .i64 p0, .int .i64 p1, .int .i64 p2, .int .i64 p3, .int .i64 p4])] (w.heap.size + 1) 2 w1 from ((Reg.nil (vs := #[.int .i64 0, .int .i64 0]) (((Below.refl _ _).alloc (Nat.le_refl _) _).alloc (by simp; try omega) _) (by omega) (Cells.new _ _ _ (by simp))).cons ((Cells.new _ _ _ (by simp)).alloc _) (by omega)).keep hbb)
  clear hbb HC
  obtain ⟨c0_0, c0_1, c0_2, c0_3, c0_4⟩ := HG.out.five (List.mem_cons_self ..)
  obtain ⟨z0, z1, f0, f1⟩ := HG.out.res2
  go_wp2_with fail
  obtain ⟨W9, e9, q0, q1, B9⟩ := HG.out.fin2 (.int .i64 (0)) (.int .i64 (0))
  rw [e9]
  refine bodyPost_ret (v := .tuple #[.agg #[.int .i64 0, .int .i64 0], .int .i64 E]) (by simp [results, Tryz.results9, go_sem, q0, q1]) rfl ?_
  exact ⟨rfl, B9⟩

set_option maxHeartbeats 4000000 in
set_option maxRecDepth 100000 in
theorem qNorm_bad (a b p0 p1 p2 p3 p4 : Int) (w : World) (hE : allE a b [⟨p0, p1, p2, p3, p4⟩] ≠ 0) :
    Calls Tryz.prog 12 #[.agg #[.int .i64 a, .int .i64 b], qv ⟨p0, p1, p2, p3, p4⟩] w fun r w' => r = .returned (.tuple #[fvv 0 0, .int .i64 (allE a b [⟨p0, p1, p2, p3, p4⟩])]) ∧ Below w.heap.size w w' := by
  have HC := Lib.hid (fun A c w hx => qboth_any a b A [⟨p0, p1, p2, p3, p4⟩] 1 c w hx rfl (by omega))
  generalize allE a b [⟨p0, p1, p2, p3, p4⟩] = E at *
  have d1 : (E == 0) = false := f_beq hE
  simp only [qv, fvv]
  go_enter Tryz.func12, Tryz.ntmps12
  go_wp2_with fail
  refine (HC.out _ _ _ (shows_flat1 (by simp) p0 p1 p2 p3 p4)).mono ?_
  rintro e1 w1 ⟨rfl, hbb⟩
  have HG := Lib.hid (show Reg w [(w.heap.size, #[.int .i64 a, .int .i64 b]), (w.heap.size + 1, #[.int .i64 p0, .int .i64 p1, .int .i64 p2, .int .i64 p3, .int .i64 p4])] (w.heap.size + 2) 2 w1 from ((((Reg.nil (vs := #[.int .i64 0, .int .i64 0]) ((((Below.refl _ _).alloc (Nat.le_refl _) _).alloc (by simp; try omega) _).alloc (by simp; try omega) _) (by omega) (Cells.new _ _ _ (by simp))).cons ((Cells.new _ _ _ (by simp)).alloc _) (by omega)).cons (((Cells.new _ _ _ (by simp)).alloc _).alloc _) (by omega)).keep ((Below.refl _ _).alloc (Nat.le_refl _) _)).keep hbb)
  clear hbb HC
  obtain ⟨z0, z1, f0, f1⟩ := HG.out.res2
  go_wp2_with fail
  obtain ⟨W9, e9, q0, q1, B9⟩ := HG.out.fin2 (.int .i64 (0)) (.int .i64 (0))
  rw [e9]
  refine bodyPost_ret (v := .tuple #[.agg #[.int .i64 0, .int .i64 0], .int .i64 E]) (by simp [results, Tryz.results12, go_sem, q0, q1]) rfl ?_
  exact ⟨rfl, B9⟩

set_option maxHeartbeats 4000000 in
set_option maxRecDepth 100000 in
theorem qPoly_bad (a b p0 p1 p2 p3 p4 : Int) (w : World) (hE : allE a b [⟨p0, p1, p2, p3, p4⟩] ≠ 0) :
    Calls Tryz.prog 13 #[.agg #[.int .i64 a, .int .i64 b], qv ⟨p0, p1, p2, p3, p4⟩] w fun r w' => r = .returned (.tuple #[.slice none 0 0, .int .i64 (allE a b [⟨p0, p1, p2, p3, p4⟩])]) ∧ Below w.heap.size w w' := by
  have HC := Lib.hid (fun A c w hx => qboth_any a b A [⟨p0, p1, p2, p3, p4⟩] 1 c w hx rfl (by omega))
  generalize allE a b [⟨p0, p1, p2, p3, p4⟩] = E at *
  have d1 : (E == 0) = false := f_beq hE
  simp only [qv]
  go_enter Tryz.func13, Tryz.ntmps13
  go_wp2_with fail
  refine (HC.out _ _ _ (shows_flat1 (by simp) p0 p1 p2 p3 p4)).mono ?_
  rintro e1 w1 ⟨rfl, hbb⟩
  have HB1 := Lib.hid (show Bx w [(w.heap.size + 1, #[.int .i64 p0, .int .i64 p1, .int .i64 p2, .int .i64 p3, .int .i64 p4]), (w.heap.size, #[.int .i64 a, .int .i64 b])] w1 from (((Bx.nil ((((Below.refl _ _).alloc (by simp; try omega) _).alloc (by simp; try omega) _).alloc (by simp; try omega) _)).cons (by omega) (((Cells.new _ _ _ (by simp)).alloc _).alloc _)).cons (by omega) ((Cells.new _ _ _ (by simp)).alloc _)).keep hbb)
  clear hbb HC
  go_wp2_with fail
  go_ret2
  exact ⟨rfl, HB1.out.below⟩

set_option maxHeartbeats 4000000 in
set_option maxRecDepth 100000 in
theorem qIntegral_bad (a b p0 p1 p2 p3 p4 : Int) (w : World) (hE : allE a b [⟨p0, p1, p2, p3, p4⟩] ≠ 0) :
    Calls Tryz.prog 14 #[.agg #[.int .i64 a, .int .i64 b], qv ⟨p0, p1, p2, p3, p4⟩] w fun r w' => r = .returned (.tuple #[.bool false, .int .i64 (allE a b [⟨p0, p1, p2, p3, p4⟩])]) ∧ Below w.heap.size w w' := by
  have HN := Lib.hid (fun w => qNorm_bad a b p0 p1 p2 p3 p4 w hE)
  generalize allE a b [⟨p0, p1, p2, p3, p4⟩] = E at *
  have d1 : (E == 0) = false := f_beq hE
  simp only [qv, fvv] at HN ⊢
  go_enter Tryz.func14, Tryz.ntmps14
  go_upto_region 1 with fail
  obtain ⟨W0, hW0⟩ : ∃ W0 : World, W0 = ((w.alloc (.cells #[.int .i64 a, .int .i64 b] 23)).alloc (.cells #[.int .i64 p0, .int .i64 p1, .int .i64 p2, .int .i64 p3, .int .i64 p4] 25)) := ⟨_, rfl⟩
  rw [← hW0]
  have HB0 := Lib.hid (show Bx w [(w.heap.size + 1, #[.int .i64 p0, .int .i64 p1, .int .i64 p2, .int .i64 p3, .int .i64 p4]), (w.heap.size, #[.int .i64 a, .int .i64 b])] W0 by rw [hW0]; simpa using (((Bx.nil (Below.refl w.heap.size w)).new #[.int .i64 a, .int .i64 b] 23).new #[.int .i64 p0, .int .i64 p1, .int .i64 p2, .int .i64 p3, .int .i64 p4] 25))
  clear hW0
  obtain ⟨c0_0, c0_1, c0_2, c0_3, c0_4⟩ := HB0.out.five (List.mem_cons_self ..)
  obtain ⟨c1_0, c1_1⟩ := HB0.out.two (List.mem_cons_of_mem _ (List.mem_cons_self ..))
  go_wp2_with fail
  refine (HN.out _).mono ?_
  rintro e1 w1 ⟨rfl, hbb⟩
  have HB1 := Lib.hid (HB0.out.keep hbb)
  clear c0_0 c0_1 c0_2 c0_3 c0_4 c1_0 c1_1
  clear hbb HB0
  go_upto_region 2 with fail
  obtain ⟨V1, hV1⟩ : ∃ V1 : World, V1 = w1.alloc (.cells #[.int .i64 0, .int .i64 0] 28) := ⟨_, rfl⟩
  rw [← hV1]
  have HV1 := Lib.hid (show Bx w [(w1.heap.size, #[.int .i64 0, .int .i64 0]), (w.heap.size + 1, #[.int .i64 p0, .int .i64 p1, .int .i64 p2, .int .i64 p3, .int .i64 p4]), (w.heap.size, #[.int .i64 a, .int .i64 b])] V1 from hV1 ▸ HB1.out.new _ _)
  have hlt1 := HB1.out.lt (List.mem_cons_self ..)
  clear hV1 HB1
  generalize w1.heap.size = B1 at *
  go_wp2_with fail
  go_ret2
  exact ⟨rfl, HV1.out.below⟩

set_option maxHeartbeats 4000000 in
set_option maxRecDepth 100000 in
theorem qIntegral_good (a b p0 p1 p2 p3 p4 : Int) (w : World) (hq : qB ⟨p0, p1, p2, p3, p4⟩ = true) (ha : aE a b = 0) :
    Calls Tryz.prog 14 #[.agg #[.int .i64 a, .int .i64 b], qv ⟨p0, p1, p2, p3, p4⟩] w fun r w' => r = .returned (.tuple #[.bool (nmD a b ⟨p0, p1, p2, p3, p4⟩ == 1 && trD ⟨p0, p1, p2, p3, p4⟩ == 1), .int .i64 0]) ∧ Below w.heap.size w w' := by
  have HN := Lib.hid (fun w => qNorm_good a b p0 p1 p2 p3 p4 w hq ha)
  have HT := Lib.hid (fun w => qTrace_good p0 p1 p2 p3 p4 w hq)
  clear hq ha
  generalize nmD a b ⟨p0, p1, p2, p3, p4⟩ = FD at *
  generalize nmN a b ⟨p0, p1, p2, p3, p4⟩ = FN at *
  generalize trD ⟨p0, p1, p2, p3, p4⟩ = TD at *
  generalize trN ⟨p0, p1, p2, p3, p4⟩ = TN at *
  simp only [qv, fvv] at HN HT ⊢
  by_cases hd : FD = 1
  · subst hd
    simp only [beq_self_eq_true, Bool.true_and]
    go_enter Tryz.func14, Tryz.ntmps14
    go_upto_region 1 with fail
    obtain ⟨W0, hW0⟩ : ∃ W0 : World, W0 = ((w.alloc (.cells #[.int .i64 a, .int .i64 b] 23)).alloc (.cells #[.int .i64 p0, .int .i64 p1, .int .i64 p2, .int .i64 p3, .int .i64 p4] 25)) := ⟨_, rfl⟩
    rw [← hW0]
    have HB0 := Lib.hid (show Bx w [(w.heap.size + 1, #[.int .i64 p0, .int .i64 p1, .int .i64 p2, .int .i64 p3, .int .i64 p4]), (w.heap.size, #[.int .i64 a, .int .i64 b])] W0 by rw [hW0]; simpa using (((Bx.nil (Below.refl w.heap.size w)).new #[.int .i64 a, .int .i64 b] 23).new #[.int .i64 p0, .int .i64 p1, .int .i64 p2, .int .i64 p3, .int .i64 p4] 25))
    clear hW0
    obtain ⟨c0_0, c0_1, c0_2, c0_3, c0_4⟩ := HB0.out.five (List.mem_cons_self ..)
    obtain ⟨c1_0, c1_1⟩ := HB0.out.two (List.mem_cons_of_mem _ (List.mem_cons_self ..))
    go_wp2_with fail
    refine (HN.out _).mono ?_
    rintro e1 w1 ⟨rfl, hbb⟩
    have HB1 := Lib.hid (HB0.out.keep hbb)
    clear c0_0 c0_1 c0_2 c0_3 c0_4 c1_0 c1_1
    clear hbb HB0
    go_upto_region 2 with fail
    obtain ⟨V1, hV1⟩ : ∃ V1 : World, V1 = w1.alloc (.cells #[.int .i64 FN, .int .i64 1] 28) := ⟨_, rfl⟩
    rw [← hV1]
    have HV1 := Lib.hid (show Bx w [(w1.heap.size, #[.int .i64 FN, .int .i64 1]), (w.heap.size + 1, #[.int .i64 p0, .int .i64 p1, .int .i64 p2, .int .i64 p3, .int .i64 p4]), (w.heap.size, #[.int .i64 a, .int .i64 b])] V1 from hV1 ▸ HB1.out.new _ _)
    have hlt1 := HB1.out.lt (List.mem_cons_self ..)
    clear hV1 HB1
    generalize w1.heap.size = B1 at *
    obtain ⟨c1_0, c1_1, c1_2, c1_3, c1_4⟩ := HV1.out.five (List.mem_cons_of_mem _ (List.mem_cons_self ..))
    go_wp2_with fail
    refine (HT.out _).mono ?_
    rintro e2 w2 ⟨rfl, hbb⟩
    have HB2 := Lib.hid (HV1.out.keep hbb)
    clear c1_0 c1_1 c1_2 c1_3 c1_4
    clear hbb HV1
    go_upto_region 5 with fail
    obtain ⟨V2, hV2⟩ : ∃ V2 : World, V2 = w2.alloc (.cells #[.int .i64 TN, .int .i64 TD] 28) := ⟨_, rfl⟩
    rw [← hV2]
    have HV2 := Lib.hid (show Bx w [(w2.heap.size, #[.int .i64 TN, .int .i64 TD]), (B1, #[.int .i64 FN, .int .i64 1]), (w.heap.size + 1, #[.int .i64 p0, .int .i64 p1, .int .i64 p2, .int .i64 p3, .int .i64 p4]), (w.heap.size, #[.int .i64 a, .int .i64 b])] V2 from hV2 ▸ HB2.out.new _ _)
    have hlt2 := HB2.out.lt (List.mem_cons_self ..)
    clear hV2 HB2
    generalize w2.heap.size = B2 at *
    obtain ⟨c0_0, c0_1⟩ := HV2.out.two (List.mem_cons_self ..)
    obtain ⟨c1_0, c1_1⟩ := HV2.out.two (List.mem_cons_of_mem _ (List.mem_cons_self ..))
    go_wp2_with fail
    go_ret2
    exact ⟨rfl, HV2.out.below⟩
  
  · have d1 : (FD == 1) = false := f_beq hd
    simp only [d1, Bool.false_and]
    go_enter Tryz.func14, Tryz.ntmps14
    go_upto_region 1 with fail
    obtain ⟨W0, hW0⟩ : ∃ W0 : World, W0 = ((w.alloc (.cells #[.int .i64 a, .int .i64 b] 23)).alloc (.cells #[.int .i64 p0, .int .i64 p1, .int .i64 p2, .int .i64 p3, .int .i64 p4] 25)) := ⟨_, rfl⟩
    rw [← hW0]
    have HB0 := Lib.hid (show Bx w [(w.heap.size + 1, #[.int .i64 p0, .int .i64 p1, .int .i64 p2, .int .i64 p3, .int .i64 p4]), (w.heap.size, #[.int .i64 a, .int .i64 b])] W0 by rw [hW0]; simpa using (((Bx.nil (Below.refl w.heap.size w)).new #[.int .i64 a, .int .i64 b] 23).new #[.int .i64 p0, .int .i64 p1, .int .i64 p2, .int .i64 p3, .int .i64 p4] 25))
    clear hW0
    obtain ⟨c0_0, c0_1, c0_2, c0_3, c0_4⟩ := HB0.out.five (List.mem_cons_self ..)
    obtain ⟨c1_0, c1_1⟩ := HB0.out.two (List.mem_cons_of_mem _ (List.mem_cons_self ..))
    go_wp2_with fail
    refine (HN.out _).mono ?_
    rintro e1 w1 ⟨rfl, hbb⟩
    have HB1 := Lib.hid (HB0.out.keep hbb)
    clear c0_0 c0_1 c0_2 c0_3 c0_4 c1_0 c1_1
    clear hbb HB0
    go_upto_region 2 with fail
    obtain ⟨V1, hV1⟩ : ∃ V1 : World, V1 = w1.alloc (.cells #[.int .i64 FN, .int .i64 FD] 28) := ⟨_, rfl⟩
    rw [← hV1]
    have HV1 := Lib.hid (show Bx w [(w1.heap.size, #[.int .i64 FN, .int .i64 FD]), (w.heap.size + 1, #[.int .i64 p0, .int .i64 p1, .int .i64 p2, .int .i64 p3, .int .i64 p4]), (w.heap.size, #[.int .i64 a, .int .i64 b])] V1 from hV1 ▸ HB1.out.new _ _)
    have hlt1 := HB1.out.lt (List.mem_cons_self ..)
    clear hV1 HB1
    generalize w1.heap.size = B1 at *
    obtain ⟨c1_0, c1_1, c1_2, c1_3, c1_4⟩ := HV1.out.five (List.mem_cons_of_mem _ (List.mem_cons_self ..))
    go_wp2_with fail
    refine (HT.out _).mono ?_
    rintro e2 w2 ⟨rfl, hbb⟩
    have HB2 := Lib.hid (HV1.out.keep hbb)
    clear c1_0 c1_1 c1_2 c1_3 c1_4
    clear hbb HV1
    go_upto_region 5 with fail
    obtain ⟨V2, hV2⟩ : ∃ V2 : World, V2 = w2.alloc (.cells #[.int .i64 TN, .int .i64 TD] 28) := ⟨_, rfl⟩
    rw [← hV2]
    have HV2 := Lib.hid (show Bx w [(w2.heap.size, #[.int .i64 TN, .int .i64 TD]), (B1, #[.int .i64 FN, .int .i64 FD]), (w.heap.size + 1, #[.int .i64 p0, .int .i64 p1, .int .i64 p2, .int .i64 p3, .int .i64 p4]), (w.heap.size, #[.int .i64 a, .int .i64 b])] V2 from hV2 ▸ HB2.out.new _ _)
    have hlt2 := HB2.out.lt (List.mem_cons_self ..)
    clear hV2 HB2
    generalize w2.heap.size = B2 at *
    obtain ⟨c0_0, c0_1⟩ := HV2.out.two (List.mem_cons_self ..)
    obtain ⟨c1_0, c1_1⟩ := HV2.out.two (List.mem_cons_of_mem _ (List.mem_cons_self ..))
    go_wp2_with fail
    go_ret2
    exact ⟨rfl, HV2.out.below⟩
  
set_option maxHeartbeats 4000000 in
set_option maxRecDepth 100000 in
theorem rTrace_any (p0 p1 p2 p3 p4 : Int) (w : World) (hq : qB ⟨p0, p1, p2, p3, p4⟩ = true) :
    Calls Tryz.prog 11 #[qv ⟨p0, p1, p2, p3, p4⟩] w fun r w' => r = .returned (fvv (trN ⟨p0, p1, p2, p3, p4⟩) (trD ⟨p0, p1, p2, p3, p4⟩)) ∧ Below w.heap.size w w' := by
  have hd := (qB_iff.1 hq).2.2.2.2
  have h0 := (qB_iff.1 hq).1
  simp only at hd h0
  have HF := Lib.hid (fun w => (show Calls Tryz.prog 43 #[.int .i64 (2 * p0), .int .i64 p4] w fun r w' => r = .returned (fvv (trN ⟨p0, p1, p2, p3, p4⟩) (trD ⟨p0, p1, p2, p3, p4⟩)) ∧ Below w.heap.size w w' from rLowest_any (2 * p0) p4 w (by omega) (by omega) (by omega)))
  have e3 : IntKind.i64.wrap (2 * p0) = 2 * p0 := wrap_id _ (by omega) (by omega)
  clear hd h0 hq
  generalize trN ⟨p0, p1, p2, p3, p4⟩ = FN at *
  generalize trD ⟨p0, p1, p2, p3, p4⟩ = FD at *
  simp only [fvv] at HF
  simp only [qv, fvv]
  go_enter Tryz.func11, Tryz.ntmps11
  go_wp2_with fail
  refine (HF.out _).mono ?_
  rintro e1 w1 ⟨rfl, hbb⟩
  have HG := Lib.hid (show Reg w [(w.heap.size, #[.int .i64 p0, .int .i64 p1, .int .i64 p2, .int .i64 p3, .int .i64 p4])] (w.heap.size + 1) 2 w1 from ((Reg.nil (vs := #[.int .i64 0, .int .i64 0]) (((Below.refl _ _).alloc (Nat.le_refl _) _).alloc (by simp; try omega) _) (by omega) (Cells.new _ _ _ (by simp))).cons ((Cells.new _ _ _ (by simp)).alloc _) (by omega)).keep hbb)
  clear hbb HF
  obtain ⟨c0_0, c0_1, c0_2, c0_3, c0_4⟩ := HG.out.five (List.mem_cons_self ..)
  obtain ⟨z0, z1, f0, f1⟩ := HG.out.res2
  go_wp2_with fail
  obtain ⟨W9, e9, q0, q1, B9⟩ := HG.out.fin2 (.int .i64 (FN)) (.int .i64 (FD))
  rw [e9]
  refine bodyPost_ret (v := .agg #[.int .i64 FN, .int .i64 FD]) (by simp [results, Tryz.results11, go_sem, q0, q1]) rfl ?_
  exact ⟨rfl, B9⟩

set_option maxHeartbeats 4000000 in
set_option maxRecDepth 100000 in
theorem rnumberN_any (a b p0 p1 p2 p3 p4 : Int) (w : World) (hq : qB ⟨p0, p1, p2, p3, p4⟩ = true) (ha : aE a b = 0) :
    Calls Tryz.prog 47 #[.agg #[.int .i64 a, .int .i64 b], qv ⟨p0, p1, p2, p3, p4⟩] w fun r w' => r = .returned (.int .i64 (nmQ a b ⟨p0, p1, p2, p3, p4⟩)) ∧ Below w.heap.size w w' := by
  obtain ⟨h0, h1, h2, h3, -⟩ := qB_iff.1 hq
  obtain ⟨-, -, ha, hb⟩ := aE_zero.1 ha
  simp only at h0 h1 h2 h3
  obtain ⟨b1, b1'⟩ := mulb h0 h0
  obtain ⟨b2, b2'⟩ := mulb ha h1
  obtain ⟨b3, b3'⟩ := mulb (mulb ha h1) h1
  obtain ⟨b4, b4'⟩ := mulb hb h2
  obtain ⟨b5, b5'⟩ := mulb (mulb hb h2) h2
  obtain ⟨b6, b6'⟩ := mulb ha hb
  obtain ⟨b7, b7'⟩ := mulb (mulb ha hb) h3
  obtain ⟨b8, b8'⟩ := mulb (mulb (mulb ha hb) h3) h3
  simp only [Int.reduceMul, Int.reduceNeg] at *
  clear h0 h1 h2 h3 ha hb hq
  simp only [qv, nmQ]
  go_enter Tryz.func47, Tryz.ntmps47
  go_wp2_with fail
  go_ret
  exact ⟨rfl, below_2 _ _⟩


set_option maxHeartbeats 4000000 in
set_option maxRecDepth 100000 in
theorem rNorm_any (a b p0 p1 p2 p3 p4 : Int) (w : World) (hq : qB ⟨p0, p1, p2, p3, p4⟩ = true) (ha : aE a b = 0) :
    Calls Tryz.prog 16 #[.agg #[.int .i64 a, .int .i64 b], qv ⟨p0, p1, p2, p3, p4⟩] w fun r w' => r = .returned (fvv (nmN a b ⟨p0, p1, p2, p3, p4⟩) (nmD a b ⟨p0, p1, p2, p3, p4⟩)) ∧ Below w.heap.size w w' := by
  have hd := (qB_iff.1 hq).2.2.2.2
  simp only at hd
  have hdd := mul_pos6 hd hd
  have hnm := nm_bound (aE_zero.1 ha).2.2.1 (aE_zero.1 ha).2.2.2 hq
  have HN := Lib.hid (fun w => rnumberN_any a b p0 p1 p2 p3 p4 w hq ha)
  have HF := Lib.hid (fun w => (show Calls Tryz.prog 43 #[.int .i64 (nmQ a b ⟨p0, p1, p2, p3, p4⟩), .int .i64 (p4 * p4)] w fun r w' => r = .returned (fvv (nmN a b ⟨p0, p1, p2, p3, p4⟩) (nmD a b ⟨p0, p1, p2, p3, p4⟩)) ∧ Below w.heap.size w w' from rLowest_any _ _ w (by omega) (by omega) (by omega)))
  have e2 : IntKind.i64.wrap (p4 * p4) = p4 * p4 := wrap_id _ (by omega) (by omega)
  clear hd hdd hnm hq ha
  generalize nmN a b ⟨p0, p1, p2, p3, p4⟩ = FN at *
  generalize nmD a b ⟨p0, p1, p2, p3, p4⟩ = FD at *
  generalize nmQ a b ⟨p0, p1, p2, p3, p4⟩ = M at *
  simp only [qv, fvv] at HN HF ⊢
  go_enter Tryz.func16, Tryz.ntmps16
  go_upto_region 1 with fail
  obtain ⟨w1, hw1⟩ : ∃ w1 : World, w1 = ((w.alloc (.cells #[.int .i64 a, .int .i64 b] 23)).alloc (.cells #[.int .i64 p0, .int .i64 p1, .int .i64 p2, .int .i64 p3, .int .i64 p4] 25)).alloc (.cells #[.int .i64 0, .int .i64 0] 28) := ⟨_, rfl⟩
  rw [← hw1]
  have HG := Lib.hid (show Reg w [(w.heap.size, #[.int .i64 a, .int .i64 b]), (w.heap.size + 1, #[.int .i64 p0, .int .i64 p1, .int .i64 p2, .int .i64 p3, .int .i64 p4])] (w.heap.size + 2) 2 w1 from hw1 ▸ (((Reg.nil (vs := #[.int .i64 0, .int .i64 0]) ((((Below.refl _ _).alloc (Nat.le_refl _) _).alloc (by simp; try omega) _).alloc (by simp; try omega) _) (by omega) (Cells.new _ _ _ (by simp))).cons ((Cells.new _ _ _ (by simp)).alloc _) (by omega)).cons (((Cells.new _ _ _ (by simp)).alloc _).alloc _) (by omega)))
  clear hw1
  have MK := Lib.hid (fun w' (h : Reg w [(w.heap.size, #[.int .i64 a, .int .i64 b]), (w.heap.size + 1, #[.int .i64 p0, .int .i64 p1, .int .i64 p2, .int .i64 p3, .int .i64 p4])] (w.heap.size + 2) 2 w') => And.intro h (And.intro (h.two (List.mem_cons_self ..)) (And.intro (h.five (List.mem_cons_of_mem _ (List.mem_cons_self ..))) h.res2)))
  have HG2 := Lib.hid (MK.out _ (HG.out.keep (Below.refl _ _).drew))
  go_region_held3 (fun w' => Reg w [(w.heap.size, #[.int .i64 a, .int .i64 b]), (w.heap.size + 1, #[.int .i64 p0, .int .i64 p1, .int .i64 p2, .int .i64 p3, .int .i64 p4])] (w.heap.size + 2) 2 w' ∧ (w'.cell? ⟨w.heap.size, 0, none⟩ = some (.int .i64 a) ∧ w'.cell? ⟨w.heap.size, 1, none⟩ = some (.int .i64 b)) ∧ (w'.cell? ⟨w.heap.size + 1, 0, none⟩ = some (.int .i64 p0) ∧ w'.cell? ⟨w.heap.size + 1, 1, none⟩ = some (.int .i64 p1) ∧ w'.cell? ⟨w.heap.size + 1, 2, none⟩ = some (.int .i64 p2) ∧ w'.cell? ⟨w.heap.size + 1, 3, none⟩ = some (.int .i64 p3) ∧ w'.cell? ⟨w.heap.size + 1, 4, none⟩ = some (.int .i64 p4)) ∧ Res2 (w.heap.size + 2) w')
    (first
      | assumption
      | exact HG2.out
      | exact MK.out _ (Reg.keep (And.left (by assumption)) (by assumption))
      | exact MK.out _ (Reg.set2 (And.left (by assumption)) _ _))
    (first
      | (go_at_call 47; (with_reducible refine (HN.out _).mono ?_); rintro e w' ⟨rfl, hb⟩)
      | (go_at_call 43; (with_reducible refine (HF.out _).mono ?_); rintro e w' ⟨rfl, hb⟩))
  have hR : Reg w [(w.heap.size, #[.int .i64 a, .int .i64 b]), (w.heap.size + 1, #[.int .i64 p0, .int .i64 p1, .int .i64 p2, .int .i64 p3, .int .i64 p4])] (w.heap.size + 2) 2 w' := by repeat (first | exact HG2.out.1 | refine Reg.keep ?_ (by assumption))
  obtain ⟨W9, e9, q0, q1, B9⟩ := Reg.fin2 hR (.int .i64 FN) (.int .i64 FD)
  rw [e9]
  clear hR HG2 MK HG
  go_wp2_with fail
  refine bodyPost_ret (v := .agg #[.int .i64 FN, .int .i64 FD]) (by simp [results, Tryz.results16, go_sem, q0, q1]) rfl ?_
  exact ⟨rfl, B9⟩

set_option maxHeartbeats 4000000 in
set_option maxRecDepth 100000 in
theorem rRational_any (p0 p1 p2 p3 p4 : Int) (w : World) :
    Calls Tryz.prog 48 #[qv ⟨p0, p1, p2, p3, p4⟩] w fun r w' => r = .returned (.bool (ratB ⟨p0, p1, p2, p3, p4⟩)) ∧ Below w.heap.size w w' := by
  simp only [qv, ratB]
  by_cases h1 : p1 = 0
  · subst h1
    by_cases h2 : p2 = 0
    · subst h2
      simp only [beq_self_eq_true, Bool.true_and]
      go_enter Tryz.func48, Tryz.ntmps48
      go_upto_region 1 with fail
      obtain ⟨W0, hW0⟩ : ∃ W0 : World, W0 = (w.alloc (.cells #[.int .i64 p0, .int .i64 0, .int .i64 0, .int .i64 p3, .int .i64 p4] 25)) := ⟨_, rfl⟩
      rw [← hW0]
      have HB0 := Lib.hid (show Bx w [(w.heap.size, #[.int .i64 p0, .int .i64 0, .int .i64 0, .int .i64 p3, .int .i64 p4])] W0 by rw [hW0]; simpa using ((Bx.nil (Below.refl w.heap.size w)).new #[.int .i64 p0, .int .i64 0, .int .i64 0, .int .i64 p3, .int .i64 p4] 25))
      clear hW0
      obtain ⟨c0_0, c0_1, c0_2, c0_3, c0_4⟩ := HB0.out.five (List.mem_cons_self ..)
      go_wp2_with fail
      go_ret
      exact ⟨rfl, HB0.out.below⟩

    · have d2 : (p2 == 0) = false := f_beq h2
      simp only [d2, beq_self_eq_true, Bool.false_and, Bool.and_false]
      go_enter Tryz.func48, Tryz.ntmps48
      go_upto_region 1 with fail
      obtain ⟨W0, hW0⟩ : ∃ W0 : World, W0 = (w.alloc (.cells #[.int .i64 p0, .int .i64 0, .int .i64 p2, .int .i64 p3, .int .i64 p4] 25)) := ⟨_, rfl⟩
      rw [← hW0]
      have HB0 := Lib.hid (show Bx w [(w.heap.size, #[.int .i64 p0, .int .i64 0, .int .i64 p2, .int .i64 p3, .int .i64 p4])] W0 by rw [hW0]; simpa using ((Bx.nil (Below.refl w.heap.size w)).new #[.int .i64 p0, .int .i64 0, .int .i64 p2, .int .i64 p3, .int .i64 p4] 25))
      clear hW0
      obtain ⟨c0_0, c0_1, c0_2, c0_3, c0_4⟩ := HB0.out.five (List.mem_cons_self ..)
      go_wp2_with fail
      go_ret
      exact ⟨rfl, HB0.out.below⟩

  · have d1 : (p1 == 0) = false := f_beq h1
    simp only [d1, Bool.false_and]
    go_enter Tryz.func48, Tryz.ntmps48
    go_upto_region 1 with fail
    obtain ⟨W0, hW0⟩ : ∃ W0 : World, W0 = (w.alloc (.cells #[.int .i64 p0, .int .i64 p1, .int .i64 p2, .int .i64 p3, .int .i64 p4] 25)) := ⟨_, rfl⟩
    rw [← hW0]
    have HB0 := Lib.hid (show Bx w [(w.heap.size, #[.int .i64 p0, .int .i64 p1, .int .i64 p2, .int .i64 p3, .int .i64 p4])] W0 by rw [hW0]; simpa using ((Bx.nil (Below.refl w.heap.size w)).new #[.int .i64 p0, .int .i64 p1, .int .i64 p2, .int .i64 p3, .int .i64 p4] 25))
    clear hW0
    obtain ⟨c0_0, c0_1, c0_2, c0_3, c0_4⟩ := HB0.out.five (List.mem_cons_self ..)
    go_wp2_with fail
    go_ret
    exact ⟨rfl, HB0.out.below⟩


/-- what the reference's Polynomial leaves -/
def PolPostR (w : World) (n : Nat) (L : Array Value) (e : Ending) (w' : World) : Prop :=
  ∃ g c, e = .returned (.slice (some ⟨g, 0, none⟩) n c) ∧ w.heap.size ≤ g ∧ Cells w' g L ∧ n ≤ c ∧ c ≤ 10 ∧ Below w.heap.size w w'

set_option maxHeartbeats 4000000 in
set_option maxRecDepth 100000 in
theorem rPoly_rat (a b p0 p1 p2 p3 p4 : Int) (w : World) (hq : qB ⟨p0, p1, p2, p3, p4⟩ = true) (hr : ratB ⟨p0, p1, p2, p3, p4⟩ = true) :
    Calls Tryz.prog 18 #[.agg #[.int .i64 a, .int .i64 b], qv ⟨p0, p1, p2, p3, p4⟩] w (PolPostR w 2 #[.int .i64 (lowN (-p0) p4), .int .i64 (lowD (-p0) p4), .int .i64 1, .int .i64 1]) := by
  have HR := Lib.hid (fun w => hr ▸ rRational_any p0 p1 p2 p3 p4 w)
  have hd := (qB_iff.1 hq).2.2.2.2
  have h0 := (qB_iff.1 hq).1
  simp only at hd h0
  have HF := Lib.hid (fun w => rLowest_any (-p0) p4 w (by omega) (by omega) (by omega))
  have e4 : IntKind.i64.wrap (-p0) = -p0 := wrap_id _ (by omega) (by omega)
  have n1 : -4611686018427387904 ≤ -p0 := by omega
  have n2 : -p0 ≤ 4611686018427387904 := by omega
  clear hq hd h0 hr
  generalize lowN (-p0) p4 = x0 at *
  generalize lowD (-p0) p4 = x1 at *
  unfold PolPostR
  simp only [fvv] at HF
  simp only [qv] at HR ⊢
  go_enter Tryz.func18, Tryz.ntmps18
  go_upto_region 1 with fail
  obtain ⟨W0, hW0⟩ : ∃ W0 : World, W0 = ((w.alloc (.cells #[.int .i64 a, .int .i64 b] 23)).alloc (.cells #[.int .i64 p0, .int .i64 p1, .int .i64 p2, .int .i64 p3, .int .i64 p4] 25)) := ⟨_, rfl⟩
  rw [← hW0]
  have HB0 := Lib.hid (show Bx w [(w.heap.size + 1, #[.int .i64 p0, .int .i64 p1, .int .i64 p2, .int .i64 p3, .int .i64 p4]), (w.heap.size, #[.int .i64 a, .int .i64 b])] W0 by rw [hW0]; simpa using (((Bx.nil (Below.refl w.heap.size w)).new #[.int .i64 a, .int .i64 b] 23).new #[.int .i64 p0, .int .i64 p1, .int .i64 p2, .int .i64 p3, .int .i64 p4] 25))
  clear hW0
  obtain ⟨c0_0, c0_1, c0_2, c0_3, c0_4⟩ := HB0.out.five (List.mem_cons_self ..)
  obtain ⟨c1_0, c1_1⟩ := HB0.out.two (List.mem_cons_of_mem _ (List.mem_cons_self ..))
  go_wp2_with fail
  refine (HR.out _).mono ?_
  rintro e1 w1 ⟨rfl, hbb⟩
  have HB1 := Lib.hid (HB0.out.keep hbb)
  clear c0_0 c0_1 c0_2 c0_3 c0_4 c1_0 c1_1
  clear hbb HB0
  obtain ⟨c0_0, c0_1, c0_2, c0_3, c0_4⟩ := HB1.out.five (List.mem_cons_self ..)
  go_wp2_with fail
  refine (HF.out _).mono ?_
  rintro e2 w2 ⟨rfl, hbb⟩
  have HB2 := Lib.hid (HB1.out.keep hbb)
  clear c0_0 c0_1 c0_2 c0_3 c0_4
  clear hbb HB1
  go_wp2_with fail
  go_ret
  exact ⟨_, _, rfl, HB2.out.below.size, Cells.new _ _ _ rfl, by omega, by omega, HB2.out.below.alloc HB2.out.below.size _⟩

set_option maxHeartbeats 4000000 in
set_option maxRecDepth 100000 in
theorem rPoly_gen (a b p0 p1 p2 p3 p4 : Int) (w : World) (hq : qB ⟨p0, p1, p2, p3, p4⟩ = true) (ha : aE a b = 0) (hr : ratB ⟨p0, p1, p2, p3, p4⟩ = false) :
    Calls Tryz.prog 18 #[.agg #[.int .i64 a, .int .i64 b], qv ⟨p0, p1, p2, p3, p4⟩] w (PolPostR w 3 #[.int .i64 (nmN a b ⟨p0, p1, p2, p3, p4⟩), .int .i64 (nmD a b ⟨p0, p1, p2, p3, p4⟩), .int .i64 (lowN (-2 * p0) p4), .int .i64 (lowD (-2 * p0) p4), .int .i64 1, .int .i64 1]) := by
  have HR := Lib.hid (fun w => hr ▸ rRational_any p0 p1 p2 p3 p4 w)
  have hd := (qB_iff.1 hq).2.2.2.2
  have h0 := (qB_iff.1 hq).1
  simp only at hd h0
  have HN := Lib.hid (fun w => rNorm_any a b p0 p1 p2 p3 p4 w hq ha)
  have HF := Lib.hid (fun w => rLowest_any (-2 * p0) p4 w (by omega) (by omega) (by omega))
  have e3 : IntKind.i64.wrap (-2 * p0) = -2 * p0 := wrap_id _ (by omega) (by omega)
  clear hq hd h0 hr ha
  generalize nmN a b ⟨p0, p1, p2, p3, p4⟩ = y0 at *
  generalize nmD a b ⟨p0, p1, p2, p3, p4⟩ = y1 at *
  generalize lowN (-2 * p0) p4 = x0 at *
  generalize lowD (-2 * p0) p4 = x1 at *
  unfold PolPostR
  simp only [fvv] at HF
  simp only [qv, fvv] at HR HN ⊢
  go_enter Tryz.func18, Tryz.ntmps18
  go_upto_region 1 with fail
  obtain ⟨W0, hW0⟩ : ∃ W0 : World, W0 = ((w.alloc (.cells #[.int .i64 a, .int .i64 b] 23)).alloc (.cells #[.int .i64 p0, .int .i64 p1, .int .i64 p2, .int .i64 p3, .int .i64 p4] 25)) := ⟨_, rfl⟩
  rw [← hW0]
  have HB0 := Lib.hid (show Bx w [(w.heap.size + 1, #[.int .i64 p0, .int .i64 p1, .int .i64 p2, .int .i64 p3, .int .i64 p4]), (w.heap.size, #[.int .i64 a, .int .i64 b])] W0 by rw [hW0]; simpa using (((Bx.nil (Below.refl w.heap.size w)).new #[.int .i64 a, .int .i64 b] 23).new #[.int .i64 p0, .int .i64 p1, .int .i64 p2, .int .i64 p3, .int .i64 p4] 25))
  clear hW0
  obtain ⟨c0_0, c0_1, c0_2, c0_3, c0_4⟩ := HB0.out.five (List.mem_cons_self ..)
  obtain ⟨c1_0, c1_1⟩ := HB0.out.two (List.mem_cons_of_mem _ (List.mem_cons_self ..))
  go_wp2_with fail
  refine (HR.out _).mono ?_
  rintro e1 w1 ⟨rfl, hbb⟩
  have HB1 := Lib.hid (HB0.out.keep hbb)
  clear c0_0 c0_1 c0_2 c0_3 c0_4 c1_0 c1_1
  clear hbb HB0
  go_upto_region 3 with fail
  have MK := Lib.hid (fun w' (h : Bx w [(w.heap.size + 1, #[.int .i64 p0, .int .i64 p1, .int .i64 p2, .int .i64 p3, .int .i64 p4]), (w.heap.size, #[.int .i64 a, .int .i64 b])] w') => And.intro h (And.intro (h.five (List.mem_cons_self ..)) (h.two (List.mem_cons_of_mem _ (List.mem_cons_self ..)))))
  have HG2 := Lib.hid (MK.out _ (HB1.out.keep (Below.refl _ _).drew))
  go_region_held3 (fun w' => Bx w [(w.heap.size + 1, #[.int .i64 p0, .int .i64 p1, .int .i64 p2, .int .i64 p3, .int .i64 p4]), (w.heap.size, #[.int .i64 a, .int .i64 b])] w' ∧ (w'.cell? ⟨w.heap.size + 1, 0, none⟩ = some (.int .i64 p0) ∧ w'.cell? ⟨w.heap.size + 1, 1, none⟩ = some (.int .i64 p1) ∧ w'.cell? ⟨w.heap.size + 1, 2, none⟩ = some (.int .i64 p2) ∧ w'.cell? ⟨w.heap.size + 1, 3, none⟩ = some (.int .i64 p3) ∧ w'.cell? ⟨w.heap.size + 1, 4, none⟩ = some (.int .i64 p4)) ∧ (w'.cell? ⟨w.heap.size, 0, none⟩ = some (.int .i64 a) ∧ w'.cell? ⟨w.heap.size, 1, none⟩ = some (.int .i64 b)))
    (first
      | assumption
      | exact HG2.out
      | exact MK.out _ (Bx.keep (And.left (by assumption)) (by first | assumption | exact (Below.refl _ _).alloc (Nat.le_refl _) _)))
    (first
      | (go_at_call 16; (with_reducible refine (HN.out _).mono ?_); rintro e w' ⟨rfl, hb⟩)
      | (go_at_call 43; (with_reducible refine (HF.out _).mono ?_); rintro e w' ⟨rfl, hb⟩))
  all_goals
    have hR : Bx w [(w.heap.size + 1, #[.int .i64 p0, .int .i64 p1, .int .i64 p2, .int .i64 p3, .int .i64 p4]), (w.heap.size, #[.int .i64 a, .int .i64 b])] w' := by repeat (first | exact HG2.out.1 | refine Bx.keep ?_ (by assumption))
    go_wp2_with fail
    go_ret
    exact ⟨_, _, rfl, hR.below.size, Cells.new _ _ _ rfl, by omega, by omega, Bx.below (And.left (by assumption))⟩

set_option maxHeartbeats 4000000 in
set_option maxRecDepth 100000 in
theorem rIntegral_any (a b p0 p1 p2 p3 p4 : Int) (w : World) (hq : qB ⟨p0, p1, p2, p3, p4⟩ = true) (ha : aE a b = 0) :
    Calls Tryz.prog 19 #[.agg #[.int .i64 a, .int .i64 b], qv ⟨p0, p1, p2, p3, p4⟩] w fun r w' => r = .returned (.bool (nmD a b ⟨p0, p1, p2, p3, p4⟩ == 1 && trD ⟨p0, p1, p2, p3, p4⟩ == 1)) ∧ Below w.heap.size w w' := by
  have HN := Lib.hid (fun w => rNorm_any a b p0 p1 p2 p3 p4 w hq ha)
  have HT := Lib.hid (fun w => rTrace_any p0 p1 p2 p3 p4 w hq)
  clear hq ha
  generalize nmD a b ⟨p0, p1, p2, p3, p4⟩ = FD at *
  generalize nmN a b ⟨p0, p1, p2, p3, p4⟩ = FN at *
  generalize trD ⟨p0, p1, p2, p3, p4⟩ = TD at *
  generalize trN ⟨p0, p1, p2, p3, p4⟩ = TN at *
  simp only [qv, fvv] at HN HT ⊢
  have hfd : ∀ (x y : Int) (w : World), (Instr.field 28 (.agg #[.int .i64 x, .int .i64 y]) 1).run Tryz.prog w = .ok (.int .i64 y) w := fun _ _ _ => by kernel_rfl
  by_cases hd : TD = 1
  · subst hd
    simp only [beq_self_eq_true, Bool.and_true]
    go_enter Tryz.func19, Tryz.ntmps19
    go_upto_region 1 with fail
    obtain ⟨W0, hW0⟩ : ∃ W0 : World, W0 = ((w.alloc (.cells #[.int .i64 a, .int .i64 b] 23)).alloc (.cells #[.int .i64 p0, .int .i64 p1, .int .i64 p2, .int .i64 p3, .int .i64 p4] 25)) := ⟨_, rfl⟩
    rw [← hW0]
    have HB0 := Lib.hid (show Bx w [(w.heap.size + 1, #[.int .i64 p0, .int .i64 p1, .int .i64 p2, .int .i64 p3, .int .i64 p4]), (w.heap.size, #[.int .i64 a, .int .i64 b])] W0 by rw [hW0]; simpa using (((Bx.nil (Below.refl w.heap.size w)).new #[.int .i64 a, .int .i64 b] 23).new #[.int .i64 p0, .int .i64 p1, .int .i64 p2, .int .i64 p3, .int .i64 p4] 25))
    clear hW0
    obtain ⟨c0_0, c0_1, c0_2, c0_3, c0_4⟩ := HB0.out.five (List.mem_cons_self ..)
    obtain ⟨c1_0, c1_1⟩ := HB0.out.two (List.mem_cons_of_mem _ (List.mem_cons_self ..))
    go_wp2_with fail
    refine (HT.out _).mono ?_
    rintro e1 w1 ⟨rfl, hbb⟩
    have HB1 := Lib.hid (HB0.out.keep hbb)
    clear c0_0 c0_1 c0_2 c0_3 c0_4 c1_0 c1_1
    clear hbb HB0
    obtain ⟨c0_0, c0_1, c0_2, c0_3, c0_4⟩ := HB1.out.five (List.mem_cons_self ..)
    obtain ⟨c1_0, c1_1⟩ := HB1.out.two (List.mem_cons_of_mem _ (List.mem_cons_self ..))
    go_wp2_with fail
    refine (HN.out _).mono ?_
    rintro e2 w2 ⟨rfl, hbb⟩
    have HB2 := Lib.hid (HB1.out.keep hbb)
    clear c0_0 c0_1 c0_2 c0_3 c0_4 c1_0 c1_1
    clear hbb HB1
    go_wp2_with fail
    go_ret
    exact ⟨rfl, HB2.out.below⟩

  · have d1 : (TD == 1) = false := f_beq hd
    simp only [d1, Bool.and_false]
    go_enter Tryz.func19, Tryz.ntmps19
    go_upto_region 1 with fail
    obtain ⟨W0, hW0⟩ : ∃ W0 : World, W0 = ((w.alloc (.cells #[.int .i64 a, .int .i64 b] 23)).alloc (.cells #[.int .i64 p0, .int .i64 p1, .int .i64 p2, .int .i64 p3, .int .i64 p4] 25)) := ⟨_, rfl⟩
    rw [← hW0]
    have HB0 := Lib.hid (show Bx w [(w.heap.size + 1, #[.int .i64 p0, .int .i64 p1, .int .i64 p2, .int .i64 p3, .int .i64 p4]), (w.heap.size, #[.int .i64 a, .int .i64 b])] W0 by rw [hW0]; simpa using (((Bx.nil (Below.refl w.heap.size w)).new #[.int .i64 a, .int .i64 b] 23).new #[.int .i64 p0, .int .i64 p1, .int .i64 p2, .int .i64 p3, .int .i64 p4] 25))
    clear hW0
    obtain ⟨c0_0, c0_1, c0_2, c0_3, c0_4⟩ := HB0.out.five (List.mem_cons_self ..)
    obtain ⟨c1_0, c1_1⟩ := HB0.out.two (List.mem_cons_of_mem _ (List.mem_cons_self ..))
    go_wp2_with fail
    refine (HT.out _).mono ?_
    rintro e1 w1 ⟨rfl, hbb⟩
    have HB1 := Lib.hid (HB0.out.keep hbb)
    clear c0_0 c0_1 c0_2 c0_3 c0_4 c1_0 c1_1
    clear hbb HB0
    obtain ⟨c0_0, c0_1, c0_2, c0_3, c0_4⟩ := HB1.out.five (List.mem_cons_self ..)
    obtain ⟨c1_0, c1_1⟩ := HB1.out.two (List.mem_cons_of_mem _ (List.mem_cons_self ..))
    go_wp2_with fail
    go_ret
    exact ⟨rfl, HB1.out.below⟩

end Go.Proofs.YtekkbdpggghcjaaGreatDoor
