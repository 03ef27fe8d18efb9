/- The law AlgebraSums answers true at all elements and fractions. -/
import Derived.Test.YtekkbdpggghcjaaDoorSmsA
import Derived.Deep.DeepCutAuto
namespace Go.Proofs.YtekkbdpggghcjaaDoor
open Go.RowKit FF

set_option maxHeartbeats 4000000 in
set_option maxRecDepth 100000 in
theorem Sums_4 (p0 p1 p2 p3 p4 q0 q1 q2 q3 q4 n d : Int) (w : World) (hn : I64 n) (hd : I64 d) (hq : qE ⟨p0, p1, p2, p3, p4⟩ = 0) (hr : qE ⟨q0, q1, q2, q3, q4⟩ = 0) (hf : frB n d = true) :
    Calls Tryd.prog 10 #[qv ⟨p0, p1, p2, p3, p4⟩, qv ⟨q0, q1, q2, q3, q4⟩, fvv n d] w fun e w' => e = .returned (.bool true) ∧ Below w.heap.size w w' := by
  have HA := Lib.hid awake3_any
  have hS := fun w => qAdd_any p0 p1 p2 p3 p4 q0 q1 q2 q3 q4 w
  have hT := fun w => qSub_any p0 p1 p2 p3 p4 q0 q1 q2 q3 q4 w
  have hU := fun w => qScale_any p0 p1 p2 p3 p4 n d w hn hd
  have hCp := fun w => rCheckQuat_any ⟨p0, p1, p2, p3, p4⟩ w
  have hCq := fun w => rCheckQuat_any ⟨q0, q1, q2, q3, q4⟩ w
  have hCf := fun w => rCheckFrac_any n d w
  have hp0 := qE_zero.1 hq
  have hr0 := qE_zero.1 hr
  have e0 : qsE [⟨p0, p1, p2, p3, p4⟩, ⟨q0, q1, q2, q3, q4⟩] = 0 := qsE_zero.2 (by simp [hp0, hr0])
  have e1 : resQ 0 (addQ ⟨p0, p1, p2, p3, p4⟩ ⟨q0, q1, q2, q3, q4⟩) = fitQ (addQ ⟨p0, p1, p2, p3, p4⟩ ⟨q0, q1, q2, q3, q4⟩) := if_pos rfl
  have e2 : resE 0 (addQ ⟨p0, p1, p2, p3, p4⟩ ⟨q0, q1, q2, q3, q4⟩) = fitE (addQ ⟨p0, p1, p2, p3, p4⟩ ⟨q0, q1, q2, q3, q4⟩) := if_pos rfl
  have e3 : resQ 0 (subQ ⟨p0, p1, p2, p3, p4⟩ ⟨q0, q1, q2, q3, q4⟩) = fitQ (subQ ⟨p0, p1, p2, p3, p4⟩ ⟨q0, q1, q2, q3, q4⟩) := if_pos rfl
  have e4 : resE 0 (subQ ⟨p0, p1, p2, p3, p4⟩ ⟨q0, q1, q2, q3, q4⟩) = fitE (subQ ⟨p0, p1, p2, p3, p4⟩ ⟨q0, q1, q2, q3, q4⟩) := if_pos rfl
  have hRA := fun w => rAdd_any p0 p1 p2 p3 p4 q0 q1 q2 q3 q4 w hp0 hr0
  have HRN := Lib.hid (fun w => rNeg_any q0 q1 q2 q3 q4 w hr0)
  have hRB := fun w => rAdd_any p0 p1 p2 p3 p4 (-q0) (-q1) (-q2) (-q3) q4 w hp0 (show qB ⟨-q0, -q1, -q2, -q3, q4⟩ = true from negQ_fit hr0)
  have e8 : addQ ⟨p0, p1, p2, p3, p4⟩ ⟨-q0, -q1, -q2, -q3, q4⟩ = subQ ⟨p0, p1, p2, p3, p4⟩ ⟨q0, q1, q2, q3, q4⟩ := (subQ_eq ⟨p0, p1, p2, p3, p4⟩ ⟨q0, q1, q2, q3, q4⟩).symm
  simp only [e8] at hRB
  have e7 : frE n d = 0 := if_pos hf
  have e5 : sclQ n d ⟨p0, p1, p2, p3, p4⟩ = fitQ (scaleQ n d ⟨p0, p1, p2, p3, p4⟩) := (if_pos hq).trans (if_pos hf)
  have e6 : sclE n d ⟨p0, p1, p2, p3, p4⟩ = fitE (scaleQ n d ⟨p0, p1, p2, p3, p4⟩) := (if_pos hq).trans (if_pos hf)
  have HRS := Lib.hid (fun w => rScale_any p0 p1 p2 p3 p4 n d w hp0 hf)
  simp only [e0, e1, e2] at hS
  simp only [e0, e3, e4] at hT
  simp only [e5, e6] at hU
  simp only [hq] at hCp
  simp only [hr] at hCq
  simp only [e7] at hCf
  have HS := Lib.hid hS; have HT := Lib.hid hT; have HU := Lib.hid hU; have HCp := Lib.hid hCp; have HCq := Lib.hid hCq; have HCf := Lib.hid hCf; have HRA := Lib.hid hRA; have HRB := Lib.hid hRB
  clear hS hT hU hCp hCq hCf e0 e1 e2 e3 e4 e5 e6 e7 e8 hq hr hf hn hd hp0 hr0 hRA hRB
  generalize fitQ (addQ ⟨p0, p1, p2, p3, p4⟩ ⟨q0, q1, q2, q3, q4⟩) = SS at *
  generalize fitE (addQ ⟨p0, p1, p2, p3, p4⟩ ⟨q0, q1, q2, q3, q4⟩) = FE1 at *
  generalize fitQ (subQ ⟨p0, p1, p2, p3, p4⟩ ⟨q0, q1, q2, q3, q4⟩) = TT at *
  generalize fitE (subQ ⟨p0, p1, p2, p3, p4⟩ ⟨q0, q1, q2, q3, q4⟩) = FE2 at *
  obtain ⟨s0, s1, s2, s3, s4⟩ := SS
  obtain ⟨t0, t1, t2, t3, t4⟩ := TT
  generalize fitQ (scaleQ n d ⟨p0, p1, p2, p3, p4⟩) = UU at *
  generalize fitE (scaleQ n d ⟨p0, p1, p2, p3, p4⟩) = FU at *
  obtain ⟨u0, u1, u2, u3, u4⟩ := UU
  simp only [qv, fvv, negQ] at HS HT HU HCp HCq HCf HRA HRB HRN HRS
  simp only [qv, fvv]
  generalize -q0 = m0 at *
  generalize -q1 = m1 at *
  generalize -q2 = m2 at *
  generalize -q3 = m3 at *
  go_enter Tryd.func10, Tryd.ntmps10
  go_upto_region 1 with fail
  obtain ⟨W0, hW0⟩ : ∃ W0 : World, W0 = (((w.alloc (.cells #[.int .i64 p0, .int .i64 p1, .int .i64 p2, .int .i64 p3, .int .i64 p4] 25)).alloc (.cells #[.int .i64 q0, .int .i64 q1, .int .i64 q2, .int .i64 q3, .int .i64 q4] 25)).alloc (.cells #[.int .i64 n, .int .i64 d] 61)) := ⟨_, rfl⟩
  rw [← hW0]
  have HB0 := Lib.hid (show Bx w [(w.heap.size + 2, #[.int .i64 n, .int .i64 d]), (w.heap.size + 1, #[.int .i64 q0, .int .i64 q1, .int .i64 q2, .int .i64 q3, .int .i64 q4]), (w.heap.size, #[.int .i64 p0, .int .i64 p1, .int .i64 p2, .int .i64 p3, .int .i64 p4])] W0 by rw [hW0]; simpa using ((((Bx.nil (Below.refl w.heap.size w)).new #[.int .i64 p0, .int .i64 p1, .int .i64 p2, .int .i64 p3, .int .i64 p4] 25).new #[.int .i64 q0, .int .i64 q1, .int .i64 q2, .int .i64 q3, .int .i64 q4] 25).new #[.int .i64 n, .int .i64 d] 61))
  clear hW0
  go_wp2_with fail
  refine (HA.out _).mono ?_
  rintro e1 w1 ⟨rfl, hbb⟩
  have HB1 := Lib.hid (HB0.out.keep hbb)
  clear hbb HB0
  go_upto_region 3 with fail
  obtain ⟨c1_0, c1_1, c1_2, c1_3, c1_4⟩ := HB1.out.five (List.mem_cons_of_mem _ (List.mem_cons_self ..))
  obtain ⟨c2_0, c2_1, c2_2, c2_3, c2_4⟩ := HB1.out.five (List.mem_cons_of_mem _ (List.mem_cons_of_mem _ (List.mem_cons_self ..)))
  go_wp2_with fail
  refine (HS.out _).mono ?_
  rintro e2 w2 ⟨rfl, hbb⟩
  have HB2 := Lib.hid (HB1.out.keep hbb)
  clear c1_0 c1_1 c1_2 c1_3 c1_4 c2_0 c2_1 c2_2 c2_3 c2_4
  clear hbb HB1
  go_upto_region 4 with fail
  obtain ⟨V1, hV1⟩ : ∃ V1 : World, V1 = w2.alloc (.cells #[.int .i64 s0, .int .i64 s1, .int .i64 s2, .int .i64 s3, .int .i64 s4] 25) := ⟨_, rfl⟩
  rw [← hV1]
  have HV1 := Lib.hid (show Bx w [(w2.heap.size, #[.int .i64 s0, .int .i64 s1, .int .i64 s2, .int .i64 s3, .int .i64 s4]), (w.heap.size + 2, #[.int .i64 n, .int .i64 d]), (w.heap.size + 1, #[.int .i64 q0, .int .i64 q1, .int .i64 q2, .int .i64 q3, .int .i64 q4]), (w.heap.size, #[.int .i64 p0, .int .i64 p1, .int .i64 p2, .int .i64 p3, .int .i64 p4])] V1 from hV1 ▸ HB2.out.new _ _)
  have hlt1 := HB2.out.lt (List.mem_cons_self ..)
  clear hV1 HB2
  generalize w2.heap.size = B1 at *
  obtain ⟨c2_0, c2_1, c2_2, c2_3, c2_4⟩ := HV1.out.five (List.mem_cons_of_mem _ (List.mem_cons_of_mem _ (List.mem_cons_self ..)))
  obtain ⟨c3_0, c3_1, c3_2, c3_3, c3_4⟩ := HV1.out.five (List.mem_cons_of_mem _ (List.mem_cons_of_mem _ (List.mem_cons_of_mem _ (List.mem_cons_self ..))))
  go_wp2_with fail
  refine (HT.out _).mono ?_
  rintro e3 w3 ⟨rfl, hbb⟩
  have HB3 := Lib.hid (HV1.out.keep hbb)
  clear c2_0 c2_1 c2_2 c2_3 c2_4 c3_0 c3_1 c3_2 c3_3 c3_4
  clear hbb HV1
  go_upto_region 5 with fail
  obtain ⟨V2, hV2⟩ : ∃ V2 : World, V2 = w3.alloc (.cells #[.int .i64 t0, .int .i64 t1, .int .i64 t2, .int .i64 t3, .int .i64 t4] 25) := ⟨_, rfl⟩
  rw [← hV2]
  have HV2 := Lib.hid (show Bx w [(w3.heap.size, #[.int .i64 t0, .int .i64 t1, .int .i64 t2, .int .i64 t3, .int .i64 t4]), (B1, #[.int .i64 s0, .int .i64 s1, .int .i64 s2, .int .i64 s3, .int .i64 s4]), (w.heap.size + 2, #[.int .i64 n, .int .i64 d]), (w.heap.size + 1, #[.int .i64 q0, .int .i64 q1, .int .i64 q2, .int .i64 q3, .int .i64 q4]), (w.heap.size, #[.int .i64 p0, .int .i64 p1, .int .i64 p2, .int .i64 p3, .int .i64 p4])] V2 from hV2 ▸ HB3.out.new _ _)
  have hlt2 := HB3.out.lt (List.mem_cons_self ..)
  clear hV2 HB3
  generalize w3.heap.size = B2 at *
  obtain ⟨c2_0, c2_1⟩ := HV2.out.two (List.mem_cons_of_mem _ (List.mem_cons_of_mem _ (List.mem_cons_self ..)))
  obtain ⟨c4_0, c4_1, c4_2, c4_3, c4_4⟩ := HV2.out.five (List.mem_cons_of_mem _ (List.mem_cons_of_mem _ (List.mem_cons_of_mem _ (List.mem_cons_of_mem _ (List.mem_cons_self ..)))))
  go_wp2_with fail
  refine (HU.out _).mono ?_
  rintro e4 w4 ⟨rfl, hbb⟩
  have HB4 := Lib.hid (HV2.out.keep hbb)
  clear c2_0 c2_1 c4_0 c4_1 c4_2 c4_3 c4_4
  clear hbb HV2
  go_upto_region 6 with fail
  obtain ⟨V3, hV3⟩ : ∃ V3 : World, V3 = w4.alloc (.cells #[.int .i64 u0, .int .i64 u1, .int .i64 u2, .int .i64 u3, .int .i64 u4] 25) := ⟨_, rfl⟩
  rw [← hV3]
  have HV3 := Lib.hid (show Bx w [(w4.heap.size, #[.int .i64 u0, .int .i64 u1, .int .i64 u2, .int .i64 u3, .int .i64 u4]), (B2, #[.int .i64 t0, .int .i64 t1, .int .i64 t2, .int .i64 t3, .int .i64 t4]), (B1, #[.int .i64 s0, .int .i64 s1, .int .i64 s2, .int .i64 s3, .int .i64 s4]), (w.heap.size + 2, #[.int .i64 n, .int .i64 d]), (w.heap.size + 1, #[.int .i64 q0, .int .i64 q1, .int .i64 q2, .int .i64 q3, .int .i64 q4]), (w.heap.size, #[.int .i64 p0, .int .i64 p1, .int .i64 p2, .int .i64 p3, .int .i64 p4])] V3 from hV3 ▸ HB4.out.new _ _)
  have hlt3 := HB4.out.lt (List.mem_cons_self ..)
  clear hV3 HB4
  generalize w4.heap.size = B3 at *
  obtain ⟨c5_0, c5_1, c5_2, c5_3, c5_4⟩ := HV3.out.five (List.mem_cons_of_mem _ (List.mem_cons_of_mem _ (List.mem_cons_of_mem _ (List.mem_cons_of_mem _ (List.mem_cons_of_mem _ (List.mem_cons_self ..))))))
  go_wp2_with fail
  refine (HCp.out _).mono ?_
  rintro e5 w5 ⟨rfl, hbb⟩
  have HB5 := Lib.hid (HV3.out.keep hbb)
  clear c5_0 c5_1 c5_2 c5_3 c5_4
  clear hbb HV3
  go_upto_region 9 with fail
  obtain ⟨c4_0, c4_1, c4_2, c4_3, c4_4⟩ := HB5.out.five (List.mem_cons_of_mem _ (List.mem_cons_of_mem _ (List.mem_cons_of_mem _ (List.mem_cons_of_mem _ (List.mem_cons_self ..)))))
  go_wp2_with fail
  refine (HCq.out _).mono ?_
  rintro e6 w6 ⟨rfl, hbb⟩
  have HB6 := Lib.hid (HB5.out.keep hbb)
  clear c4_0 c4_1 c4_2 c4_3 c4_4
  clear hbb HB5
  go_upto_region 10 with fail
  obtain ⟨c3_0, c3_1⟩ := HB6.out.two (List.mem_cons_of_mem _ (List.mem_cons_of_mem _ (List.mem_cons_of_mem _ (List.mem_cons_self ..))))
  go_wp2_with fail
  refine (HCf.out _).mono ?_
  rintro e7 w7 ⟨rfl, hbb⟩
  have HB7 := Lib.hid (HB6.out.keep hbb)
  clear c3_0 c3_1
  clear hbb HB6
  go_upto_region 14 with fail
  obtain ⟨c4_0, c4_1, c4_2, c4_3, c4_4⟩ := HB7.out.five (List.mem_cons_of_mem _ (List.mem_cons_of_mem _ (List.mem_cons_of_mem _ (List.mem_cons_of_mem _ (List.mem_cons_self ..)))))
  obtain ⟨c5_0, c5_1, c5_2, c5_3, c5_4⟩ := HB7.out.five (List.mem_cons_of_mem _ (List.mem_cons_of_mem _ (List.mem_cons_of_mem _ (List.mem_cons_of_mem _ (List.mem_cons_of_mem _ (List.mem_cons_self ..))))))
  go_wp2_with fail
  refine (HRA.out _).mono ?_
  rintro e8 w8 ⟨rfl, hbb⟩
  have HB8 := Lib.hid (HB7.out.keep hbb)
  clear c4_0 c4_1 c4_2 c4_3 c4_4 c5_0 c5_1 c5_2 c5_3 c5_4
  clear hbb HB7
  go_upto_region 15 with fail
  obtain ⟨V4, hV4⟩ : ∃ V4 : World, V4 = w8.alloc (.cells #[.int .i64 s0, .int .i64 s1, .int .i64 s2, .int .i64 s3, .int .i64 s4] 25) := ⟨_, rfl⟩
  rw [← hV4]
  have HV4 := Lib.hid (show Bx w [(w8.heap.size, #[.int .i64 s0, .int .i64 s1, .int .i64 s2, .int .i64 s3, .int .i64 s4]), (B3, #[.int .i64 u0, .int .i64 u1, .int .i64 u2, .int .i64 u3, .int .i64 u4]), (B2, #[.int .i64 t0, .int .i64 t1, .int .i64 t2, .int .i64 t3, .int .i64 t4]), (B1, #[.int .i64 s0, .int .i64 s1, .int .i64 s2, .int .i64 s3, .int .i64 s4]), (w.heap.size + 2, #[.int .i64 n, .int .i64 d]), (w.heap.size + 1, #[.int .i64 q0, .int .i64 q1, .int .i64 q2, .int .i64 q3, .int .i64 q4]), (w.heap.size, #[.int .i64 p0, .int .i64 p1, .int .i64 p2, .int .i64 p3, .int .i64 p4])] V4 from hV4 ▸ HB8.out.new _ _)
  have hlt4 := HB8.out.lt (List.mem_cons_self ..)
  clear hV4 HB8
  generalize w8.heap.size = B4 at *
  have HV := Lib.hid HV4.out
  have MK := Lib.hid (fun w' (h : Bx w [(B4, #[.int .i64 s0, .int .i64 s1, .int .i64 s2, .int .i64 s3, .int .i64 s4]), (B3, #[.int .i64 u0, .int .i64 u1, .int .i64 u2, .int .i64 u3, .int .i64 u4]), (B2, #[.int .i64 t0, .int .i64 t1, .int .i64 t2, .int .i64 t3, .int .i64 t4]), (B1, #[.int .i64 s0, .int .i64 s1, .int .i64 s2, .int .i64 s3, .int .i64 s4]), (w.heap.size + 2, #[.int .i64 n, .int .i64 d]), (w.heap.size + 1, #[.int .i64 q0, .int .i64 q1, .int .i64 q2, .int .i64 q3, .int .i64 q4]), (w.heap.size, #[.int .i64 p0, .int .i64 p1, .int .i64 p2, .int .i64 p3, .int .i64 p4])] w') => And.intro h (And.intro (h.five (List.mem_cons_of_mem _ (List.mem_cons_of_mem _ (List.mem_cons_of_mem _ (List.mem_cons_of_mem _ (List.mem_cons_of_mem _ (List.mem_cons_self ..))))))) (h.five (List.mem_cons_of_mem _ (List.mem_cons_of_mem _ (List.mem_cons_of_mem _ (List.mem_cons_of_mem _ (List.mem_cons_of_mem _ (List.mem_cons_of_mem _ (List.mem_cons_self ..))))))))))
  have HG2 := Lib.hid (MK.out _ (HV4.out.keep (Below.refl _ _).drew))
  go_cut [17, 18] (fun s17 s18 wx => ∃ g : Nat, s17 = .pointer (some ⟨g, 0, none⟩) ∧ s18 = .int .i64 FE2 ∧ Bx w ((g, #[.int .i64 t0, .int .i64 t1, .int .i64 t2, .int .i64 t3, .int .i64 t4]) :: [(B4, #[.int .i64 s0, .int .i64 s1, .int .i64 s2, .int .i64 s3, .int .i64 s4]), (B3, #[.int .i64 u0, .int .i64 u1, .int .i64 u2, .int .i64 u3, .int .i64 u4]), (B2, #[.int .i64 t0, .int .i64 t1, .int .i64 t2, .int .i64 t3, .int .i64 t4]), (B1, #[.int .i64 s0, .int .i64 s1, .int .i64 s2, .int .i64 s3, .int .i64 s4]), (w.heap.size + 2, #[.int .i64 n, .int .i64 d]), (w.heap.size + 1, #[.int .i64 q0, .int .i64 q1, .int .i64 q2, .int .i64 q3, .int .i64 q4]), (w.heap.size, #[.int .i64 p0, .int .i64 p1, .int .i64 p2, .int .i64 p3, .int .i64 p4])]) wx)
  case first =>
    go_region_held3 (fun w' => Bx w [(B4, #[.int .i64 s0, .int .i64 s1, .int .i64 s2, .int .i64 s3, .int .i64 s4]), (B3, #[.int .i64 u0, .int .i64 u1, .int .i64 u2, .int .i64 u3, .int .i64 u4]), (B2, #[.int .i64 t0, .int .i64 t1, .int .i64 t2, .int .i64 t3, .int .i64 t4]), (B1, #[.int .i64 s0, .int .i64 s1, .int .i64 s2, .int .i64 s3, .int .i64 s4]), (w.heap.size + 2, #[.int .i64 n, .int .i64 d]), (w.heap.size + 1, #[.int .i64 q0, .int .i64 q1, .int .i64 q2, .int .i64 q3, .int .i64 q4]), (w.heap.size, #[.int .i64 p0, .int .i64 p1, .int .i64 p2, .int .i64 p3, .int .i64 p4])] w' ∧ (w'.cell? ⟨w.heap.size + 1, 0, none⟩ = some (.int .i64 q0) ∧ w'.cell? ⟨w.heap.size + 1, 1, none⟩ = some (.int .i64 q1) ∧ w'.cell? ⟨w.heap.size + 1, 2, none⟩ = some (.int .i64 q2) ∧ w'.cell? ⟨w.heap.size + 1, 3, none⟩ = some (.int .i64 q3) ∧ w'.cell? ⟨w.heap.size + 1, 4, none⟩ = some (.int .i64 q4)) ∧ (w'.cell? ⟨w.heap.size, 0, none⟩ = some (.int .i64 p0) ∧ w'.cell? ⟨w.heap.size, 1, none⟩ = some (.int .i64 p1) ∧ w'.cell? ⟨w.heap.size, 2, none⟩ = some (.int .i64 p2) ∧ w'.cell? ⟨w.heap.size, 3, none⟩ = some (.int .i64 p3) ∧ w'.cell? ⟨w.heap.size, 4, none⟩ = some (.int .i64 p4)))
      (first
        | assumption
        | exact HG2.out
        | exact MK.out _ (Bx.keep (And.left (by assumption)) (by first | assumption | exact (Below.refl _ _).alloc (Nat.le_refl _) _))
        | exact MK.out _ (Bx.store_ge (And.left (by assumption)) HV.out (by first | exact Nat.le_refl _ | assumption) _ _ _ _ _)
        | exact MK.out _ (Bx.again (And.left (by assumption)) HV.out (by first | exact Nat.le_refl _ | assumption)))
      (first
        | (go_at_call 51; (with_reducible refine (HRN.out _).mono ?_); rintro e w' ⟨rfl, hb3⟩; have hz3 : V4.heap.size ≤ w'.heap.size := (by have := hb3.size; (try simp at this); omega); (first | (have kk3 := Lib.hid (newq_drew hb3); obtain ⟨k30, k31, k32, k33, k34⟩ := kk3.out.five; obtain ⟨g30, g31, g32, g33, g34⟩ := kk3.out.fr) | (have kk3 := Lib.hid (newq_keep hb3); obtain ⟨k30, k31, k32, k33, k34⟩ := kk3.out.five; obtain ⟨g30, g31, g32, g33, g34⟩ := kk3.out.fr) | skip))
        | (go_at_call 50; (with_reducible refine (HRB.out _).mono ?_); rintro e w' ⟨rfl, hb4⟩; have hz4 : V4.heap.size ≤ w'.heap.size := (by have := hb4.size; (try simp at this); omega); (first | (have kk4 := Lib.hid (newq_drew hb4); obtain ⟨k40, k41, k42, k43, k44⟩ := kk4.out.five; obtain ⟨g40, g41, g42, g43, g44⟩ := kk4.out.fr) | (have kk4 := Lib.hid (newq_keep hb4); obtain ⟨k40, k41, k42, k43, k44⟩ := kk4.out.five; obtain ⟨g40, g41, g42, g43, g44⟩ := kk4.out.fr) | (have kk4 := Lib.hid (kk3.out.keep hb4); obtain ⟨k40, k41, k42, k43, k44⟩ := kk4.out.five; obtain ⟨g40, g41, g42, g43, g44⟩ := kk4.out.fr; clear k30 k31 k32 k33 k34 g30 g31 g32 g33 g34) | skip)))
    all_goals
      go_wp2_with fail
      go_meet
      first
      | exact ⟨_, rfl, rfl, Bx.cons (And.left (by assumption)) (Nat.le_trans HV.out.below.size (by first | exact Nat.le_refl _ | assumption)) (Cells.put5 kk4.out _ _ _ _ _)⟩
      | exact ⟨_, rfl, rfl, Bx.cons (And.left (by assumption)) (Nat.le_trans HV.out.below.size (by first | exact Nat.le_refl _ | assumption)) (Cells.new _ _ _ rfl)⟩
  case rest =>
    obtain ⟨g, rfl, rfl, hB⟩ := hcut
    have HC1 := Lib.hid hB
    clear hB HV MK HG2 HV4
    obtain ⟨c1_0, c1_1, c1_2, c1_3, c1_4⟩ := HC1.out.five (List.mem_cons_of_mem _ (List.mem_cons_self ..))
    obtain ⟨c4_0, c4_1, c4_2, c4_3, c4_4⟩ := HC1.out.five (List.mem_cons_of_mem _ (List.mem_cons_of_mem _ (List.mem_cons_of_mem _ (List.mem_cons_of_mem _ (List.mem_cons_self ..)))))
    go_wp2_with fail
    refine (same_refl _ _ _ _ _ _ _).mono ?_
    rintro e9 w9 ⟨rfl, hbb⟩
    have HB9 := Lib.hid (HC1.out.keep hbb)
    clear c1_0 c1_1 c1_2 c1_3 c1_4 c4_0 c4_1 c4_2 c4_3 c4_4
    clear hbb HC1
    obtain ⟨c0_0, c0_1, c0_2, c0_3, c0_4⟩ := HB9.out.five (List.mem_cons_self ..)
    obtain ⟨c3_0, c3_1, c3_2, c3_3, c3_4⟩ := HB9.out.five (List.mem_cons_of_mem _ (List.mem_cons_of_mem _ (List.mem_cons_of_mem _ (List.mem_cons_self ..))))
    go_wp2_with fail
    refine (same_refl _ _ _ _ _ _ _).mono ?_
    rintro e10 w10 ⟨rfl, hbb⟩
    have HB10 := Lib.hid (HB9.out.keep hbb)
    clear c0_0 c0_1 c0_2 c0_3 c0_4 c3_0 c3_1 c3_2 c3_3 c3_4
    clear hbb HB9
    go_upto_region 20 with fail
    obtain ⟨c5_0, c5_1⟩ := HB10.out.two (List.mem_cons_of_mem _ (List.mem_cons_of_mem _ (List.mem_cons_of_mem _ (List.mem_cons_of_mem _ (List.mem_cons_of_mem _ (List.mem_cons_self ..))))))
    obtain ⟨c7_0, c7_1, c7_2, c7_3, c7_4⟩ := HB10.out.five (List.mem_cons_of_mem _ (List.mem_cons_of_mem _ (List.mem_cons_of_mem _ (List.mem_cons_of_mem _ (List.mem_cons_of_mem _ (List.mem_cons_of_mem _ (List.mem_cons_of_mem _ (List.mem_cons_self ..))))))))
    go_wp2_with fail
    refine (HRS.out _).mono ?_
    rintro e11 w11 ⟨rfl, hbb⟩
    have HB11 := Lib.hid (HB10.out.keep hbb)
    clear c5_0 c5_1 c7_0 c7_1 c7_2 c7_3 c7_4
    clear hbb HB10
    go_upto_region 21 with fail
    obtain ⟨V5, hV5⟩ : ∃ V5 : World, V5 = w11.alloc (.cells #[.int .i64 u0, .int .i64 u1, .int .i64 u2, .int .i64 u3, .int .i64 u4] 25) := ⟨_, rfl⟩
    rw [← hV5]
    have HV5 := Lib.hid (show Bx w [(w11.heap.size, #[.int .i64 u0, .int .i64 u1, .int .i64 u2, .int .i64 u3, .int .i64 u4]), (g, #[.int .i64 t0, .int .i64 t1, .int .i64 t2, .int .i64 t3, .int .i64 t4]), (B4, #[.int .i64 s0, .int .i64 s1, .int .i64 s2, .int .i64 s3, .int .i64 s4]), (B3, #[.int .i64 u0, .int .i64 u1, .int .i64 u2, .int .i64 u3, .int .i64 u4]), (B2, #[.int .i64 t0, .int .i64 t1, .int .i64 t2, .int .i64 t3, .int .i64 t4]), (B1, #[.int .i64 s0, .int .i64 s1, .int .i64 s2, .int .i64 s3, .int .i64 s4]), (w.heap.size + 2, #[.int .i64 n, .int .i64 d]), (w.heap.size + 1, #[.int .i64 q0, .int .i64 q1, .int .i64 q2, .int .i64 q3, .int .i64 q4]), (w.heap.size, #[.int .i64 p0, .int .i64 p1, .int .i64 p2, .int .i64 p3, .int .i64 p4])] V5 from hV5 ▸ HB11.out.new _ _)
    have hlt5 := HB11.out.lt (List.mem_cons_self ..)
    clear hV5 HB11
    generalize w11.heap.size = B5 at *
    obtain ⟨c0_0, c0_1, c0_2, c0_3, c0_4⟩ := HV5.out.five (List.mem_cons_self ..)
    obtain ⟨c3_0, c3_1, c3_2, c3_3, c3_4⟩ := HV5.out.five (List.mem_cons_of_mem _ (List.mem_cons_of_mem _ (List.mem_cons_of_mem _ (List.mem_cons_self ..))))
    go_wp2_with fail
    refine (same_refl _ _ _ _ _ _ _).mono ?_
    rintro e12 w12 ⟨rfl, hbb⟩
    have HB12 := Lib.hid (HV5.out.keep hbb)
    clear c0_0 c0_1 c0_2 c0_3 c0_4 c3_0 c3_1 c3_2 c3_3 c3_4
    clear hbb HV5
    go_wp2_with fail
    go_ret
    exact ⟨rfl, HB12.out.below⟩

set_option maxHeartbeats 4000000 in
set_option maxRecDepth 100000 in
theorem Sums_5 (p0 p1 p2 p3 p4 q0 q1 q2 q3 q4 n d : Int) (w : World) (hn : I64 n) (hd : I64 d) (hq : qE ⟨p0, p1, p2, p3, p4⟩ = 0) (hr : qE ⟨q0, q1, q2, q3, q4⟩ = 0) (hf : frB n d = false) :
    Calls Tryd.prog 10 #[qv ⟨p0, p1, p2, p3, p4⟩, qv ⟨q0, q1, q2, q3, q4⟩, fvv n d] w fun e w' => e = .returned (.bool true) ∧ Below w.heap.size w w' := by
  have HA := Lib.hid awake3_any
  have hS := fun w => qAdd_any p0 p1 p2 p3 p4 q0 q1 q2 q3 q4 w
  have hT := fun w => qSub_any p0 p1 p2 p3 p4 q0 q1 q2 q3 q4 w
  have hU := fun w => qScale_any p0 p1 p2 p3 p4 n d w hn hd
  have hCp := fun w => rCheckQuat_any ⟨p0, p1, p2, p3, p4⟩ w
  have hCq := fun w => rCheckQuat_any ⟨q0, q1, q2, q3, q4⟩ w
  have hCf := fun w => rCheckFrac_any n d w
  have hp0 := qE_zero.1 hq
  have hr0 := qE_zero.1 hr
  have e0 : qsE [⟨p0, p1, p2, p3, p4⟩, ⟨q0, q1, q2, q3, q4⟩] = 0 := qsE_zero.2 (by simp [hp0, hr0])
  have e1 : resQ 0 (addQ ⟨p0, p1, p2, p3, p4⟩ ⟨q0, q1, q2, q3, q4⟩) = fitQ (addQ ⟨p0, p1, p2, p3, p4⟩ ⟨q0, q1, q2, q3, q4⟩) := if_pos rfl
  have e2 : resE 0 (addQ ⟨p0, p1, p2, p3, p4⟩ ⟨q0, q1, q2, q3, q4⟩) = fitE (addQ ⟨p0, p1, p2, p3, p4⟩ ⟨q0, q1, q2, q3, q4⟩) := if_pos rfl
  have e3 : resQ 0 (subQ ⟨p0, p1, p2, p3, p4⟩ ⟨q0, q1, q2, q3, q4⟩) = fitQ (subQ ⟨p0, p1, p2, p3, p4⟩ ⟨q0, q1, q2, q3, q4⟩) := if_pos rfl
  have e4 : resE 0 (subQ ⟨p0, p1, p2, p3, p4⟩ ⟨q0, q1, q2, q3, q4⟩) = fitE (subQ ⟨p0, p1, p2, p3, p4⟩ ⟨q0, q1, q2, q3, q4⟩) := if_pos rfl
  have hRA := fun w => rAdd_any p0 p1 p2 p3 p4 q0 q1 q2 q3 q4 w hp0 hr0
  have HRN := Lib.hid (fun w => rNeg_any q0 q1 q2 q3 q4 w hr0)
  have hRB := fun w => rAdd_any p0 p1 p2 p3 p4 (-q0) (-q1) (-q2) (-q3) q4 w hp0 (show qB ⟨-q0, -q1, -q2, -q3, q4⟩ = true from negQ_fit hr0)
  have e8 : addQ ⟨p0, p1, p2, p3, p4⟩ ⟨-q0, -q1, -q2, -q3, q4⟩ = subQ ⟨p0, p1, p2, p3, p4⟩ ⟨q0, q1, q2, q3, q4⟩ := (subQ_eq ⟨p0, p1, p2, p3, p4⟩ ⟨q0, q1, q2, q3, q4⟩).symm
  simp only [e8] at hRB
  have e7 : frE n d = 3 := if_neg (by rw [hf]; decide)
  have e5 : sclQ n d ⟨p0, p1, p2, p3, p4⟩ = Qt.zero := (if_pos hq).trans (if_neg (by rw [hf]; decide))
  have e6 : sclE n d ⟨p0, p1, p2, p3, p4⟩ = 3 := (if_pos hq).trans (if_neg (by rw [hf]; decide))
  simp only [e0, e1, e2] at hS
  simp only [e0, e3, e4] at hT
  simp only [e5, e6] at hU
  simp only [hq] at hCp
  simp only [hr] at hCq
  simp only [e7] at hCf
  have HS := Lib.hid hS; have HT := Lib.hid hT; have HU := Lib.hid hU; have HCp := Lib.hid hCp; have HCq := Lib.hid hCq; have HCf := Lib.hid hCf; have HRA := Lib.hid hRA; have HRB := Lib.hid hRB
  clear hS hT hU hCp hCq hCf e0 e1 e2 e3 e4 e5 e6 e7 e8 hq hr hf hn hd hp0 hr0 hRA hRB
  generalize fitQ (addQ ⟨p0, p1, p2, p3, p4⟩ ⟨q0, q1, q2, q3, q4⟩) = SS at *
  generalize fitE (addQ ⟨p0, p1, p2, p3, p4⟩ ⟨q0, q1, q2, q3, q4⟩) = FE1 at *
  generalize fitQ (subQ ⟨p0, p1, p2, p3, p4⟩ ⟨q0, q1, q2, q3, q4⟩) = TT at *
  generalize fitE (subQ ⟨p0, p1, p2, p3, p4⟩ ⟨q0, q1, q2, q3, q4⟩) = FE2 at *
  obtain ⟨s0, s1, s2, s3, s4⟩ := SS
  obtain ⟨t0, t1, t2, t3, t4⟩ := TT
  simp only [qv, Qt.zero, fvv, negQ] at HS HT HU HCp HCq HCf HRA HRB HRN
  simp only [qv, fvv]
  generalize -q0 = m0 at *
  generalize -q1 = m1 at *
  generalize -q2 = m2 at *
  generalize -q3 = m3 at *
  go_enter Tryd.func10, Tryd.ntmps10
  go_upto_region 1 with fail
  obtain ⟨W0, hW0⟩ : ∃ W0 : World, W0 = (((w.alloc (.cells #[.int .i64 p0, .int .i64 p1, .int .i64 p2, .int .i64 p3, .int .i64 p4] 25)).alloc (.cells #[.int .i64 q0, .int .i64 q1, .int .i64 q2, .int .i64 q3, .int .i64 q4] 25)).alloc (.cells #[.int .i64 n, .int .i64 d] 61)) := ⟨_, rfl⟩
  rw [← hW0]
  have HB0 := Lib.hid (show Bx w [(w.heap.size + 2, #[.int .i64 n, .int .i64 d]), (w.heap.size + 1, #[.int .i64 q0, .int .i64 q1, .int .i64 q2, .int .i64 q3, .int .i64 q4]), (w.heap.size, #[.int .i64 p0, .int .i64 p1, .int .i64 p2, .int .i64 p3, .int .i64 p4])] W0 by rw [hW0]; simpa using ((((Bx.nil (Below.refl w.heap.size w)).new #[.int .i64 p0, .int .i64 p1, .int .i64 p2, .int .i64 p3, .int .i64 p4] 25).new #[.int .i64 q0, .int .i64 q1, .int .i64 q2, .int .i64 q3, .int .i64 q4] 25).new #[.int .i64 n, .int .i64 d] 61))
  clear hW0
  go_wp2_with fail
  refine (HA.out _).mono ?_
  rintro e1 w1 ⟨rfl, hbb⟩
  have HB1 := Lib.hid (HB0.out.keep hbb)
  clear hbb HB0
  go_upto_region 3 with fail
  obtain ⟨c1_0, c1_1, c1_2, c1_3, c1_4⟩ := HB1.out.five (List.mem_cons_of_mem _ (List.mem_cons_self ..))
  obtain ⟨c2_0, c2_1, c2_2, c2_3, c2_4⟩ := HB1.out.five (List.mem_cons_of_mem _ (List.mem_cons_of_mem _ (List.mem_cons_self ..)))
  go_wp2_with fail
  refine (HS.out _).mono ?_
  rintro e2 w2 ⟨rfl, hbb⟩
  have HB2 := Lib.hid (HB1.out.keep hbb)
  clear c1_0 c1_1 c1_2 c1_3 c1_4 c2_0 c2_1 c2_2 c2_3 c2_4
  clear hbb HB1
  go_upto_region 4 with fail
  obtain ⟨V1, hV1⟩ : ∃ V1 : World, V1 = w2.alloc (.cells #[.int .i64 s0, .int .i64 s1, .int .i64 s2, .int .i64 s3, .int .i64 s4] 25) := ⟨_, rfl⟩
  rw [← hV1]
  have HV1 := Lib.hid (show Bx w [(w2.heap.size, #[.int .i64 s0, .int .i64 s1, .int .i64 s2, .int .i64 s3, .int .i64 s4]), (w.heap.size + 2, #[.int .i64 n, .int .i64 d]), (w.heap.size + 1, #[.int .i64 q0, .int .i64 q1, .int .i64 q2, .int .i64 q3, .int .i64 q4]), (w.heap.size, #[.int .i64 p0, .int .i64 p1, .int .i64 p2, .int .i64 p3, .int .i64 p4])] V1 from hV1 ▸ HB2.out.new _ _)
  have hlt1 := HB2.out.lt (List.mem_cons_self ..)
  clear hV1 HB2
  generalize w2.heap.size = B1 at *
  obtain ⟨c2_0, c2_1, c2_2, c2_3, c2_4⟩ := HV1.out.five (List.mem_cons_of_mem _ (List.mem_cons_of_mem _ (List.mem_cons_self ..)))
  obtain ⟨c3_0, c3_1, c3_2, c3_3, c3_4⟩ := HV1.out.five (List.mem_cons_of_mem _ (List.mem_cons_of_mem _ (List.mem_cons_of_mem _ (List.mem_cons_self ..))))
  go_wp2_with fail
  refine (HT.out _).mono ?_
  rintro e3 w3 ⟨rfl, hbb⟩
  have HB3 := Lib.hid (HV1.out.keep hbb)
  clear c2_0 c2_1 c2_2 c2_3 c2_4 c3_0 c3_1 c3_2 c3_3 c3_4
  clear hbb HV1
  go_upto_region 5 with fail
  obtain ⟨V2, hV2⟩ : ∃ V2 : World, V2 = w3.alloc (.cells #[.int .i64 t0, .int .i64 t1, .int .i64 t2, .int .i64 t3, .int .i64 t4] 25) := ⟨_, rfl⟩
  rw [← hV2]
  have HV2 := Lib.hid (show Bx w [(w3.heap.size, #[.int .i64 t0, .int .i64 t1, .int .i64 t2, .int .i64 t3, .int .i64 t4]), (B1, #[.int .i64 s0, .int .i64 s1, .int .i64 s2, .int .i64 s3, .int .i64 s4]), (w.heap.size + 2, #[.int .i64 n, .int .i64 d]), (w.heap.size + 1, #[.int .i64 q0, .int .i64 q1, .int .i64 q2, .int .i64 q3, .int .i64 q4]), (w.heap.size, #[.int .i64 p0, .int .i64 p1, .int .i64 p2, .int .i64 p3, .int .i64 p4])] V2 from hV2 ▸ HB3.out.new _ _)
  have hlt2 := HB3.out.lt (List.mem_cons_self ..)
  clear hV2 HB3
  generalize w3.heap.size = B2 at *
  obtain ⟨c2_0, c2_1⟩ := HV2.out.two (List.mem_cons_of_mem _ (List.mem_cons_of_mem _ (List.mem_cons_self ..)))
  obtain ⟨c4_0, c4_1, c4_2, c4_3, c4_4⟩ := HV2.out.five (List.mem_cons_of_mem _ (List.mem_cons_of_mem _ (List.mem_cons_of_mem _ (List.mem_cons_of_mem _ (List.mem_cons_self ..)))))
  go_wp2_with fail
  refine (HU.out _).mono ?_
  rintro e4 w4 ⟨rfl, hbb⟩
  have HB4 := Lib.hid (HV2.out.keep hbb)
  clear c2_0 c2_1 c4_0 c4_1 c4_2 c4_3 c4_4
  clear hbb HV2
  go_upto_region 6 with fail
  obtain ⟨V3, hV3⟩ : ∃ V3 : World, V3 = w4.alloc (.cells #[.int .i64 0, .int .i64 0, .int .i64 0, .int .i64 0, .int .i64 0] 25) := ⟨_, rfl⟩
  rw [← hV3]
  have HV3 := Lib.hid (show Bx w [(w4.heap.size, #[.int .i64 0, .int .i64 0, .int .i64 0, .int .i64 0, .int .i64 0]), (B2, #[.int .i64 t0, .int .i64 t1, .int .i64 t2, .int .i64 t3, .int .i64 t4]), (B1, #[.int .i64 s0, .int .i64 s1, .int .i64 s2, .int .i64 s3, .int .i64 s4]), (w.heap.size + 2, #[.int .i64 n, .int .i64 d]), (w.heap.size + 1, #[.int .i64 q0, .int .i64 q1, .int .i64 q2, .int .i64 q3, .int .i64 q4]), (w.heap.size, #[.int .i64 p0, .int .i64 p1, .int .i64 p2, .int .i64 p3, .int .i64 p4])] V3 from hV3 ▸ HB4.out.new _ _)
  have hlt3 := HB4.out.lt (List.mem_cons_self ..)
  clear hV3 HB4
  generalize w4.heap.size = B3 at *
  obtain ⟨c5_0, c5_1, c5_2, c5_3, c5_4⟩ := HV3.out.five (List.mem_cons_of_mem _ (List.mem_cons_of_mem _ (List.mem_cons_of_mem _ (List.mem_cons_of_mem _ (List.mem_cons_of_mem _ (List.mem_cons_self ..))))))
  go_wp2_with fail
  refine (HCp.out _).mono ?_
  rintro e5 w5 ⟨rfl, hbb⟩
  have HB5 := Lib.hid (HV3.out.keep hbb)
  clear c5_0 c5_1 c5_2 c5_3 c5_4
  clear hbb HV3
  go_upto_region 9 with fail
  obtain ⟨c4_0, c4_1, c4_2, c4_3, c4_4⟩ := HB5.out.five (List.mem_cons_of_mem _ (List.mem_cons_of_mem _ (List.mem_cons_of_mem _ (List.mem_cons_of_mem _ (List.mem_cons_self ..)))))
  go_wp2_with fail
  refine (HCq.out _).mono ?_
  rintro e6 w6 ⟨rfl, hbb⟩
  have HB6 := Lib.hid (HB5.out.keep hbb)
  clear c4_0 c4_1 c4_2 c4_3 c4_4
  clear hbb HB5
  go_upto_region 10 with fail
  obtain ⟨c3_0, c3_1⟩ := HB6.out.two (List.mem_cons_of_mem _ (List.mem_cons_of_mem _ (List.mem_cons_of_mem _ (List.mem_cons_self ..))))
  go_wp2_with fail
  refine (HCf.out _).mono ?_
  rintro e7 w7 ⟨rfl, hbb⟩
  have HB7 := Lib.hid (HB6.out.keep hbb)
  clear c3_0 c3_1
  clear hbb HB6
  go_upto_region 14 with fail
  obtain ⟨c4_0, c4_1, c4_2, c4_3, c4_4⟩ := HB7.out.five (List.mem_cons_of_mem _ (List.mem_cons_of_mem _ (List.mem_cons_of_mem _ (List.mem_cons_of_mem _ (List.mem_cons_self ..)))))
  obtain ⟨c5_0, c5_1, c5_2, c5_3, c5_4⟩ := HB7.out.five (List.mem_cons_of_mem _ (List.mem_cons_of_mem _ (List.mem_cons_of_mem _ (List.mem_cons_of_mem _ (List.mem_cons_of_mem _ (List.mem_cons_self ..))))))
  go_wp2_with fail
  refine (HRA.out _).mono ?_
  rintro e8 w8 ⟨rfl, hbb⟩
  have HB8 := Lib.hid (HB7.out.keep hbb)
  clear c4_0 c4_1 c4_2 c4_3 c4_4 c5_0 c5_1 c5_2 c5_3 c5_4
  clear hbb HB7
  go_upto_region 15 with fail
  obtain ⟨V4, hV4⟩ : ∃ V4 : World, V4 = w8.alloc (.cells #[.int .i64 s0, .int .i64 s1, .int .i64 s2, .int .i64 s3, .int .i64 s4] 25) := ⟨_, rfl⟩
  rw [← hV4]
  have HV4 := Lib.hid (show Bx w [(w8.heap.size, #[.int .i64 s0, .int .i64 s1, .int .i64 s2, .int .i64 s3, .int .i64 s4]), (B3, #[.int .i64 0, .int .i64 0, .int .i64 0, .int .i64 0, .int .i64 0]), (B2, #[.int .i64 t0, .int .i64 t1, .int .i64 t2, .int .i64 t3, .int .i64 t4]), (B1, #[.int .i64 s0, .int .i64 s1, .int .i64 s2, .int .i64 s3, .int .i64 s4]), (w.heap.size + 2, #[.int .i64 n, .int .i64 d]), (w.heap.size + 1, #[.int .i64 q0, .int .i64 q1, .int .i64 q2, .int .i64 q3, .int .i64 q4]), (w.heap.size, #[.int .i64 p0, .int .i64 p1, .int .i64 p2, .int .i64 p3, .int .i64 p4])] V4 from hV4 ▸ HB8.out.new _ _)
  have hlt4 := HB8.out.lt (List.mem_cons_self ..)
  clear hV4 HB8
  generalize w8.heap.size = B4 at *
  have HV := Lib.hid HV4.out
  have MK := Lib.hid (fun w' (h : Bx w [(B4, #[.int .i64 s0, .int .i64 s1, .int .i64 s2, .int .i64 s3, .int .i64 s4]), (B3, #[.int .i64 0, .int .i64 0, .int .i64 0, .int .i64 0, .int .i64 0]), (B2, #[.int .i64 t0, .int .i64 t1, .int .i64 t2, .int .i64 t3, .int .i64 t4]), (B1, #[.int .i64 s0, .int .i64 s1, .int .i64 s2, .int .i64 s3, .int .i64 s4]), (w.heap.size + 2, #[.int .i64 n, .int .i64 d]), (w.heap.size + 1, #[.int .i64 q0, .int .i64 q1, .int .i64 q2, .int .i64 q3, .int .i64 q4]), (w.heap.size, #[.int .i64 p0, .int .i64 p1, .int .i64 p2, .int .i64 p3, .int .i64 p4])] w') => And.intro h (And.intro (h.five (List.mem_cons_of_mem _ (List.mem_cons_of_mem _ (List.mem_cons_of_mem _ (List.mem_cons_of_mem _ (List.mem_cons_of_mem _ (List.mem_cons_self ..))))))) (h.five (List.mem_cons_of_mem _ (List.mem_cons_of_mem _ (List.mem_cons_of_mem _ (List.mem_cons_of_mem _ (List.mem_cons_of_mem _ (List.mem_cons_of_mem _ (List.mem_cons_self ..))))))))))
  have HG2 := Lib.hid (MK.out _ (HV4.out.keep (Below.refl _ _).drew))
  go_cut [17, 18] (fun s17 s18 wx => ∃ g : Nat, s17 = .pointer (some ⟨g, 0, none⟩) ∧ s18 = .int .i64 FE2 ∧ Bx w ((g, #[.int .i64 t0, .int .i64 t1, .int .i64 t2, .int .i64 t3, .int .i64 t4]) :: [(B4, #[.int .i64 s0, .int .i64 s1, .int .i64 s2, .int .i64 s3, .int .i64 s4]), (B3, #[.int .i64 0, .int .i64 0, .int .i64 0, .int .i64 0, .int .i64 0]), (B2, #[.int .i64 t0, .int .i64 t1, .int .i64 t2, .int .i64 t3, .int .i64 t4]), (B1, #[.int .i64 s0, .int .i64 s1, .int .i64 s2, .int .i64 s3, .int .i64 s4]), (w.heap.size + 2, #[.int .i64 n, .int .i64 d]), (w.heap.size + 1, #[.int .i64 q0, .int .i64 q1, .int .i64 q2, .int .i64 q3, .int .i64 q4]), (w.heap.size, #[.int .i64 p0, .int .i64 p1, .int .i64 p2, .int .i64 p3, .int .i64 p4])]) wx)
  case first =>
    go_region_held3 (fun w' => Bx w [(B4, #[.int .i64 s0, .int .i64 s1, .int .i64 s2, .int .i64 s3, .int .i64 s4]), (B3, #[.int .i64 0, .int .i64 0, .int .i64 0, .int .i64 0, .int .i64 0]), (B2, #[.int .i64 t0, .int .i64 t1, .int .i64 t2, .int .i64 t3, .int .i64 t4]), (B1, #[.int .i64 s0, .int .i64 s1, .int .i64 s2, .int .i64 s3, .int .i64 s4]), (w.heap.size + 2, #[.int .i64 n, .int .i64 d]), (w.heap.size + 1, #[.int .i64 q0, .int .i64 q1, .int .i64 q2, .int .i64 q3, .int .i64 q4]), (w.heap.size, #[.int .i64 p0, .int .i64 p1, .int .i64 p2, .int .i64 p3, .int .i64 p4])] w' ∧ (w'.cell? ⟨w.heap.size + 1, 0, none⟩ = some (.int .i64 q0) ∧ w'.cell? ⟨w.heap.size + 1, 1, none⟩ = some (.int .i64 q1) ∧ w'.cell? ⟨w.heap.size + 1, 2, none⟩ = some (.int .i64 q2) ∧ w'.cell? ⟨w.heap.size + 1, 3, none⟩ = some (.int .i64 q3) ∧ w'.cell? ⟨w.heap.size + 1, 4, none⟩ = some (.int .i64 q4)) ∧ (w'.cell? ⟨w.heap.size, 0, none⟩ = some (.int .i64 p0) ∧ w'.cell? ⟨w.heap.size, 1, none⟩ = some (.int .i64 p1) ∧ w'.cell? ⟨w.heap.size, 2, none⟩ = some (.int .i64 p2) ∧ w'.cell? ⟨w.heap.size, 3, none⟩ = some (.int .i64 p3) ∧ w'.cell? ⟨w.heap.size, 4, none⟩ = some (.int .i64 p4)))
      (first
        | assumption
        | exact HG2.out
        | exact MK.out _ (Bx.keep (And.left (by assumption)) (by first | assumption | exact (Below.refl _ _).alloc (Nat.le_refl _) _))
        | exact MK.out _ (Bx.store_ge (And.left (by assumption)) HV.out (by first | exact Nat.le_refl _ | assumption) _ _ _ _ _)
        | exact MK.out _ (Bx.again (And.left (by assumption)) HV.out (by first | exact Nat.le_refl _ | assumption)))
      (first
        | (go_at_call 51; (with_reducible refine (HRN.out _).mono ?_); rintro e w' ⟨rfl, hb3⟩; have hz3 : V4.heap.size ≤ w'.heap.size := (by have := hb3.size; (try simp at this); omega); (first | (have kk3 := Lib.hid (newq_drew hb3); obtain ⟨k30, k31, k32, k33, k34⟩ := kk3.out.five; obtain ⟨g30, g31, g32, g33, g34⟩ := kk3.out.fr) | (have kk3 := Lib.hid (newq_keep hb3); obtain ⟨k30, k31, k32, k33, k34⟩ := kk3.out.five; obtain ⟨g30, g31, g32, g33, g34⟩ := kk3.out.fr) | skip))
        | (go_at_call 50; (with_reducible refine (HRB.out _).mono ?_); rintro e w' ⟨rfl, hb4⟩; have hz4 : V4.heap.size ≤ w'.heap.size := (by have := hb4.size; (try simp at this); omega); (first | (have kk4 := Lib.hid (newq_drew hb4); obtain ⟨k40, k41, k42, k43, k44⟩ := kk4.out.five; obtain ⟨g40, g41, g42, g43, g44⟩ := kk4.out.fr) | (have kk4 := Lib.hid (newq_keep hb4); obtain ⟨k40, k41, k42, k43, k44⟩ := kk4.out.five; obtain ⟨g40, g41, g42, g43, g44⟩ := kk4.out.fr) | (have kk4 := Lib.hid (kk3.out.keep hb4); obtain ⟨k40, k41, k42, k43, k44⟩ := kk4.out.five; obtain ⟨g40, g41, g42, g43, g44⟩ := kk4.out.fr; clear k30 k31 k32 k33 k34 g30 g31 g32 g33 g34) | skip)))
    all_goals
      go_wp2_with fail
      go_meet
      first
      | exact ⟨_, rfl, rfl, Bx.cons (And.left (by assumption)) (Nat.le_trans HV.out.below.size (by first | exact Nat.le_refl _ | assumption)) (Cells.put5 kk4.out _ _ _ _ _)⟩
      | exact ⟨_, rfl, rfl, Bx.cons (And.left (by assumption)) (Nat.le_trans HV.out.below.size (by first | exact Nat.le_refl _ | assumption)) (Cells.new _ _ _ rfl)⟩
  case rest =>
    obtain ⟨g, rfl, rfl, hB⟩ := hcut
    have HC1 := Lib.hid hB
    clear hB HV MK HG2 HV4
    obtain ⟨c1_0, c1_1, c1_2, c1_3, c1_4⟩ := HC1.out.five (List.mem_cons_of_mem _ (List.mem_cons_self ..))
    obtain ⟨c4_0, c4_1, c4_2, c4_3, c4_4⟩ := HC1.out.five (List.mem_cons_of_mem _ (List.mem_cons_of_mem _ (List.mem_cons_of_mem _ (List.mem_cons_of_mem _ (List.mem_cons_self ..)))))
    go_wp2_with fail
    refine (same_refl _ _ _ _ _ _ _).mono ?_
    rintro e9 w9 ⟨rfl, hbb⟩
    have HB9 := Lib.hid (HC1.out.keep hbb)
    clear c1_0 c1_1 c1_2 c1_3 c1_4 c4_0 c4_1 c4_2 c4_3 c4_4
    clear hbb HC1
    obtain ⟨c0_0, c0_1, c0_2, c0_3, c0_4⟩ := HB9.out.five (List.mem_cons_self ..)
    obtain ⟨c3_0, c3_1, c3_2, c3_3, c3_4⟩ := HB9.out.five (List.mem_cons_of_mem _ (List.mem_cons_of_mem _ (List.mem_cons_of_mem _ (List.mem_cons_self ..))))
    go_wp2_with fail
    refine (same_refl _ _ _ _ _ _ _).mono ?_
    rintro e10 w10 ⟨rfl, hbb⟩
    have HB10 := Lib.hid (HB9.out.keep hbb)
    clear c0_0 c0_1 c0_2 c0_3 c0_4 c3_0 c3_1 c3_2 c3_3 c3_4
    clear hbb HB9
    go_upto_region 19 with fail
    obtain ⟨c2_0, c2_1, c2_2, c2_3, c2_4⟩ := HB10.out.five (List.mem_cons_of_mem _ (List.mem_cons_of_mem _ (List.mem_cons_self ..)))
    go_wp2_with fail
    refine (same_refl _ _ _ _ _ _ _).mono ?_
    rintro e11 w11 ⟨rfl, hbb⟩
    have HB11 := Lib.hid (HB10.out.keep hbb)
    clear c2_0 c2_1 c2_2 c2_3 c2_4
    clear hbb HB10
    go_wp2_with fail
    go_ret
    exact ⟨rfl, HB11.out.below⟩

theorem AlgebraSums_law (p0 p1 p2 p3 p4 q0 q1 q2 q3 q4 n d : Int) (w : World) (hn : I64 n) (hd : I64 d) :
    Calls Tryd.prog 10 #[qv ⟨p0, p1, p2, p3, p4⟩, qv ⟨q0, q1, q2, q3, q4⟩, fvv n d] w fun e w' => e = .returned (.bool true) ∧ Below w.heap.size w w' := by
  rcases qE_cases ⟨p0, p1, p2, p3, p4⟩ with ⟨_, hq⟩ | ⟨_, hq⟩
  · rcases qE_cases ⟨q0, q1, q2, q3, q4⟩ with ⟨_, hr⟩ | ⟨_, hr⟩
    · cases hf : frB n d
      · exact Sums_5 p0 p1 p2 p3 p4 q0 q1 q2 q3 q4 n d w hn hd hq hr hf
      · exact Sums_4 p0 p1 p2 p3 p4 q0 q1 q2 q3 q4 n d w hn hd hq hr hf
    · cases hf : frB n d
      · exact Sums_3 p0 p1 p2 p3 p4 q0 q1 q2 q3 q4 n d w hn hd hq hr hf
      · exact Sums_2 p0 p1 p2 p3 p4 q0 q1 q2 q3 q4 n d w hn hd hq hr hf
  · exact Sums_1 p0 p1 p2 p3 p4 q0 q1 q2 q3 q4 n d w hn hd hq
end Go.Proofs.YtekkbdpggghcjaaDoor
