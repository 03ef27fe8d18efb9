/- The law AlgebraProducts answers true at all algebras and elements. -/
import Derived.Test.YtekkbdpggghcjaaDoorAlgebraChecks
namespace Go.Proofs.YtekkbdpggghcjaaDoor
open Go.RowKit FF

set_option maxHeartbeats 4000000 in
set_option maxRecDepth 100000 in
theorem Products_1 (a b p0 p1 p2 p3 p4 q0 q1 q2 q3 q4 : Int) (w : World) (hq : qB ⟨p0, p1, p2, p3, p4⟩ = true) (hA : allE a b [⟨p0, p1, p2, p3, p4⟩, ⟨q0, q1, q2, q3, q4⟩] = 0) :
    Calls Tryd.prog 5 #[.agg #[.int .i64 a, .int .i64 b], qv ⟨p0, p1, p2, p3, p4⟩, qv ⟨q0, q1, q2, q3, q4⟩] w fun e w' => e = .returned (.bool true) ∧ Below w.heap.size w w' := by
  have HA := Lib.hid awake3_any
  have hM := fun w => qMul_any a b p0 p1 p2 p3 p4 q0 q1 q2 q3 q4 w
  have hCA := fun A c w hx => rCheckAll_any a b A [⟨p0, p1, p2, p3, p4⟩, ⟨q0, q1, q2, q3, q4⟩] 2 c w hx rfl (by omega)
  have hCj := fun w => qConj_any p0 p1 p2 p3 p4 w
  have hQ := fun w => rCheckQuat_any ⟨p0, p1, p2, p3, p4⟩ w
  have k4 := (qB_iff.1 hq).2.2.2.2
  have HRC := Lib.hid (fun w => rConj_any p0 p1 p2 p3 p4 w hq)
  have e1 : resQ 0 (conjQ ⟨p0, p1, p2, p3, p4⟩) = nrm (conjQ ⟨p0, p1, p2, p3, p4⟩) := (if_pos rfl).trans (fitQ_of (conjQ_fit hq))
  have e2 : resE 0 (conjQ ⟨p0, p1, p2, p3, p4⟩) = 0 := (if_pos rfl).trans (fitE_of (conjQ_fit hq))
  have e0 : qE ⟨p0, p1, p2, p3, p4⟩ = 0 := qE_zero.2 hq
  simp only [e0, e1, e2] at hCj hQ
  have HCj := Lib.hid hCj; have HQ := Lib.hid hQ
  clear hCj hQ e0 e1 e2 k4
  obtain ⟨ha, hall⟩ := allE_zero.1 hA
  have HRM := Lib.hid (fun w => rMul_any a b p0 p1 p2 p3 p4 q0 q1 q2 q3 q4 w (hall _ (by simp)) (hall _ (by simp)) ha)
  have e1 : resQ 0 (mulQ a b ⟨p0, p1, p2, p3, p4⟩ ⟨q0, q1, q2, q3, q4⟩) = fitQ (mulQ a b ⟨p0, p1, p2, p3, p4⟩ ⟨q0, q1, q2, q3, q4⟩) := if_pos rfl
  have e2 : resE 0 (mulQ a b ⟨p0, p1, p2, p3, p4⟩ ⟨q0, q1, q2, q3, q4⟩) = fitE (mulQ a b ⟨p0, p1, p2, p3, p4⟩ ⟨q0, q1, q2, q3, q4⟩) := if_pos rfl
  simp only [hA, e1, e2] at hM hCA
  have HM := Lib.hid hM; have HCA := Lib.hid hCA
  clear hM hCA e1 e2 hA ha hall
  generalize fitQ (mulQ a b ⟨p0, p1, p2, p3, p4⟩ ⟨q0, q1, q2, q3, q4⟩) = F at *
  generalize fitE (mulQ a b ⟨p0, p1, p2, p3, p4⟩ ⟨q0, q1, q2, q3, q4⟩) = G at *
  obtain ⟨m0, m1, m2, m3, m4⟩ := F
  generalize nrm (conjQ ⟨p0, p1, p2, p3, p4⟩) = M0 at *
  obtain ⟨c0, c1, c2, c3, c4⟩ := M0
  clear hq
  simp only [qv] at HCj HQ HM HCA HRC HRM
  simp only [qv]
  go_enter Tryd.func5, Tryd.ntmps5
  go_upto_region 1 with fail
  obtain ⟨W0, hW0⟩ : ∃ W0 : World, W0 = (((w.alloc (.cells #[.int .i64 a, .int .i64 b] 23)).alloc (.cells #[.int .i64 p0, .int .i64 p1, .int .i64 p2, .int .i64 p3, .int .i64 p4] 25)).alloc (.cells #[.int .i64 q0, .int .i64 q1, .int .i64 q2, .int .i64 q3, .int .i64 q4] 25)) := ⟨_, rfl⟩
  rw [← hW0]
  have HB0 := Lib.hid (show Bx w [(w.heap.size + 2, #[.int .i64 q0, .int .i64 q1, .int .i64 q2, .int .i64 q3, .int .i64 q4]), (w.heap.size + 1, #[.int .i64 p0, .int .i64 p1, .int .i64 p2, .int .i64 p3, .int .i64 p4]), (w.heap.size, #[.int .i64 a, .int .i64 b])] W0 by rw [hW0]; simpa using ((((Bx.nil (Below.refl w.heap.size w)).new #[.int .i64 a, .int .i64 b] 23).new #[.int .i64 p0, .int .i64 p1, .int .i64 p2, .int .i64 p3, .int .i64 p4] 25).new #[.int .i64 q0, .int .i64 q1, .int .i64 q2, .int .i64 q3, .int .i64 q4] 25))
  clear hW0
  go_wp2_with fail
  refine (HA.out _).mono ?_
  rintro e1 w1 ⟨rfl, hbb⟩
  have HB1 := Lib.hid (HB0.out.keep hbb)
  clear hbb HB0
  go_upto_region 3 with fail
  obtain ⟨c1_0, c1_1, c1_2, c1_3, c1_4⟩ := HB1.out.five (List.mem_cons_of_mem _ (List.mem_cons_self ..))
  go_wp2_with fail
  refine (HCj.out _).mono ?_
  rintro e2 w2 ⟨rfl, hbb⟩
  have HB2 := Lib.hid (HB1.out.keep hbb)
  clear c1_0 c1_1 c1_2 c1_3 c1_4
  clear hbb HB1
  go_upto_region 4 with fail
  obtain ⟨V1, hV1⟩ : ∃ V1 : World, V1 = w2.alloc (.cells #[.int .i64 c0, .int .i64 c1, .int .i64 c2, .int .i64 c3, .int .i64 c4] 25) := ⟨_, rfl⟩
  rw [← hV1]
  have HV1 := Lib.hid (show Bx w [(w2.heap.size, #[.int .i64 c0, .int .i64 c1, .int .i64 c2, .int .i64 c3, .int .i64 c4]), (w.heap.size + 2, #[.int .i64 q0, .int .i64 q1, .int .i64 q2, .int .i64 q3, .int .i64 q4]), (w.heap.size + 1, #[.int .i64 p0, .int .i64 p1, .int .i64 p2, .int .i64 p3, .int .i64 p4]), (w.heap.size, #[.int .i64 a, .int .i64 b])] V1 from hV1 ▸ HB2.out.new _ _)
  have hlt1 := HB2.out.lt (List.mem_cons_self ..)
  clear hV1 HB2
  generalize w2.heap.size = B1 at *
  obtain ⟨c2_0, c2_1, c2_2, c2_3, c2_4⟩ := HV1.out.five (List.mem_cons_of_mem _ (List.mem_cons_of_mem _ (List.mem_cons_self ..)))
  go_wp2_with fail
  refine (HQ.out _).mono ?_
  rintro e3 w3 ⟨rfl, hbb⟩
  have HB3 := Lib.hid (HV1.out.keep hbb)
  clear c2_0 c2_1 c2_2 c2_3 c2_4
  clear hbb HV1
  go_upto_region 8 with fail
  have MK := Lib.hid (fun w' (h : Bx w [(B1, #[.int .i64 c0, .int .i64 c1, .int .i64 c2, .int .i64 c3, .int .i64 c4]), (w.heap.size + 2, #[.int .i64 q0, .int .i64 q1, .int .i64 q2, .int .i64 q3, .int .i64 q4]), (w.heap.size + 1, #[.int .i64 p0, .int .i64 p1, .int .i64 p2, .int .i64 p3, .int .i64 p4]), (w.heap.size, #[.int .i64 a, .int .i64 b])] w') => And.intro h (And.intro (h.five (List.mem_cons_self ..)) (h.five (List.mem_cons_of_mem _ (List.mem_cons_of_mem _ (List.mem_cons_self ..))))))
  have HG2 := Lib.hid (MK.out _ (HB3.out.keep (Below.refl _ _).drew))
  go_region_held3 (fun w' => Bx w [(B1, #[.int .i64 c0, .int .i64 c1, .int .i64 c2, .int .i64 c3, .int .i64 c4]), (w.heap.size + 2, #[.int .i64 q0, .int .i64 q1, .int .i64 q2, .int .i64 q3, .int .i64 q4]), (w.heap.size + 1, #[.int .i64 p0, .int .i64 p1, .int .i64 p2, .int .i64 p3, .int .i64 p4]), (w.heap.size, #[.int .i64 a, .int .i64 b])] w' ∧ (w'.cell? ⟨B1, 0, none⟩ = some (.int .i64 c0) ∧ w'.cell? ⟨B1, 1, none⟩ = some (.int .i64 c1) ∧ w'.cell? ⟨B1, 2, none⟩ = some (.int .i64 c2) ∧ w'.cell? ⟨B1, 3, none⟩ = some (.int .i64 c3) ∧ w'.cell? ⟨B1, 4, none⟩ = some (.int .i64 c4)) ∧ (w'.cell? ⟨w.heap.size + 1, 0, none⟩ = some (.int .i64 p0) ∧ w'.cell? ⟨w.heap.size + 1, 1, none⟩ = some (.int .i64 p1) ∧ w'.cell? ⟨w.heap.size + 1, 2, none⟩ = some (.int .i64 p2) ∧ w'.cell? ⟨w.heap.size + 1, 3, none⟩ = some (.int .i64 p3) ∧ w'.cell? ⟨w.heap.size + 1, 4, none⟩ = some (.int .i64 p4)))
    (first
      | assumption
      | exact HG2.out
      | exact MK.out _ (Bx.keep (And.left (by assumption)) (by assumption)))
    (first
      | (go_at_call 27; (with_reducible refine (HRC.out _).mono ?_); rintro e w' ⟨rfl, hb⟩)
      | (go_at_call 19; (with_reducible refine (same_refl _ _ _ _ _ _ _).mono ?_); rintro e w' ⟨rfl, hb⟩))
  have HB4 := Lib.hid (show Bx w [(B1, #[.int .i64 c0, .int .i64 c1, .int .i64 c2, .int .i64 c3, .int .i64 c4]), (w.heap.size + 2, #[.int .i64 q0, .int .i64 q1, .int .i64 q2, .int .i64 q3, .int .i64 q4]), (w.heap.size + 1, #[.int .i64 p0, .int .i64 p1, .int .i64 p2, .int .i64 p3, .int .i64 p4]), (w.heap.size, #[.int .i64 a, .int .i64 b])] w' by repeat (first | exact HG2.out.1 | refine Bx.keep ?_ (by assumption)))
  rename_i hHeld
  clear hHeld HG2 MK HB3
  go_upto_region 10 with fail
  obtain ⟨c1_0, c1_1, c1_2, c1_3, c1_4⟩ := HB4.out.five (List.mem_cons_of_mem _ (List.mem_cons_self ..))
  obtain ⟨c2_0, c2_1, c2_2, c2_3, c2_4⟩ := HB4.out.five (List.mem_cons_of_mem _ (List.mem_cons_of_mem _ (List.mem_cons_self ..)))
  obtain ⟨c3_0, c3_1⟩ := HB4.out.two (List.mem_cons_of_mem _ (List.mem_cons_of_mem _ (List.mem_cons_of_mem _ (List.mem_cons_self ..))))
  go_wp2_with fail
  refine (HM.out _).mono ?_
  rintro e5 w5 ⟨rfl, hbb⟩
  have HB5 := Lib.hid (HB4.out.keep hbb)
  clear c1_0 c1_1 c1_2 c1_3 c1_4 c2_0 c2_1 c2_2 c2_3 c2_4 c3_0 c3_1
  clear hbb HB4
  go_upto_region 11 with fail
  obtain ⟨V2, hV2⟩ : ∃ V2 : World, V2 = w5.alloc (.cells #[.int .i64 m0, .int .i64 m1, .int .i64 m2, .int .i64 m3, .int .i64 m4] 25) := ⟨_, rfl⟩
  rw [← hV2]
  have HV2 := Lib.hid (show Bx w [(w5.heap.size, #[.int .i64 m0, .int .i64 m1, .int .i64 m2, .int .i64 m3, .int .i64 m4]), (B1, #[.int .i64 c0, .int .i64 c1, .int .i64 c2, .int .i64 c3, .int .i64 c4]), (w.heap.size + 2, #[.int .i64 q0, .int .i64 q1, .int .i64 q2, .int .i64 q3, .int .i64 q4]), (w.heap.size + 1, #[.int .i64 p0, .int .i64 p1, .int .i64 p2, .int .i64 p3, .int .i64 p4]), (w.heap.size, #[.int .i64 a, .int .i64 b])] V2 from hV2 ▸ HB5.out.new _ _)
  have hlt2 := HB5.out.lt (List.mem_cons_self ..)
  clear hV2 HB5
  generalize w5.heap.size = B2 at *
  obtain ⟨c2_0, c2_1, c2_2, c2_3, c2_4⟩ := HV2.out.five (List.mem_cons_of_mem _ (List.mem_cons_of_mem _ (List.mem_cons_self ..)))
  obtain ⟨c3_0, c3_1, c3_2, c3_3, c3_4⟩ := HV2.out.five (List.mem_cons_of_mem _ (List.mem_cons_of_mem _ (List.mem_cons_of_mem _ (List.mem_cons_self ..))))
  obtain ⟨c4_0, c4_1⟩ := HV2.out.two (List.mem_cons_of_mem _ (List.mem_cons_of_mem _ (List.mem_cons_of_mem _ (List.mem_cons_of_mem _ (List.mem_cons_self ..)))))
  go_wp2_with fail
  refine (HCA.out _ _ _ (shows_flat2 rfl p0 p1 p2 p3 p4 q0 q1 q2 q3 q4)).mono ?_
  rintro e6 w6 ⟨rfl, hbb⟩
  have HB6 := Lib.hid ((HV2.out.keep ((Below.refl _ _).alloc (Nat.le_refl _) _)).keep hbb)
  clear c2_0 c2_1 c2_2 c2_3 c2_4 c3_0 c3_1 c3_2 c3_3 c3_4 c4_0 c4_1
  clear hbb HV2
  go_upto_region 14 with fail
  obtain ⟨c2_0, c2_1, c2_2, c2_3, c2_4⟩ := HB6.out.five (List.mem_cons_of_mem _ (List.mem_cons_of_mem _ (List.mem_cons_self ..)))
  obtain ⟨c3_0, c3_1, c3_2, c3_3, c3_4⟩ := HB6.out.five (List.mem_cons_of_mem _ (List.mem_cons_of_mem _ (List.mem_cons_of_mem _ (List.mem_cons_self ..))))
  obtain ⟨c4_0, c4_1⟩ := HB6.out.two (List.mem_cons_of_mem _ (List.mem_cons_of_mem _ (List.mem_cons_of_mem _ (List.mem_cons_of_mem _ (List.mem_cons_self ..)))))
  go_wp2_with fail
  refine (HRM.out _).mono ?_
  rintro e7 w7 ⟨rfl, hbb⟩
  have HB7 := Lib.hid (HB6.out.keep hbb)
  clear c2_0 c2_1 c2_2 c2_3 c2_4 c3_0 c3_1 c3_2 c3_3 c3_4 c4_0 c4_1
  clear hbb HB6
  go_upto_region 15 with fail
  obtain ⟨V3, hV3⟩ : ∃ V3 : World, V3 = w7.alloc (.cells #[.int .i64 m0, .int .i64 m1, .int .i64 m2, .int .i64 m3, .int .i64 m4] 25) := ⟨_, rfl⟩
  rw [← hV3]
  have HV3 := Lib.hid (show Bx w [(w7.heap.size, #[.int .i64 m0, .int .i64 m1, .int .i64 m2, .int .i64 m3, .int .i64 m4]), (B2, #[.int .i64 m0, .int .i64 m1, .int .i64 m2, .int .i64 m3, .int .i64 m4]), (B1, #[.int .i64 c0, .int .i64 c1, .int .i64 c2, .int .i64 c3, .int .i64 c4]), (w.heap.size + 2, #[.int .i64 q0, .int .i64 q1, .int .i64 q2, .int .i64 q3, .int .i64 q4]), (w.heap.size + 1, #[.int .i64 p0, .int .i64 p1, .int .i64 p2, .int .i64 p3, .int .i64 p4]), (w.heap.size, #[.int .i64 a, .int .i64 b])] V3 from hV3 ▸ HB7.out.new _ _)
  have hlt3 := HB7.out.lt (List.mem_cons_self ..)
  clear hV3 HB7
  generalize w7.heap.size = B3 at *
  obtain ⟨c0_0, c0_1, c0_2, c0_3, c0_4⟩ := HV3.out.five (List.mem_cons_self ..)
  obtain ⟨c1_0, c1_1, c1_2, c1_3, c1_4⟩ := HV3.out.five (List.mem_cons_of_mem _ (List.mem_cons_self ..))
  go_wp2_with fail
  refine (same_refl _ _ _ _ _ _ _).mono ?_
  rintro e8 w8 ⟨rfl, hbb⟩
  have HB8 := Lib.hid (HV3.out.keep hbb)
  clear c0_0 c0_1 c0_2 c0_3 c0_4 c1_0 c1_1 c1_2 c1_3 c1_4
  clear hbb HV3
  go_wp2_with fail
  go_ret
  exact ⟨rfl, HB8.out.below⟩

set_option maxHeartbeats 4000000 in
set_option maxRecDepth 100000 in
theorem Products_2 (a b p0 p1 p2 p3 p4 q0 q1 q2 q3 q4 : Int) (w : World) (hq : qB ⟨p0, p1, p2, p3, p4⟩ = true) (hA : allE a b [⟨p0, p1, p2, p3, p4⟩, ⟨q0, q1, q2, q3, q4⟩] ≠ 0) :
    Calls Tryd.prog 5 #[.agg #[.int .i64 a, .int .i64 b], qv ⟨p0, p1, p2, p3, p4⟩, qv ⟨q0, q1, q2, q3, q4⟩] w fun e w' => e = .returned (.bool true) ∧ Below w.heap.size w w' := by
  have HA := Lib.hid awake3_any
  have hM := fun w => qMul_any a b p0 p1 p2 p3 p4 q0 q1 q2 q3 q4 w
  have hCA := fun A c w hx => rCheckAll_any a b A [⟨p0, p1, p2, p3, p4⟩, ⟨q0, q1, q2, q3, q4⟩] 2 c w hx rfl (by omega)
  have hCj := fun w => qConj_any p0 p1 p2 p3 p4 w
  have hQ := fun w => rCheckQuat_any ⟨p0, p1, p2, p3, p4⟩ w
  have k4 := (qB_iff.1 hq).2.2.2.2
  have HRC := Lib.hid (fun w => rConj_any p0 p1 p2 p3 p4 w hq)
  have e1 : resQ 0 (conjQ ⟨p0, p1, p2, p3, p4⟩) = nrm (conjQ ⟨p0, p1, p2, p3, p4⟩) := (if_pos rfl).trans (fitQ_of (conjQ_fit hq))
  have e2 : resE 0 (conjQ ⟨p0, p1, p2, p3, p4⟩) = 0 := (if_pos rfl).trans (fitE_of (conjQ_fit hq))
  have e0 : qE ⟨p0, p1, p2, p3, p4⟩ = 0 := qE_zero.2 hq
  simp only [e0, e1, e2] at hCj hQ
  have HCj := Lib.hid hCj; have HQ := Lib.hid hQ
  clear hCj hQ e0 e1 e2 k4
  have e1 : resQ (allE a b [⟨p0, p1, p2, p3, p4⟩, ⟨q0, q1, q2, q3, q4⟩]) (mulQ a b ⟨p0, p1, p2, p3, p4⟩ ⟨q0, q1, q2, q3, q4⟩) = Qt.zero := if_neg hA
  have e2 : resE (allE a b [⟨p0, p1, p2, p3, p4⟩, ⟨q0, q1, q2, q3, q4⟩]) (mulQ a b ⟨p0, p1, p2, p3, p4⟩ ⟨q0, q1, q2, q3, q4⟩) = allE a b [⟨p0, p1, p2, p3, p4⟩, ⟨q0, q1, q2, q3, q4⟩] := if_neg hA
  simp only [e1, e2] at hM
  have HM := Lib.hid hM; have HCA := Lib.hid hCA
  have d1 : (allE a b [⟨p0, p1, p2, p3, p4⟩, ⟨q0, q1, q2, q3, q4⟩] == 0) = false := f_beq hA
  clear hM hCA e1 e2 hA
  generalize allE a b [⟨p0, p1, p2, p3, p4⟩, ⟨q0, q1, q2, q3, q4⟩] = E at *
  generalize nrm (conjQ ⟨p0, p1, p2, p3, p4⟩) = M0 at *
  obtain ⟨c0, c1, c2, c3, c4⟩ := M0
  clear hq
  simp only [qv, Qt.zero] at HCj HQ HM HCA HRC
  simp only [qv]
  go_enter Tryd.func5, Tryd.ntmps5
  go_upto_region 1 with fail
  obtain ⟨W0, hW0⟩ : ∃ W0 : World, W0 = (((w.alloc (.cells #[.int .i64 a, .int .i64 b] 23)).alloc (.cells #[.int .i64 p0, .int .i64 p1, .int .i64 p2, .int .i64 p3, .int .i64 p4] 25)).alloc (.cells #[.int .i64 q0, .int .i64 q1, .int .i64 q2, .int .i64 q3, .int .i64 q4] 25)) := ⟨_, rfl⟩
  rw [← hW0]
  have HB0 := Lib.hid (show Bx w [(w.heap.size + 2, #[.int .i64 q0, .int .i64 q1, .int .i64 q2, .int .i64 q3, .int .i64 q4]), (w.heap.size + 1, #[.int .i64 p0, .int .i64 p1, .int .i64 p2, .int .i64 p3, .int .i64 p4]), (w.heap.size, #[.int .i64 a, .int .i64 b])] W0 by rw [hW0]; simpa using ((((Bx.nil (Below.refl w.heap.size w)).new #[.int .i64 a, .int .i64 b] 23).new #[.int .i64 p0, .int .i64 p1, .int .i64 p2, .int .i64 p3, .int .i64 p4] 25).new #[.int .i64 q0, .int .i64 q1, .int .i64 q2, .int .i64 q3, .int .i64 q4] 25))
  clear hW0
  go_wp2_with fail
  refine (HA.out _).mono ?_
  rintro e1 w1 ⟨rfl, hbb⟩
  have HB1 := Lib.hid (HB0.out.keep hbb)
  clear hbb HB0
  go_upto_region 3 with fail
  obtain ⟨c1_0, c1_1, c1_2, c1_3, c1_4⟩ := HB1.out.five (List.mem_cons_of_mem _ (List.mem_cons_self ..))
  go_wp2_with fail
  refine (HCj.out _).mono ?_
  rintro e2 w2 ⟨rfl, hbb⟩
  have HB2 := Lib.hid (HB1.out.keep hbb)
  clear c1_0 c1_1 c1_2 c1_3 c1_4
  clear hbb HB1
  go_upto_region 4 with fail
  obtain ⟨V1, hV1⟩ : ∃ V1 : World, V1 = w2.alloc (.cells #[.int .i64 c0, .int .i64 c1, .int .i64 c2, .int .i64 c3, .int .i64 c4] 25) := ⟨_, rfl⟩
  rw [← hV1]
  have HV1 := Lib.hid (show Bx w [(w2.heap.size, #[.int .i64 c0, .int .i64 c1, .int .i64 c2, .int .i64 c3, .int .i64 c4]), (w.heap.size + 2, #[.int .i64 q0, .int .i64 q1, .int .i64 q2, .int .i64 q3, .int .i64 q4]), (w.heap.size + 1, #[.int .i64 p0, .int .i64 p1, .int .i64 p2, .int .i64 p3, .int .i64 p4]), (w.heap.size, #[.int .i64 a, .int .i64 b])] V1 from hV1 ▸ HB2.out.new _ _)
  have hlt1 := HB2.out.lt (List.mem_cons_self ..)
  clear hV1 HB2
  generalize w2.heap.size = B1 at *
  obtain ⟨c2_0, c2_1, c2_2, c2_3, c2_4⟩ := HV1.out.five (List.mem_cons_of_mem _ (List.mem_cons_of_mem _ (List.mem_cons_self ..)))
  go_wp2_with fail
  refine (HQ.out _).mono ?_
  rintro e3 w3 ⟨rfl, hbb⟩
  have HB3 := Lib.hid (HV1.out.keep hbb)
  clear c2_0 c2_1 c2_2 c2_3 c2_4
  clear hbb HV1
  go_upto_region 8 with fail
  have MK := Lib.hid (fun w' (h : Bx w [(B1, #[.int .i64 c0, .int .i64 c1, .int .i64 c2, .int .i64 c3, .int .i64 c4]), (w.heap.size + 2, #[.int .i64 q0, .int .i64 q1, .int .i64 q2, .int .i64 q3, .int .i64 q4]), (w.heap.size + 1, #[.int .i64 p0, .int .i64 p1, .int .i64 p2, .int .i64 p3, .int .i64 p4]), (w.heap.size, #[.int .i64 a, .int .i64 b])] w') => And.intro h (And.intro (h.five (List.mem_cons_self ..)) (h.five (List.mem_cons_of_mem _ (List.mem_cons_of_mem _ (List.mem_cons_self ..))))))
  have HG2 := Lib.hid (MK.out _ (HB3.out.keep (Below.refl _ _).drew))
  go_region_held3 (fun w' => Bx w [(B1, #[.int .i64 c0, .int .i64 c1, .int .i64 c2, .int .i64 c3, .int .i64 c4]), (w.heap.size + 2, #[.int .i64 q0, .int .i64 q1, .int .i64 q2, .int .i64 q3, .int .i64 q4]), (w.heap.size + 1, #[.int .i64 p0, .int .i64 p1, .int .i64 p2, .int .i64 p3, .int .i64 p4]), (w.heap.size, #[.int .i64 a, .int .i64 b])] w' ∧ (w'.cell? ⟨B1, 0, none⟩ = some (.int .i64 c0) ∧ w'.cell? ⟨B1, 1, none⟩ = some (.int .i64 c1) ∧ w'.cell? ⟨B1, 2, none⟩ = some (.int .i64 c2) ∧ w'.cell? ⟨B1, 3, none⟩ = some (.int .i64 c3) ∧ w'.cell? ⟨B1, 4, none⟩ = some (.int .i64 c4)) ∧ (w'.cell? ⟨w.heap.size + 1, 0, none⟩ = some (.int .i64 p0) ∧ w'.cell? ⟨w.heap.size + 1, 1, none⟩ = some (.int .i64 p1) ∧ w'.cell? ⟨w.heap.size + 1, 2, none⟩ = some (.int .i64 p2) ∧ w'.cell? ⟨w.heap.size + 1, 3, none⟩ = some (.int .i64 p3) ∧ w'.cell? ⟨w.heap.size + 1, 4, none⟩ = some (.int .i64 p4)))
    (first
      | assumption
      | exact HG2.out
      | exact MK.out _ (Bx.keep (And.left (by assumption)) (by assumption)))
    (first
      | (go_at_call 27; (with_reducible refine (HRC.out _).mono ?_); rintro e w' ⟨rfl, hb⟩)
      | (go_at_call 19; (with_reducible refine (same_refl _ _ _ _ _ _ _).mono ?_); rintro e w' ⟨rfl, hb⟩))
  have HB4 := Lib.hid (show Bx w [(B1, #[.int .i64 c0, .int .i64 c1, .int .i64 c2, .int .i64 c3, .int .i64 c4]), (w.heap.size + 2, #[.int .i64 q0, .int .i64 q1, .int .i64 q2, .int .i64 q3, .int .i64 q4]), (w.heap.size + 1, #[.int .i64 p0, .int .i64 p1, .int .i64 p2, .int .i64 p3, .int .i64 p4]), (w.heap.size, #[.int .i64 a, .int .i64 b])] w' by repeat (first | exact HG2.out.1 | refine Bx.keep ?_ (by assumption)))
  rename_i hHeld
  clear hHeld HG2 MK HB3
  go_upto_region 10 with fail
  obtain ⟨c1_0, c1_1, c1_2, c1_3, c1_4⟩ := HB4.out.five (List.mem_cons_of_mem _ (List.mem_cons_self ..))
  obtain ⟨c2_0, c2_1, c2_2, c2_3, c2_4⟩ := HB4.out.five (List.mem_cons_of_mem _ (List.mem_cons_of_mem _ (List.mem_cons_self ..)))
  obtain ⟨c3_0, c3_1⟩ := HB4.out.two (List.mem_cons_of_mem _ (List.mem_cons_of_mem _ (List.mem_cons_of_mem _ (List.mem_cons_self ..))))
  go_wp2_with fail
  refine (HM.out _).mono ?_
  rintro e5 w5 ⟨rfl, hbb⟩
  have HB5 := Lib.hid (HB4.out.keep hbb)
  clear c1_0 c1_1 c1_2 c1_3 c1_4 c2_0 c2_1 c2_2 c2_3 c2_4 c3_0 c3_1
  clear hbb HB4
  go_upto_region 11 with fail
  obtain ⟨V2, hV2⟩ : ∃ V2 : World, V2 = w5.alloc (.cells #[.int .i64 0, .int .i64 0, .int .i64 0, .int .i64 0, .int .i64 0] 25) := ⟨_, rfl⟩
  rw [← hV2]
  have HV2 := Lib.hid (show Bx w [(w5.heap.size, #[.int .i64 0, .int .i64 0, .int .i64 0, .int .i64 0, .int .i64 0]), (B1, #[.int .i64 c0, .int .i64 c1, .int .i64 c2, .int .i64 c3, .int .i64 c4]), (w.heap.size + 2, #[.int .i64 q0, .int .i64 q1, .int .i64 q2, .int .i64 q3, .int .i64 q4]), (w.heap.size + 1, #[.int .i64 p0, .int .i64 p1, .int .i64 p2, .int .i64 p3, .int .i64 p4]), (w.heap.size, #[.int .i64 a, .int .i64 b])] V2 from hV2 ▸ HB5.out.new _ _)
  have hlt2 := HB5.out.lt (List.mem_cons_self ..)
  clear hV2 HB5
  generalize w5.heap.size = B2 at *
  obtain ⟨c2_0, c2_1, c2_2, c2_3, c2_4⟩ := HV2.out.five (List.mem_cons_of_mem _ (List.mem_cons_of_mem _ (List.mem_cons_self ..)))
  obtain ⟨c3_0, c3_1, c3_2, c3_3, c3_4⟩ := HV2.out.five (List.mem_cons_of_mem _ (List.mem_cons_of_mem _ (List.mem_cons_of_mem _ (List.mem_cons_self ..))))
  obtain ⟨c4_0, c4_1⟩ := HV2.out.two (List.mem_cons_of_mem _ (List.mem_cons_of_mem _ (List.mem_cons_of_mem _ (List.mem_cons_of_mem _ (List.mem_cons_self ..)))))
  go_wp2_with fail
  refine (HCA.out _ _ _ (shows_flat2 rfl p0 p1 p2 p3 p4 q0 q1 q2 q3 q4)).mono ?_
  rintro e6 w6 ⟨rfl, hbb⟩
  have HB6 := Lib.hid ((HV2.out.keep ((Below.refl _ _).alloc (Nat.le_refl _) _)).keep hbb)
  clear c2_0 c2_1 c2_2 c2_3 c2_4 c3_0 c3_1 c3_2 c3_3 c3_4 c4_0 c4_1
  clear hbb HV2
  go_upto_region 13 with fail
  obtain ⟨c0_0, c0_1, c0_2, c0_3, c0_4⟩ := HB6.out.five (List.mem_cons_self ..)
  go_wp2_with fail
  refine (same_refl _ _ _ _ _ _ _).mono ?_
  rintro e7 w7 ⟨rfl, hbb⟩
  have HB7 := Lib.hid (HB6.out.keep hbb)
  clear c0_0 c0_1 c0_2 c0_3 c0_4
  clear hbb HB6
  go_wp2_with fail
  go_ret
  exact ⟨rfl, HB7.out.below⟩

set_option maxHeartbeats 4000000 in
set_option maxRecDepth 100000 in
theorem Products_3 (a b p0 p1 p2 p3 p4 q0 q1 q2 q3 q4 : Int) (w : World) (hq : qE ⟨p0, p1, p2, p3, p4⟩ = 3) (hA : allE a b [⟨p0, p1, p2, p3, p4⟩, ⟨q0, q1, q2, q3, q4⟩] ≠ 0) :
    Calls Tryd.prog 5 #[.agg #[.int .i64 a, .int .i64 b], qv ⟨p0, p1, p2, p3, p4⟩, qv ⟨q0, q1, q2, q3, q4⟩] w fun e w' => e = .returned (.bool true) ∧ Below w.heap.size w w' := by
  have HA := Lib.hid awake3_any
  have hM := fun w => qMul_any a b p0 p1 p2 p3 p4 q0 q1 q2 q3 q4 w
  have hCA := fun A c w hx => rCheckAll_any a b A [⟨p0, p1, p2, p3, p4⟩, ⟨q0, q1, q2, q3, q4⟩] 2 c w hx rfl (by omega)
  have hCj := fun w => qConj_any p0 p1 p2 p3 p4 w
  have hQ := fun w => rCheckQuat_any ⟨p0, p1, p2, p3, p4⟩ w
  have e1 : resQ 3 (conjQ ⟨p0, p1, p2, p3, p4⟩) = Qt.zero := if_neg (by decide)
  have e2 : resE 3 (conjQ ⟨p0, p1, p2, p3, p4⟩) = 3 := if_neg (by decide)
  simp only [hq, e1, e2] at hCj hQ
  have HCj := Lib.hid hCj; have HQ := Lib.hid hQ
  clear hCj hQ e1 e2 hq
  have e1 : resQ (allE a b [⟨p0, p1, p2, p3, p4⟩, ⟨q0, q1, q2, q3, q4⟩]) (mulQ a b ⟨p0, p1, p2, p3, p4⟩ ⟨q0, q1, q2, q3, q4⟩) = Qt.zero := if_neg hA
  have e2 : resE (allE a b [⟨p0, p1, p2, p3, p4⟩, ⟨q0, q1, q2, q3, q4⟩]) (mulQ a b ⟨p0, p1, p2, p3, p4⟩ ⟨q0, q1, q2, q3, q4⟩) = allE a b [⟨p0, p1, p2, p3, p4⟩, ⟨q0, q1, q2, q3, q4⟩] := if_neg hA
  simp only [e1, e2] at hM
  have HM := Lib.hid hM; have HCA := Lib.hid hCA
  have d1 : (allE a b [⟨p0, p1, p2, p3, p4⟩, ⟨q0, q1, q2, q3, q4⟩] == 0) = false := f_beq hA
  clear hM hCA e1 e2 hA
  generalize allE a b [⟨p0, p1, p2, p3, p4⟩, ⟨q0, q1, q2, q3, q4⟩] = E at *
  simp only [qv, Qt.zero] at HCj HQ HM HCA
  simp only [qv]
  go_enter Tryd.func5, Tryd.ntmps5
  go_upto_region 1 with fail
  obtain ⟨W0, hW0⟩ : ∃ W0 : World, W0 = (((w.alloc (.cells #[.int .i64 a, .int .i64 b] 23)).alloc (.cells #[.int .i64 p0, .int .i64 p1, .int .i64 p2, .int .i64 p3, .int .i64 p4] 25)).alloc (.cells #[.int .i64 q0, .int .i64 q1, .int .i64 q2, .int .i64 q3, .int .i64 q4] 25)) := ⟨_, rfl⟩
  rw [← hW0]
  have HB0 := Lib.hid (show Bx w [(w.heap.size + 2, #[.int .i64 q0, .int .i64 q1, .int .i64 q2, .int .i64 q3, .int .i64 q4]), (w.heap.size + 1, #[.int .i64 p0, .int .i64 p1, .int .i64 p2, .int .i64 p3, .int .i64 p4]), (w.heap.size, #[.int .i64 a, .int .i64 b])] W0 by rw [hW0]; simpa using ((((Bx.nil (Below.refl w.heap.size w)).new #[.int .i64 a, .int .i64 b] 23).new #[.int .i64 p0, .int .i64 p1, .int .i64 p2, .int .i64 p3, .int .i64 p4] 25).new #[.int .i64 q0, .int .i64 q1, .int .i64 q2, .int .i64 q3, .int .i64 q4] 25))
  clear hW0
  go_wp2_with fail
  refine (HA.out _).mono ?_
  rintro e1 w1 ⟨rfl, hbb⟩
  have HB1 := Lib.hid (HB0.out.keep hbb)
  clear hbb HB0
  go_upto_region 3 with fail
  obtain ⟨c1_0, c1_1, c1_2, c1_3, c1_4⟩ := HB1.out.five (List.mem_cons_of_mem _ (List.mem_cons_self ..))
  go_wp2_with fail
  refine (HCj.out _).mono ?_
  rintro e2 w2 ⟨rfl, hbb⟩
  have HB2 := Lib.hid (HB1.out.keep hbb)
  clear c1_0 c1_1 c1_2 c1_3 c1_4
  clear hbb HB1
  go_upto_region 4 with fail
  obtain ⟨V1, hV1⟩ : ∃ V1 : World, V1 = w2.alloc (.cells #[.int .i64 0, .int .i64 0, .int .i64 0, .int .i64 0, .int .i64 0] 25) := ⟨_, rfl⟩
  rw [← hV1]
  have HV1 := Lib.hid (show Bx w [(w2.heap.size, #[.int .i64 0, .int .i64 0, .int .i64 0, .int .i64 0, .int .i64 0]), (w.heap.size + 2, #[.int .i64 q0, .int .i64 q1, .int .i64 q2, .int .i64 q3, .int .i64 q4]), (w.heap.size + 1, #[.int .i64 p0, .int .i64 p1, .int .i64 p2, .int .i64 p3, .int .i64 p4]), (w.heap.size, #[.int .i64 a, .int .i64 b])] V1 from hV1 ▸ HB2.out.new _ _)
  have hlt1 := HB2.out.lt (List.mem_cons_self ..)
  clear hV1 HB2
  generalize w2.heap.size = B1 at *
  obtain ⟨c2_0, c2_1, c2_2, c2_3, c2_4⟩ := HV1.out.five (List.mem_cons_of_mem _ (List.mem_cons_of_mem _ (List.mem_cons_self ..)))
  go_wp2_with fail
  refine (HQ.out _).mono ?_
  rintro e3 w3 ⟨rfl, hbb⟩
  have HB3 := Lib.hid (HV1.out.keep hbb)
  clear c2_0 c2_1 c2_2 c2_3 c2_4
  clear hbb HV1
  go_upto_region 6 with fail
  obtain ⟨c0_0, c0_1, c0_2, c0_3, c0_4⟩ := HB3.out.five (List.mem_cons_self ..)
  go_wp2_with fail
  refine (same_refl _ _ _ _ _ _ _).mono ?_
  rintro e4 w4 ⟨rfl, hbb⟩
  have HB4 := Lib.hid (HB3.out.keep hbb)
  clear c0_0 c0_1 c0_2 c0_3 c0_4
  clear hbb HB3
  go_upto_region 10 with fail
  obtain ⟨c1_0, c1_1, c1_2, c1_3, c1_4⟩ := HB4.out.five (List.mem_cons_of_mem _ (List.mem_cons_self ..))
  obtain ⟨c2_0, c2_1, c2_2, c2_3, c2_4⟩ := HB4.out.five (List.mem_cons_of_mem _ (List.mem_cons_of_mem _ (List.mem_cons_self ..)))
  obtain ⟨c3_0, c3_1⟩ := HB4.out.two (List.mem_cons_of_mem _ (List.mem_cons_of_mem _ (List.mem_cons_of_mem _ (List.mem_cons_self ..))))
  go_wp2_with fail
  refine (HM.out _).mono ?_
  rintro e5 w5 ⟨rfl, hbb⟩
  have HB5 := Lib.hid (HB4.out.keep hbb)
  clear c1_0 c1_1 c1_2 c1_3 c1_4 c2_0 c2_1 c2_2 c2_3 c2_4 c3_0 c3_1
  clear hbb HB4
  go_upto_region 11 with fail
  obtain ⟨V2, hV2⟩ : ∃ V2 : World, V2 = w5.alloc (.cells #[.int .i64 0, .int .i64 0, .int .i64 0, .int .i64 0, .int .i64 0] 25) := ⟨_, rfl⟩
  rw [← hV2]
  have HV2 := Lib.hid (show Bx w [(w5.heap.size, #[.int .i64 0, .int .i64 0, .int .i64 0, .int .i64 0, .int .i64 0]), (B1, #[.int .i64 0, .int .i64 0, .int .i64 0, .int .i64 0, .int .i64 0]), (w.heap.size + 2, #[.int .i64 q0, .int .i64 q1, .int .i64 q2, .int .i64 q3, .int .i64 q4]), (w.heap.size + 1, #[.int .i64 p0, .int .i64 p1, .int .i64 p2, .int .i64 p3, .int .i64 p4]), (w.heap.size, #[.int .i64 a, .int .i64 b])] V2 from hV2 ▸ HB5.out.new _ _)
  have hlt2 := HB5.out.lt (List.mem_cons_self ..)
  clear hV2 HB5
  generalize w5.heap.size = B2 at *
  obtain ⟨c2_0, c2_1, c2_2, c2_3, c2_4⟩ := HV2.out.five (List.mem_cons_of_mem _ (List.mem_cons_of_mem _ (List.mem_cons_self ..)))
  obtain ⟨c3_0, c3_1, c3_2, c3_3, c3_4⟩ := HV2.out.five (List.mem_cons_of_mem _ (List.mem_cons_of_mem _ (List.mem_cons_of_mem _ (List.mem_cons_self ..))))
  obtain ⟨c4_0, c4_1⟩ := HV2.out.two (List.mem_cons_of_mem _ (List.mem_cons_of_mem _ (List.mem_cons_of_mem _ (List.mem_cons_of_mem _ (List.mem_cons_self ..)))))
  go_wp2_with fail
  refine (HCA.out _ _ _ (shows_flat2 rfl p0 p1 p2 p3 p4 q0 q1 q2 q3 q4)).mono ?_
  rintro e6 w6 ⟨rfl, hbb⟩
  have HB6 := Lib.hid ((HV2.out.keep ((Below.refl _ _).alloc (Nat.le_refl _) _)).keep hbb)
  clear c2_0 c2_1 c2_2 c2_3 c2_4 c3_0 c3_1 c3_2 c3_3 c3_4 c4_0 c4_1
  clear hbb HV2
  go_upto_region 13 with fail
  obtain ⟨c0_0, c0_1, c0_2, c0_3, c0_4⟩ := HB6.out.five (List.mem_cons_self ..)
  go_wp2_with fail
  refine (same_refl _ _ _ _ _ _ _).mono ?_
  rintro e7 w7 ⟨rfl, hbb⟩
  have HB7 := Lib.hid (HB6.out.keep hbb)
  clear c0_0 c0_1 c0_2 c0_3 c0_4
  clear hbb HB6
  go_wp2_with fail
  go_ret
  exact ⟨rfl, HB7.out.below⟩

theorem AlgebraProducts_law (a b p0 p1 p2 p3 p4 q0 q1 q2 q3 q4 : Int) (w : World) :
    Calls Tryd.prog 5 #[.agg #[.int .i64 a, .int .i64 b], qv ⟨p0, p1, p2, p3, p4⟩, qv ⟨q0, q1, q2, q3, q4⟩] w fun e w' => e = .returned (.bool true) ∧ Below w.heap.size w w' := by
  rcases qE_cases ⟨p0, p1, p2, p3, p4⟩ with ⟨hq, _⟩ | ⟨hq, hE⟩
  · by_cases hA : allE a b [⟨p0, p1, p2, p3, p4⟩, ⟨q0, q1, q2, q3, q4⟩] = 0
    · exact Products_1 a b p0 p1 p2 p3 p4 q0 q1 q2 q3 q4 w hq hA
    · exact Products_2 a b p0 p1 p2 p3 p4 q0 q1 q2 q3 q4 w hq hA
  · refine Products_3 a b p0 p1 p2 p3 p4 q0 q1 q2 q3 q4 w hE (fun h => ?_)
    have := (allE_zero.1 h).2 ⟨p0, p1, p2, p3, p4⟩ (by simp)
    rw [hq] at this
    cases this
end Go.Proofs.YtekkbdpggghcjaaDoor
