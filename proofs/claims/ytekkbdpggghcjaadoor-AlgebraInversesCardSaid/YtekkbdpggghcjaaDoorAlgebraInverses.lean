/- The law AlgebraInverses answers true at all algebras, elements and exponents. -/
import Derived.Test.YtekkbdpggghcjaaDoorAlgebraChecks
import Derived.Test.YtekkbdpggghcjaaDoorPwr
namespace Go.Proofs.YtekkbdpggghcjaaDoor
open Go.RowKit FF

set_option maxHeartbeats 4000000 in
set_option maxRecDepth 100000 in
theorem Inv_bad (a b p0 p1 p2 p3 p4 n : Int) (w : World) (hE : allE a b [⟨p0, p1, p2, p3, p4⟩] ≠ 0) :
    Calls Tryd.prog 4 #[.agg #[.int .i64 a, .int .i64 b], qv ⟨p0, p1, p2, p3, p4⟩, .int .i64 n] w fun e w' => e = .returned (.bool true) ∧ Below w.heap.size w w' := by
  have HA := Lib.hid awake3_any
  have hI := fun w => qInverse_any a b p0 p1 p2 p3 p4 w
  have hCA := fun A c w hx => rCheckAll_any a b A [⟨p0, p1, p2, p3, p4⟩] 1 c w hx rfl (by omega)
  have e1 : orQ (allE a b [⟨p0, p1, p2, p3, p4⟩]) (ivQ a b ⟨p0, p1, p2, p3, p4⟩) = Qt.zero := if_neg hE
  have e2 : orE (allE a b [⟨p0, p1, p2, p3, p4⟩]) (ivE a b ⟨p0, p1, p2, p3, p4⟩) = allE a b [⟨p0, p1, p2, p3, p4⟩] := if_neg hE
  simp only [e1, e2] at hI
  have HI := Lib.hid hI; have HCA := Lib.hid hCA
  have HP := Lib.hid (fun w => qPower_bad a b p0 p1 p2 p3 p4 n w hE)
  have d1 : (allE a b [⟨p0, p1, p2, p3, p4⟩] == 0) = false := f_beq hE
  clear hI hCA e1 e2 hE
  generalize allE a b [⟨p0, p1, p2, p3, p4⟩] = E at *
  simp only [qv, Qt.zero] at HI HP
  simp only [qv]
  go_enter Tryd.func4, Tryd.ntmps4
  go_upto_region 1 with fail
  obtain ⟨W0, hW0⟩ : ∃ W0 : World, W0 = ((w.alloc (.cells #[.int .i64 a, .int .i64 b] 23)).alloc (.cells #[.int .i64 p0, .int .i64 p1, .int .i64 p2, .int .i64 p3, .int .i64 p4] 25)) := ⟨_, rfl⟩
  rw [← hW0]
  have HB0 := Lib.hid (show Bx w [(w.heap.size + 1, #[.int .i64 p0, .int .i64 p1, .int .i64 p2, .int .i64 p3, .int .i64 p4]), (w.heap.size, #[.int .i64 a, .int .i64 b])] W0 by rw [hW0]; simpa using (((Bx.nil (Below.refl w.heap.size w)).new #[.int .i64 a, .int .i64 b] 23).new #[.int .i64 p0, .int .i64 p1, .int .i64 p2, .int .i64 p3, .int .i64 p4] 25))
  clear hW0
  go_wp2_with fail
  refine (HA.out _).mono ?_
  rintro e1 w1 ⟨rfl, hbb⟩
  have HB1 := Lib.hid (HB0.out.keep hbb)
  clear hbb HB0
  go_upto_region 3 with fail
  obtain ⟨c0_0, c0_1, c0_2, c0_3, c0_4⟩ := HB1.out.five (List.mem_cons_self ..)
  obtain ⟨c1_0, c1_1⟩ := HB1.out.two (List.mem_cons_of_mem _ (List.mem_cons_self ..))
  go_wp2_with fail
  refine (HI.out _).mono ?_
  rintro e2 w2 ⟨rfl, hbb⟩
  have HB2 := Lib.hid (HB1.out.keep hbb)
  clear c0_0 c0_1 c0_2 c0_3 c0_4 c1_0 c1_1
  clear hbb HB1
  go_upto_region 4 with fail
  obtain ⟨V1, hV1⟩ : ∃ V1 : World, V1 = w2.alloc (.cells #[.int .i64 0, .int .i64 0, .int .i64 0, .int .i64 0, .int .i64 0] 25) := ⟨_, rfl⟩
  rw [← hV1]
  have HV1 := Lib.hid (show Bx w [(w2.heap.size, #[.int .i64 0, .int .i64 0, .int .i64 0, .int .i64 0, .int .i64 0]), (w.heap.size + 1, #[.int .i64 p0, .int .i64 p1, .int .i64 p2, .int .i64 p3, .int .i64 p4]), (w.heap.size, #[.int .i64 a, .int .i64 b])] V1 from hV1 ▸ HB2.out.new _ _)
  have hlt1 := HB2.out.lt (List.mem_cons_self ..)
  clear hV1 HB2
  generalize w2.heap.size = B1 at *
  obtain ⟨c1_0, c1_1, c1_2, c1_3, c1_4⟩ := HV1.out.five (List.mem_cons_of_mem _ (List.mem_cons_self ..))
  obtain ⟨c2_0, c2_1⟩ := HV1.out.two (List.mem_cons_of_mem _ (List.mem_cons_of_mem _ (List.mem_cons_self ..)))
  go_wp2_with fail
  refine (HP.out _).mono ?_
  rintro e3 w3 ⟨rfl, hbb⟩
  have HB3 := Lib.hid (HV1.out.keep hbb)
  clear c1_0 c1_1 c1_2 c1_3 c1_4 c2_0 c2_1
  clear hbb HV1
  go_upto_region 5 with fail
  obtain ⟨V2, hV2⟩ : ∃ V2 : World, V2 = w3.alloc (.cells #[.int .i64 0, .int .i64 0, .int .i64 0, .int .i64 0, .int .i64 0] 25) := ⟨_, rfl⟩
  rw [← hV2]
  have HV2 := Lib.hid (show Bx w [(w3.heap.size, #[.int .i64 0, .int .i64 0, .int .i64 0, .int .i64 0, .int .i64 0]), (B1, #[.int .i64 0, .int .i64 0, .int .i64 0, .int .i64 0, .int .i64 0]), (w.heap.size + 1, #[.int .i64 p0, .int .i64 p1, .int .i64 p2, .int .i64 p3, .int .i64 p4]), (w.heap.size, #[.int .i64 a, .int .i64 b])] V2 from hV2 ▸ HB3.out.new _ _)
  have hlt2 := HB3.out.lt (List.mem_cons_self ..)
  clear hV2 HB3
  generalize w3.heap.size = B2 at *
  obtain ⟨c2_0, c2_1, c2_2, c2_3, c2_4⟩ := HV2.out.five (List.mem_cons_of_mem _ (List.mem_cons_of_mem _ (List.mem_cons_self ..)))
  obtain ⟨c3_0, c3_1⟩ := HV2.out.two (List.mem_cons_of_mem _ (List.mem_cons_of_mem _ (List.mem_cons_of_mem _ (List.mem_cons_self ..))))
  go_wp2_with fail
  refine (HCA.out _ _ _ (shows_flat1 rfl p0 p1 p2 p3 p4)).mono ?_
  rintro e4 w4 ⟨rfl, hbb⟩
  have HB4 := Lib.hid ((HV2.out.keep ((Below.refl _ _).alloc (Nat.le_refl _) _)).keep hbb)
  clear c2_0 c2_1 c2_2 c2_3 c2_4 c3_0 c3_1
  clear hbb HV2
  go_upto_region 7 with fail
  obtain ⟨c0_0, c0_1, c0_2, c0_3, c0_4⟩ := HB4.out.five (List.mem_cons_self ..)
  obtain ⟨c1_0, c1_1, c1_2, c1_3, c1_4⟩ := HB4.out.five (List.mem_cons_of_mem _ (List.mem_cons_self ..))
  go_wp2_with fail
  refine (same_refl _ _ _ _ _ _ _).mono ?_
  rintro e5 w5 ⟨rfl, hbb⟩
  have HB5 := Lib.hid (HB4.out.keep hbb)
  clear c0_0 c0_1 c0_2 c0_3 c0_4 c1_0 c1_1 c1_2 c1_3 c1_4
  clear hbb HB4
  obtain ⟨c0_0, c0_1, c0_2, c0_3, c0_4⟩ := HB5.out.five (List.mem_cons_self ..)
  go_wp2_with fail
  refine (same_refl _ _ _ _ _ _ _).mono ?_
  rintro e6 w6 ⟨rfl, hbb⟩
  have HB6 := Lib.hid (HB5.out.keep hbb)
  clear c0_0 c0_1 c0_2 c0_3 c0_4
  clear hbb HB5
  go_wp2_with fail
  go_ret
  exact ⟨rfl, HB6.out.below⟩

set_option maxHeartbeats 4000000 in
set_option maxRecDepth 100000 in
theorem Inv_far (a b p0 p1 p2 p3 p4 n : Int) (w : World) (hE : allE a b [⟨p0, p1, p2, p3, p4⟩] = 0) (hn : n < -60 ∨ 60 < n) :
    Calls Tryd.prog 4 #[.agg #[.int .i64 a, .int .i64 b], qv ⟨p0, p1, p2, p3, p4⟩, .int .i64 n] w fun e w' => e = .returned (.bool true) ∧ Below w.heap.size w w' := by
  have HA := Lib.hid awake3_any
  have hI := fun w => qInverse_any a b p0 p1 p2 p3 p4 w
  have hCA := fun A c w hx => rCheckAll_any a b A [⟨p0, p1, p2, p3, p4⟩] 1 c w hx rfl (by omega)
  obtain ⟨ha, hall⟩ := allE_zero.1 hE
  have hq := hall ⟨p0, p1, p2, p3, p4⟩ (by simp)
  have e1 : orQ 0 (ivQ a b ⟨p0, p1, p2, p3, p4⟩) = ivQ a b ⟨p0, p1, p2, p3, p4⟩ := if_pos rfl
  have e2 : orE 0 (ivE a b ⟨p0, p1, p2, p3, p4⟩) = ivE a b ⟨p0, p1, p2, p3, p4⟩ := if_pos rfl
  simp only [hE, e1, e2] at hI hCA
  have HI := Lib.hid hI; have HCA := Lib.hid hCA
  have HRI := Lib.hid (fun w => rInverse_any a b p0 p1 p2 p3 p4 w hq ha)
  have HP := Lib.hid (fun w => qPower_far a b p0 p1 p2 p3 p4 n w hn hq ha)
  have hW := fun w => bWithin_any n (-60) 60 w
  rw [winB_false.2 (by omega)] at hW
  have HW := Lib.hid hW
  clear hW
  clear hI hCA e1 e2 hE ha hall hq
  generalize ivQ a b ⟨p0, p1, p2, p3, p4⟩ = IQ at *
  generalize ivE a b ⟨p0, p1, p2, p3, p4⟩ = IE at *
  obtain ⟨i0, i1, i2, i3, i4⟩ := IQ
  simp only [qv, Qt.zero] at HI HP HRI
  simp only [qv]
  go_enter Tryd.func4, Tryd.ntmps4
  go_upto_region 1 with fail
  obtain ⟨W0, hW0⟩ : ∃ W0 : World, W0 = ((w.alloc (.cells #[.int .i64 a, .int .i64 b] 23)).alloc (.cells #[.int .i64 p0, .int .i64 p1, .int .i64 p2, .int .i64 p3, .int .i64 p4] 25)) := ⟨_, rfl⟩
  rw [← hW0]
  have HB0 := Lib.hid (show Bx w [(w.heap.size + 1, #[.int .i64 p0, .int .i64 p1, .int .i64 p2, .int .i64 p3, .int .i64 p4]), (w.heap.size, #[.int .i64 a, .int .i64 b])] W0 by rw [hW0]; simpa using (((Bx.nil (Below.refl w.heap.size w)).new #[.int .i64 a, .int .i64 b] 23).new #[.int .i64 p0, .int .i64 p1, .int .i64 p2, .int .i64 p3, .int .i64 p4] 25))
  clear hW0
  go_wp2_with fail
  refine (HA.out _).mono ?_
  rintro e1 w1 ⟨rfl, hbb⟩
  have HB1 := Lib.hid (HB0.out.keep hbb)
  clear hbb HB0
  go_upto_region 3 with fail
  obtain ⟨c0_0, c0_1, c0_2, c0_3, c0_4⟩ := HB1.out.five (List.mem_cons_self ..)
  obtain ⟨c1_0, c1_1⟩ := HB1.out.two (List.mem_cons_of_mem _ (List.mem_cons_self ..))
  go_wp2_with fail
  refine (HI.out _).mono ?_
  rintro e2 w2 ⟨rfl, hbb⟩
  have HB2 := Lib.hid (HB1.out.keep hbb)
  clear c0_0 c0_1 c0_2 c0_3 c0_4 c1_0 c1_1
  clear hbb HB1
  go_upto_region 4 with fail
  obtain ⟨V1, hV1⟩ : ∃ V1 : World, V1 = w2.alloc (.cells #[.int .i64 i0, .int .i64 i1, .int .i64 i2, .int .i64 i3, .int .i64 i4] 25) := ⟨_, rfl⟩
  rw [← hV1]
  have HV1 := Lib.hid (show Bx w [(w2.heap.size, #[.int .i64 i0, .int .i64 i1, .int .i64 i2, .int .i64 i3, .int .i64 i4]), (w.heap.size + 1, #[.int .i64 p0, .int .i64 p1, .int .i64 p2, .int .i64 p3, .int .i64 p4]), (w.heap.size, #[.int .i64 a, .int .i64 b])] V1 from hV1 ▸ HB2.out.new _ _)
  have hlt1 := HB2.out.lt (List.mem_cons_self ..)
  clear hV1 HB2
  generalize w2.heap.size = B1 at *
  obtain ⟨c1_0, c1_1, c1_2, c1_3, c1_4⟩ := HV1.out.five (List.mem_cons_of_mem _ (List.mem_cons_self ..))
  obtain ⟨c2_0, c2_1⟩ := HV1.out.two (List.mem_cons_of_mem _ (List.mem_cons_of_mem _ (List.mem_cons_self ..)))
  go_wp2_with fail
  refine (HP.out _).mono ?_
  rintro e3 w3 ⟨rfl, hbb⟩
  have HB3 := Lib.hid (HV1.out.keep hbb)
  clear c1_0 c1_1 c1_2 c1_3 c1_4 c2_0 c2_1
  clear hbb HV1
  go_upto_region 5 with fail
  obtain ⟨V2, hV2⟩ : ∃ V2 : World, V2 = w3.alloc (.cells #[.int .i64 0, .int .i64 0, .int .i64 0, .int .i64 0, .int .i64 0] 25) := ⟨_, rfl⟩
  rw [← hV2]
  have HV2 := Lib.hid (show Bx w [(w3.heap.size, #[.int .i64 0, .int .i64 0, .int .i64 0, .int .i64 0, .int .i64 0]), (B1, #[.int .i64 i0, .int .i64 i1, .int .i64 i2, .int .i64 i3, .int .i64 i4]), (w.heap.size + 1, #[.int .i64 p0, .int .i64 p1, .int .i64 p2, .int .i64 p3, .int .i64 p4]), (w.heap.size, #[.int .i64 a, .int .i64 b])] V2 from hV2 ▸ HB3.out.new _ _)
  have hlt2 := HB3.out.lt (List.mem_cons_self ..)
  clear hV2 HB3
  generalize w3.heap.size = B2 at *
  obtain ⟨c2_0, c2_1, c2_2, c2_3, c2_4⟩ := HV2.out.five (List.mem_cons_of_mem _ (List.mem_cons_of_mem _ (List.mem_cons_self ..)))
  obtain ⟨c3_0, c3_1⟩ := HV2.out.two (List.mem_cons_of_mem _ (List.mem_cons_of_mem _ (List.mem_cons_of_mem _ (List.mem_cons_self ..))))
  go_wp2_with fail
  refine (HCA.out _ _ _ (shows_flat1 rfl p0 p1 p2 p3 p4)).mono ?_
  rintro e4 w4 ⟨rfl, hbb⟩
  have HB4 := Lib.hid ((HV2.out.keep ((Below.refl _ _).alloc (Nat.le_refl _) _)).keep hbb)
  clear c2_0 c2_1 c2_2 c2_3 c2_4 c3_0 c3_1
  clear hbb HV2
  go_upto_region 8 with fail
  obtain ⟨c2_0, c2_1, c2_2, c2_3, c2_4⟩ := HB4.out.five (List.mem_cons_of_mem _ (List.mem_cons_of_mem _ (List.mem_cons_self ..)))
  obtain ⟨c3_0, c3_1⟩ := HB4.out.two (List.mem_cons_of_mem _ (List.mem_cons_of_mem _ (List.mem_cons_of_mem _ (List.mem_cons_self ..))))
  go_wp2_with fail
  refine (HRI.out _).mono ?_
  rintro e5 w5 ⟨rfl, hbb⟩
  have HB5 := Lib.hid (HB4.out.keep hbb)
  clear c2_0 c2_1 c2_2 c2_3 c2_4 c3_0 c3_1
  clear hbb HB4
  go_upto_region 9 with fail
  obtain ⟨V3, hV3⟩ : ∃ V3 : World, V3 = w5.alloc (.cells #[.int .i64 i0, .int .i64 i1, .int .i64 i2, .int .i64 i3, .int .i64 i4] 25) := ⟨_, rfl⟩
  rw [← hV3]
  have HV3 := Lib.hid (show Bx w [(w5.heap.size, #[.int .i64 i0, .int .i64 i1, .int .i64 i2, .int .i64 i3, .int .i64 i4]), (B2, #[.int .i64 0, .int .i64 0, .int .i64 0, .int .i64 0, .int .i64 0]), (B1, #[.int .i64 i0, .int .i64 i1, .int .i64 i2, .int .i64 i3, .int .i64 i4]), (w.heap.size + 1, #[.int .i64 p0, .int .i64 p1, .int .i64 p2, .int .i64 p3, .int .i64 p4]), (w.heap.size, #[.int .i64 a, .int .i64 b])] V3 from hV3 ▸ HB5.out.new _ _)
  have hlt3 := HB5.out.lt (List.mem_cons_self ..)
  clear hV3 HB5
  generalize w5.heap.size = B3 at *
  obtain ⟨c0_0, c0_1, c0_2, c0_3, c0_4⟩ := HV3.out.five (List.mem_cons_self ..)
  obtain ⟨c2_0, c2_1, c2_2, c2_3, c2_4⟩ := HV3.out.five (List.mem_cons_of_mem _ (List.mem_cons_of_mem _ (List.mem_cons_self ..)))
  go_wp2_with fail
  refine (same_refl _ _ _ _ _ _ _).mono ?_
  rintro e6 w6 ⟨rfl, hbb⟩
  have HB6 := Lib.hid (HV3.out.keep hbb)
  clear c0_0 c0_1 c0_2 c0_3 c0_4 c2_0 c2_1 c2_2 c2_3 c2_4
  clear hbb HV3
  go_upto_region 11 with fail
  go_wp2_with fail
  refine (HW.out _).mono ?_
  rintro e20 w20 ⟨rfl, n20, rfl⟩
  have HB20 := Lib.hid (HB6.out.drewN n20)
  clear HB6
  go_upto_region 12 with fail
  obtain ⟨c1_0, c1_1, c1_2, c1_3, c1_4⟩ := HB20.out.five (List.mem_cons_of_mem _ (List.mem_cons_self ..))
  go_wp2_with fail
  refine (same_refl _ _ _ _ _ _ _).mono ?_
  rintro e7 w7 ⟨rfl, hbb⟩
  have HB7 := Lib.hid (HB20.out.keep hbb)
  clear c1_0 c1_1 c1_2 c1_3 c1_4
  clear hbb HB20
  go_wp2_with fail
  go_ret
  exact ⟨rfl, HB7.out.below⟩

set_option maxHeartbeats 4000000 in
set_option maxRecDepth 100000 in
theorem Inv_in (a b p0 p1 p2 p3 p4 n : Int) (w : World) (hE : allE a b [⟨p0, p1, p2, p3, p4⟩] = 0) (hn : -60 ≤ n ∧ n ≤ 60) (PQ : Qt) (PE : Int)
    (hP : ∀ w, Calls Tryd.prog 21 #[.agg #[.int .i64 a, .int .i64 b], qv ⟨p0, p1, p2, p3, p4⟩, .int .i64 n] w fun r w' => r = .returned (.tuple #[qv PQ, .int .i64 PE]) ∧ Below w.heap.size w w')
    (hRP : ∀ w, Calls Tryd.prog 25 #[.agg #[.int .i64 a, .int .i64 b], qv ⟨p0, p1, p2, p3, p4⟩, .int .i64 n] w fun r w' => r = .returned (.tuple #[qv PQ, .int .i64 PE]) ∧ Below w.heap.size w w') :
    Calls Tryd.prog 4 #[.agg #[.int .i64 a, .int .i64 b], qv ⟨p0, p1, p2, p3, p4⟩, .int .i64 n] w fun e w' => e = .returned (.bool true) ∧ Below w.heap.size w w' := by
  have HA := Lib.hid awake3_any
  have hI := fun w => qInverse_any a b p0 p1 p2 p3 p4 w
  have hCA := fun A c w hx => rCheckAll_any a b A [⟨p0, p1, p2, p3, p4⟩] 1 c w hx rfl (by omega)
  obtain ⟨ha, hall⟩ := allE_zero.1 hE
  have hq := hall ⟨p0, p1, p2, p3, p4⟩ (by simp)
  have e1 : orQ 0 (ivQ a b ⟨p0, p1, p2, p3, p4⟩) = ivQ a b ⟨p0, p1, p2, p3, p4⟩ := if_pos rfl
  have e2 : orE 0 (ivE a b ⟨p0, p1, p2, p3, p4⟩) = ivE a b ⟨p0, p1, p2, p3, p4⟩ := if_pos rfl
  simp only [hE, e1, e2] at hI hCA
  have HI := Lib.hid hI; have HCA := Lib.hid hCA
  have HRI := Lib.hid (fun w => rInverse_any a b p0 p1 p2 p3 p4 w hq ha)
  have HP := Lib.hid hP
  have HRP := Lib.hid hRP
  have hW := fun w => bWithin_any n (-60) 60 w
  rw [winB_iff.2 hn] at hW
  have HW := Lib.hid hW
  clear hW hP hRP
  obtain ⟨k0, k1, k2, k3, k4⟩ := PQ
  clear hI hCA e1 e2 hE ha hall hq
  generalize ivQ a b ⟨p0, p1, p2, p3, p4⟩ = IQ at *
  generalize ivE a b ⟨p0, p1, p2, p3, p4⟩ = IE at *
  obtain ⟨i0, i1, i2, i3, i4⟩ := IQ
  simp only [qv] at HI HP HRI HRP
  simp only [qv]
  go_enter Tryd.func4, Tryd.ntmps4
  go_upto_region 1 with fail
  obtain ⟨W0, hW0⟩ : ∃ W0 : World, W0 = ((w.alloc (.cells #[.int .i64 a, .int .i64 b] 23)).alloc (.cells #[.int .i64 p0, .int .i64 p1, .int .i64 p2, .int .i64 p3, .int .i64 p4] 25)) := ⟨_, rfl⟩
  rw [← hW0]
  have HB0 := Lib.hid (show Bx w [(w.heap.size + 1, #[.int .i64 p0, .int .i64 p1, .int .i64 p2, .int .i64 p3, .int .i64 p4]), (w.heap.size, #[.int .i64 a, .int .i64 b])] W0 by rw [hW0]; simpa using (((Bx.nil (Below.refl w.heap.size w)).new #[.int .i64 a, .int .i64 b] 23).new #[.int .i64 p0, .int .i64 p1, .int .i64 p2, .int .i64 p3, .int .i64 p4] 25))
  clear hW0
  go_wp2_with fail
  refine (HA.out _).mono ?_
  rintro e1 w1 ⟨rfl, hbb⟩
  have HB1 := Lib.hid (HB0.out.keep hbb)
  clear hbb HB0
  go_upto_region 3 with fail
  obtain ⟨c0_0, c0_1, c0_2, c0_3, c0_4⟩ := HB1.out.five (List.mem_cons_self ..)
  obtain ⟨c1_0, c1_1⟩ := HB1.out.two (List.mem_cons_of_mem _ (List.mem_cons_self ..))
  go_wp2_with fail
  refine (HI.out _).mono ?_
  rintro e2 w2 ⟨rfl, hbb⟩
  have HB2 := Lib.hid (HB1.out.keep hbb)
  clear c0_0 c0_1 c0_2 c0_3 c0_4 c1_0 c1_1
  clear hbb HB1
  go_upto_region 4 with fail
  obtain ⟨V1, hV1⟩ : ∃ V1 : World, V1 = w2.alloc (.cells #[.int .i64 i0, .int .i64 i1, .int .i64 i2, .int .i64 i3, .int .i64 i4] 25) := ⟨_, rfl⟩
  rw [← hV1]
  have HV1 := Lib.hid (show Bx w [(w2.heap.size, #[.int .i64 i0, .int .i64 i1, .int .i64 i2, .int .i64 i3, .int .i64 i4]), (w.heap.size + 1, #[.int .i64 p0, .int .i64 p1, .int .i64 p2, .int .i64 p3, .int .i64 p4]), (w.heap.size, #[.int .i64 a, .int .i64 b])] V1 from hV1 ▸ HB2.out.new _ _)
  have hlt1 := HB2.out.lt (List.mem_cons_self ..)
  clear hV1 HB2
  generalize w2.heap.size = B1 at *
  obtain ⟨c1_0, c1_1, c1_2, c1_3, c1_4⟩ := HV1.out.five (List.mem_cons_of_mem _ (List.mem_cons_self ..))
  obtain ⟨c2_0, c2_1⟩ := HV1.out.two (List.mem_cons_of_mem _ (List.mem_cons_of_mem _ (List.mem_cons_self ..)))
  go_wp2_with fail
  refine (HP.out _).mono ?_
  rintro e3 w3 ⟨rfl, hbb⟩
  have HB3 := Lib.hid (HV1.out.keep hbb)
  clear c1_0 c1_1 c1_2 c1_3 c1_4 c2_0 c2_1
  clear hbb HV1
  go_upto_region 5 with fail
  obtain ⟨V2, hV2⟩ : ∃ V2 : World, V2 = w3.alloc (.cells #[.int .i64 k0, .int .i64 k1, .int .i64 k2, .int .i64 k3, .int .i64 k4] 25) := ⟨_, rfl⟩
  rw [← hV2]
  have HV2 := Lib.hid (show Bx w [(w3.heap.size, #[.int .i64 k0, .int .i64 k1, .int .i64 k2, .int .i64 k3, .int .i64 k4]), (B1, #[.int .i64 i0, .int .i64 i1, .int .i64 i2, .int .i64 i3, .int .i64 i4]), (w.heap.size + 1, #[.int .i64 p0, .int .i64 p1, .int .i64 p2, .int .i64 p3, .int .i64 p4]), (w.heap.size, #[.int .i64 a, .int .i64 b])] V2 from hV2 ▸ HB3.out.new _ _)
  have hlt2 := HB3.out.lt (List.mem_cons_self ..)
  clear hV2 HB3
  generalize w3.heap.size = B2 at *
  obtain ⟨c2_0, c2_1, c2_2, c2_3, c2_4⟩ := HV2.out.five (List.mem_cons_of_mem _ (List.mem_cons_of_mem _ (List.mem_cons_self ..)))
  obtain ⟨c3_0, c3_1⟩ := HV2.out.two (List.mem_cons_of_mem _ (List.mem_cons_of_mem _ (List.mem_cons_of_mem _ (List.mem_cons_self ..))))
  go_wp2_with fail
  refine (HCA.out _ _ _ (shows_flat1 rfl p0 p1 p2 p3 p4)).mono ?_
  rintro e4 w4 ⟨rfl, hbb⟩
  have HB4 := Lib.hid ((HV2.out.keep ((Below.refl _ _).alloc (Nat.le_refl _) _)).keep hbb)
  clear c2_0 c2_1 c2_2 c2_3 c2_4 c3_0 c3_1
  clear hbb HV2
  go_upto_region 8 with fail
  obtain ⟨c2_0, c2_1, c2_2, c2_3, c2_4⟩ := HB4.out.five (List.mem_cons_of_mem _ (List.mem_cons_of_mem _ (List.mem_cons_self ..)))
  obtain ⟨c3_0, c3_1⟩ := HB4.out.two (List.mem_cons_of_mem _ (List.mem_cons_of_mem _ (List.mem_cons_of_mem _ (List.mem_cons_self ..))))
  go_wp2_with fail
  refine (HRI.out _).mono ?_
  rintro e5 w5 ⟨rfl, hbb⟩
  have HB5 := Lib.hid (HB4.out.keep hbb)
  clear c2_0 c2_1 c2_2 c2_3 c2_4 c3_0 c3_1
  clear hbb HB4
  go_upto_region 9 with fail
  obtain ⟨V3, hV3⟩ : ∃ V3 : World, V3 = w5.alloc (.cells #[.int .i64 i0, .int .i64 i1, .int .i64 i2, .int .i64 i3, .int .i64 i4] 25) := ⟨_, rfl⟩
  rw [← hV3]
  have HV3 := Lib.hid (show Bx w [(w5.heap.size, #[.int .i64 i0, .int .i64 i1, .int .i64 i2, .int .i64 i3, .int .i64 i4]), (B2, #[.int .i64 k0, .int .i64 k1, .int .i64 k2, .int .i64 k3, .int .i64 k4]), (B1, #[.int .i64 i0, .int .i64 i1, .int .i64 i2, .int .i64 i3, .int .i64 i4]), (w.heap.size + 1, #[.int .i64 p0, .int .i64 p1, .int .i64 p2, .int .i64 p3, .int .i64 p4]), (w.heap.size, #[.int .i64 a, .int .i64 b])] V3 from hV3 ▸ HB5.out.new _ _)
  have hlt3 := HB5.out.lt (List.mem_cons_self ..)
  clear hV3 HB5
  generalize w5.heap.size = B3 at *
  obtain ⟨c0_0, c0_1, c0_2, c0_3, c0_4⟩ := HV3.out.five (List.mem_cons_self ..)
  obtain ⟨c2_0, c2_1, c2_2, c2_3, c2_4⟩ := HV3.out.five (List.mem_cons_of_mem _ (List.mem_cons_of_mem _ (List.mem_cons_self ..)))
  go_wp2_with fail
  refine (same_refl _ _ _ _ _ _ _).mono ?_
  rintro e6 w6 ⟨rfl, hbb⟩
  have HB6 := Lib.hid (HV3.out.keep hbb)
  clear c0_0 c0_1 c0_2 c0_3 c0_4 c2_0 c2_1 c2_2 c2_3 c2_4
  clear hbb HV3
  go_upto_region 11 with fail
  go_wp2_with fail
  refine (HW.out _).mono ?_
  rintro e20 w20 ⟨rfl, n20, rfl⟩
  have HB20 := Lib.hid (HB6.out.drewN n20)
  clear HB6
  go_upto_region 13 with fail
  obtain ⟨c0_0, c0_1, c0_2, c0_3, c0_4⟩ := HB20.out.five (List.mem_cons_self ..)
  obtain ⟨c3_0, c3_1, c3_2, c3_3, c3_4⟩ := HB20.out.five (List.mem_cons_of_mem _ (List.mem_cons_of_mem _ (List.mem_cons_of_mem _ (List.mem_cons_self ..))))
  obtain ⟨c4_0, c4_1⟩ := HB20.out.two (List.mem_cons_of_mem _ (List.mem_cons_of_mem _ (List.mem_cons_of_mem _ (List.mem_cons_of_mem _ (List.mem_cons_self ..)))))
  go_wp2_with fail
  refine (HRP.out _).mono ?_
  rintro e7 w7 ⟨rfl, hbb⟩
  have HB7 := Lib.hid (HB20.out.keep hbb)
  clear c0_0 c0_1 c0_2 c0_3 c0_4 c3_0 c3_1 c3_2 c3_3 c3_4 c4_0 c4_1
  clear hbb HB20
  obtain ⟨c0_0, c0_1, c0_2, c0_3, c0_4⟩ := HB7.out.five (List.mem_cons_self ..)
  obtain ⟨f0, f1, f2, f3, f4⟩ := HB7.out.fr (List.mem_cons_self ..)
  obtain ⟨W9, e9, B9, -⟩ := HB7.out.put5 (List.mem_cons_self ..) (.int .i64 k0) (.int .i64 k1) (.int .i64 k2) (.int .i64 k3) (.int .i64 k4) (L' := [(B3, #[.int .i64 k0, .int .i64 k1, .int .i64 k2, .int .i64 k3, .int .i64 k4]), (B2, #[.int .i64 k0, .int .i64 k1, .int .i64 k2, .int .i64 k3, .int .i64 k4]), (B1, #[.int .i64 i0, .int .i64 i1, .int .i64 i2, .int .i64 i3, .int .i64 i4]), (w.heap.size + 1, #[.int .i64 p0, .int .i64 p1, .int .i64 p2, .int .i64 p3, .int .i64 p4]), (w.heap.size, #[.int .i64 a, .int .i64 b])]) (by
    intro x hx
    simp only [List.mem_cons, List.not_mem_nil, or_false] at hx ⊢
    rcases hx with rfl | rfl | rfl | rfl | rfl
    · exact .inr rfl
    · exact .inl ⟨.inr (.inl rfl), by simp only; omega⟩
    · exact .inl ⟨.inr (.inr (.inl rfl)), by simp only; omega⟩
    · exact .inl ⟨.inr (.inr (.inr (.inl rfl))), by simp only; omega⟩
    · exact .inl ⟨.inr (.inr (.inr (.inr (rfl)))), by simp only; omega⟩)
  go_upto_region 14 with fail
  try rw [e9]
  clear c0_0 c0_1 c0_2 c0_3 c0_4
  have HB9 := Lib.hid B9
  clear e9 B9 f0 f1 f2 f3 f4 HB7
  obtain ⟨c0_0, c0_1, c0_2, c0_3, c0_4⟩ := HB9.out.five (List.mem_cons_self ..)
  obtain ⟨c1_0, c1_1, c1_2, c1_3, c1_4⟩ := HB9.out.five (List.mem_cons_of_mem _ (List.mem_cons_self ..))
  go_wp2_with fail
  refine (same_refl _ _ _ _ _ _ _).mono ?_
  rintro e8 w8 ⟨rfl, hbb⟩
  have HB8 := Lib.hid (HB9.out.keep hbb)
  clear c0_0 c0_1 c0_2 c0_3 c0_4 c1_0 c1_1 c1_2 c1_3 c1_4
  clear hbb HB9
  go_wp2_with fail
  go_ret
  exact ⟨rfl, HB8.out.below⟩

theorem AlgebraInverses_law (a b p0 p1 p2 p3 p4 n : Int) (w : World) :
    Calls Tryd.prog 4 #[.agg #[.int .i64 a, .int .i64 b], qv ⟨p0, p1, p2, p3, p4⟩, .int .i64 n] w fun e w' => e = .returned (.bool true) ∧ Below w.heap.size w w' := by
  by_cases hE : allE a b [⟨p0, p1, p2, p3, p4⟩] = 0
  · by_cases hn : -60 ≤ n ∧ n ≤ 60
    · obtain ⟨ha, hall⟩ := allE_zero.1 hE
      have hq := hall ⟨p0, p1, p2, p3, p4⟩ (by simp)
      by_cases h0 : 0 ≤ n
      · obtain ⟨N, rfl⟩ : ∃ N : Nat, n = N := ⟨n.toNat, by omega⟩
        exact Inv_in a b p0 p1 p2 p3 p4 N w hE hn _ _ (fun w => qPower_pos a b p0 p1 p2 p3 p4 N w (by omega) hq ha) (fun w => rPower_pos a b p0 p1 p2 p3 p4 N w (by omega) hq ha)
      · obtain ⟨N, rfl⟩ : ∃ N : Nat, n = -(N : Int) := ⟨n.natAbs, by omega⟩
        by_cases hI : ivE a b ⟨p0, p1, p2, p3, p4⟩ = 0
        · exact Inv_in a b p0 p1 p2 p3 p4 (-(N : Int)) w hE hn _ _ (fun w => qPower_neg a b p0 p1 p2 p3 p4 N w (by omega) hq ha hI) (fun w => rPower_neg a b p0 p1 p2 p3 p4 N w (by omega) hq ha hI)
        · exact Inv_in a b p0 p1 p2 p3 p4 (-(N : Int)) w hE hn _ _ (fun w => qPower_neg0 a b p0 p1 p2 p3 p4 N w (by omega) hq ha hI) (fun w => rPower_neg0 a b p0 p1 p2 p3 p4 N w (by omega) hq ha hI)
    · exact Inv_far a b p0 p1 p2 p3 p4 n w hE (by omega)
  · exact Inv_bad a b p0 p1 p2 p3 p4 n w hE
end Go.Proofs.YtekkbdpggghcjaaDoor
