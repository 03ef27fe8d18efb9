/- The law AlgebraIsomorphisms answers true at all pairs of algebras. -/
import Derived.Test.YtfjmhfmhijhpkaaGreatDoorIsg
import Derived.Test.YtfjmhfmhijhpkaaGreatDoorAlgebraProofs
namespace Go.Proofs.YtfjmhfmhijhpkaaGreatDoor
open Go.RowKit FF

set_option maxHeartbeats 4000000 in
set_option maxRecDepth 100000 in
theorem iso_law_one (a b c d : Int) (w : World) (h1 : aE a b ≠ 0) :
    Calls Tryz.prog 3 #[.agg #[.int .i64 a, .int .i64 b], .agg #[.int .i64 c, .int .i64 d]] w fun e w' => e = .returned (.bool true) ∧ Below w.heap.size w w' := by
  have HA := Lib.hid awake3_any
  have hI : isoIE a b c d ≠ 0 := by rw [isoIE_bad1 h1]; exact h1
  have HIs := Lib.hid (fun w => qIsomorphic_bad a b c d w hI)
  have HIm := Lib.hid (fun w => qIsomorphism_bad a b c d w hI)
  have HC1 := Lib.hid (fun w => rCheck_any a b w)
  rw [isoIE_bad1 h1] at HIs HIm
  clear hI
  generalize aE a b = E at *
  have d0 : (E == 0) = false := f_beq h1
  have d1 : (E != 0) = true := bne_iff_ne.2 h1
  clear h1
  simp only [qv, Qt.zero] at HIm
  go_enter Tryz.func3, Tryz.ntmps3
  go_upto_region 1 with fail
  obtain ⟨W0, hW0⟩ : ∃ W0 : World, W0 = ((w.alloc (.cells #[.int .i64 a, .int .i64 b] 23)).alloc (.cells #[.int .i64 c, .int .i64 d] 23)) := ⟨_, rfl⟩
  rw [← hW0]
  have HB0 := Lib.hid (show Bx w [(w.heap.size + 1, #[.int .i64 c, .int .i64 d]), (w.heap.size, #[.int .i64 a, .int .i64 b])] W0 by rw [hW0]; simpa using (((Bx.nil (Below.refl w.heap.size w)).new #[.int .i64 a, .int .i64 b] 23).new #[.int .i64 c, .int .i64 d] 23))
  clear hW0
  go_wp2_with fail
  refine (HA.out _).mono ?_
  rintro e1 w1 ⟨rfl, hbb⟩
  have HB1 := Lib.hid (HB0.out.keep hbb)
  clear hbb HB0
  obtain ⟨c0_0, c0_1⟩ := HB1.out.two (List.mem_cons_self ..)
  obtain ⟨c1_0, c1_1⟩ := HB1.out.two (List.mem_cons_of_mem _ (List.mem_cons_self ..))
  go_wp2_with fail
  refine (HIs.out _).mono ?_
  rintro e2 w2 ⟨rfl, hbb⟩
  have HB2 := Lib.hid (HB1.out.keep hbb)
  clear c0_0 c0_1 c1_0 c1_1
  clear hbb HB1
  obtain ⟨c0_0, c0_1⟩ := HB2.out.two (List.mem_cons_self ..)
  obtain ⟨c1_0, c1_1⟩ := HB2.out.two (List.mem_cons_of_mem _ (List.mem_cons_self ..))
  go_wp2_with fail
  refine (HIm.out _).mono ?_
  rintro e3 w3 ⟨rfl, hbb⟩
  have HB3 := Lib.hid (HB2.out.keep hbb)
  clear c0_0 c0_1 c1_0 c1_1
  clear hbb HB2
  go_upto_region 5 with fail
  obtain ⟨V1, hV1⟩ : ∃ V1 : World, V1 = ((w3.alloc (.cells #[.int .i64 0, .int .i64 0, .int .i64 0, .int .i64 0, .int .i64 0] 29)).alloc (.cells #[.int .i64 0, .int .i64 0, .int .i64 0, .int .i64 0, .int .i64 0] 29)) := ⟨_, rfl⟩
  rw [← hV1]
  have HV1 := Lib.hid (show Bx w [(w3.heap.size + 1, #[.int .i64 0, .int .i64 0, .int .i64 0, .int .i64 0, .int .i64 0]), (w3.heap.size, #[.int .i64 0, .int .i64 0, .int .i64 0, .int .i64 0, .int .i64 0]), (w.heap.size + 1, #[.int .i64 c, .int .i64 d]), (w.heap.size, #[.int .i64 a, .int .i64 b])] V1 by rw [hV1]; simpa using ((HB3.out.new #[.int .i64 0, .int .i64 0, .int .i64 0, .int .i64 0, .int .i64 0] 29).new #[.int .i64 0, .int .i64 0, .int .i64 0, .int .i64 0, .int .i64 0] 29))
  clear hV1 HB3
  generalize w3.heap.size = B1 at *
  obtain ⟨c0_0, c0_1, c0_2, c0_3, c0_4⟩ := HV1.out.five (List.mem_cons_self ..)
  obtain ⟨c1_0, c1_1, c1_2, c1_3, c1_4⟩ := HV1.out.five (List.mem_cons_of_mem _ (List.mem_cons_self ..))
  obtain ⟨c2_0, c2_1⟩ := HV1.out.two (List.mem_cons_of_mem _ (List.mem_cons_of_mem _ (List.mem_cons_self ..)))
  obtain ⟨c3_0, c3_1⟩ := HV1.out.two (List.mem_cons_of_mem _ (List.mem_cons_of_mem _ (List.mem_cons_of_mem _ (List.mem_cons_self ..))))
  go_wp2_with fail
  refine (HC1.out _).mono ?_
  rintro e4 w4 ⟨rfl, hbb⟩
  have HB4 := Lib.hid (HV1.out.keep hbb)
  clear c0_0 c0_1 c0_2 c0_3 c0_4 c1_0 c1_1 c1_2 c1_3 c1_4 c2_0 c2_1 c3_0 c3_1
  clear hbb HV1
  obtain ⟨c0_0, c0_1, c0_2, c0_3, c0_4⟩ := HB4.out.five (List.mem_cons_self ..)
  obtain ⟨c1_0, c1_1, c1_2, c1_3, c1_4⟩ := HB4.out.five (List.mem_cons_of_mem _ (List.mem_cons_self ..))
  obtain ⟨c2_0, c2_1⟩ := HB4.out.two (List.mem_cons_of_mem _ (List.mem_cons_of_mem _ (List.mem_cons_self ..)))
  obtain ⟨c3_0, c3_1⟩ := HB4.out.two (List.mem_cons_of_mem _ (List.mem_cons_of_mem _ (List.mem_cons_of_mem _ (List.mem_cons_self ..))))
  go_wp2_with fail
  go_ret
  exact ⟨rfl, HB4.out.below⟩

set_option maxHeartbeats 4000000 in
set_option maxRecDepth 100000 in
theorem iso_law_two (a b c d : Int) (w : World) (h1 : aE a b = 0) (h2 : aE c d ≠ 0) :
    Calls Tryz.prog 3 #[.agg #[.int .i64 a, .int .i64 b], .agg #[.int .i64 c, .int .i64 d]] w fun e w' => e = .returned (.bool true) ∧ Below w.heap.size w w' := by
  have HA := Lib.hid awake3_any
  have hI : isoIE a b c d ≠ 0 := by rw [isoIE_bad2 h1]; exact h2
  have HIs := Lib.hid (fun w => qIsomorphic_bad a b c d w hI)
  have HIm := Lib.hid (fun w => qIsomorphism_bad a b c d w hI)
  have HC1 := Lib.hid (fun w => h1 ▸ rCheck_any a b w)
  have HC2 := Lib.hid (fun w => rCheck_any c d w)
  rw [isoIE_bad2 h1] at HIs HIm
  clear hI h1
  generalize aE c d = E at *
  have d0 : (E == 0) = false := f_beq h2
  have d1 : (E != 0) = true := bne_iff_ne.2 h2
  clear h2
  simp only [qv, Qt.zero] at HIm
  go_enter Tryz.func3, Tryz.ntmps3
  go_upto_region 1 with fail
  obtain ⟨W0, hW0⟩ : ∃ W0 : World, W0 = ((w.alloc (.cells #[.int .i64 a, .int .i64 b] 23)).alloc (.cells #[.int .i64 c, .int .i64 d] 23)) := ⟨_, rfl⟩
  rw [← hW0]
  have HB0 := Lib.hid (show Bx w [(w.heap.size + 1, #[.int .i64 c, .int .i64 d]), (w.heap.size, #[.int .i64 a, .int .i64 b])] W0 by rw [hW0]; simpa using (((Bx.nil (Below.refl w.heap.size w)).new #[.int .i64 a, .int .i64 b] 23).new #[.int .i64 c, .int .i64 d] 23))
  clear hW0
  go_wp2_with fail
  refine (HA.out _).mono ?_
  rintro e1 w1 ⟨rfl, hbb⟩
  have HB1 := Lib.hid (HB0.out.keep hbb)
  clear hbb HB0
  obtain ⟨c0_0, c0_1⟩ := HB1.out.two (List.mem_cons_self ..)
  obtain ⟨c1_0, c1_1⟩ := HB1.out.two (List.mem_cons_of_mem _ (List.mem_cons_self ..))
  go_wp2_with fail
  refine (HIs.out _).mono ?_
  rintro e2 w2 ⟨rfl, hbb⟩
  have HB2 := Lib.hid (HB1.out.keep hbb)
  clear c0_0 c0_1 c1_0 c1_1
  clear hbb HB1
  obtain ⟨c0_0, c0_1⟩ := HB2.out.two (List.mem_cons_self ..)
  obtain ⟨c1_0, c1_1⟩ := HB2.out.two (List.mem_cons_of_mem _ (List.mem_cons_self ..))
  go_wp2_with fail
  refine (HIm.out _).mono ?_
  rintro e3 w3 ⟨rfl, hbb⟩
  have HB3 := Lib.hid (HB2.out.keep hbb)
  clear c0_0 c0_1 c1_0 c1_1
  clear hbb HB2
  go_upto_region 5 with fail
  obtain ⟨V1, hV1⟩ : ∃ V1 : World, V1 = ((w3.alloc (.cells #[.int .i64 0, .int .i64 0, .int .i64 0, .int .i64 0, .int .i64 0] 29)).alloc (.cells #[.int .i64 0, .int .i64 0, .int .i64 0, .int .i64 0, .int .i64 0] 29)) := ⟨_, rfl⟩
  rw [← hV1]
  have HV1 := Lib.hid (show Bx w [(w3.heap.size + 1, #[.int .i64 0, .int .i64 0, .int .i64 0, .int .i64 0, .int .i64 0]), (w3.heap.size, #[.int .i64 0, .int .i64 0, .int .i64 0, .int .i64 0, .int .i64 0]), (w.heap.size + 1, #[.int .i64 c, .int .i64 d]), (w.heap.size, #[.int .i64 a, .int .i64 b])] V1 by rw [hV1]; simpa using ((HB3.out.new #[.int .i64 0, .int .i64 0, .int .i64 0, .int .i64 0, .int .i64 0] 29).new #[.int .i64 0, .int .i64 0, .int .i64 0, .int .i64 0, .int .i64 0] 29))
  clear hV1 HB3
  generalize w3.heap.size = B1 at *
  obtain ⟨c0_0, c0_1, c0_2, c0_3, c0_4⟩ := HV1.out.five (List.mem_cons_self ..)
  obtain ⟨c1_0, c1_1, c1_2, c1_3, c1_4⟩ := HV1.out.five (List.mem_cons_of_mem _ (List.mem_cons_self ..))
  obtain ⟨c2_0, c2_1⟩ := HV1.out.two (List.mem_cons_of_mem _ (List.mem_cons_of_mem _ (List.mem_cons_self ..)))
  obtain ⟨c3_0, c3_1⟩ := HV1.out.two (List.mem_cons_of_mem _ (List.mem_cons_of_mem _ (List.mem_cons_of_mem _ (List.mem_cons_self ..))))
  go_wp2_with fail
  refine (HC1.out _).mono ?_
  rintro e4 w4 ⟨rfl, hbb⟩
  have HB4 := Lib.hid (HV1.out.keep hbb)
  clear c0_0 c0_1 c0_2 c0_3 c0_4 c1_0 c1_1 c1_2 c1_3 c1_4 c2_0 c2_1 c3_0 c3_1
  clear hbb HV1
  obtain ⟨c0_0, c0_1, c0_2, c0_3, c0_4⟩ := HB4.out.five (List.mem_cons_self ..)
  obtain ⟨c1_0, c1_1, c1_2, c1_3, c1_4⟩ := HB4.out.five (List.mem_cons_of_mem _ (List.mem_cons_self ..))
  obtain ⟨c2_0, c2_1⟩ := HB4.out.two (List.mem_cons_of_mem _ (List.mem_cons_of_mem _ (List.mem_cons_self ..)))
  obtain ⟨c3_0, c3_1⟩ := HB4.out.two (List.mem_cons_of_mem _ (List.mem_cons_of_mem _ (List.mem_cons_of_mem _ (List.mem_cons_self ..))))
  go_wp2_with fail
  refine (HC2.out _).mono ?_
  rintro e5 w5 ⟨rfl, hbb⟩
  have HB5 := Lib.hid (HB4.out.keep hbb)
  clear c0_0 c0_1 c0_2 c0_3 c0_4 c1_0 c1_1 c1_2 c1_3 c1_4 c2_0 c2_1 c3_0 c3_1
  clear hbb HB4
  obtain ⟨c0_0, c0_1, c0_2, c0_3, c0_4⟩ := HB5.out.five (List.mem_cons_self ..)
  obtain ⟨c1_0, c1_1, c1_2, c1_3, c1_4⟩ := HB5.out.five (List.mem_cons_of_mem _ (List.mem_cons_self ..))
  obtain ⟨c2_0, c2_1⟩ := HB5.out.two (List.mem_cons_of_mem _ (List.mem_cons_of_mem _ (List.mem_cons_self ..)))
  obtain ⟨c3_0, c3_1⟩ := HB5.out.two (List.mem_cons_of_mem _ (List.mem_cons_of_mem _ (List.mem_cons_of_mem _ (List.mem_cons_self ..))))
  go_wp2_with fail
  go_ret
  exact ⟨rfl, HB5.out.below⟩

set_option maxHeartbeats 4000000 in
set_option maxRecDepth 100000 in
theorem iso_law_good (a b c d : Int) (w : World) (h1 : aE a b = 0) (h2 : aE c d = 0) :
    Calls Tryz.prog 3 #[.agg #[.int .i64 a, .int .i64 b], .agg #[.int .i64 c, .int .i64 d]] w fun e w' => e = .returned (.bool true) ∧ Below w.heap.size w w' := by
  have HA := Lib.hid awake3_any
  have HIs := Lib.hid (fun w => qIsomorphic_good a b c d w h1 h2)
  have HIm := Lib.hid (fun w => qIsomorphism_good a b c d w h1 h2)
  have HC1 := Lib.hid (fun w => h1 ▸ rCheck_any a b w)
  have HC2 := Lib.hid (fun w => h2 ▸ rCheck_any c d w)
  have HRm := Lib.hid (fun w => rIsomorphism_any a b c d w h1 h2)
  have HRi := Lib.hid (fun w => rIsomorphic_any a b c d w h1 h2)
  have hCk := fun (h : isoErr a b c d = 0) (A : Option Addr) (cp : Nat) (w : World) (hx : ShowsI w A (flatQ [isoXX a b c d, isoYY a b c d])) => iso_check h1 h2 h ▸ qCheckIso_any a b c d A [isoXX a b c d, isoYY a b c d] cp w hx
  clear h1 h2
  generalize isoErr a b c d = E at *
  generalize isoB a b c d = F at *
  generalize isoXX a b c d = XX at *
  generalize isoYY a b c d = YY at *
  obtain ⟨x0, x1, x2, x3, x4⟩ := XX
  obtain ⟨y0, y1, y2, y3, y4⟩ := YY
  simp only [List.length_cons, List.length_nil, Nat.reduceAdd] at hCk
  have HCk := Lib.hid hCk; clear hCk
  simp only [qv] at HIm HRm
  go_enter Tryz.func3, Tryz.ntmps3
  go_upto_region 1 with fail
  obtain ⟨W0, hW0⟩ : ∃ W0 : World, W0 = ((w.alloc (.cells #[.int .i64 a, .int .i64 b] 23)).alloc (.cells #[.int .i64 c, .int .i64 d] 23)) := ⟨_, rfl⟩
  rw [← hW0]
  have HB0 := Lib.hid (show Bx w [(w.heap.size + 1, #[.int .i64 c, .int .i64 d]), (w.heap.size, #[.int .i64 a, .int .i64 b])] W0 by rw [hW0]; simpa using (((Bx.nil (Below.refl w.heap.size w)).new #[.int .i64 a, .int .i64 b] 23).new #[.int .i64 c, .int .i64 d] 23))
  clear hW0
  go_wp2_with fail
  refine (HA.out _).mono ?_
  rintro e1 w1 ⟨rfl, hbb⟩
  have HB1 := Lib.hid (HB0.out.keep hbb)
  clear hbb HB0
  obtain ⟨c0_0, c0_1⟩ := HB1.out.two (List.mem_cons_self ..)
  obtain ⟨c1_0, c1_1⟩ := HB1.out.two (List.mem_cons_of_mem _ (List.mem_cons_self ..))
  go_wp2_with fail
  refine (HIs.out _).mono ?_
  rintro e2 w2 ⟨rfl, hbb⟩
  have HB2 := Lib.hid (HB1.out.keep hbb)
  clear c0_0 c0_1 c1_0 c1_1
  clear hbb HB1
  obtain ⟨c0_0, c0_1⟩ := HB2.out.two (List.mem_cons_self ..)
  obtain ⟨c1_0, c1_1⟩ := HB2.out.two (List.mem_cons_of_mem _ (List.mem_cons_self ..))
  go_wp2_with fail
  refine (HIm.out _).mono ?_
  rintro e3 w3 ⟨rfl, hbb⟩
  have HB3 := Lib.hid (HB2.out.keep hbb)
  clear c0_0 c0_1 c1_0 c1_1
  clear hbb HB2
  go_upto_region 5 with fail
  obtain ⟨V1, hV1⟩ : ∃ V1 : World, V1 = ((w3.alloc (.cells #[.int .i64 x0, .int .i64 x1, .int .i64 x2, .int .i64 x3, .int .i64 x4] 29)).alloc (.cells #[.int .i64 y0, .int .i64 y1, .int .i64 y2, .int .i64 y3, .int .i64 y4] 29)) := ⟨_, rfl⟩
  rw [← hV1]
  have HV1 := Lib.hid (show Bx w [(w3.heap.size + 1, #[.int .i64 y0, .int .i64 y1, .int .i64 y2, .int .i64 y3, .int .i64 y4]), (w3.heap.size, #[.int .i64 x0, .int .i64 x1, .int .i64 x2, .int .i64 x3, .int .i64 x4]), (w.heap.size + 1, #[.int .i64 c, .int .i64 d]), (w.heap.size, #[.int .i64 a, .int .i64 b])] V1 by rw [hV1]; simpa using ((HB3.out.new #[.int .i64 x0, .int .i64 x1, .int .i64 x2, .int .i64 x3, .int .i64 x4] 29).new #[.int .i64 y0, .int .i64 y1, .int .i64 y2, .int .i64 y3, .int .i64 y4] 29))
  clear hV1 HB3
  generalize w3.heap.size = B1 at *
  obtain ⟨c0_0, c0_1, c0_2, c0_3, c0_4⟩ := HV1.out.five (List.mem_cons_self ..)
  obtain ⟨c1_0, c1_1, c1_2, c1_3, c1_4⟩ := HV1.out.five (List.mem_cons_of_mem _ (List.mem_cons_self ..))
  obtain ⟨c2_0, c2_1⟩ := HV1.out.two (List.mem_cons_of_mem _ (List.mem_cons_of_mem _ (List.mem_cons_self ..)))
  obtain ⟨c3_0, c3_1⟩ := HV1.out.two (List.mem_cons_of_mem _ (List.mem_cons_of_mem _ (List.mem_cons_of_mem _ (List.mem_cons_self ..))))
  go_wp2_with fail
  refine (HC1.out _).mono ?_
  rintro e4 w4 ⟨rfl, hbb⟩
  have HB4 := Lib.hid (HV1.out.keep hbb)
  clear c0_0 c0_1 c0_2 c0_3 c0_4 c1_0 c1_1 c1_2 c1_3 c1_4 c2_0 c2_1 c3_0 c3_1
  clear hbb HV1
  obtain ⟨c0_0, c0_1, c0_2, c0_3, c0_4⟩ := HB4.out.five (List.mem_cons_self ..)
  obtain ⟨c1_0, c1_1, c1_2, c1_3, c1_4⟩ := HB4.out.five (List.mem_cons_of_mem _ (List.mem_cons_self ..))
  obtain ⟨c2_0, c2_1⟩ := HB4.out.two (List.mem_cons_of_mem _ (List.mem_cons_of_mem _ (List.mem_cons_self ..)))
  obtain ⟨c3_0, c3_1⟩ := HB4.out.two (List.mem_cons_of_mem _ (List.mem_cons_of_mem _ (List.mem_cons_of_mem _ (List.mem_cons_self ..))))
  go_wp2_with fail
  refine (HC2.out _).mono ?_
  rintro e5 w5 ⟨rfl, hbb⟩
  have HB5 := Lib.hid (HB4.out.keep hbb)
  clear c0_0 c0_1 c0_2 c0_3 c0_4 c1_0 c1_1 c1_2 c1_3 c1_4 c2_0 c2_1 c3_0 c3_1
  clear hbb HB4
  obtain ⟨c0_0, c0_1, c0_2, c0_3, c0_4⟩ := HB5.out.five (List.mem_cons_self ..)
  obtain ⟨c1_0, c1_1, c1_2, c1_3, c1_4⟩ := HB5.out.five (List.mem_cons_of_mem _ (List.mem_cons_self ..))
  obtain ⟨c2_0, c2_1⟩ := HB5.out.two (List.mem_cons_of_mem _ (List.mem_cons_of_mem _ (List.mem_cons_self ..)))
  obtain ⟨c3_0, c3_1⟩ := HB5.out.two (List.mem_cons_of_mem _ (List.mem_cons_of_mem _ (List.mem_cons_of_mem _ (List.mem_cons_self ..))))
  go_wp2_with fail
  refine (HRm.out _).mono ?_
  rintro e6 w6 ⟨rfl, hbb⟩
  have HB6 := Lib.hid (HB5.out.keep hbb)
  clear c0_0 c0_1 c0_2 c0_3 c0_4 c1_0 c1_1 c1_2 c1_3 c1_4 c2_0 c2_1 c3_0 c3_1
  clear hbb HB5
  go_upto_region 11 with fail
  obtain ⟨V2, hV2⟩ : ∃ V2 : World, V2 = ((w6.alloc (.cells #[.int .i64 x0, .int .i64 x1, .int .i64 x2, .int .i64 x3, .int .i64 x4] 29)).alloc (.cells #[.int .i64 y0, .int .i64 y1, .int .i64 y2, .int .i64 y3, .int .i64 y4] 29)) := ⟨_, rfl⟩
  rw [← hV2]
  have HV2 := Lib.hid (show Bx w [(w6.heap.size + 1, #[.int .i64 y0, .int .i64 y1, .int .i64 y2, .int .i64 y3, .int .i64 y4]), (w6.heap.size, #[.int .i64 x0, .int .i64 x1, .int .i64 x2, .int .i64 x3, .int .i64 x4]), (B1 + 1, #[.int .i64 y0, .int .i64 y1, .int .i64 y2, .int .i64 y3, .int .i64 y4]), (B1, #[.int .i64 x0, .int .i64 x1, .int .i64 x2, .int .i64 x3, .int .i64 x4]), (w.heap.size + 1, #[.int .i64 c, .int .i64 d]), (w.heap.size, #[.int .i64 a, .int .i64 b])] V2 by rw [hV2]; simpa using ((HB6.out.new #[.int .i64 x0, .int .i64 x1, .int .i64 x2, .int .i64 x3, .int .i64 x4] 29).new #[.int .i64 y0, .int .i64 y1, .int .i64 y2, .int .i64 y3, .int .i64 y4] 29))
  clear hV2 HB6
  generalize w6.heap.size = B2 at *
  obtain ⟨c0_0, c0_1, c0_2, c0_3, c0_4⟩ := HV2.out.five (List.mem_cons_self ..)
  obtain ⟨c1_0, c1_1, c1_2, c1_3, c1_4⟩ := HV2.out.five (List.mem_cons_of_mem _ (List.mem_cons_self ..))
  obtain ⟨c2_0, c2_1, c2_2, c2_3, c2_4⟩ := HV2.out.five (List.mem_cons_of_mem _ (List.mem_cons_of_mem _ (List.mem_cons_self ..)))
  obtain ⟨c3_0, c3_1, c3_2, c3_3, c3_4⟩ := HV2.out.five (List.mem_cons_of_mem _ (List.mem_cons_of_mem _ (List.mem_cons_of_mem _ (List.mem_cons_self ..))))
  obtain ⟨c4_0, c4_1⟩ := HV2.out.two (List.mem_cons_of_mem _ (List.mem_cons_of_mem _ (List.mem_cons_of_mem _ (List.mem_cons_of_mem _ (List.mem_cons_self ..)))))
  obtain ⟨c5_0, c5_1⟩ := HV2.out.two (List.mem_cons_of_mem _ (List.mem_cons_of_mem _ (List.mem_cons_of_mem _ (List.mem_cons_of_mem _ (List.mem_cons_of_mem _ (List.mem_cons_self ..))))))
  go_wp2_with fail
  refine (HRi.out _).mono ?_
  rintro e7 w7 ⟨rfl, hbb⟩
  have HB7 := Lib.hid (HV2.out.keep hbb)
  clear c0_0 c0_1 c0_2 c0_3 c0_4 c1_0 c1_1 c1_2 c1_3 c1_4 c2_0 c2_1 c2_2 c2_3 c2_4 c3_0 c3_1 c3_2 c3_3 c3_4 c4_0 c4_1 c5_0 c5_1
  clear hbb HV2
  obtain ⟨c0_0, c0_1, c0_2, c0_3, c0_4⟩ := HB7.out.five (List.mem_cons_self ..)
  obtain ⟨c1_0, c1_1, c1_2, c1_3, c1_4⟩ := HB7.out.five (List.mem_cons_of_mem _ (List.mem_cons_self ..))
  obtain ⟨c2_0, c2_1, c2_2, c2_3, c2_4⟩ := HB7.out.five (List.mem_cons_of_mem _ (List.mem_cons_of_mem _ (List.mem_cons_self ..)))
  obtain ⟨c3_0, c3_1, c3_2, c3_3, c3_4⟩ := HB7.out.five (List.mem_cons_of_mem _ (List.mem_cons_of_mem _ (List.mem_cons_of_mem _ (List.mem_cons_self ..))))
  obtain ⟨c4_0, c4_1⟩ := HB7.out.two (List.mem_cons_of_mem _ (List.mem_cons_of_mem _ (List.mem_cons_of_mem _ (List.mem_cons_of_mem _ (List.mem_cons_self ..)))))
  obtain ⟨c5_0, c5_1⟩ := HB7.out.two (List.mem_cons_of_mem _ (List.mem_cons_of_mem _ (List.mem_cons_of_mem _ (List.mem_cons_of_mem _ (List.mem_cons_of_mem _ (List.mem_cons_self ..))))))
  by_cases hE : E = 0
  · have HE := Lib.hid (HCk.out hE)
    have dE : (E != 0) = false := by rw [hE]; rfl
    clear HCk hE
    go_wp2_with fail
    refine (HE.out _ _ _ (shows_flat2 rfl x0 x1 x2 x3 x4 y0 y1 y2 y3 y4)).mono ?_
    rintro e9 w9 ⟨rfl, hbb⟩
    have HB9 := Lib.hid ((HB7.out.below.alloc HB7.out.below.size _).trans (hbb.mono (Nat.le_trans HB7.out.below.size (by simp))))
    clear hbb
    go_wp2_with fail
    go_ret
    exact ⟨rfl, HB9.out⟩
  · have dE : (E != 0) = true := bne_iff_ne.2 hE
    clear HCk
    go_wp2_with fail
    go_ret
    exact ⟨rfl, HB7.out.below⟩


theorem AlgebraIsomorphisms_law (a b c d : Int) (w : World) :
    Calls Tryz.prog 3 #[.agg #[.int .i64 a, .int .i64 b], .agg #[.int .i64 c, .int .i64 d]] w fun e w' => e = .returned (.bool true) ∧ Below w.heap.size w w' := by
  by_cases h1 : aE a b = 0
  · by_cases h2 : aE c d = 0
    · exact iso_law_good a b c d w h1 h2
    · exact iso_law_two a b c d w h1 h2
  · exact iso_law_one a b c d w h1
end Go.Proofs.YtfjmhfmhijhpkaaGreatDoor
