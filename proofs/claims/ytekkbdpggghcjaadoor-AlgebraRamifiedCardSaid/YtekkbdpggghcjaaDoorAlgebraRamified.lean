/- The law AlgebraRamified answers true at all algebras. -/
import Derived.Test.YtekkbdpggghcjaaDoorAlgebraChecks
import Derived.Test.YtekkbdpggghcjaaDoorRrm
namespace Go.Proofs.YtekkbdpggghcjaaDoor
open Go.RowKit FF

set_option maxHeartbeats 4000000 in
set_option maxRecDepth 100000 in
theorem Ram_1 (a b : Int) (w : World) (hE : aE a b = 0) :
    Calls Tryd.prog 6 #[.agg #[.int .i64 a, .int .i64 b]] w fun e w' => e = .returned (.bool true) ∧ Below w.heap.size w w' := by
  have HA := Lib.hid awake3_any
  have HR := Lib.hid (fun w => Ramified_good a b w hE)
  have hD := fun w => Discriminant_any a b w
  have e1 : discV a b = prodZ (ramL a b 999) := if_pos hE
  have hC := fun w => rCheck_any a b w
  simp only [hE, e1] at hD hC
  have HD := Lib.hid hD; have HRC := Lib.hid hC
  have HF := Lib.hid (fun w => Definite_good a b w hE)
  have HRR := Lib.hid (fun w => rRamified_any a b w hE)
  have HRD := Lib.hid (fun w => rDiscriminant_any a b w hE)
  have HDf := Lib.hid (fun w => rDefinite_any a b w)
  have HI := Lib.hid (fun A A' c c' w h h' => (Ints_any A A' (ramL a b 999) (ramL a b 999) c c' w h h' (by have := ramL_len a b 999; unfold maxLen; omega)))
  simp only [decide_true] at HI
  unfold RamPost at HRR
  clear hD hC e1 hE
  generalize prodZ (ramL a b 999) = D at *
  generalize ramL a b 999 = L at *
  generalize defB a b = F at *
  go_enter Tryd.func6, Tryd.ntmps6
  go_upto_region 1 with fail
  obtain ⟨W0, hW0⟩ : ∃ W0 : World, W0 = (w.alloc (.cells #[.int .i64 a, .int .i64 b] 23)) := ⟨_, rfl⟩
  rw [← hW0]
  have HB0 := Lib.hid (show Bx w [(w.heap.size, #[.int .i64 a, .int .i64 b])] W0 by rw [hW0]; simpa using ((Bx.nil (Below.refl w.heap.size w)).new #[.int .i64 a, .int .i64 b] 23))
  clear hW0
  go_wp2_with fail
  refine (HA.out _).mono ?_
  rintro e1 w1 ⟨rfl, hbb⟩
  have HB1 := Lib.hid (HB0.out.keep hbb)
  clear hbb HB0
  obtain ⟨c0_0, c0_1⟩ := HB1.out.two (List.mem_cons_self ..)
  go_wp2_with fail
  refine (HR.out _).mono ?_
  rintro e2 w2 ⟨A, c, rfl, hs, hlc, hcm, hbb⟩
  have HB2 := Lib.hid (HB1.out.keep hbb)
  clear c0_0 c0_1
  clear hbb HB1
  have HS0 := Lib.hid hs
  clear hs
  obtain ⟨c0_0, c0_1⟩ := HB2.out.two (List.mem_cons_self ..)
  go_wp2_with fail
  refine (HD.out _).mono ?_
  rintro e3 w3 ⟨rfl, hbb⟩
  have HB3 := Lib.hid (HB2.out.keep hbb)
  have HS3 := Lib.hid (HS0.out.below hbb)
  clear HS0
  clear c0_0 c0_1
  clear hbb HB2
  obtain ⟨c0_0, c0_1⟩ := HB3.out.two (List.mem_cons_self ..)
  go_wp2_with fail
  refine (HF.out _).mono ?_
  rintro e4 w4 ⟨rfl, hbb⟩
  have HB4 := Lib.hid (HB3.out.keep hbb)
  have HS4 := Lib.hid (HS3.out.below hbb)
  clear HS3
  clear c0_0 c0_1
  clear hbb HB3
  obtain ⟨c0_0, c0_1⟩ := HB4.out.two (List.mem_cons_self ..)
  go_wp2_with fail
  refine (HRC.out _).mono ?_
  rintro e5 w5 ⟨rfl, hbb⟩
  have HB5 := Lib.hid (HB4.out.keep hbb)
  have HS5 := Lib.hid (HS4.out.below hbb)
  clear HS4
  clear c0_0 c0_1
  clear hbb HB4
  obtain ⟨c0_0, c0_1⟩ := HB5.out.two (List.mem_cons_self ..)
  go_wp2_with fail
  refine (HRR.out _).mono ?_
  rintro e9 w9 ⟨A2, c2, rfl, hs2, hlc2, hcm2, hbb⟩
  have HB9 := Lib.hid (HB5.out.keep hbb)
  have HT := Lib.hid hs2
  have HS9 := Lib.hid (HS5.out.below hbb)
  clear c0_0 c0_1
  clear hbb hs2 HB5 HS5
  obtain ⟨c0_0, c0_1⟩ := HB9.out.two (List.mem_cons_self ..)
  go_wp2_with fail
  refine (HI.out A A2 c c2 _ HS9.out HT.out).mono ?_
  rintro e8 w8 ⟨rfl, n8, rfl⟩
  have HB8 := Lib.hid (HB9.out.drewN n8)
  clear HB9 HS9 HT
  clear c0_0 c0_1
  obtain ⟨c0_0, c0_1⟩ := HB8.out.two (List.mem_cons_self ..)
  go_wp2_with fail
  refine (HDf.out _).mono ?_
  rintro e6 w6 ⟨rfl, hbb⟩
  have HB6 := Lib.hid (HB8.out.keep hbb)
  clear c0_0 c0_1
  clear hbb HB8
  obtain ⟨c0_0, c0_1⟩ := HB6.out.two (List.mem_cons_self ..)
  go_wp2_with fail
  refine (HRD.out _).mono ?_
  rintro e7 w7 ⟨rfl, hbb⟩
  have HB7 := Lib.hid (HB6.out.keep hbb)
  clear c0_0 c0_1
  clear hbb HB6
  go_wp2_with fail
  go_ret
  exact ⟨rfl, HB7.out.below⟩

set_option maxHeartbeats 4000000 in
set_option maxRecDepth 100000 in
theorem Ram_2 (a b : Int) (w : World) (hE : aE a b ≠ 0) :
    Calls Tryd.prog 6 #[.agg #[.int .i64 a, .int .i64 b]] w fun e w' => e = .returned (.bool true) ∧ Below w.heap.size w w' := by
  have HA := Lib.hid awake3_any
  have HR := Lib.hid (fun w => Ramified_bad a b w hE)
  have hD := fun w => Discriminant_any a b w
  have e1 : discV a b = 0 := if_neg hE
  simp only [e1] at hD
  have HD := Lib.hid hD; have HRC := Lib.hid (fun w => rCheck_any a b w)
  have HF := Lib.hid (fun w => Definite_bad a b w hE)
  have d1 : (aE a b == 0) = false := f_beq hE
  clear hD e1 hE
  generalize aE a b = E at *
  go_enter Tryd.func6, Tryd.ntmps6
  go_upto_region 1 with fail
  obtain ⟨W0, hW0⟩ : ∃ W0 : World, W0 = (w.alloc (.cells #[.int .i64 a, .int .i64 b] 23)) := ⟨_, rfl⟩
  rw [← hW0]
  have HB0 := Lib.hid (show Bx w [(w.heap.size, #[.int .i64 a, .int .i64 b])] W0 by rw [hW0]; simpa using ((Bx.nil (Below.refl w.heap.size w)).new #[.int .i64 a, .int .i64 b] 23))
  clear hW0
  go_wp2_with fail
  refine (HA.out _).mono ?_
  rintro e1 w1 ⟨rfl, hbb⟩
  have HB1 := Lib.hid (HB0.out.keep hbb)
  clear hbb HB0
  obtain ⟨c0_0, c0_1⟩ := HB1.out.two (List.mem_cons_self ..)
  go_wp2_with fail
  refine (HR.out _).mono ?_
  rintro e2 w2 ⟨rfl, hbb⟩
  have HB2 := Lib.hid (HB1.out.keep hbb)
  clear c0_0 c0_1
  clear hbb HB1
  obtain ⟨c0_0, c0_1⟩ := HB2.out.two (List.mem_cons_self ..)
  go_wp2_with fail
  refine (HD.out _).mono ?_
  rintro e3 w3 ⟨rfl, hbb⟩
  have HB3 := Lib.hid (HB2.out.keep hbb)
  clear c0_0 c0_1
  clear hbb HB2
  obtain ⟨c0_0, c0_1⟩ := HB3.out.two (List.mem_cons_self ..)
  go_wp2_with fail
  refine (HF.out _).mono ?_
  rintro e4 w4 ⟨rfl, hbb⟩
  have HB4 := Lib.hid (HB3.out.keep hbb)
  clear c0_0 c0_1
  clear hbb HB3
  obtain ⟨c0_0, c0_1⟩ := HB4.out.two (List.mem_cons_self ..)
  go_wp2_with fail
  refine (HRC.out _).mono ?_
  rintro e5 w5 ⟨rfl, hbb⟩
  have HB5 := Lib.hid (HB4.out.keep hbb)
  clear c0_0 c0_1
  clear hbb HB4
  go_wp2_with fail
  go_ret
  exact ⟨rfl, HB5.out.below⟩

theorem AlgebraRamified_law (a b : Int) (w : World) :
    Calls Tryd.prog 6 #[.agg #[.int .i64 a, .int .i64 b]] w fun e w' => e = .returned (.bool true) ∧ Below w.heap.size w w' := by
  by_cases hE : aE a b = 0
  · exact Ram_1 a b w hE
  · exact Ram_2 a b w hE
end Go.Proofs.YtekkbdpggghcjaaDoor
