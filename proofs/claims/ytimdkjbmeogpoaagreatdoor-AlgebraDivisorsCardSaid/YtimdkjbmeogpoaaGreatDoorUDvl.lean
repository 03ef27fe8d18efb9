/- The walks of the law AlgebraDivisors: it answers true at all algebras. -/
import Derived.Test.YtimdkjbmeogpoaaGreatDoorUSpp
import Derived.Test.YtimdkjbmeogpoaaGreatDoorUSps
import Derived.Test.YtimdkjbmeogpoaaGreatDoorUSpu2
import Derived.Test.YtimdkjbmeogpoaaGreatDoorUSm3
namespace Go.Proofs.YtimdkjbmeogpoaaGreatDoor
open Go.RowKit FF
theorem nm_null {a b : Int} {q : Qt} (h : nmQ a b q = 0) : nmN a b q = 0 := by
 unfold nmN; rw [h]; unfold lowN; simp
theorem def_no {a b : Int} (hE : aE a b = 0) (h : ramL a b 999 = []) : defB a b = false := by
 have := ram_even hE
 rw [h] at this
 change (0 + (if defB a b = true then 1 else 0)) % 2 = 0 at this
 cases hd : defB a b
 ·rfl
 ·rw [hd] at this; simp at this
theorem below_put8 {w W : World} {b : Nat} (h : Below w.heap.size w W) (hb : w.heap.size ≤ b) (u0 u1 u2 u3 u4 u5 u6 u7 : Value) : Below w.heap.size w ((((((((W.setCell ⟨b, 0, none⟩ u0).setCell ⟨b, 1, none⟩ u1).setCell ⟨b, 2, none⟩ u2).setCell ⟨b, 3, none⟩ u3).setCell ⟨b, 4, none⟩ u4).setCell ⟨b, 5, none⟩ u5).setCell ⟨b, 6, none⟩ u6).setCell ⟨b, 7, none⟩ u7) :=
 (((((((h.setCell hb ..).setCell hb ..).setCell hb ..).setCell hb ..).setCell hb ..).setCell hb ..).setCell hb ..).setCell hb ..
set_option maxHeartbeats 4000000 in
set_option maxRecDepth 100000 in
theorem split_bad (a b : Int) (w : World) (hE : spE a b ≠ 0) :
  Calls Tryz.prog 11 #[.agg #[.int .i64 a, .int .i64 b]] w fun e w' => e = .returned (.tuple #[.agg #[.int .i64 0, .int .i64 0, .int .i64 0, .int .i64 0, .int .i64 0, .int .i64 0, .int .i64 0, .int .i64 0], .agg #[.int .i64 0, .int .i64 0, .int .i64 0, .int .i64 0, .int .i64 0, .int .i64 0, .int .i64 0, .int .i64 0], .int .i64 (spE a b)]) ∧ Below w.heap.size w w' := by
 have hC := fun w => splits_any a b w
 generalize spE a b = E at *
 have HC := lhd hC
 have d1 : (E == 0) = false := f_beq hE
 have d2 : (E != 0) = true := bne_iff_ne.2 hE
 clear hC hE
 go_enter Tryz.func11, Tryz.ntmps11
 go_upto_region 1 with fail
 obtain ⟨W0, hW0⟩ : ∃ W0 : World, W0 = (((w.alloc (.cells #[.int .i64 a, .int .i64 b] 23)).alloc (.cells #[.int .i64 0, .int .i64 0, .int .i64 0, .int .i64 0, .int .i64 0, .int .i64 0, .int .i64 0, .int .i64 0] 27)).alloc (.cells #[.int .i64 0, .int .i64 0, .int .i64 0, .int .i64 0, .int .i64 0, .int .i64 0, .int .i64 0, .int .i64 0] 27)) := ⟨_, rfl⟩
 rw [← hW0]
 have HB0 := lhd (show Bx w [(w.heap.size + 2, #[.int .i64 0, .int .i64 0, .int .i64 0, .int .i64 0, .int .i64 0, .int .i64 0, .int .i64 0, .int .i64 0]), (w.heap.size + 1, #[.int .i64 0, .int .i64 0, .int .i64 0, .int .i64 0, .int .i64 0, .int .i64 0, .int .i64 0, .int .i64 0]), (w.heap.size, #[.int .i64 a, .int .i64 b])] W0 by rw [hW0]; simpa using ((((Bx.nil (Below.refl w.heap.size w)).new #[.int .i64 a, .int .i64 b] 23).new #[.int .i64 0, .int .i64 0, .int .i64 0, .int .i64 0, .int .i64 0, .int .i64 0, .int .i64 0, .int .i64 0] 27).new #[.int .i64 0, .int .i64 0, .int .i64 0, .int .i64 0, .int .i64 0, .int .i64 0, .int .i64 0, .int .i64 0] 27))
 clear hW0
 obtain ⟨c2_0, c2_1⟩ := HB0.out.two lm2
 go_wp2_with fail
 refine (HC.out _).mono ?_
 rintro e1 w1 ⟨rfl, hbb⟩
 have HB1 := lhd (HB0.out.keep hbb)
 clear c2_0 c2_1
 clear hbb HB0
 obtain ⟨c0, c1, c2, c3, c4, c5, c6, c7⟩ := (HB1.out.own _ lm0).2.eight
 obtain ⟨k0, k1, k2, k3, k4, k5, k6, k7⟩ := (HB1.out.own _ lm1).2.eight
 have hcA := (HB1.out.own _ lm1).2; have hcB := (HB1.out.own _ lm0).2
 obtain ⟨f0, f1, f2, f3, f4, f5, f6, f7⟩ := hcA.fr8; obtain ⟨g0, g1, g2, g3, g4, g5, g6, g7⟩ := hcB.fr8
 have hP1 := hcA.put8 (.int .i64 0) (.int .i64 0) (.int .i64 0) (.int .i64 0) (.int .i64 0) (.int .i64 0) (.int .i64 0) (.int .i64 0)
 have hO1 := Only.put8 w1 (w.heap.size + 1) (.int .i64 0) (.int .i64 0) (.int .i64 0) (.int .i64 0) (.int .i64 0) (.int .i64 0) (.int .i64 0) (.int .i64 0)
 have hP2 := (hcB.only hO1 (by omega)).put8 (.int .i64 0) (.int .i64 0) (.int .i64 0) (.int .i64 0) (.int .i64 0) (.int .i64 0) (.int .i64 0) (.int .i64 0)
 have hP3 := hP1.only (Only.put8 _ (w.heap.size + 2) (.int .i64 0) (.int .i64 0) (.int .i64 0) (.int .i64 0) (.int .i64 0) (.int .i64 0) (.int .i64 0) (.int .i64 0)) (by omega)
 have hB9 := below_put8 (below_put8 HB1.out.below (b := w.heap.size + 1) (by omega) (.int .i64 0) (.int .i64 0) (.int .i64 0) (.int .i64 0) (.int .i64 0) (.int .i64 0) (.int .i64 0) (.int .i64 0)) (b := w.heap.size + 2) (by omega) (.int .i64 0) (.int .i64 0) (.int .i64 0) (.int .i64 0) (.int .i64 0) (.int .i64 0) (.int .i64 0) (.int .i64 0)
 obtain ⟨W9, hW9⟩ : ∃ W9, ((((((((((((((((w1.setCell ⟨w.heap.size + 1, 0, none⟩ (.int .i64 0)).setCell ⟨w.heap.size + 1, 1, none⟩ (.int .i64 0)).setCell ⟨w.heap.size + 1, 2, none⟩ (.int .i64 0)).setCell ⟨w.heap.size + 1, 3, none⟩ (.int .i64 0)).setCell ⟨w.heap.size + 1, 4, none⟩ (.int .i64 0)).setCell ⟨w.heap.size + 1, 5, none⟩ (.int .i64 0)).setCell ⟨w.heap.size + 1, 6, none⟩ (.int .i64 0)).setCell ⟨w.heap.size + 1, 7, none⟩ (.int .i64 0)).setCell ⟨w.heap.size + 2, 0, none⟩ (.int .i64 0)).setCell ⟨w.heap.size + 2, 1, none⟩ (.int .i64 0)).setCell ⟨w.heap.size + 2, 2, none⟩ (.int .i64 0)).setCell ⟨w.heap.size + 2, 3, none⟩ (.int .i64 0)).setCell ⟨w.heap.size + 2, 4, none⟩ (.int .i64 0)).setCell ⟨w.heap.size + 2, 5, none⟩ (.int .i64 0)).setCell ⟨w.heap.size + 2, 6, none⟩ (.int .i64 0)).setCell ⟨w.heap.size + 2, 7, none⟩ (.int .i64 0)) = W9 := ⟨_, rfl⟩
 rw [hW9] at hP2 hP3 hB9
 clear hP1 hO1 hcA hcB
 go_wp2_with fail
 try rw [hW9]
 obtain ⟨q0, q1, q2, q3, q4, q5, q6, q7⟩ := hP3.eight; obtain ⟨r0, r1, r2, r3, r4, r5, r6, r7⟩ := hP2.eight
 refine bodyPost_ret (v := .tuple #[.agg #[.int .i64 0, .int .i64 0, .int .i64 0, .int .i64 0, .int .i64 0, .int .i64 0, .int .i64 0, .int .i64 0], .agg #[.int .i64 0, .int .i64 0, .int .i64 0, .int .i64 0, .int .i64 0, .int .i64 0, .int .i64 0, .int .i64 0], .int .i64 E]) (by simp [results, Tryz.results11, go_sem, q0, q1, q2, q3, q4, q5, q6, q7, r0, r1, r2, r3, r4, r5, r6, r7]) rfl ?_
 exact ⟨rfl, hB9⟩
set_option maxHeartbeats 4000000 in
set_option maxRecDepth 100000 in
theorem rSplits_any (a b : Int) (w : World) (hE : aE a b = 0) :
  Calls Tryz.prog 12 #[.agg #[.int .i64 a, .int .i64 b]] w fun e w' => e = .returned (.bool (decide (ramL a b 999 = []))) ∧ Below w.heap.size w w' := by
 have HD := lhd (fun w => rDefinite_any a b w)
 have HR := lhd (fun w => (show Calls Tryz.prog 42 #[.agg #[.int .i64 a, .int .i64 b]] w (RamPost w (ramL a b 999)) from rRamified_any a b w hE))
 unfold RamPost at HR
 by_cases hL : ramL a b 999 = []
 ·have hd := def_no hE hL
  rw [hd] at HD; rw [hL] at HR; simp only [hL]
  clear hE hd hL
  go_enter Tryz.func12, Tryz.ntmps12
  go_upto_region 1 with fail
  obtain ⟨W0, hW0⟩ : ∃ W0 : World, W0 = (w.alloc (.cells #[.int .i64 a, .int .i64 b] 23)) := ⟨_, rfl⟩
  rw [← hW0]
  have HB0 := lhd (show Bx w [(w.heap.size, #[.int .i64 a, .int .i64 b])] W0 by rw [hW0]; simpa using ((Bx.nil (Below.refl w.heap.size w)).new #[.int .i64 a, .int .i64 b] 23))
  clear hW0
  obtain ⟨c0_0, c0_1⟩ := HB0.out.two lm0
  go_wp2_with fail
  refine (HD.out _).mono ?_
  rintro e1 w1 ⟨rfl, hbb⟩
  have HB1 := lhd (HB0.out.keep hbb)
  clear c0_0 c0_1
  clear hbb HB0
  obtain ⟨c0_0, c0_1⟩ := HB1.out.two lm0
  go_wp2_with fail
  refine (HR.out _).mono ?_
  rintro e2 w2 ⟨A, c, rfl, -, -, -, hbb⟩
  have HB2 := lhd (HB1.out.keep hbb)
  clear c0_0 c0_1
  clear hbb HB1
  go_wp2_with fail
  go_ret
  exact ⟨rfl, HB2.out.below⟩
 ·have hl : 0 < (ramL a b 999).length := List.length_pos_iff.2 hL
  have e1 : decide (ramL a b 999 = []) = false := decide_eq_false hL
  rw [e1]
  clear hE e1 hL
  generalize ramL a b 999 = L at *
  have d1 : ((L.length : Int) == 0) = false := f_beq (by omega)
  have d2 : decide (L.length = 0) = false := decide_eq_false (by omega)
  cases hd : defB a b
  ·rw [hd] at HD; clear hd
   go_enter Tryz.func12, Tryz.ntmps12
   go_upto_region 1 with fail
   obtain ⟨W0, hW0⟩ : ∃ W0 : World, W0 = (w.alloc (.cells #[.int .i64 a, .int .i64 b] 23)) := ⟨_, rfl⟩
   rw [← hW0]
   have HB0 := lhd (show Bx w [(w.heap.size, #[.int .i64 a, .int .i64 b])] W0 by rw [hW0]; simpa using ((Bx.nil (Below.refl w.heap.size w)).new #[.int .i64 a, .int .i64 b] 23))
   clear hW0
   obtain ⟨c0_0, c0_1⟩ := HB0.out.two lm0
   go_wp2_with fail
   refine (HD.out _).mono ?_
   rintro e1 w1 ⟨rfl, hbb⟩
   have HB1 := lhd (HB0.out.keep hbb)
   clear c0_0 c0_1
   clear hbb HB0
   obtain ⟨c0_0, c0_1⟩ := HB1.out.two lm0
   go_wp2_with fail
   refine (HR.out _).mono ?_
   rintro e2 w2 ⟨A, c, rfl, -, -, -, hbb⟩
   have HB2 := lhd (HB1.out.keep hbb)
   clear c0_0 c0_1
   clear hbb HB1
   go_wp2_with fail
   go_ret
   exact ⟨rfl, HB2.out.below⟩
  ·rw [hd] at HD; clear hd HR
   go_enter Tryz.func12, Tryz.ntmps12
   go_upto_region 1 with fail
   obtain ⟨W0, hW0⟩ : ∃ W0 : World, W0 = (w.alloc (.cells #[.int .i64 a, .int .i64 b] 23)) := ⟨_, rfl⟩
   rw [← hW0]
   have HB0 := lhd (show Bx w [(w.heap.size, #[.int .i64 a, .int .i64 b])] W0 by rw [hW0]; simpa using ((Bx.nil (Below.refl w.heap.size w)).new #[.int .i64 a, .int .i64 b] 23))
   clear hW0
   obtain ⟨c0_0, c0_1⟩ := HB0.out.two lm0
   go_wp2_with fail
   refine (HD.out _).mono ?_
   rintro e1 w1 ⟨rfl, hbb⟩
   have HB1 := lhd (HB0.out.keep hbb)
   clear c0_0 c0_1
   clear hbb HB0
   go_wp2_with fail
   go_ret
   exact ⟨rfl, HB1.out.below⟩
set_option maxHeartbeats 4000000 in
set_option maxRecDepth 100000 in
theorem dv_bad (a b : Int) (w : World) (h : aE a b ≠ 0) :
  Calls Tryz.prog 4 #[.agg #[.int .i64 a, .int .i64 b]] w fun e w' => e = .returned (.bool true) ∧ Below w.heap.size w w' := by
 have HA := lhd awake3_any
 have hs : spE a b ≠ 0 := by rw [spE_bad h]; exact h
 have hD0 := fun w => Divisor_any a b w
 have HD := lhd (fun w => (show Calls Tryz.prog 10 #[.agg #[.int .i64 a, .int .i64 b]] w fun e w' => e = .returned (.tuple #[.agg #[.int .i64 0, .int .i64 0, .int .i64 0, .int .i64 0, .int .i64 0], .int .i64 (spE a b)]) ∧ Below w.heap.size w w' from (hD0 w).mono fun e w' h => by
  obtain ⟨q, rfl, -, hz, hb⟩ := h
  exact ⟨by rw [hz hs]; rfl, hb⟩))
 have HS := lhd (fun w => split_bad a b w hs)
 have HC := lhd (fun w => rCheck_any a b w)
 rw [spE_bad h] at HD HS
 clear hs hD0
 generalize aE a b = E at *
 have d0 : (E == 0) = false := f_beq h
 have d1 : (E != 0) = true := bne_iff_ne.2 h
 clear h
 go_enter Tryz.func4, Tryz.ntmps4
 go_upto_region 1 with fail
 obtain ⟨W0, hW0⟩ : ∃ W0 : World, W0 = (w.alloc (.cells #[.int .i64 a, .int .i64 b] 23)) := ⟨_, rfl⟩
 rw [← hW0]
 have HB0 := lhd (show Bx w [(w.heap.size, #[.int .i64 a, .int .i64 b])] W0 by rw [hW0]; simpa using ((Bx.nil (Below.refl w.heap.size w)).new #[.int .i64 a, .int .i64 b] 23))
 clear hW0
 go_wp2_with fail
 refine (HA.out _).mono ?_
 rintro e1 w1 ⟨rfl, hbb⟩
 have HB1 := lhd (HB0.out.keep hbb)
 clear hbb HB0
 obtain ⟨c0_0, c0_1⟩ := HB1.out.two lm0
 go_wp2_with fail
 refine (HD.out _).mono ?_
 rintro e2 w2 ⟨rfl, hbb⟩
 have HB2 := lhd (HB1.out.keep hbb)
 clear c0_0 c0_1
 clear hbb HB1
 go_upto_region 4 with fail
 obtain ⟨V1, hV1⟩ : ∃ V1 : World, V1 = w2.alloc (.cells #[.int .i64 0, .int .i64 0, .int .i64 0, .int .i64 0, .int .i64 0] 35) := ⟨_, rfl⟩
 rw [← hV1]
 have HV1 := lhd (show Bx w [(w2.heap.size, #[.int .i64 0, .int .i64 0, .int .i64 0, .int .i64 0, .int .i64 0]), (w.heap.size, #[.int .i64 a, .int .i64 b])] V1 from hV1 ▸ HB2.out.new _ _)
 have hlt1 := HB2.out.lt lm0
 clear hV1 HB2
 generalize w2.heap.size = B1 at *
 obtain ⟨c1_0, c1_1⟩ := HV1.out.two lm1
 go_wp2_with fail
 refine (HS.out _).mono ?_
 rintro e3 w3 ⟨rfl, hbb⟩
 have HB3 := lhd (HV1.out.keep hbb)
 clear c1_0 c1_1
 clear hbb HV1
 go_upto_region 5 with fail
 obtain ⟨V2, hV2⟩ : ∃ V2 : World, V2 = ((w3.alloc (.cells #[.int .i64 0, .int .i64 0, .int .i64 0, .int .i64 0, .int .i64 0, .int .i64 0, .int .i64 0, .int .i64 0] 27)).alloc (.cells #[.int .i64 0, .int .i64 0, .int .i64 0, .int .i64 0, .int .i64 0, .int .i64 0, .int .i64 0, .int .i64 0] 27)) := ⟨_, rfl⟩
 rw [← hV2]
 have HV2 := lhd (show Bx w [(w3.heap.size + 1, #[.int .i64 0, .int .i64 0, .int .i64 0, .int .i64 0, .int .i64 0, .int .i64 0, .int .i64 0, .int .i64 0]), (w3.heap.size, #[.int .i64 0, .int .i64 0, .int .i64 0, .int .i64 0, .int .i64 0, .int .i64 0, .int .i64 0, .int .i64 0]), (B1, #[.int .i64 0, .int .i64 0, .int .i64 0, .int .i64 0, .int .i64 0]), (w.heap.size, #[.int .i64 a, .int .i64 b])] V2 by rw [hV2]; simpa using ((HB3.out.new #[.int .i64 0, .int .i64 0, .int .i64 0, .int .i64 0, .int .i64 0, .int .i64 0, .int .i64 0, .int .i64 0] 27).new #[.int .i64 0, .int .i64 0, .int .i64 0, .int .i64 0, .int .i64 0, .int .i64 0, .int .i64 0, .int .i64 0] 27))
 clear hV2 HB3
 generalize w3.heap.size = B2 at *
 obtain ⟨c3_0, c3_1⟩ := HV2.out.two lm3
 go_wp2_with fail
 refine (HC.out _).mono ?_
 rintro e4 w4 ⟨rfl, hbb⟩
 have HB4 := lhd (HV2.out.keep hbb)
 clear c3_0 c3_1
 clear hbb HV2
 have c0_0 := (HB4.out.own _ lm0).2.2.1 0 (by simp)
 have c0_1 := (HB4.out.own _ lm0).2.2.1 1 (by simp)
 have c0_2 := (HB4.out.own _ lm0).2.2.1 2 (by simp)
 have c0_3 := (HB4.out.own _ lm0).2.2.1 3 (by simp)
 have c0_4 := (HB4.out.own _ lm0).2.2.1 4 (by simp)
 have c0_5 := (HB4.out.own _ lm0).2.2.1 5 (by simp)
 have c0_6 := (HB4.out.own _ lm0).2.2.1 6 (by simp)
 have c0_7 := (HB4.out.own _ lm0).2.2.1 7 (by simp)
 simp only [List.getElem?_toArray, List.getElem?_cons_zero, List.getElem?_cons_succ] at c0_0 c0_1 c0_2 c0_3 c0_4 c0_5 c0_6 c0_7
 have c1_0 := (HB4.out.own _ lm1).2.2.1 0 (by simp)
 have c1_1 := (HB4.out.own _ lm1).2.2.1 1 (by simp)
 have c1_2 := (HB4.out.own _ lm1).2.2.1 2 (by simp)
 have c1_3 := (HB4.out.own _ lm1).2.2.1 3 (by simp)
 have c1_4 := (HB4.out.own _ lm1).2.2.1 4 (by simp)
 have c1_5 := (HB4.out.own _ lm1).2.2.1 5 (by simp)
 have c1_6 := (HB4.out.own _ lm1).2.2.1 6 (by simp)
 have c1_7 := (HB4.out.own _ lm1).2.2.1 7 (by simp)
 simp only [List.getElem?_toArray, List.getElem?_cons_zero, List.getElem?_cons_succ] at c1_0 c1_1 c1_2 c1_3 c1_4 c1_5 c1_6 c1_7
 obtain ⟨c2_0, c2_1, c2_2, c2_3, c2_4⟩ := HB4.out.five lm2
 obtain ⟨c3_0, c3_1⟩ := HB4.out.two lm3
 go_wp2_with fail
 go_ret
 exact ⟨rfl, HB4.out.below⟩
set_option maxHeartbeats 4000000 in
set_option maxRecDepth 100000 in
theorem dv_none (a b : Int) (w : World) (h : aE a b = 0) (hr : ramL a b 999 ≠ []) :
  Calls Tryz.prog 4 #[.agg #[.int .i64 a, .int .i64 b]] w fun e w' => e = .returned (.bool true) ∧ Below w.heap.size w w' := by
 have HA := lhd awake3_any
 have he : spE a b = 13 := by unfold spE; rw [if_pos h, if_neg hr]
 have hs : spE a b ≠ 0 := by rw [he]; decide
 have hD0 := fun w => Divisor_any a b w
 have HD := lhd (fun w => (show Calls Tryz.prog 10 #[.agg #[.int .i64 a, .int .i64 b]] w fun e w' => e = .returned (.tuple #[.agg #[.int .i64 0, .int .i64 0, .int .i64 0, .int .i64 0, .int .i64 0], .int .i64 (spE a b)]) ∧ Below w.heap.size w w' from (hD0 w).mono fun e w' h => by
  obtain ⟨q, rfl, -, hz, hb⟩ := h
  exact ⟨by rw [hz hs]; rfl, hb⟩))
 have HS := lhd (fun w => split_bad a b w hs)
 have HC := lhd (fun w => h ▸ rCheck_any a b w)
 have HP := lhd (fun w => (show Calls Tryz.prog 12 #[.agg #[.int .i64 a, .int .i64 b]] w fun e w' => e = .returned (.bool false) ∧ Below w.heap.size w w' from decide_eq_false hr ▸ rSplits_any a b w h))
 rw [he] at HD HS
 clear hs hD0 he h hr
 go_enter Tryz.func4, Tryz.ntmps4
 go_upto_region 1 with fail
 obtain ⟨W0, hW0⟩ : ∃ W0 : World, W0 = (w.alloc (.cells #[.int .i64 a, .int .i64 b] 23)) := ⟨_, rfl⟩
 rw [← hW0]
 have HB0 := lhd (show Bx w [(w.heap.size, #[.int .i64 a, .int .i64 b])] W0 by rw [hW0]; simpa using ((Bx.nil (Below.refl w.heap.size w)).new #[.int .i64 a, .int .i64 b] 23))
 clear hW0
 go_wp2_with fail
 refine (HA.out _).mono ?_
 rintro e1 w1 ⟨rfl, hbb⟩
 have HB1 := lhd (HB0.out.keep hbb)
 clear hbb HB0
 obtain ⟨c0_0, c0_1⟩ := HB1.out.two lm0
 go_wp2_with fail
 refine (HD.out _).mono ?_
 rintro e2 w2 ⟨rfl, hbb⟩
 have HB2 := lhd (HB1.out.keep hbb)
 clear c0_0 c0_1
 clear hbb HB1
 go_upto_region 4 with fail
 obtain ⟨V1, hV1⟩ : ∃ V1 : World, V1 = w2.alloc (.cells #[.int .i64 0, .int .i64 0, .int .i64 0, .int .i64 0, .int .i64 0] 35) := ⟨_, rfl⟩
 rw [← hV1]
 have HV1 := lhd (show Bx w [(w2.heap.size, #[.int .i64 0, .int .i64 0, .int .i64 0, .int .i64 0, .int .i64 0]), (w.heap.size, #[.int .i64 a, .int .i64 b])] V1 from hV1 ▸ HB2.out.new _ _)
 have hlt1 := HB2.out.lt lm0
 clear hV1 HB2
 generalize w2.heap.size = B1 at *
 obtain ⟨c1_0, c1_1⟩ := HV1.out.two lm1
 go_wp2_with fail
 refine (HS.out _).mono ?_
 rintro e3 w3 ⟨rfl, hbb⟩
 have HB3 := lhd (HV1.out.keep hbb)
 clear c1_0 c1_1
 clear hbb HV1
 go_upto_region 5 with fail
 obtain ⟨V2, hV2⟩ : ∃ V2 : World, V2 = ((w3.alloc (.cells #[.int .i64 0, .int .i64 0, .int .i64 0, .int .i64 0, .int .i64 0, .int .i64 0, .int .i64 0, .int .i64 0] 27)).alloc (.cells #[.int .i64 0, .int .i64 0, .int .i64 0, .int .i64 0, .int .i64 0, .int .i64 0, .int .i64 0, .int .i64 0] 27)) := ⟨_, rfl⟩
 rw [← hV2]
 have HV2 := lhd (show Bx w [(w3.heap.size + 1, #[.int .i64 0, .int .i64 0, .int .i64 0, .int .i64 0, .int .i64 0, .int .i64 0, .int .i64 0, .int .i64 0]), (w3.heap.size, #[.int .i64 0, .int .i64 0, .int .i64 0, .int .i64 0, .int .i64 0, .int .i64 0, .int .i64 0, .int .i64 0]), (B1, #[.int .i64 0, .int .i64 0, .int .i64 0, .int .i64 0, .int .i64 0]), (w.heap.size, #[.int .i64 a, .int .i64 b])] V2 by rw [hV2]; simpa using ((HB3.out.new #[.int .i64 0, .int .i64 0, .int .i64 0, .int .i64 0, .int .i64 0, .int .i64 0, .int .i64 0, .int .i64 0] 27).new #[.int .i64 0, .int .i64 0, .int .i64 0, .int .i64 0, .int .i64 0, .int .i64 0, .int .i64 0, .int .i64 0] 27))
 clear hV2 HB3
 generalize w3.heap.size = B2 at *
 obtain ⟨c3_0, c3_1⟩ := HV2.out.two lm3
 go_wp2_with fail
 refine (HC.out _).mono ?_
 rintro e4 w4 ⟨rfl, hbb⟩
 have HB4 := lhd (HV2.out.keep hbb)
 clear c3_0 c3_1
 clear hbb HV2
 obtain ⟨c3_0, c3_1⟩ := HB4.out.two lm3
 go_wp2_with fail
 refine (HP.out _).mono ?_
 rintro e5 w5 ⟨rfl, hbb⟩
 have HB5 := lhd (HB4.out.keep hbb)
 clear c3_0 c3_1
 clear hbb HB4
 have c0_0 := (HB5.out.own _ lm0).2.2.1 0 (by simp)
 have c0_1 := (HB5.out.own _ lm0).2.2.1 1 (by simp)
 have c0_2 := (HB5.out.own _ lm0).2.2.1 2 (by simp)
 have c0_3 := (HB5.out.own _ lm0).2.2.1 3 (by simp)
 have c0_4 := (HB5.out.own _ lm0).2.2.1 4 (by simp)
 have c0_5 := (HB5.out.own _ lm0).2.2.1 5 (by simp)
 have c0_6 := (HB5.out.own _ lm0).2.2.1 6 (by simp)
 have c0_7 := (HB5.out.own _ lm0).2.2.1 7 (by simp)
 simp only [List.getElem?_toArray, List.getElem?_cons_zero, List.getElem?_cons_succ] at c0_0 c0_1 c0_2 c0_3 c0_4 c0_5 c0_6 c0_7
 have c1_0 := (HB5.out.own _ lm1).2.2.1 0 (by simp)
 have c1_1 := (HB5.out.own _ lm1).2.2.1 1 (by simp)
 have c1_2 := (HB5.out.own _ lm1).2.2.1 2 (by simp)
 have c1_3 := (HB5.out.own _ lm1).2.2.1 3 (by simp)
 have c1_4 := (HB5.out.own _ lm1).2.2.1 4 (by simp)
 have c1_5 := (HB5.out.own _ lm1).2.2.1 5 (by simp)
 have c1_6 := (HB5.out.own _ lm1).2.2.1 6 (by simp)
 have c1_7 := (HB5.out.own _ lm1).2.2.1 7 (by simp)
 simp only [List.getElem?_toArray, List.getElem?_cons_zero, List.getElem?_cons_succ] at c1_0 c1_1 c1_2 c1_3 c1_4 c1_5 c1_6 c1_7
 obtain ⟨c2_0, c2_1, c2_2, c2_3, c2_4⟩ := HB5.out.five lm2
 obtain ⟨c3_0, c3_1⟩ := HB5.out.two lm3
 go_wp2_with fail
 go_ret
 exact ⟨rfl, HB5.out.below⟩
set_option maxHeartbeats 4000000 in
set_option maxRecDepth 100000 in
theorem dv_good (a b : Int) (w : World) (h : aE a b = 0) (hr : ramL a b 999 = []) :
  Calls Tryz.prog 4 #[.agg #[.int .i64 a, .int .i64 b]] w fun e w' => e = .returned (.bool true) ∧ Below w.heap.size w w' := by
 have HA := lhd awake3_any
 have hs : spE a b = 0 := spE_zero.2 ⟨h, hr⟩
 have HD := lhd (fun w => hs ▸ Divisor_any a b w)
 have HS := lhd (fun w => split_good a b w hs)
 have HC := lhd (fun w => h ▸ rCheck_any a b w)
 have HP := lhd (fun w => (show Calls Tryz.prog 12 #[.agg #[.int .i64 a, .int .i64 b]] w fun e w' => e = .returned (.bool true) ∧ Below w.heap.size w w' from decide_eq_true hr ▸ rSplits_any a b w h))
 have HE := lhd h
 unfold ZdPost at HD; unfold SplitPost at HS
 simp only [qv] at HD
 clear hs h hr
 go_enter Tryz.func4, Tryz.ntmps4
 go_upto_region 1 with fail
 obtain ⟨W0, hW0⟩ : ∃ W0 : World, W0 = (w.alloc (.cells #[.int .i64 a, .int .i64 b] 23)) := ⟨_, rfl⟩
 rw [← hW0]
 have HB0 := lhd (show Bx w [(w.heap.size, #[.int .i64 a, .int .i64 b])] W0 by rw [hW0]; simpa using ((Bx.nil (Below.refl w.heap.size w)).new #[.int .i64 a, .int .i64 b] 23))
 clear hW0
 go_wp2_with fail
 refine (HA.out _).mono ?_
 rintro e1 w1 ⟨rfl, hbb⟩
 have HB1 := lhd (HB0.out.keep hbb)
 clear hbb HB0
 obtain ⟨c0_0, c0_1⟩ := HB1.out.two lm0
 go_wp2_with fail
 refine (HD.out _).mono ?_
 rintro e2 w2 ⟨q, rfl, hq, hqz, hbb⟩
 have HB2 := lhd (HB1.out.keep hbb)
 clear c0_0 c0_1
 clear hbb HB1
 obtain ⟨q0, q1, q2, q3, q4⟩ := q
 obtain ⟨hqB, hq0, hqn, hq1⟩ := hq trivial
 clear hq hqz
 go_upto_region 4 with fail
 obtain ⟨V1, hV1⟩ : ∃ V1 : World, V1 = w2.alloc (.cells #[.int .i64 q0, .int .i64 q1, .int .i64 q2, .int .i64 q3, .int .i64 q4] 35) := ⟨_, rfl⟩
 rw [← hV1]
 have HV1 := lhd (show Bx w [(w2.heap.size, #[.int .i64 q0, .int .i64 q1, .int .i64 q2, .int .i64 q3, .int .i64 q4]), (w.heap.size, #[.int .i64 a, .int .i64 b])] V1 from hV1 ▸ HB2.out.new _ _)
 have hlt1 := HB2.out.lt lm0
 clear hV1 HB2
 generalize w2.heap.size = B1 at *
 obtain ⟨c1_0, c1_1⟩ := HV1.out.two lm1
 go_wp2_with fail
 refine (HS.out _).mono ?_
 rintro e3 w3 ⟨mx0, mx1, mx2, mx3, mx4, mx5, mx6, mx7, my0, my1, my2, my3, my4, my5, my6, my7, hfx, hfy, hsp, rfl, hbb⟩
 have HB3 := lhd (HV1.out.keep hbb)
 clear c1_0 c1_1
 clear hbb HV1
 go_upto_region 5 with fail
 obtain ⟨V2, hV2⟩ : ∃ V2 : World, V2 = ((w3.alloc (.cells #[.int .i64 mx0, .int .i64 mx1, .int .i64 mx2, .int .i64 mx3, .int .i64 mx4, .int .i64 mx5, .int .i64 mx6, .int .i64 mx7] 27)).alloc (.cells #[.int .i64 my0, .int .i64 my1, .int .i64 my2, .int .i64 my3, .int .i64 my4, .int .i64 my5, .int .i64 my6, .int .i64 my7] 27)) := ⟨_, rfl⟩
 rw [← hV2]
 have HV2 := lhd (show Bx w [(w3.heap.size + 1, #[.int .i64 my0, .int .i64 my1, .int .i64 my2, .int .i64 my3, .int .i64 my4, .int .i64 my5, .int .i64 my6, .int .i64 my7]), (w3.heap.size, #[.int .i64 mx0, .int .i64 mx1, .int .i64 mx2, .int .i64 mx3, .int .i64 mx4, .int .i64 mx5, .int .i64 mx6, .int .i64 mx7]), (B1, #[.int .i64 q0, .int .i64 q1, .int .i64 q2, .int .i64 q3, .int .i64 q4]), (w.heap.size, #[.int .i64 a, .int .i64 b])] V2 by rw [hV2]; simpa using ((HB3.out.new #[.int .i64 mx0, .int .i64 mx1, .int .i64 mx2, .int .i64 mx3, .int .i64 mx4, .int .i64 mx5, .int .i64 mx6, .int .i64 mx7] 27).new #[.int .i64 my0, .int .i64 my1, .int .i64 my2, .int .i64 my3, .int .i64 my4, .int .i64 my5, .int .i64 my6, .int .i64 my7] 27))
 clear hV2 HB3
 generalize w3.heap.size = B2 at *
 obtain ⟨c3_0, c3_1⟩ := HV2.out.two lm3
 go_wp2_with fail
 refine (HC.out _).mono ?_
 rintro e4 w4 ⟨rfl, hbb⟩
 have HB4 := lhd (HV2.out.keep hbb)
 clear c3_0 c3_1
 clear hbb HV2
 obtain ⟨c3_0, c3_1⟩ := HB4.out.two lm3
 go_wp2_with fail
 refine (HP.out _).mono ?_
 rintro e5 w5 ⟨rfl, hbb⟩
 have HB5 := lhd (HB4.out.keep hbb)
 clear c3_0 c3_1
 clear hbb HB4
 have HQ := lhd (fun w => (qE_zero.2 hqB) ▸ rCheckQuat_any ⟨q0, q1, q2, q3, q4⟩ w)
 have hfb := fitBound_of hqB
 have HNl := lhd (fun w => (show Calls Tryz.prog 14 #[qv ⟨q0, q1, q2, q3, q4⟩] w fun r w' => r = .returned (qv ⟨q0, q1, q2, q3, q4⟩) ∧ Below w.heap.size w w' from by have h := rNormal_any ⟨q0, q1, q2, q3, q4⟩ w hfb (by have := (qB_iff.1 hqB).2.2.2.2; simp only at this ⊢; omega); rw [hqn] at h; exact h))
 have HNm := lhd (fun w => (show Calls Tryz.prog 15 #[.agg #[.int .i64 a, .int .i64 b], qv ⟨q0, q1, q2, q3, q4⟩] w fun r w' => r = .returned (fvv 0 (nmD a b ⟨q0, q1, q2, q3, q4⟩)) ∧ Below w.heap.size w w' from by have h := rNorm_any a b q0 q1 q2 q3 q4 w hqB HE.out; rw [nm_null hq0] at h; exact h))
 obtain ⟨⟨k0, k1, k2, k3⟩, ⟨k4, k5, k6, k7⟩⟩ := And.intro hfx hfy
 have HCk := lhd (fun w => hsp ▸ qCheckSplit a b mx0 mx1 mx2 mx3 mx4 mx5 mx6 mx7 my0 my1 my2 my3 my4 my5 my6 my7 w HE.out (frB_64 k0).1 (frB_64 k0).2 (frB_64 k1).1 (frB_64 k1).2 (frB_64 k2).1 (frB_64 k2).2 (frB_64 k3).1 (frB_64 k3).2 (frB_64 k4).1 (frB_64 k4).2 (frB_64 k5).1 (frB_64 k5).2 (frB_64 k6).1 (frB_64 k6).2 (frB_64 k7).1 (frB_64 k7).2)
 have HRk := lhd (fun w => hsp ▸ Ref.rCheckSplit a b mx0 mx1 mx2 mx3 mx4 mx5 mx6 mx7 my0 my1 my2 my3 my4 my5 my6 my7 w HE.out (frB_64 k0).1 (frB_64 k0).2 (frB_64 k1).1 (frB_64 k1).2 (frB_64 k2).1 (frB_64 k2).2 (frB_64 k3).1 (frB_64 k3).2 (frB_64 k4).1 (frB_64 k4).2 (frB_64 k5).1 (frB_64 k5).2 (frB_64 k6).1 (frB_64 k6).2 (frB_64 k7).1 (frB_64 k7).2)
 generalize nmD a b ⟨q0, q1, q2, q3, q4⟩ = ND at *
 have H1 := lhd hq1
 clear hfx hfy hsp k0 k1 k2 k3 k4 k5 k6 k7 hfb hqn hq0 hqB hq1 HE
 simp only [qv, fvv] at HQ HNl HNm
 obtain ⟨c2_0, c2_1, c2_2, c2_3, c2_4⟩ := HB5.out.five lm2
 go_wp2_with fail
 refine (HQ.out _).mono ?_
 rintro e6 w6 ⟨rfl, hbb⟩
 have HB6 := lhd (HB5.out.keep hbb)
 clear c2_0 c2_1 c2_2 c2_3 c2_4
 clear hbb HB5
 go_upto_region 12 with fail
 refine wp_region_inv (w.heap.size) ((0, 67, .agg #[.int .i64 q0, .int .i64 q1, .int .i64 q2, .int .i64 q3, .int .i64 q4]) :: (1, 68, .agg #[.int .i64 q0, .int .i64 q1, .int .i64 q2, .int .i64 q3, .int .i64 q4]) :: (2, 69, .agg #[.int .i64 q0, .int .i64 q1, .int .i64 q2, .int .i64 q3, .int .i64 q4]) :: (3, 70, .bool true) :: (4, 71, .bool true) :: (5, 72, .agg #[.int .i64 q0, .int .i64 q1, .int .i64 q2, .int .i64 q3, .int .i64 q4]) :: (6, 73, .agg #[.int .i64 0, .int .i64 0, .int .i64 0, .int .i64 0, .int .i64 1]) :: (7, 74, .bool true) :: (8, 75, .bool true) :: (9, 76, .bool true) :: (10, 77, .agg #[.int .i64 a, .int .i64 b]) :: (11, 78, .agg #[.int .i64 q0, .int .i64 q1, .int .i64 q2, .int .i64 q3, .int .i64 q4]) :: (12, 79, .agg #[.int .i64 0, .int .i64 ND]) :: (13, 80, .int .i64 0) :: (14, 81, .bool true) :: (15, 82, .bool true) :: (16, 83, .bool true) :: (17, 84, .agg #[.int .i64 a, .int .i64 b]) :: (18, 85, .agg #[.int .i64 mx0, .int .i64 mx1, .int .i64 mx2, .int .i64 mx3, .int .i64 mx4, .int .i64 mx5, .int .i64 mx6, .int .i64 mx7]) :: (19, 86, .agg #[.int .i64 my0, .int .i64 my1, .int .i64 my2, .int .i64 my3, .int .i64 my4, .int .i64 my5, .int .i64 my6, .int .i64 my7]) :: (20, 87, .int .i64 0) :: (21, 88, .bool true) :: (22, 89, .bool true) :: (23, 90, .bool true) :: (24, 91, .agg #[.int .i64 a, .int .i64 b]) :: (25, 92, .agg #[.int .i64 mx0, .int .i64 mx1, .int .i64 mx2, .int .i64 mx3, .int .i64 mx4, .int .i64 mx5, .int .i64 mx6, .int .i64 mx7]) :: (26, 93, .agg #[.int .i64 my0, .int .i64 my1, .int .i64 my2, .int .i64 my3, .int .i64 my4, .int .i64 my5, .int .i64 my6, .int .i64 my7]) :: (27, 94, .int .i64 0) :: (28, 95, .bool true) :: (29, 96, .bool true) :: (30, 2, .bool true) :: []) [] [⟨B2 + 1, 999, #[.int .i64 my0, .int .i64 my1, .int .i64 my2, .int .i64 my3, .int .i64 my4, .int .i64 my5, .int .i64 my6, .int .i64 my7], #[.int .i64 my0, .int .i64 my1, .int .i64 my2, .int .i64 my3, .int .i64 my4, .int .i64 my5, .int .i64 my6, .int .i64 my7]⟩, ⟨B2, 999, #[.int .i64 mx0, .int .i64 mx1, .int .i64 mx2, .int .i64 mx3, .int .i64 mx4, .int .i64 mx5, .int .i64 mx6, .int .i64 mx7], #[.int .i64 mx0, .int .i64 mx1, .int .i64 mx2, .int .i64 mx3, .int .i64 mx4, .int .i64 mx5, .int .i64 mx6, .int .i64 mx7]⟩, ⟨B1, 999, #[.int .i64 q0, .int .i64 q1, .int .i64 q2, .int .i64 q3, .int .i64 q4], #[.int .i64 q0, .int .i64 q1, .int .i64 q2, .int .i64 q3, .int .i64 q4]⟩, ⟨w.heap.size, 999, #[.int .i64 a, .int .i64 b], #[.int .i64 a, .int .i64 b]⟩] (67 :: 68 :: 69 :: 70 :: 71 :: 72 :: 73 :: 74 :: 75 :: 76 :: 77 :: 78 :: 79 :: 80 :: 81 :: 82 :: 83 :: 84 :: 85 :: 86 :: 87 :: 88 :: 89 :: 90 :: 91 :: 92 :: 93 :: 94 :: 95 :: 96 :: 2 :: []) ?_ (by kernel_rfl) (by kernel_rfl) (by kernel_rfl) ?_ ?_ ?_
 rotate_left 2
 refine forall_ops ⟨?_, ?_, ?_, ?_, ?_, ?_, ?_, ?_, ?_, ?_, ?_, ?_, ?_, ?_, ?_, ?_, ?_, ?_, ?_, ?_, ?_, ?_, ?_, ?_, ?_, ?_, ?_, ?_, ?_, ?_, ?_, trivial⟩
 rotate_right 2
 ·exact HB6.out.below.size
 ·intro c hc
  simp only [List.mem_cons, List.not_mem_nil, or_false] at hc
  rcases hc with rfl | rfl | rfl | rfl
  ·exact ⟨(HB6.out.own _ lm0).2, .inr rfl⟩
  ·exact ⟨(HB6.out.own _ lm1).2, .inr rfl⟩
  ·exact ⟨(HB6.out.own _ lm2).2, .inr rfl⟩
  ·exact ⟨(HB6.out.own _ lm3).2, .inr rfl⟩
 ·refine .inl ⟨.inl rfl, .inl ⟨.agg #[.int .i64 q0, .int .i64 q1, .int .i64 q2, .int .i64 q3, .int .i64 q4], val_only (d := 67) (by kernel_rfl), by simp, by simp, fun y W hB hO hV K Q' hK => ?_⟩⟩
  have hc : Cells W (B1) #[.int .i64 q0, .int .i64 q1, .int .i64 q2, .int .i64 q3, .int .i64 q4] := hO _ lm2 rfl
  have kk := hc.five
  have k0 := kk.1
  have k1 := kk.2.1
  have k2 := kk.2.2.1
  have k3 := kk.2.2.2.1
  have k4 := kk.2.2.2.2
  clear kk
  simp only [fr, putAll, List.foldl_cons, List.foldl_nil, List.setIfInBounds_toArray, List.set_cons_zero, List.set_cons_succ] at hK ⊢
  go_simp
  exact hK W (Below.refl _ _)
 ·refine .inl ⟨.inl rfl, .inl ⟨.agg #[.int .i64 q0, .int .i64 q1, .int .i64 q2, .int .i64 q3, .int .i64 q4], val_only (d := 68) (by kernel_rfl), by simp, by simp, fun y W hB hO hV K Q' hK => ?_⟩⟩
  have y67 : y 67 = .agg #[.int .i64 q0, .int .i64 q1, .int .i64 q2, .int .i64 q3, .int .i64 q4] := hV (0, 67, .agg #[.int .i64 q0, .int .i64 q1, .int .i64 q2, .int .i64 q3, .int .i64 q4]) (val_get (by kernel_rfl)) (by kernel_rfl)
  simp only [fr, putAll, List.foldl_cons, List.foldl_nil, List.setIfInBounds_toArray, List.set_cons_zero, List.set_cons_succ] at hK ⊢
  simp only [y67] at hK ⊢
  go_simp
  refine (HNl.out W).mono ?_
  intro e w' h
  rw [h.1]
  exact hK w' h.2
 ·refine .inl ⟨.inl rfl, .inl ⟨.agg #[.int .i64 q0, .int .i64 q1, .int .i64 q2, .int .i64 q3, .int .i64 q4], val_only (d := 69) (by kernel_rfl), by simp, by simp, fun y W hB hO hV K Q' hK => ?_⟩⟩
  have hc : Cells W (B1) #[.int .i64 q0, .int .i64 q1, .int .i64 q2, .int .i64 q3, .int .i64 q4] := hO _ lm2 rfl
  have kk := hc.five
  have k0 := kk.1
  have k1 := kk.2.1
  have k2 := kk.2.2.1
  have k3 := kk.2.2.2.1
  have k4 := kk.2.2.2.2
  clear kk
  simp only [fr, putAll, List.foldl_cons, List.foldl_nil, List.setIfInBounds_toArray, List.set_cons_zero, List.set_cons_succ] at hK ⊢
  go_simp
  exact hK W (Below.refl _ _)
 ·refine .inl ⟨.inl rfl, .inl ⟨.bool true, val_only (d := 70) (by kernel_rfl), by simp, by simp, fun y W hB hO hV K Q' hK => ?_⟩⟩
  have y68 : y 68 = .agg #[.int .i64 q0, .int .i64 q1, .int .i64 q2, .int .i64 q3, .int .i64 q4] := hV (1, 68, .agg #[.int .i64 q0, .int .i64 q1, .int .i64 q2, .int .i64 q3, .int .i64 q4]) (val_get (by kernel_rfl)) (by kernel_rfl)
  have y69 : y 69 = .agg #[.int .i64 q0, .int .i64 q1, .int .i64 q2, .int .i64 q3, .int .i64 q4] := hV (2, 69, .agg #[.int .i64 q0, .int .i64 q1, .int .i64 q2, .int .i64 q3, .int .i64 q4]) (val_get (by kernel_rfl)) (by kernel_rfl)
  simp only [fr, putAll, List.foldl_cons, List.foldl_nil, List.setIfInBounds_toArray, List.set_cons_zero, List.set_cons_succ] at hK ⊢
  simp only [y68, y69] at hK ⊢
  go_simp
  exact hK W (Below.refl _ _)
 ·refine .inl ⟨.inl rfl, .inl ⟨.bool true, val_only (d := 71) (by kernel_rfl), by simp, by simp, fun y W hB hO hV K Q' hK => ?_⟩⟩
  have y70 : y 70 = .bool true := hV (3, 70, .bool true) (val_get (by kernel_rfl)) (by kernel_rfl)
  simp only [fr, putAll, List.foldl_cons, List.foldl_nil, List.setIfInBounds_toArray, List.set_cons_zero, List.set_cons_succ] at hK ⊢
  simp only [y70] at hK ⊢
  go_simp
  exact hK W (Below.refl _ _)
 ·refine .inl ⟨.inr ⟨4, true, rfl, by kernel_rfl, (4, 71, .bool true), val_get (by kernel_rfl), rfl, rfl⟩, .inl ⟨.agg #[.int .i64 q0, .int .i64 q1, .int .i64 q2, .int .i64 q3, .int .i64 q4], val_only (d := 72) (by kernel_rfl), by simp, by simp, fun y W hB hO hV K Q' hK => ?_⟩⟩
  have hc : Cells W (B1) #[.int .i64 q0, .int .i64 q1, .int .i64 q2, .int .i64 q3, .int .i64 q4] := hO _ lm2 rfl
  have kk := hc.five
  have k0 := kk.1
  have k1 := kk.2.1
  have k2 := kk.2.2.1
  have k3 := kk.2.2.2.1
  have k4 := kk.2.2.2.2
  clear kk
  simp only [fr, putAll, List.foldl_cons, List.foldl_nil, List.setIfInBounds_toArray, List.set_cons_zero, List.set_cons_succ] at hK ⊢
  go_simp
  exact hK W (Below.refl _ _)
 ·refine .inl ⟨.inr ⟨4, true, rfl, by kernel_rfl, (4, 71, .bool true), val_get (by kernel_rfl), rfl, rfl⟩, .inl ⟨.agg #[.int .i64 0, .int .i64 0, .int .i64 0, .int .i64 0, .int .i64 1], val_only (d := 73) (by kernel_rfl), by simp, by simp, fun y W hB hO hV K Q' hK => ?_⟩⟩
  simp only [fr, putAll, List.foldl_cons, List.foldl_nil, List.setIfInBounds_toArray, List.set_cons_zero, List.set_cons_succ] at hK ⊢
  go_simp
  exact hK W (Below.refl _ _)
 ·refine .inl ⟨.inr ⟨4, true, rfl, by kernel_rfl, (4, 71, .bool true), val_get (by kernel_rfl), rfl, rfl⟩, .inl ⟨.bool true, val_only (d := 74) (by kernel_rfl), by simp, by simp, fun y W hB hO hV K Q' hK => ?_⟩⟩
  have y72 : y 72 = .agg #[.int .i64 q0, .int .i64 q1, .int .i64 q2, .int .i64 q3, .int .i64 q4] := hV (5, 72, .agg #[.int .i64 q0, .int .i64 q1, .int .i64 q2, .int .i64 q3, .int .i64 q4]) (val_get (by kernel_rfl)) (by kernel_rfl)
  have y73 : y 73 = .agg #[.int .i64 0, .int .i64 0, .int .i64 0, .int .i64 0, .int .i64 1] := hV (6, 73, .agg #[.int .i64 0, .int .i64 0, .int .i64 0, .int .i64 0, .int .i64 1]) (val_get (by kernel_rfl)) (by kernel_rfl)
  simp only [fr, putAll, List.foldl_cons, List.foldl_nil, List.setIfInBounds_toArray, List.set_cons_zero, List.set_cons_succ] at hK ⊢
  simp only [y72, y73] at hK ⊢
  go_simp
  repeat' split
  all_goals first
   | exact hK W (Below.refl _ _)
   | (subst_vars; exact absurd rfl H1.out)
 ·refine .inl ⟨.inl rfl, .inl ⟨.bool true, val_only (d := 75) (by kernel_rfl), by simp, by simp, fun y W hB hO hV K Q' hK => ?_⟩⟩
  have y71 : y 71 = .bool true := hV (4, 71, .bool true) (val_get (by kernel_rfl)) (by kernel_rfl)
  have y74 : y 74 = .bool true := hV (7, 74, .bool true) (val_get (by kernel_rfl)) (by kernel_rfl)
  simp only [fr, putAll, List.foldl_cons, List.foldl_nil, List.setIfInBounds_toArray, List.set_cons_zero, List.set_cons_succ] at hK ⊢
  simp only [y71, y74] at hK ⊢
  go_simp
  exact hK W (Below.refl _ _)
 ·refine .inl ⟨.inl rfl, .inl ⟨.bool true, val_only (d := 76) (by kernel_rfl), by simp, by simp, fun y W hB hO hV K Q' hK => ?_⟩⟩
  have y75 : y 75 = .bool true := hV (8, 75, .bool true) (val_get (by kernel_rfl)) (by kernel_rfl)
  simp only [fr, putAll, List.foldl_cons, List.foldl_nil, List.setIfInBounds_toArray, List.set_cons_zero, List.set_cons_succ] at hK ⊢
  simp only [y75] at hK ⊢
  go_simp
  exact hK W (Below.refl _ _)
 ·refine .inl ⟨.inr ⟨9, true, rfl, by kernel_rfl, (9, 76, .bool true), val_get (by kernel_rfl), rfl, rfl⟩, .inl ⟨.agg #[.int .i64 a, .int .i64 b], val_only (d := 77) (by kernel_rfl), by simp, by simp, fun y W hB hO hV K Q' hK => ?_⟩⟩
  have hc : Cells W (w.heap.size) #[.int .i64 a, .int .i64 b] := hO _ lm3 rfl
  have kk := hc.two
  have k0 := kk.1
  have k1 := kk.2
  clear kk
  simp only [fr, putAll, List.foldl_cons, List.foldl_nil, List.setIfInBounds_toArray, List.set_cons_zero, List.set_cons_succ] at hK ⊢
  go_simp
  exact hK W (Below.refl _ _)
 ·refine .inl ⟨.inr ⟨9, true, rfl, by kernel_rfl, (9, 76, .bool true), val_get (by kernel_rfl), rfl, rfl⟩, .inl ⟨.agg #[.int .i64 q0, .int .i64 q1, .int .i64 q2, .int .i64 q3, .int .i64 q4], val_only (d := 78) (by kernel_rfl), by simp, by simp, fun y W hB hO hV K Q' hK => ?_⟩⟩
  have hc : Cells W (B1) #[.int .i64 q0, .int .i64 q1, .int .i64 q2, .int .i64 q3, .int .i64 q4] := hO _ lm2 rfl
  have kk := hc.five
  have k0 := kk.1
  have k1 := kk.2.1
  have k2 := kk.2.2.1
  have k3 := kk.2.2.2.1
  have k4 := kk.2.2.2.2
  clear kk
  simp only [fr, putAll, List.foldl_cons, List.foldl_nil, List.setIfInBounds_toArray, List.set_cons_zero, List.set_cons_succ] at hK ⊢
  go_simp
  exact hK W (Below.refl _ _)
 ·refine .inl ⟨.inr ⟨9, true, rfl, by kernel_rfl, (9, 76, .bool true), val_get (by kernel_rfl), rfl, rfl⟩, .inl ⟨.agg #[.int .i64 0, .int .i64 ND], val_only (d := 79) (by kernel_rfl), by simp, by simp, fun y W hB hO hV K Q' hK => ?_⟩⟩
  have y77 : y 77 = .agg #[.int .i64 a, .int .i64 b] := hV (10, 77, .agg #[.int .i64 a, .int .i64 b]) (val_get (by kernel_rfl)) (by kernel_rfl)
  have y78 : y 78 = .agg #[.int .i64 q0, .int .i64 q1, .int .i64 q2, .int .i64 q3, .int .i64 q4] := hV (11, 78, .agg #[.int .i64 q0, .int .i64 q1, .int .i64 q2, .int .i64 q3, .int .i64 q4]) (val_get (by kernel_rfl)) (by kernel_rfl)
  simp only [fr, putAll, List.foldl_cons, List.foldl_nil, List.setIfInBounds_toArray, List.set_cons_zero, List.set_cons_succ] at hK ⊢
  simp only [y77, y78] at hK ⊢
  go_simp
  refine (HNm.out W).mono ?_
  intro e w' h
  rw [h.1]
  exact hK w' h.2
 ·refine .inl ⟨.inr ⟨9, true, rfl, by kernel_rfl, (9, 76, .bool true), val_get (by kernel_rfl), rfl, rfl⟩, .inl ⟨.int .i64 0, val_only (d := 80) (by kernel_rfl), by simp, by simp, fun y W hB hO hV K Q' hK => ?_⟩⟩
  have y79 : y 79 = .agg #[.int .i64 0, .int .i64 ND] := hV (12, 79, .agg #[.int .i64 0, .int .i64 ND]) (val_get (by kernel_rfl)) (by kernel_rfl)
  simp only [fr, putAll, List.foldl_cons, List.foldl_nil, List.setIfInBounds_toArray, List.set_cons_zero, List.set_cons_succ] at hK ⊢
  simp only [y79] at hK ⊢
  go_simp
  exact hK W (Below.refl _ _)
 ·refine .inl ⟨.inr ⟨9, true, rfl, by kernel_rfl, (9, 76, .bool true), val_get (by kernel_rfl), rfl, rfl⟩, .inl ⟨.bool true, val_only (d := 81) (by kernel_rfl), by simp, by simp, fun y W hB hO hV K Q' hK => ?_⟩⟩
  have y80 : y 80 = .int .i64 0 := hV (13, 80, .int .i64 0) (val_get (by kernel_rfl)) (by kernel_rfl)
  simp only [fr, putAll, List.foldl_cons, List.foldl_nil, List.setIfInBounds_toArray, List.set_cons_zero, List.set_cons_succ] at hK ⊢
  simp only [y80] at hK ⊢
  go_simp
  exact hK W (Below.refl _ _)
 ·refine .inl ⟨.inl rfl, .inl ⟨.bool true, val_only (d := 82) (by kernel_rfl), by simp, by simp, fun y W hB hO hV K Q' hK => ?_⟩⟩
  have y76 : y 76 = .bool true := hV (9, 76, .bool true) (val_get (by kernel_rfl)) (by kernel_rfl)
  have y81 : y 81 = .bool true := hV (14, 81, .bool true) (val_get (by kernel_rfl)) (by kernel_rfl)
  simp only [fr, putAll, List.foldl_cons, List.foldl_nil, List.setIfInBounds_toArray, List.set_cons_zero, List.set_cons_succ] at hK ⊢
  simp only [y76, y81] at hK ⊢
  go_simp
  exact hK W (Below.refl _ _)
 ·refine .inl ⟨.inl rfl, .inl ⟨.bool true, val_only (d := 83) (by kernel_rfl), by simp, by simp, fun y W hB hO hV K Q' hK => ?_⟩⟩
  have y82 : y 82 = .bool true := hV (15, 82, .bool true) (val_get (by kernel_rfl)) (by kernel_rfl)
  simp only [fr, putAll, List.foldl_cons, List.foldl_nil, List.setIfInBounds_toArray, List.set_cons_zero, List.set_cons_succ] at hK ⊢
  simp only [y82] at hK ⊢
  go_simp
  exact hK W (Below.refl _ _)
 ·refine .inl ⟨.inr ⟨16, true, rfl, by kernel_rfl, (16, 83, .bool true), val_get (by kernel_rfl), rfl, rfl⟩, .inl ⟨.agg #[.int .i64 a, .int .i64 b], val_only (d := 84) (by kernel_rfl), by simp, by simp, fun y W hB hO hV K Q' hK => ?_⟩⟩
  have hc : Cells W (w.heap.size) #[.int .i64 a, .int .i64 b] := hO _ lm3 rfl
  have kk := hc.two
  have k0 := kk.1
  have k1 := kk.2
  clear kk
  simp only [fr, putAll, List.foldl_cons, List.foldl_nil, List.setIfInBounds_toArray, List.set_cons_zero, List.set_cons_succ] at hK ⊢
  go_simp
  exact hK W (Below.refl _ _)
 ·refine .inl ⟨.inr ⟨16, true, rfl, by kernel_rfl, (16, 83, .bool true), val_get (by kernel_rfl), rfl, rfl⟩, .inl ⟨.agg #[.int .i64 mx0, .int .i64 mx1, .int .i64 mx2, .int .i64 mx3, .int .i64 mx4, .int .i64 mx5, .int .i64 mx6, .int .i64 mx7], val_only (d := 85) (by kernel_rfl), by simp, by simp, fun y W hB hO hV K Q' hK => ?_⟩⟩
  have hc : Cells W (B2) #[.int .i64 mx0, .int .i64 mx1, .int .i64 mx2, .int .i64 mx3, .int .i64 mx4, .int .i64 mx5, .int .i64 mx6, .int .i64 mx7] := hO _ lm1 rfl
  have kk := hc.eight
  have k0 := kk.1
  have k1 := kk.2.1
  have k2 := kk.2.2.1
  have k3 := kk.2.2.2.1
  have k4 := kk.2.2.2.2.1
  have k5 := kk.2.2.2.2.2.1
  have k6 := kk.2.2.2.2.2.2.1
  have k7 := kk.2.2.2.2.2.2.2
  clear kk
  simp only [fr, putAll, List.foldl_cons, List.foldl_nil, List.setIfInBounds_toArray, List.set_cons_zero, List.set_cons_succ] at hK ⊢
  go_simp
  exact hK W (Below.refl _ _)
 ·refine .inl ⟨.inr ⟨16, true, rfl, by kernel_rfl, (16, 83, .bool true), val_get (by kernel_rfl), rfl, rfl⟩, .inl ⟨.agg #[.int .i64 my0, .int .i64 my1, .int .i64 my2, .int .i64 my3, .int .i64 my4, .int .i64 my5, .int .i64 my6, .int .i64 my7], val_only (d := 86) (by kernel_rfl), by simp, by simp, fun y W hB hO hV K Q' hK => ?_⟩⟩
  have hc : Cells W (B2 + 1) #[.int .i64 my0, .int .i64 my1, .int .i64 my2, .int .i64 my3, .int .i64 my4, .int .i64 my5, .int .i64 my6, .int .i64 my7] := hO _ lm0 rfl
  have kk := hc.eight
  have k0 := kk.1
  have k1 := kk.2.1
  have k2 := kk.2.2.1
  have k3 := kk.2.2.2.1
  have k4 := kk.2.2.2.2.1
  have k5 := kk.2.2.2.2.2.1
  have k6 := kk.2.2.2.2.2.2.1
  have k7 := kk.2.2.2.2.2.2.2
  clear kk
  simp only [fr, putAll, List.foldl_cons, List.foldl_nil, List.setIfInBounds_toArray, List.set_cons_zero, List.set_cons_succ] at hK ⊢
  go_simp
  exact hK W (Below.refl _ _)
 ·refine .inl ⟨.inr ⟨16, true, rfl, by kernel_rfl, (16, 83, .bool true), val_get (by kernel_rfl), rfl, rfl⟩, .inl ⟨.int .i64 0, val_only (d := 87) (by kernel_rfl), by simp, by simp, fun y W hB hO hV K Q' hK => ?_⟩⟩
  have y84 : y 84 = .agg #[.int .i64 a, .int .i64 b] := hV (17, 84, .agg #[.int .i64 a, .int .i64 b]) (val_get (by kernel_rfl)) (by kernel_rfl)
  have y85 : y 85 = .agg #[.int .i64 mx0, .int .i64 mx1, .int .i64 mx2, .int .i64 mx3, .int .i64 mx4, .int .i64 mx5, .int .i64 mx6, .int .i64 mx7] := hV (18, 85, .agg #[.int .i64 mx0, .int .i64 mx1, .int .i64 mx2, .int .i64 mx3, .int .i64 mx4, .int .i64 mx5, .int .i64 mx6, .int .i64 mx7]) (val_get (by kernel_rfl)) (by kernel_rfl)
  have y86 : y 86 = .agg #[.int .i64 my0, .int .i64 my1, .int .i64 my2, .int .i64 my3, .int .i64 my4, .int .i64 my5, .int .i64 my6, .int .i64 my7] := hV (19, 86, .agg #[.int .i64 my0, .int .i64 my1, .int .i64 my2, .int .i64 my3, .int .i64 my4, .int .i64 my5, .int .i64 my6, .int .i64 my7]) (val_get (by kernel_rfl)) (by kernel_rfl)
  simp only [fr, putAll, List.foldl_cons, List.foldl_nil, List.setIfInBounds_toArray, List.set_cons_zero, List.set_cons_succ] at hK ⊢
  simp only [y84, y85, y86] at hK ⊢
  go_simp
  refine (HRk.out W).mono ?_
  intro e w' h
  rw [h.1]
  exact hK w' h.2
 ·refine .inl ⟨.inr ⟨16, true, rfl, by kernel_rfl, (16, 83, .bool true), val_get (by kernel_rfl), rfl, rfl⟩, .inl ⟨.bool true, val_only (d := 88) (by kernel_rfl), by simp, by simp, fun y W hB hO hV K Q' hK => ?_⟩⟩
  have y87 : y 87 = .int .i64 0 := hV (20, 87, .int .i64 0) (val_get (by kernel_rfl)) (by kernel_rfl)
  simp only [fr, putAll, List.foldl_cons, List.foldl_nil, List.setIfInBounds_toArray, List.set_cons_zero, List.set_cons_succ] at hK ⊢
  simp only [y87] at hK ⊢
  go_simp
  exact hK W (Below.refl _ _)
 ·refine .inl ⟨.inl rfl, .inl ⟨.bool true, val_only (d := 89) (by kernel_rfl), by simp, by simp, fun y W hB hO hV K Q' hK => ?_⟩⟩
  have y83 : y 83 = .bool true := hV (16, 83, .bool true) (val_get (by kernel_rfl)) (by kernel_rfl)
  have y88 : y 88 = .bool true := hV (21, 88, .bool true) (val_get (by kernel_rfl)) (by kernel_rfl)
  simp only [fr, putAll, List.foldl_cons, List.foldl_nil, List.setIfInBounds_toArray, List.set_cons_zero, List.set_cons_succ] at hK ⊢
  simp only [y83, y88] at hK ⊢
  go_simp
  exact hK W (Below.refl _ _)
 ·refine .inl ⟨.inl rfl, .inl ⟨.bool true, val_only (d := 90) (by kernel_rfl), by simp, by simp, fun y W hB hO hV K Q' hK => ?_⟩⟩
  have y89 : y 89 = .bool true := hV (22, 89, .bool true) (val_get (by kernel_rfl)) (by kernel_rfl)
  simp only [fr, putAll, List.foldl_cons, List.foldl_nil, List.setIfInBounds_toArray, List.set_cons_zero, List.set_cons_succ] at hK ⊢
  simp only [y89] at hK ⊢
  go_simp
  exact hK W (Below.refl _ _)
 ·refine .inl ⟨.inr ⟨23, true, rfl, by kernel_rfl, (23, 90, .bool true), val_get (by kernel_rfl), rfl, rfl⟩, .inl ⟨.agg #[.int .i64 a, .int .i64 b], val_only (d := 91) (by kernel_rfl), by simp, by simp, fun y W hB hO hV K Q' hK => ?_⟩⟩
  have hc : Cells W (w.heap.size) #[.int .i64 a, .int .i64 b] := hO _ lm3 rfl
  have kk := hc.two
  have k0 := kk.1
  have k1 := kk.2
  clear kk
  simp only [fr, putAll, List.foldl_cons, List.foldl_nil, List.setIfInBounds_toArray, List.set_cons_zero, List.set_cons_succ] at hK ⊢
  go_simp
  exact hK W (Below.refl _ _)
 ·refine .inl ⟨.inr ⟨23, true, rfl, by kernel_rfl, (23, 90, .bool true), val_get (by kernel_rfl), rfl, rfl⟩, .inl ⟨.agg #[.int .i64 mx0, .int .i64 mx1, .int .i64 mx2, .int .i64 mx3, .int .i64 mx4, .int .i64 mx5, .int .i64 mx6, .int .i64 mx7], val_only (d := 92) (by kernel_rfl), by simp, by simp, fun y W hB hO hV K Q' hK => ?_⟩⟩
  have hc : Cells W (B2) #[.int .i64 mx0, .int .i64 mx1, .int .i64 mx2, .int .i64 mx3, .int .i64 mx4, .int .i64 mx5, .int .i64 mx6, .int .i64 mx7] := hO _ lm1 rfl
  have kk := hc.eight
  have k0 := kk.1
  have k1 := kk.2.1
  have k2 := kk.2.2.1
  have k3 := kk.2.2.2.1
  have k4 := kk.2.2.2.2.1
  have k5 := kk.2.2.2.2.2.1
  have k6 := kk.2.2.2.2.2.2.1
  have k7 := kk.2.2.2.2.2.2.2
  clear kk
  simp only [fr, putAll, List.foldl_cons, List.foldl_nil, List.setIfInBounds_toArray, List.set_cons_zero, List.set_cons_succ] at hK ⊢
  go_simp
  exact hK W (Below.refl _ _)
 ·refine .inl ⟨.inr ⟨23, true, rfl, by kernel_rfl, (23, 90, .bool true), val_get (by kernel_rfl), rfl, rfl⟩, .inl ⟨.agg #[.int .i64 my0, .int .i64 my1, .int .i64 my2, .int .i64 my3, .int .i64 my4, .int .i64 my5, .int .i64 my6, .int .i64 my7], val_only (d := 93) (by kernel_rfl), by simp, by simp, fun y W hB hO hV K Q' hK => ?_⟩⟩
  have hc : Cells W (B2 + 1) #[.int .i64 my0, .int .i64 my1, .int .i64 my2, .int .i64 my3, .int .i64 my4, .int .i64 my5, .int .i64 my6, .int .i64 my7] := hO _ lm0 rfl
  have kk := hc.eight
  have k0 := kk.1
  have k1 := kk.2.1
  have k2 := kk.2.2.1
  have k3 := kk.2.2.2.1
  have k4 := kk.2.2.2.2.1
  have k5 := kk.2.2.2.2.2.1
  have k6 := kk.2.2.2.2.2.2.1
  have k7 := kk.2.2.2.2.2.2.2
  clear kk
  simp only [fr, putAll, List.foldl_cons, List.foldl_nil, List.setIfInBounds_toArray, List.set_cons_zero, List.set_cons_succ] at hK ⊢
  go_simp
  exact hK W (Below.refl _ _)
 ·refine .inl ⟨.inr ⟨23, true, rfl, by kernel_rfl, (23, 90, .bool true), val_get (by kernel_rfl), rfl, rfl⟩, .inl ⟨.int .i64 0, val_only (d := 94) (by kernel_rfl), by simp, by simp, fun y W hB hO hV K Q' hK => ?_⟩⟩
  have y91 : y 91 = .agg #[.int .i64 a, .int .i64 b] := hV (24, 91, .agg #[.int .i64 a, .int .i64 b]) (val_get (by kernel_rfl)) (by kernel_rfl)
  have y92 : y 92 = .agg #[.int .i64 mx0, .int .i64 mx1, .int .i64 mx2, .int .i64 mx3, .int .i64 mx4, .int .i64 mx5, .int .i64 mx6, .int .i64 mx7] := hV (25, 92, .agg #[.int .i64 mx0, .int .i64 mx1, .int .i64 mx2, .int .i64 mx3, .int .i64 mx4, .int .i64 mx5, .int .i64 mx6, .int .i64 mx7]) (val_get (by kernel_rfl)) (by kernel_rfl)
  have y93 : y 93 = .agg #[.int .i64 my0, .int .i64 my1, .int .i64 my2, .int .i64 my3, .int .i64 my4, .int .i64 my5, .int .i64 my6, .int .i64 my7] := hV (26, 93, .agg #[.int .i64 my0, .int .i64 my1, .int .i64 my2, .int .i64 my3, .int .i64 my4, .int .i64 my5, .int .i64 my6, .int .i64 my7]) (val_get (by kernel_rfl)) (by kernel_rfl)
  simp only [fr, putAll, List.foldl_cons, List.foldl_nil, List.setIfInBounds_toArray, List.set_cons_zero, List.set_cons_succ] at hK ⊢
  simp only [y91, y92, y93] at hK ⊢
  go_simp
  refine (HCk.out W).mono ?_
  intro e w' h
  rw [h.1]
  exact hK w' h.2
 ·refine .inl ⟨.inr ⟨23, true, rfl, by kernel_rfl, (23, 90, .bool true), val_get (by kernel_rfl), rfl, rfl⟩, .inl ⟨.bool true, val_only (d := 95) (by kernel_rfl), by simp, by simp, fun y W hB hO hV K Q' hK => ?_⟩⟩
  have y94 : y 94 = .int .i64 0 := hV (27, 94, .int .i64 0) (val_get (by kernel_rfl)) (by kernel_rfl)
  simp only [fr, putAll, List.foldl_cons, List.foldl_nil, List.setIfInBounds_toArray, List.set_cons_zero, List.set_cons_succ] at hK ⊢
  simp only [y94] at hK ⊢
  go_simp
  exact hK W (Below.refl _ _)
 ·refine .inl ⟨.inl rfl, .inl ⟨.bool true, val_only (d := 96) (by kernel_rfl), by simp, by simp, fun y W hB hO hV K Q' hK => ?_⟩⟩
  have y90 : y 90 = .bool true := hV (23, 90, .bool true) (val_get (by kernel_rfl)) (by kernel_rfl)
  have y95 : y 95 = .bool true := hV (28, 95, .bool true) (val_get (by kernel_rfl)) (by kernel_rfl)
  simp only [fr, putAll, List.foldl_cons, List.foldl_nil, List.setIfInBounds_toArray, List.set_cons_zero, List.set_cons_succ] at hK ⊢
  simp only [y90, y95] at hK ⊢
  go_simp
  exact hK W (Below.refl _ _)
 ·refine .inl ⟨.inl rfl, .inl ⟨.bool true, val_only (d := 2) (by kernel_rfl), by simp, by simp, fun y W hB hO hV K Q' hK => ?_⟩⟩
  have y96 : y 96 = .bool true := hV (29, 96, .bool true) (val_get (by kernel_rfl)) (by kernel_rfl)
  simp only [fr, putAll, List.foldl_cons, List.foldl_nil, List.setIfInBounds_toArray, List.set_cons_zero, List.set_cons_succ] at hK ⊢
  simp only [y96] at hK ⊢
  go_simp
  exact hK W (Below.refl _ _)
 intro y W8 hB hO hV hX hA
 have y67 : y 67 = .agg #[.int .i64 q0, .int .i64 q1, .int .i64 q2, .int .i64 q3, .int .i64 q4] := hV (0, 67, .agg #[.int .i64 q0, .int .i64 q1, .int .i64 q2, .int .i64 q3, .int .i64 q4]) (val_get (by kernel_rfl))
 have y68 : y 68 = .agg #[.int .i64 q0, .int .i64 q1, .int .i64 q2, .int .i64 q3, .int .i64 q4] := hV (1, 68, .agg #[.int .i64 q0, .int .i64 q1, .int .i64 q2, .int .i64 q3, .int .i64 q4]) (val_get (by kernel_rfl))
 have y69 : y 69 = .agg #[.int .i64 q0, .int .i64 q1, .int .i64 q2, .int .i64 q3, .int .i64 q4] := hV (2, 69, .agg #[.int .i64 q0, .int .i64 q1, .int .i64 q2, .int .i64 q3, .int .i64 q4]) (val_get (by kernel_rfl))
 have y70 : y 70 = .bool true := hV (3, 70, .bool true) (val_get (by kernel_rfl))
 have y71 : y 71 = .bool true := hV (4, 71, .bool true) (val_get (by kernel_rfl))
 have y72 : y 72 = .agg #[.int .i64 q0, .int .i64 q1, .int .i64 q2, .int .i64 q3, .int .i64 q4] := hV (5, 72, .agg #[.int .i64 q0, .int .i64 q1, .int .i64 q2, .int .i64 q3, .int .i64 q4]) (val_get (by kernel_rfl))
 have y73 : y 73 = .agg #[.int .i64 0, .int .i64 0, .int .i64 0, .int .i64 0, .int .i64 1] := hV (6, 73, .agg #[.int .i64 0, .int .i64 0, .int .i64 0, .int .i64 0, .int .i64 1]) (val_get (by kernel_rfl))
 have y74 : y 74 = .bool true := hV (7, 74, .bool true) (val_get (by kernel_rfl))
 have y75 : y 75 = .bool true := hV (8, 75, .bool true) (val_get (by kernel_rfl))
 have y76 : y 76 = .bool true := hV (9, 76, .bool true) (val_get (by kernel_rfl))
 have y77 : y 77 = .agg #[.int .i64 a, .int .i64 b] := hV (10, 77, .agg #[.int .i64 a, .int .i64 b]) (val_get (by kernel_rfl))
 have y78 : y 78 = .agg #[.int .i64 q0, .int .i64 q1, .int .i64 q2, .int .i64 q3, .int .i64 q4] := hV (11, 78, .agg #[.int .i64 q0, .int .i64 q1, .int .i64 q2, .int .i64 q3, .int .i64 q4]) (val_get (by kernel_rfl))
 have y79 : y 79 = .agg #[.int .i64 0, .int .i64 ND] := hV (12, 79, .agg #[.int .i64 0, .int .i64 ND]) (val_get (by kernel_rfl))
 have y80 : y 80 = .int .i64 0 := hV (13, 80, .int .i64 0) (val_get (by kernel_rfl))
 have y81 : y 81 = .bool true := hV (14, 81, .bool true) (val_get (by kernel_rfl))
 have y82 : y 82 = .bool true := hV (15, 82, .bool true) (val_get (by kernel_rfl))
 have y83 : y 83 = .bool true := hV (16, 83, .bool true) (val_get (by kernel_rfl))
 have y84 : y 84 = .agg #[.int .i64 a, .int .i64 b] := hV (17, 84, .agg #[.int .i64 a, .int .i64 b]) (val_get (by kernel_rfl))
 have y85 : y 85 = .agg #[.int .i64 mx0, .int .i64 mx1, .int .i64 mx2, .int .i64 mx3, .int .i64 mx4, .int .i64 mx5, .int .i64 mx6, .int .i64 mx7] := hV (18, 85, .agg #[.int .i64 mx0, .int .i64 mx1, .int .i64 mx2, .int .i64 mx3, .int .i64 mx4, .int .i64 mx5, .int .i64 mx6, .int .i64 mx7]) (val_get (by kernel_rfl))
 have y86 : y 86 = .agg #[.int .i64 my0, .int .i64 my1, .int .i64 my2, .int .i64 my3, .int .i64 my4, .int .i64 my5, .int .i64 my6, .int .i64 my7] := hV (19, 86, .agg #[.int .i64 my0, .int .i64 my1, .int .i64 my2, .int .i64 my3, .int .i64 my4, .int .i64 my5, .int .i64 my6, .int .i64 my7]) (val_get (by kernel_rfl))
 have y87 : y 87 = .int .i64 0 := hV (20, 87, .int .i64 0) (val_get (by kernel_rfl))
 have y88 : y 88 = .bool true := hV (21, 88, .bool true) (val_get (by kernel_rfl))
 have y89 : y 89 = .bool true := hV (22, 89, .bool true) (val_get (by kernel_rfl))
 have y90 : y 90 = .bool true := hV (23, 90, .bool true) (val_get (by kernel_rfl))
 have y91 : y 91 = .agg #[.int .i64 a, .int .i64 b] := hV (24, 91, .agg #[.int .i64 a, .int .i64 b]) (val_get (by kernel_rfl))
 have y92 : y 92 = .agg #[.int .i64 mx0, .int .i64 mx1, .int .i64 mx2, .int .i64 mx3, .int .i64 mx4, .int .i64 mx5, .int .i64 mx6, .int .i64 mx7] := hV (25, 92, .agg #[.int .i64 mx0, .int .i64 mx1, .int .i64 mx2, .int .i64 mx3, .int .i64 mx4, .int .i64 mx5, .int .i64 mx6, .int .i64 mx7]) (val_get (by kernel_rfl))
 have y93 : y 93 = .agg #[.int .i64 my0, .int .i64 my1, .int .i64 my2, .int .i64 my3, .int .i64 my4, .int .i64 my5, .int .i64 my6, .int .i64 my7] := hV (26, 93, .agg #[.int .i64 my0, .int .i64 my1, .int .i64 my2, .int .i64 my3, .int .i64 my4, .int .i64 my5, .int .i64 my6, .int .i64 my7]) (val_get (by kernel_rfl))
 have y94 : y 94 = .int .i64 0 := hV (27, 94, .int .i64 0) (val_get (by kernel_rfl))
 have y95 : y 95 = .bool true := hV (28, 95, .bool true) (val_get (by kernel_rfl))
 have y96 : y 96 = .bool true := hV (29, 96, .bool true) (val_get (by kernel_rfl))
 have y2 : y 2 = .bool true := hV (30, 2, .bool true) (val_get (by kernel_rfl))
 have ho0 := hO _ lm0
 have ho1 := hO _ lm1
 have ho2 := hO _ lm2
 have ho3 := hO _ lm3
 dsimp only at ho0 ho1 ho2 ho3
 have HB8 := lhd (show Bx w [(B2 + 1, #[.int .i64 my0, .int .i64 my1, .int .i64 my2, .int .i64 my3, .int .i64 my4, .int .i64 my5, .int .i64 my6, .int .i64 my7]), (B2, #[.int .i64 mx0, .int .i64 mx1, .int .i64 mx2, .int .i64 mx3, .int .i64 mx4, .int .i64 mx5, .int .i64 mx6, .int .i64 mx7]), (B1, #[.int .i64 q0, .int .i64 q1, .int .i64 q2, .int .i64 q3, .int .i64 q4]), (w.heap.size, #[.int .i64 a, .int .i64 b])] W8 from (((((Bx.nil (HB6.out.below.trans hB)).cons (HB6.out.own _ lm3).1 ho3).cons (HB6.out.own _ lm2).1 ho2).cons (HB6.out.own _ lm1).1 ho1).cons (HB6.out.own _ lm0).1 ho0))
 simp only [fr, putAll, List.foldl_cons, List.foldl_nil, List.setIfInBounds_toArray, List.set_cons_zero, List.set_cons_succ]
 simp only [y67, y68, y69, y70, y71, y72, y73, y74, y75, y76, y77, y78, y79, y80, y81, y82, y83, y84, y85, y86, y87, y88, y89, y90, y91, y92, y93, y94, y95, y96, y2]
 clear y67 y68 y69 y70 y71 y72 y73 y74 y75 y76 y77 y78 y79 y80 y81 y82 y83 y84 y85 y86 y87 y88 y89 y90 y91 y92 y93 y94 y95 y96 y2  hB hO hV hX hA ho0 ho1 ho2 ho3
 go_wp2_with fail
 go_ret
 exact ⟨rfl, HB8.out.below⟩
end Go.Proofs.YtimdkjbmeogpoaaGreatDoor
