/- The law AlgebraSplits answers true at all algebras and matrices. -/
import Derived.Test.YtimdkjbmeogpoaaGreatDoorVSps
import Derived.Test.YtimdkjbmeogpoaaGreatDoorVSpu2
import Derived.Test.YtimdkjbmeogpoaaGreatDoorVAw30
namespace Go.Proofs.YtimdkjbmeogpoaaGreatDoor
open Go.RowKit FF
set_option maxHeartbeats 4000000 in
set_option maxRecDepth 100000 in
theorem qCheckSplit_bad (a b xn0 xd0 xn1 xd1 xn2 xd2 xn3 xd3 yn0 yd0 yn1 yd1 yn2 yd2 yn3 yd3 : Int) (w : World) (h : aE a b ≠ 0) :
    Calls Tryz.prog 7 #[.agg #[.int .i64 a, .int .i64 b], .agg #[.int .i64 xn0, .int .i64 xd0, .int .i64 xn1, .int .i64 xd1, .int .i64 xn2, .int .i64 xd2, .int .i64 xn3, .int .i64 xd3], .agg #[.int .i64 yn0, .int .i64 yd0, .int .i64 yn1, .int .i64 yd1, .int .i64 yn2, .int .i64 yd2, .int .i64 yn3, .int .i64 yd3]] w fun r w' => r = .returned (.int .i64 (aE a b)) ∧ Below w.heap.size w w' := by
  have HC := Lib.hid (fun w => qCheck_any a b w)
  generalize aE a b = E at *
  have d1 : (E != 0) = true := bne_iff_ne.2 h
  go_enter Tryz.func7, Tryz.ntmps7
  go_upto_region 1 with fail
  obtain ⟨W0, hW0⟩ : ∃ W0 : World, W0 = (((w.alloc (.cells #[.int .i64 a, .int .i64 b] 23)).alloc (.cells #[.int .i64 xn0, .int .i64 xd0, .int .i64 xn1, .int .i64 xd1, .int .i64 xn2, .int .i64 xd2, .int .i64 xn3, .int .i64 xd3] 27)).alloc (.cells #[.int .i64 yn0, .int .i64 yd0, .int .i64 yn1, .int .i64 yd1, .int .i64 yn2, .int .i64 yd2, .int .i64 yn3, .int .i64 yd3] 27)) := ⟨_, rfl⟩
  rw [← hW0]
  have HB0 := Lib.hid (show Bx w [(w.heap.size + 2, #[.int .i64 yn0, .int .i64 yd0, .int .i64 yn1, .int .i64 yd1, .int .i64 yn2, .int .i64 yd2, .int .i64 yn3, .int .i64 yd3]), (w.heap.size + 1, #[.int .i64 xn0, .int .i64 xd0, .int .i64 xn1, .int .i64 xd1, .int .i64 xn2, .int .i64 xd2, .int .i64 xn3, .int .i64 xd3]), (w.heap.size, #[.int .i64 a, .int .i64 b])] W0 by rw [hW0]; simpa using ((((Bx.nil (Below.refl w.heap.size w)).new #[.int .i64 a, .int .i64 b] 23).new #[.int .i64 xn0, .int .i64 xd0, .int .i64 xn1, .int .i64 xd1, .int .i64 xn2, .int .i64 xd2, .int .i64 xn3, .int .i64 xd3] 27).new #[.int .i64 yn0, .int .i64 yd0, .int .i64 yn1, .int .i64 yd1, .int .i64 yn2, .int .i64 yd2, .int .i64 yn3, .int .i64 yd3] 27))
  clear hW0
  obtain ⟨c2_0, c2_1⟩ := HB0.out.two (List.mem_cons_of_mem _ (List.mem_cons_of_mem _ (List.mem_cons_self ..)))
  go_wp2_with fail
  refine (HC.out _).mono ?_
  rintro e1 w1 ⟨rfl, hbb⟩
  have HB1 := Lib.hid (HB0.out.keep hbb)
  clear c2_0 c2_1
  clear hbb HB0
  go_wp2_with fail
  go_ret
  exact ⟨rfl, HB1.out.below⟩
set_option maxHeartbeats 4000000 in
set_option maxRecDepth 100000 in
theorem splits_bad (a b xn0 xd0 xn1 xd1 xn2 xd2 xn3 xd3 yn0 yd0 yn1 yd1 yn2 yd2 yn3 yd3 : Int) (w : World) (h : aE a b ≠ 0) :
    Calls Tryz.prog 3 #[.agg #[.int .i64 a, .int .i64 b], .agg #[.int .i64 xn0, .int .i64 xd0, .int .i64 xn1, .int .i64 xd1, .int .i64 xn2, .int .i64 xd2, .int .i64 xn3, .int .i64 xd3], .agg #[.int .i64 yn0, .int .i64 yd0, .int .i64 yn1, .int .i64 yd1, .int .i64 yn2, .int .i64 yd2, .int .i64 yn3, .int .i64 yd3]] w fun e w' => e = .returned (.bool true) ∧ Below w.heap.size w w' := by
  have HA := Lib.hid awake3_any
  have HQ := Lib.hid (fun w => qCheckSplit_bad a b xn0 xd0 xn1 xd1 xn2 xd2 xn3 xd3 yn0 yd0 yn1 yd1 yn2 yd2 yn3 yd3 w h)
  have HC := Lib.hid (fun w => rCheck_any a b w)
  generalize aE a b = E at *
  have d1 : (E != 0) = true := bne_iff_ne.2 h
  go_enter Tryz.func3, Tryz.ntmps3
  go_upto_region 1 with fail
  obtain ⟨W0, hW0⟩ : ∃ W0 : World, W0 = (((w.alloc (.cells #[.int .i64 a, .int .i64 b] 23)).alloc (.cells #[.int .i64 xn0, .int .i64 xd0, .int .i64 xn1, .int .i64 xd1, .int .i64 xn2, .int .i64 xd2, .int .i64 xn3, .int .i64 xd3] 27)).alloc (.cells #[.int .i64 yn0, .int .i64 yd0, .int .i64 yn1, .int .i64 yd1, .int .i64 yn2, .int .i64 yd2, .int .i64 yn3, .int .i64 yd3] 27)) := ⟨_, rfl⟩
  rw [← hW0]
  have HB0 := Lib.hid (show Bx w [(w.heap.size + 2, #[.int .i64 yn0, .int .i64 yd0, .int .i64 yn1, .int .i64 yd1, .int .i64 yn2, .int .i64 yd2, .int .i64 yn3, .int .i64 yd3]), (w.heap.size + 1, #[.int .i64 xn0, .int .i64 xd0, .int .i64 xn1, .int .i64 xd1, .int .i64 xn2, .int .i64 xd2, .int .i64 xn3, .int .i64 xd3]), (w.heap.size, #[.int .i64 a, .int .i64 b])] W0 by rw [hW0]; simpa using ((((Bx.nil (Below.refl w.heap.size w)).new #[.int .i64 a, .int .i64 b] 23).new #[.int .i64 xn0, .int .i64 xd0, .int .i64 xn1, .int .i64 xd1, .int .i64 xn2, .int .i64 xd2, .int .i64 xn3, .int .i64 xd3] 27).new #[.int .i64 yn0, .int .i64 yd0, .int .i64 yn1, .int .i64 yd1, .int .i64 yn2, .int .i64 yd2, .int .i64 yn3, .int .i64 yd3] 27))
  clear hW0
  go_wp2_with fail
  refine (HA.out _).mono ?_
  rintro e1 w1 ⟨rfl, hbb⟩
  have HB1 := Lib.hid (HB0.out.keep hbb)
  clear hbb HB0
  have c0_0 := (HB1.out.own _ (List.mem_cons_self ..)).2.2.1 0 (by simp)
  have c0_1 := (HB1.out.own _ (List.mem_cons_self ..)).2.2.1 1 (by simp)
  have c0_2 := (HB1.out.own _ (List.mem_cons_self ..)).2.2.1 2 (by simp)
  have c0_3 := (HB1.out.own _ (List.mem_cons_self ..)).2.2.1 3 (by simp)
  have c0_4 := (HB1.out.own _ (List.mem_cons_self ..)).2.2.1 4 (by simp)
  have c0_5 := (HB1.out.own _ (List.mem_cons_self ..)).2.2.1 5 (by simp)
  have c0_6 := (HB1.out.own _ (List.mem_cons_self ..)).2.2.1 6 (by simp)
  have c0_7 := (HB1.out.own _ (List.mem_cons_self ..)).2.2.1 7 (by simp)
  simp only [List.getElem?_toArray, List.getElem?_cons_zero, List.getElem?_cons_succ] at c0_0 c0_1 c0_2 c0_3 c0_4 c0_5 c0_6 c0_7
  have c1_0 := (HB1.out.own _ (List.mem_cons_of_mem _ (List.mem_cons_self ..))).2.2.1 0 (by simp)
  have c1_1 := (HB1.out.own _ (List.mem_cons_of_mem _ (List.mem_cons_self ..))).2.2.1 1 (by simp)
  have c1_2 := (HB1.out.own _ (List.mem_cons_of_mem _ (List.mem_cons_self ..))).2.2.1 2 (by simp)
  have c1_3 := (HB1.out.own _ (List.mem_cons_of_mem _ (List.mem_cons_self ..))).2.2.1 3 (by simp)
  have c1_4 := (HB1.out.own _ (List.mem_cons_of_mem _ (List.mem_cons_self ..))).2.2.1 4 (by simp)
  have c1_5 := (HB1.out.own _ (List.mem_cons_of_mem _ (List.mem_cons_self ..))).2.2.1 5 (by simp)
  have c1_6 := (HB1.out.own _ (List.mem_cons_of_mem _ (List.mem_cons_self ..))).2.2.1 6 (by simp)
  have c1_7 := (HB1.out.own _ (List.mem_cons_of_mem _ (List.mem_cons_self ..))).2.2.1 7 (by simp)
  simp only [List.getElem?_toArray, List.getElem?_cons_zero, List.getElem?_cons_succ] at c1_0 c1_1 c1_2 c1_3 c1_4 c1_5 c1_6 c1_7
  obtain ⟨c2_0, c2_1⟩ := HB1.out.two (List.mem_cons_of_mem _ (List.mem_cons_of_mem _ (List.mem_cons_self ..)))
  go_wp2_with fail
  refine (HQ.out _).mono ?_
  rintro e2 w2 ⟨rfl, hbb⟩
  have HB2 := Lib.hid (HB1.out.keep hbb)
  clear c0_0 c0_1 c0_2 c0_3 c0_4 c0_5 c0_6 c0_7 c1_0 c1_1 c1_2 c1_3 c1_4 c1_5 c1_6 c1_7 c2_0 c2_1
  clear hbb HB1
  have c0_0 := (HB2.out.own _ (List.mem_cons_self ..)).2.2.1 0 (by simp)
  have c0_1 := (HB2.out.own _ (List.mem_cons_self ..)).2.2.1 1 (by simp)
  have c0_2 := (HB2.out.own _ (List.mem_cons_self ..)).2.2.1 2 (by simp)
  have c0_3 := (HB2.out.own _ (List.mem_cons_self ..)).2.2.1 3 (by simp)
  have c0_4 := (HB2.out.own _ (List.mem_cons_self ..)).2.2.1 4 (by simp)
  have c0_5 := (HB2.out.own _ (List.mem_cons_self ..)).2.2.1 5 (by simp)
  have c0_6 := (HB2.out.own _ (List.mem_cons_self ..)).2.2.1 6 (by simp)
  have c0_7 := (HB2.out.own _ (List.mem_cons_self ..)).2.2.1 7 (by simp)
  simp only [List.getElem?_toArray, List.getElem?_cons_zero, List.getElem?_cons_succ] at c0_0 c0_1 c0_2 c0_3 c0_4 c0_5 c0_6 c0_7
  have c1_0 := (HB2.out.own _ (List.mem_cons_of_mem _ (List.mem_cons_self ..))).2.2.1 0 (by simp)
  have c1_1 := (HB2.out.own _ (List.mem_cons_of_mem _ (List.mem_cons_self ..))).2.2.1 1 (by simp)
  have c1_2 := (HB2.out.own _ (List.mem_cons_of_mem _ (List.mem_cons_self ..))).2.2.1 2 (by simp)
  have c1_3 := (HB2.out.own _ (List.mem_cons_of_mem _ (List.mem_cons_self ..))).2.2.1 3 (by simp)
  have c1_4 := (HB2.out.own _ (List.mem_cons_of_mem _ (List.mem_cons_self ..))).2.2.1 4 (by simp)
  have c1_5 := (HB2.out.own _ (List.mem_cons_of_mem _ (List.mem_cons_self ..))).2.2.1 5 (by simp)
  have c1_6 := (HB2.out.own _ (List.mem_cons_of_mem _ (List.mem_cons_self ..))).2.2.1 6 (by simp)
  have c1_7 := (HB2.out.own _ (List.mem_cons_of_mem _ (List.mem_cons_self ..))).2.2.1 7 (by simp)
  simp only [List.getElem?_toArray, List.getElem?_cons_zero, List.getElem?_cons_succ] at c1_0 c1_1 c1_2 c1_3 c1_4 c1_5 c1_6 c1_7
  obtain ⟨c2_0, c2_1⟩ := HB2.out.two (List.mem_cons_of_mem _ (List.mem_cons_of_mem _ (List.mem_cons_self ..)))
  go_wp2_with fail
  refine (HC.out _).mono ?_
  rintro e3 w3 ⟨rfl, hbb⟩
  have HB3 := Lib.hid (HB2.out.keep hbb)
  clear c0_0 c0_1 c0_2 c0_3 c0_4 c0_5 c0_6 c0_7 c1_0 c1_1 c1_2 c1_3 c1_4 c1_5 c1_6 c1_7 c2_0 c2_1
  clear hbb HB2
  go_wp2_with fail
  go_ret
  exact ⟨rfl, HB3.out.below⟩
set_option maxHeartbeats 4000000 in
set_option maxRecDepth 100000 in
theorem splits_good (a b xn0 xd0 xn1 xd1 xn2 xd2 xn3 xd3 yn0 yd0 yn1 yd1 yn2 yd2 yn3 yd3 : Int) (w : World) (h : aE a b = 0) (hxn0 : I64 xn0) (hxd0 : I64 xd0) (hxn1 : I64 xn1) (hxd1 : I64 xd1) (hxn2 : I64 xn2) (hxd2 : I64 xd2) (hxn3 : I64 xn3) (hxd3 : I64 xd3) (hyn0 : I64 yn0) (hyd0 : I64 yd0) (hyn1 : I64 yn1) (hyd1 : I64 yd1) (hyn2 : I64 yn2) (hyd2 : I64 yd2) (hyn3 : I64 yn3) (hyd3 : I64 yd3) :
    Calls Tryz.prog 3 #[.agg #[.int .i64 a, .int .i64 b], .agg #[.int .i64 xn0, .int .i64 xd0, .int .i64 xn1, .int .i64 xd1, .int .i64 xn2, .int .i64 xd2, .int .i64 xn3, .int .i64 xd3], .agg #[.int .i64 yn0, .int .i64 yd0, .int .i64 yn1, .int .i64 yd1, .int .i64 yn2, .int .i64 yd2, .int .i64 yn3, .int .i64 yd3]] w fun e w' => e = .returned (.bool true) ∧ Below w.heap.size w w' := by
  have HA := Lib.hid awake3_any
  have HQ := Lib.hid (fun w => qCheckSplit a b xn0 xd0 xn1 xd1 xn2 xd2 xn3 xd3 yn0 yd0 yn1 yd1 yn2 yd2 yn3 yd3 w h hxn0 hxd0 hxn1 hxd1 hxn2 hxd2 hxn3 hxd3 hyn0 hyd0 hyn1 hyd1 hyn2 hyd2 hyn3 hyd3)
  have HC := Lib.hid (fun w => h ▸ rCheck_any a b w)
  have HR := Lib.hid (fun w => Ref.rCheckSplit a b xn0 xd0 xn1 xd1 xn2 xd2 xn3 xd3 yn0 yd0 yn1 yd1 yn2 yd2 yn3 yd3 w h hxn0 hxd0 hxn1 hxd1 hxn2 hxd2 hxn3 hxd3 hyn0 hyd0 hyn1 hyd1 hyn2 hyd2 hyn3 hyd3)
  clear h hxn0 hxd0 hxn1 hxd1 hxn2 hxd2 hxn3 hxd3 hyn0 hyd0 hyn1 hyd1 hyn2 hyd2 hyn3 hyd3
  generalize splF a b xn0 xd0 xn1 xd1 xn2 xd2 xn3 xd3 yn0 yd0 yn1 yd1 yn2 yd2 yn3 yd3 = E at *
  go_enter Tryz.func3, Tryz.ntmps3
  go_upto_region 1 with fail
  obtain ⟨W0, hW0⟩ : ∃ W0 : World, W0 = (((w.alloc (.cells #[.int .i64 a, .int .i64 b] 23)).alloc (.cells #[.int .i64 xn0, .int .i64 xd0, .int .i64 xn1, .int .i64 xd1, .int .i64 xn2, .int .i64 xd2, .int .i64 xn3, .int .i64 xd3] 27)).alloc (.cells #[.int .i64 yn0, .int .i64 yd0, .int .i64 yn1, .int .i64 yd1, .int .i64 yn2, .int .i64 yd2, .int .i64 yn3, .int .i64 yd3] 27)) := ⟨_, rfl⟩
  rw [← hW0]
  have HB0 := Lib.hid (show Bx w [(w.heap.size + 2, #[.int .i64 yn0, .int .i64 yd0, .int .i64 yn1, .int .i64 yd1, .int .i64 yn2, .int .i64 yd2, .int .i64 yn3, .int .i64 yd3]), (w.heap.size + 1, #[.int .i64 xn0, .int .i64 xd0, .int .i64 xn1, .int .i64 xd1, .int .i64 xn2, .int .i64 xd2, .int .i64 xn3, .int .i64 xd3]), (w.heap.size, #[.int .i64 a, .int .i64 b])] W0 by rw [hW0]; simpa using ((((Bx.nil (Below.refl w.heap.size w)).new #[.int .i64 a, .int .i64 b] 23).new #[.int .i64 xn0, .int .i64 xd0, .int .i64 xn1, .int .i64 xd1, .int .i64 xn2, .int .i64 xd2, .int .i64 xn3, .int .i64 xd3] 27).new #[.int .i64 yn0, .int .i64 yd0, .int .i64 yn1, .int .i64 yd1, .int .i64 yn2, .int .i64 yd2, .int .i64 yn3, .int .i64 yd3] 27))
  clear hW0
  go_wp2_with fail
  refine (HA.out _).mono ?_
  rintro e1 w1 ⟨rfl, hbb⟩
  have HB1 := Lib.hid (HB0.out.keep hbb)
  clear hbb HB0
  have c0_0 := (HB1.out.own _ (List.mem_cons_self ..)).2.2.1 0 (by simp)
  have c0_1 := (HB1.out.own _ (List.mem_cons_self ..)).2.2.1 1 (by simp)
  have c0_2 := (HB1.out.own _ (List.mem_cons_self ..)).2.2.1 2 (by simp)
  have c0_3 := (HB1.out.own _ (List.mem_cons_self ..)).2.2.1 3 (by simp)
  have c0_4 := (HB1.out.own _ (List.mem_cons_self ..)).2.2.1 4 (by simp)
  have c0_5 := (HB1.out.own _ (List.mem_cons_self ..)).2.2.1 5 (by simp)
  have c0_6 := (HB1.out.own _ (List.mem_cons_self ..)).2.2.1 6 (by simp)
  have c0_7 := (HB1.out.own _ (List.mem_cons_self ..)).2.2.1 7 (by simp)
  simp only [List.getElem?_toArray, List.getElem?_cons_zero, List.getElem?_cons_succ] at c0_0 c0_1 c0_2 c0_3 c0_4 c0_5 c0_6 c0_7
  have c1_0 := (HB1.out.own _ (List.mem_cons_of_mem _ (List.mem_cons_self ..))).2.2.1 0 (by simp)
  have c1_1 := (HB1.out.own _ (List.mem_cons_of_mem _ (List.mem_cons_self ..))).2.2.1 1 (by simp)
  have c1_2 := (HB1.out.own _ (List.mem_cons_of_mem _ (List.mem_cons_self ..))).2.2.1 2 (by simp)
  have c1_3 := (HB1.out.own _ (List.mem_cons_of_mem _ (List.mem_cons_self ..))).2.2.1 3 (by simp)
  have c1_4 := (HB1.out.own _ (List.mem_cons_of_mem _ (List.mem_cons_self ..))).2.2.1 4 (by simp)
  have c1_5 := (HB1.out.own _ (List.mem_cons_of_mem _ (List.mem_cons_self ..))).2.2.1 5 (by simp)
  have c1_6 := (HB1.out.own _ (List.mem_cons_of_mem _ (List.mem_cons_self ..))).2.2.1 6 (by simp)
  have c1_7 := (HB1.out.own _ (List.mem_cons_of_mem _ (List.mem_cons_self ..))).2.2.1 7 (by simp)
  simp only [List.getElem?_toArray, List.getElem?_cons_zero, List.getElem?_cons_succ] at c1_0 c1_1 c1_2 c1_3 c1_4 c1_5 c1_6 c1_7
  obtain ⟨c2_0, c2_1⟩ := HB1.out.two (List.mem_cons_of_mem _ (List.mem_cons_of_mem _ (List.mem_cons_self ..)))
  go_wp2_with fail
  refine (HQ.out _).mono ?_
  rintro e2 w2 ⟨rfl, hbb⟩
  have HB2 := Lib.hid (HB1.out.keep hbb)
  clear c0_0 c0_1 c0_2 c0_3 c0_4 c0_5 c0_6 c0_7 c1_0 c1_1 c1_2 c1_3 c1_4 c1_5 c1_6 c1_7 c2_0 c2_1
  clear hbb HB1
  have c0_0 := (HB2.out.own _ (List.mem_cons_self ..)).2.2.1 0 (by simp)
  have c0_1 := (HB2.out.own _ (List.mem_cons_self ..)).2.2.1 1 (by simp)
  have c0_2 := (HB2.out.own _ (List.mem_cons_self ..)).2.2.1 2 (by simp)
  have c0_3 := (HB2.out.own _ (List.mem_cons_self ..)).2.2.1 3 (by simp)
  have c0_4 := (HB2.out.own _ (List.mem_cons_self ..)).2.2.1 4 (by simp)
  have c0_5 := (HB2.out.own _ (List.mem_cons_self ..)).2.2.1 5 (by simp)
  have c0_6 := (HB2.out.own _ (List.mem_cons_self ..)).2.2.1 6 (by simp)
  have c0_7 := (HB2.out.own _ (List.mem_cons_self ..)).2.2.1 7 (by simp)
  simp only [List.getElem?_toArray, List.getElem?_cons_zero, List.getElem?_cons_succ] at c0_0 c0_1 c0_2 c0_3 c0_4 c0_5 c0_6 c0_7
  have c1_0 := (HB2.out.own _ (List.mem_cons_of_mem _ (List.mem_cons_self ..))).2.2.1 0 (by simp)
  have c1_1 := (HB2.out.own _ (List.mem_cons_of_mem _ (List.mem_cons_self ..))).2.2.1 1 (by simp)
  have c1_2 := (HB2.out.own _ (List.mem_cons_of_mem _ (List.mem_cons_self ..))).2.2.1 2 (by simp)
  have c1_3 := (HB2.out.own _ (List.mem_cons_of_mem _ (List.mem_cons_self ..))).2.2.1 3 (by simp)
  have c1_4 := (HB2.out.own _ (List.mem_cons_of_mem _ (List.mem_cons_self ..))).2.2.1 4 (by simp)
  have c1_5 := (HB2.out.own _ (List.mem_cons_of_mem _ (List.mem_cons_self ..))).2.2.1 5 (by simp)
  have c1_6 := (HB2.out.own _ (List.mem_cons_of_mem _ (List.mem_cons_self ..))).2.2.1 6 (by simp)
  have c1_7 := (HB2.out.own _ (List.mem_cons_of_mem _ (List.mem_cons_self ..))).2.2.1 7 (by simp)
  simp only [List.getElem?_toArray, List.getElem?_cons_zero, List.getElem?_cons_succ] at c1_0 c1_1 c1_2 c1_3 c1_4 c1_5 c1_6 c1_7
  obtain ⟨c2_0, c2_1⟩ := HB2.out.two (List.mem_cons_of_mem _ (List.mem_cons_of_mem _ (List.mem_cons_self ..)))
  go_wp2_with fail
  refine (HC.out _).mono ?_
  rintro e3 w3 ⟨rfl, hbb⟩
  have HB3 := Lib.hid (HB2.out.keep hbb)
  clear c0_0 c0_1 c0_2 c0_3 c0_4 c0_5 c0_6 c0_7 c1_0 c1_1 c1_2 c1_3 c1_4 c1_5 c1_6 c1_7 c2_0 c2_1
  clear hbb HB2
  have c0_0 := (HB3.out.own _ (List.mem_cons_self ..)).2.2.1 0 (by simp)
  have c0_1 := (HB3.out.own _ (List.mem_cons_self ..)).2.2.1 1 (by simp)
  have c0_2 := (HB3.out.own _ (List.mem_cons_self ..)).2.2.1 2 (by simp)
  have c0_3 := (HB3.out.own _ (List.mem_cons_self ..)).2.2.1 3 (by simp)
  have c0_4 := (HB3.out.own _ (List.mem_cons_self ..)).2.2.1 4 (by simp)
  have c0_5 := (HB3.out.own _ (List.mem_cons_self ..)).2.2.1 5 (by simp)
  have c0_6 := (HB3.out.own _ (List.mem_cons_self ..)).2.2.1 6 (by simp)
  have c0_7 := (HB3.out.own _ (List.mem_cons_self ..)).2.2.1 7 (by simp)
  simp only [List.getElem?_toArray, List.getElem?_cons_zero, List.getElem?_cons_succ] at c0_0 c0_1 c0_2 c0_3 c0_4 c0_5 c0_6 c0_7
  have c1_0 := (HB3.out.own _ (List.mem_cons_of_mem _ (List.mem_cons_self ..))).2.2.1 0 (by simp)
  have c1_1 := (HB3.out.own _ (List.mem_cons_of_mem _ (List.mem_cons_self ..))).2.2.1 1 (by simp)
  have c1_2 := (HB3.out.own _ (List.mem_cons_of_mem _ (List.mem_cons_self ..))).2.2.1 2 (by simp)
  have c1_3 := (HB3.out.own _ (List.mem_cons_of_mem _ (List.mem_cons_self ..))).2.2.1 3 (by simp)
  have c1_4 := (HB3.out.own _ (List.mem_cons_of_mem _ (List.mem_cons_self ..))).2.2.1 4 (by simp)
  have c1_5 := (HB3.out.own _ (List.mem_cons_of_mem _ (List.mem_cons_self ..))).2.2.1 5 (by simp)
  have c1_6 := (HB3.out.own _ (List.mem_cons_of_mem _ (List.mem_cons_self ..))).2.2.1 6 (by simp)
  have c1_7 := (HB3.out.own _ (List.mem_cons_of_mem _ (List.mem_cons_self ..))).2.2.1 7 (by simp)
  simp only [List.getElem?_toArray, List.getElem?_cons_zero, List.getElem?_cons_succ] at c1_0 c1_1 c1_2 c1_3 c1_4 c1_5 c1_6 c1_7
  obtain ⟨c2_0, c2_1⟩ := HB3.out.two (List.mem_cons_of_mem _ (List.mem_cons_of_mem _ (List.mem_cons_self ..)))
  go_wp2_with fail
  refine (HR.out _).mono ?_
  rintro e4 w4 ⟨rfl, hbb⟩
  have HB4 := Lib.hid (HB3.out.keep hbb)
  clear c0_0 c0_1 c0_2 c0_3 c0_4 c0_5 c0_6 c0_7 c1_0 c1_1 c1_2 c1_3 c1_4 c1_5 c1_6 c1_7 c2_0 c2_1
  clear hbb HB3
  go_wp2_with fail
  go_ret
  exact ⟨rfl, HB4.out.below⟩
theorem AlgebraSplits_law (a b xn0 xd0 xn1 xd1 xn2 xd2 xn3 xd3 yn0 yd0 yn1 yd1 yn2 yd2 yn3 yd3 : Int) (w : World) (_ : I64 a) (_ : I64 b) (hxn0 : I64 xn0) (hxd0 : I64 xd0) (hxn1 : I64 xn1) (hxd1 : I64 xd1) (hxn2 : I64 xn2) (hxd2 : I64 xd2) (hxn3 : I64 xn3) (hxd3 : I64 xd3) (hyn0 : I64 yn0) (hyd0 : I64 yd0) (hyn1 : I64 yn1) (hyd1 : I64 yd1) (hyn2 : I64 yn2) (hyd2 : I64 yd2) (hyn3 : I64 yn3) (hyd3 : I64 yd3) :
    Calls Tryz.prog 3 #[.agg #[.int .i64 a, .int .i64 b], .agg #[.int .i64 xn0, .int .i64 xd0, .int .i64 xn1, .int .i64 xd1, .int .i64 xn2, .int .i64 xd2, .int .i64 xn3, .int .i64 xd3], .agg #[.int .i64 yn0, .int .i64 yd0, .int .i64 yn1, .int .i64 yd1, .int .i64 yn2, .int .i64 yd2, .int .i64 yn3, .int .i64 yd3]] w fun e w' => e = .returned (.bool true) ∧ Below w.heap.size w w' := by
  by_cases h : aE a b = 0
  · exact splits_good a b xn0 xd0 xn1 xd1 xn2 xd2 xn3 xd3 yn0 yd0 yn1 yd1 yn2 yd2 yn3 yd3 w h hxn0 hxd0 hxn1 hxd1 hxn2 hxd2 hxn3 hxd3 hyn0 hyd0 hyn1 hyd1 hyn2 hyd2 hyn3 hyd3
  · exact splits_bad a b xn0 xd0 xn1 xd1 xn2 xd2 xn3 xd3 yn0 yd0 yn1 yd1 yn2 yd2 yn3 yd3 w h
end Go.Proofs.YtimdkjbmeogpoaaGreatDoor
