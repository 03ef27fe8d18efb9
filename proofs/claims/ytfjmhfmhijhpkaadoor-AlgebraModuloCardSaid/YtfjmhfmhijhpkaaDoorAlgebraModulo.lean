/- The law AlgebraModulo answers true at all algebras and numbers. -/
import Derived.Test.YtfjmhfmhijhpkaaDoorRim
import Derived.Test.YtfjmhfmhijhpkaaDoorAw30
namespace Go.Proofs.YtfjmhfmhijhpkaaDoor
open Go.RowKit FF

set_option maxHeartbeats 4000000 in
set_option maxRecDepth 100000 in
theorem AlgebraModulo_law (a b p : Int) (w : World) :
    Calls Tryd.prog 3 #[.agg #[.int .i64 a, .int .i64 b], .int .i64 p] w fun e w' => e = .returned (.bool true) ∧ Below w.heap.size w w' := by
  have HA := Lib.hid awake3_any
  have hC := fun w => rCheck_any a b w
  by_cases hE : aE a b = 0
  · rw [hE] at hC
    have HC := Lib.hid hC
    have hME := fun w => rCheckModulus_any a b p w
    cases hp : modP a b p
    · rw [show modE a b p = 11 by unfold modE; rw [hp]; rfl] at hME
      have HE := Lib.hid hME
      have HM := Lib.hid (fun w => qModulo_prime a b p w hE hp)
      clear hE hC hME hp
      go_enter Tryd.func3, Tryd.ntmps3
      go_upto_region 1 with fail
      obtain ⟨W0, hW0⟩ : ∃ W0 : World, W0 = (w.alloc (.cells #[.int .i64 a, .int .i64 b] 23)) := ⟨_, rfl⟩
      rw [← hW0]
      have HB0 := Lib.hid (show Bx w [(w.heap.size, #[.int .i64 a, .int .i64 b])] W0 by rw [hW0]; simpa using ((Bx.nil (Below.refl w.heap.size w)).new #[.int .i64 a, .int .i64 b] 23))
      clear hW0
      go_wp2_with fail
      refine (HA.out _).mono ?_
      rintro e1 w1 ⟨rfl, hbb⟩
      have HB1 := Lib.hid (HB0.out.keep hbb)
      clear hbb HB0
      obtain ⟨c0_0, c0_1⟩ := HB1.out.two (List.mem_cons_self ..)
      go_wp2_with fail
      refine (HM.out _).mono ?_
      rintro e2 w2 ⟨rfl, hbb⟩
      have HB2 := Lib.hid (HB1.out.keep hbb)
      clear c0_0 c0_1
      clear hbb HB1
      go_upto_region 4 with fail
      obtain ⟨V1, hV1⟩ : ∃ V1 : World, V1 = (w2.alloc (.cells #[.int .i64 0, .int .i64 0, .int .i64 0, .int .i64 0] 26)).alloc (.cells #[.int .i64 0, .int .i64 0, .int .i64 0, .int .i64 0] 26) := ⟨_, rfl⟩
      rw [← hV1]
      have HV1 := Lib.hid (show Bx w [(w2.heap.size + 1, #[.int .i64 0, .int .i64 0, .int .i64 0, .int .i64 0]), (w2.heap.size, #[.int .i64 0, .int .i64 0, .int .i64 0, .int .i64 0]), (w.heap.size, #[.int .i64 a, .int .i64 b])] V1 from hV1 ▸ (by simpa using (HB2.out.new #[.int .i64 0, .int .i64 0, .int .i64 0, .int .i64 0] 26).new #[.int .i64 0, .int .i64 0, .int .i64 0, .int .i64 0] 26))
      clear hV1 HB2
      generalize w2.heap.size = g at *
      obtain ⟨c2_0, c2_1⟩ := HV1.out.two (List.mem_cons_of_mem _ (List.mem_cons_of_mem _ (List.mem_cons_self ..)))
      go_wp2_with fail
      refine (HC.out _).mono ?_
      rintro e3 w3 ⟨rfl, hbb⟩
      have HB3 := Lib.hid (HV1.out.keep hbb)
      clear c2_0 c2_1
      clear hbb HV1
      obtain ⟨c2_0, c2_1⟩ := HB3.out.two (List.mem_cons_of_mem _ (List.mem_cons_of_mem _ (List.mem_cons_self ..)))
      go_wp2_with fail
      refine (HE.out _).mono ?_
      rintro e4 w4 ⟨rfl, hbb⟩
      have HB4 := Lib.hid (HB3.out.keep hbb)
      clear c2_0 c2_1
      clear hbb HB3
      obtain ⟨c0_0, c0_1, c0_2, c0_3⟩ := HB4.out.four (List.mem_cons_self ..)
      obtain ⟨c1_0, c1_1, c1_2, c1_3⟩ := HB4.out.four (List.mem_cons_of_mem _ (List.mem_cons_self ..))
      obtain ⟨c2_0, c2_1⟩ := HB4.out.two (List.mem_cons_of_mem _ (List.mem_cons_of_mem _ (List.mem_cons_self ..)))
      go_wp2_with fail
      go_ret
      exact ⟨rfl, HB4.out.below⟩

    · rw [show modE a b p = 0 by unfold modE; rw [hp]; rfl] at hME
      have HE := Lib.hid hME
      have hM := fun w => qModulo_good a b p w hE hp
      unfold ModPost at hM
      have HM := Lib.hid hM
      have HAb := Lib.hid (show (-1000 ≤ a ∧ a ≤ 1000) ∧ (-1000 ≤ b ∧ b ≤ 1000) from (aE_zero.1 hE).2.2)
      clear hE hC hME hp hM
      go_enter Tryd.func3, Tryd.ntmps3
      go_upto_region 1 with fail
      obtain ⟨W0, hW0⟩ : ∃ W0 : World, W0 = (w.alloc (.cells #[.int .i64 a, .int .i64 b] 23)) := ⟨_, rfl⟩
      rw [← hW0]
      have HB0 := Lib.hid (show Bx w [(w.heap.size, #[.int .i64 a, .int .i64 b])] W0 by rw [hW0]; simpa using ((Bx.nil (Below.refl w.heap.size w)).new #[.int .i64 a, .int .i64 b] 23))
      clear hW0
      go_wp2_with fail
      refine (HA.out _).mono ?_
      rintro e1 w1 ⟨rfl, hbb⟩
      have HB1 := Lib.hid (HB0.out.keep hbb)
      clear hbb HB0
      obtain ⟨c0_0, c0_1⟩ := HB1.out.two (List.mem_cons_self ..)
      go_wp2_with fail
      refine (HM.out _).mono ?_
      rintro e2 w2 ⟨u, v, x, y, m, n, hm, hx, hy, rfl, hbb⟩
      have HB2 := Lib.hid (HB1.out.keep hbb)
      clear c0_0 c0_1
      clear hbb HB1
      have HI := Lib.hid (fun w => rIsModulo_good a b p u v x y m n w hm hx hy HAb.out.1 HAb.out.2)
      clear hm hx hy
      go_upto_region 4 with fail
      obtain ⟨V1, hV1⟩ : ∃ V1 : World, V1 = (w2.alloc (.cells #[.int .i64 0, .int .i64 x, .int .i64 1, .int .i64 0] 26)).alloc (.cells #[.int .i64 u, .int .i64 m, .int .i64 v, .int .i64 n] 26) := ⟨_, rfl⟩
      rw [← hV1]
      have HV1 := Lib.hid (show Bx w [(w2.heap.size + 1, #[.int .i64 u, .int .i64 m, .int .i64 v, .int .i64 n]), (w2.heap.size, #[.int .i64 0, .int .i64 x, .int .i64 1, .int .i64 0]), (w.heap.size, #[.int .i64 a, .int .i64 b])] V1 from hV1 ▸ (by simpa using (HB2.out.new #[.int .i64 0, .int .i64 x, .int .i64 1, .int .i64 0] 26).new #[.int .i64 u, .int .i64 m, .int .i64 v, .int .i64 n] 26))
      clear hV1 HB2
      generalize w2.heap.size = g at *
      obtain ⟨c2_0, c2_1⟩ := HV1.out.two (List.mem_cons_of_mem _ (List.mem_cons_of_mem _ (List.mem_cons_self ..)))
      go_wp2_with fail
      refine (HC.out _).mono ?_
      rintro e3 w3 ⟨rfl, hbb⟩
      have HB3 := Lib.hid (HV1.out.keep hbb)
      clear c2_0 c2_1
      clear hbb HV1
      obtain ⟨c2_0, c2_1⟩ := HB3.out.two (List.mem_cons_of_mem _ (List.mem_cons_of_mem _ (List.mem_cons_self ..)))
      go_wp2_with fail
      refine (HE.out _).mono ?_
      rintro e4 w4 ⟨rfl, hbb⟩
      have HB4 := Lib.hid (HB3.out.keep hbb)
      clear c2_0 c2_1
      clear hbb HB3
      obtain ⟨c0_0, c0_1, c0_2, c0_3⟩ := HB4.out.four (List.mem_cons_self ..)
      obtain ⟨c1_0, c1_1, c1_2, c1_3⟩ := HB4.out.four (List.mem_cons_of_mem _ (List.mem_cons_self ..))
      obtain ⟨c2_0, c2_1⟩ := HB4.out.two (List.mem_cons_of_mem _ (List.mem_cons_of_mem _ (List.mem_cons_self ..)))
      go_wp2_with fail
      refine (HI.out _).mono ?_
      rintro e5 w5 ⟨rfl, hbb⟩
      have HB5 := Lib.hid (HB4.out.keep hbb)
      clear c0_0 c0_1 c0_2 c0_3 c1_0 c1_1 c1_2 c1_3 c2_0 c2_1
      clear hbb HB4
      go_wp2_with fail
      go_ret
      exact ⟨rfl, HB5.out.below⟩

  · have HM := Lib.hid (fun w => qModulo_bad a b p w hE)
    generalize aE a b = E at *
    have HC := Lib.hid hC
    have d1 : (E == 0) = false := f_beq hE
    have d2 : (E != 0) = true := bne_iff_ne.2 hE
    clear hC hE
    go_enter Tryd.func3, Tryd.ntmps3
    go_upto_region 1 with fail
    obtain ⟨W0, hW0⟩ : ∃ W0 : World, W0 = (w.alloc (.cells #[.int .i64 a, .int .i64 b] 23)) := ⟨_, rfl⟩
    rw [← hW0]
    have HB0 := Lib.hid (show Bx w [(w.heap.size, #[.int .i64 a, .int .i64 b])] W0 by rw [hW0]; simpa using ((Bx.nil (Below.refl w.heap.size w)).new #[.int .i64 a, .int .i64 b] 23))
    clear hW0
    go_wp2_with fail
    refine (HA.out _).mono ?_
    rintro e1 w1 ⟨rfl, hbb⟩
    have HB1 := Lib.hid (HB0.out.keep hbb)
    clear hbb HB0
    obtain ⟨c0_0, c0_1⟩ := HB1.out.two (List.mem_cons_self ..)
    go_wp2_with fail
    refine (HM.out _).mono ?_
    rintro e2 w2 ⟨rfl, hbb⟩
    have HB2 := Lib.hid (HB1.out.keep hbb)
    clear c0_0 c0_1
    clear hbb HB1
    go_upto_region 4 with fail
    obtain ⟨V1, hV1⟩ : ∃ V1 : World, V1 = (w2.alloc (.cells #[.int .i64 0, .int .i64 0, .int .i64 0, .int .i64 0] 26)).alloc (.cells #[.int .i64 0, .int .i64 0, .int .i64 0, .int .i64 0] 26) := ⟨_, rfl⟩
    rw [← hV1]
    have HV1 := Lib.hid (show Bx w [(w2.heap.size + 1, #[.int .i64 0, .int .i64 0, .int .i64 0, .int .i64 0]), (w2.heap.size, #[.int .i64 0, .int .i64 0, .int .i64 0, .int .i64 0]), (w.heap.size, #[.int .i64 a, .int .i64 b])] V1 from hV1 ▸ (by simpa using (HB2.out.new #[.int .i64 0, .int .i64 0, .int .i64 0, .int .i64 0] 26).new #[.int .i64 0, .int .i64 0, .int .i64 0, .int .i64 0] 26))
    clear hV1 HB2
    generalize w2.heap.size = g at *
    obtain ⟨c2_0, c2_1⟩ := HV1.out.two (List.mem_cons_of_mem _ (List.mem_cons_of_mem _ (List.mem_cons_self ..)))
    go_wp2_with fail
    refine (HC.out _).mono ?_
    rintro e3 w3 ⟨rfl, hbb⟩
    have HB3 := Lib.hid (HV1.out.keep hbb)
    clear c2_0 c2_1
    clear hbb HV1
    obtain ⟨c0_0, c0_1, c0_2, c0_3⟩ := HB3.out.four (List.mem_cons_self ..)
    obtain ⟨c1_0, c1_1, c1_2, c1_3⟩ := HB3.out.four (List.mem_cons_of_mem _ (List.mem_cons_self ..))
    go_wp2_with fail
    go_ret
    exact ⟨rfl, HB3.out.below⟩


end Go.Proofs.YtfjmhfmhijhpkaaDoor
