/- Modulo of the program: its refusals. -/
import Derived.Test.YtfjmhfmhijhpkaaMpi
namespace Go.Proofs.Ytfjmhfmhijhpkaa
open Go.RowKit FF

theorem Bx.four {w W : World} {L : List (Nat × Array Value)} (h : Bx w L W) {b : Nat} {v0 v1 v2 v3 : Value} (hm : (b, #[v0, v1, v2, v3]) ∈ L) : W.cell? ⟨b, 0, none⟩ = some v0 ∧ W.cell? ⟨b, 1, none⟩ = some v1 ∧ W.cell? ⟨b, 2, none⟩ = some v2 ∧ W.cell? ⟨b, 3, none⟩ = some v3 := (h.own _ hm).2.four
theorem Bx.fin44 {w W : World} {L : List (Nat × Array Value)} {i j : Nat} {x0 x1 x2 x3 y0 y1 y2 y3 : Value} (h : Bx w L W) (hi : (i, #[x0, x1, x2, x3]) ∈ L) (hj : (j, #[y0, y1, y2, y3]) ∈ L) (hne : i ≠ j) (u0 u1 u2 u3 v0 v1 v2 v3 : Value) :
    ∃ W9, (((((((((W.setCell ⟨i, 0, none⟩ u0).setCell ⟨i, 1, none⟩ u1).setCell ⟨i, 2, none⟩ u2).setCell ⟨i, 3, none⟩ u3).setCell ⟨j, 0, none⟩ v0).setCell ⟨j, 1, none⟩ v1).setCell ⟨j, 2, none⟩ v2).setCell ⟨j, 3, none⟩ v3)) = W9 ∧
      (W9.cell? ⟨i, 0, none⟩ = some u0 ∧ W9.cell? ⟨i, 1, none⟩ = some u1 ∧ W9.cell? ⟨i, 2, none⟩ = some u2 ∧ W9.cell? ⟨i, 3, none⟩ = some u3) ∧
      (W9.cell? ⟨j, 0, none⟩ = some v0 ∧ W9.cell? ⟨j, 1, none⟩ = some v1 ∧ W9.cell? ⟨j, 2, none⟩ = some v2 ∧ W9.cell? ⟨j, 3, none⟩ = some v3) ∧ Below w.heap.size w W9 := by
  obtain ⟨a0, a1, a2, a3⟩ := h.four hi
  obtain ⟨b0, b1, b2, b3⟩ := h.four hj
  refine ⟨_, rfl, ⟨?_, ?_, ?_, ?_⟩, ⟨?_, ?_, ?_, ?_⟩, below_set4 (below_set4 h.below (h.own _ hi).1 _ _ _ _) (h.own _ hj).1 _ _ _ _⟩ <;> simp [go_sem, a0, a1, a2, a3, b0, b1, b2, b3]

set_option maxHeartbeats 4000000 in
set_option maxRecDepth 100000 in
theorem qModulo_bad (a b p : Int) (w : World) (hE : aE a b ≠ 0) :
    Calls Try.prog 12 #[.agg #[.int .i64 a, .int .i64 b], .int .i64 p] w fun r w' => r = .returned (.tuple #[.agg #[.int .i64 0, .int .i64 0, .int .i64 0, .int .i64 0], .agg #[.int .i64 0, .int .i64 0, .int .i64 0, .int .i64 0], .int .i64 (aE a b)]) ∧ Below w.heap.size w w' := by
  have HC := Lib.hid (fun w => qCheck_any a b w)
  generalize aE a b = E at *
  have d1 : (E == 0) = false := f_beq hE
  go_enter Try.func12, Try.ntmps12
  go_upto_region 1 with fail
  obtain ⟨W0, hW0⟩ : ∃ W0 : World, W0 = ((w.alloc (.cells #[.int .i64 a, .int .i64 b] 23)).alloc (.cells #[.int .i64 0, .int .i64 0, .int .i64 0, .int .i64 0] 31)).alloc (.cells #[.int .i64 0, .int .i64 0, .int .i64 0, .int .i64 0] 31) := ⟨_, rfl⟩
  rw [← hW0]
  have HB0 := Lib.hid (show Bx w [(w.heap.size + 2, #[.int .i64 0, .int .i64 0, .int .i64 0, .int .i64 0]), (w.heap.size + 1, #[.int .i64 0, .int .i64 0, .int .i64 0, .int .i64 0]), (w.heap.size, #[.int .i64 a, .int .i64 b])] W0 by rw [hW0]; simpa using (((Bx.nil (Below.refl w.heap.size w)).new #[.int .i64 a, .int .i64 b] 23).new #[.int .i64 0, .int .i64 0, .int .i64 0, .int .i64 0] 31).new #[.int .i64 0, .int .i64 0, .int .i64 0, .int .i64 0] 31)
  clear hW0
  obtain ⟨c2_0, c2_1⟩ := HB0.out.two (List.mem_cons_of_mem _ (List.mem_cons_of_mem _ (List.mem_cons_self ..)))
  go_wp2_with fail
  refine (HC.out _).mono ?_
  rintro e1 w1 ⟨rfl, hbb⟩
  have HB1 := Lib.hid (HB0.out.keep hbb)
  clear c2_0 c2_1
  clear hbb HB0
  obtain ⟨c0_0, c0_1, c0_2, c0_3⟩ := HB1.out.four (List.mem_cons_self ..)
  obtain ⟨c1_0, c1_1, c1_2, c1_3⟩ := HB1.out.four (List.mem_cons_of_mem _ (List.mem_cons_self ..))
  obtain ⟨c2_0, c2_1⟩ := HB1.out.two (List.mem_cons_of_mem _ (List.mem_cons_of_mem _ (List.mem_cons_self ..)))
  obtain ⟨f0, f1, f2, f3, -⟩ := (HB1.out.own _ (List.mem_cons_self ..)).2.fr
  obtain ⟨g0, g1, g2, g3, -⟩ := (HB1.out.own _ (List.mem_cons_of_mem _ (List.mem_cons_self ..))).2.fr
  go_wp2_with fail
  obtain ⟨W9, e9, ⟨q0, q1, q2, q3⟩, ⟨r0, r1, r2, r3⟩, B9⟩ := HB1.out.fin44 (List.mem_cons_of_mem _ (List.mem_cons_self ..)) (List.mem_cons_self ..) (by omega) (.int .i64 0) (.int .i64 0) (.int .i64 0) (.int .i64 0) (.int .i64 0) (.int .i64 0) (.int .i64 0) (.int .i64 0)
  try rw [e9]
  refine bodyPost_ret (v := .tuple #[.agg #[.int .i64 0, .int .i64 0, .int .i64 0, .int .i64 0], .agg #[.int .i64 0, .int .i64 0, .int .i64 0, .int .i64 0], .int .i64 E]) (by simp [results, Try.results12, go_sem, q0, q1, q2, q3, r0, r1, r2, r3]) rfl ?_
  exact ⟨rfl, B9⟩


set_option maxHeartbeats 4000000 in
set_option maxRecDepth 100000 in
theorem qModulo_prime (a b p : Int) (w : World) (hE : aE a b = 0) (hp : modP a b p = false) :
    Calls Try.prog 12 #[.agg #[.int .i64 a, .int .i64 b], .int .i64 p] w fun r w' => r = .returned (.tuple #[.agg #[.int .i64 0, .int .i64 0, .int .i64 0, .int .i64 0], .agg #[.int .i64 0, .int .i64 0, .int .i64 0, .int .i64 0], .int .i64 11]) ∧ Below w.heap.size w w' := by
  have hC := fun w => qCheck_any a b w
  rw [hE] at hC
  have HC := Lib.hid hC
  have hPr := fun w => isPrime_any p w
  clear hE hC
  unfold modP at hp
  by_cases c1 : p < 3
  · clear hp hPr
    go_enter Try.func12, Try.ntmps12
    go_upto_region 1 with fail
    obtain ⟨W0, hW0⟩ : ∃ W0 : World, W0 = ((w.alloc (.cells #[.int .i64 a, .int .i64 b] 23)).alloc (.cells #[.int .i64 0, .int .i64 0, .int .i64 0, .int .i64 0] 31)).alloc (.cells #[.int .i64 0, .int .i64 0, .int .i64 0, .int .i64 0] 31) := ⟨_, rfl⟩
    rw [← hW0]
    have HB0 := Lib.hid (show Bx w [(w.heap.size + 2, #[.int .i64 0, .int .i64 0, .int .i64 0, .int .i64 0]), (w.heap.size + 1, #[.int .i64 0, .int .i64 0, .int .i64 0, .int .i64 0]), (w.heap.size, #[.int .i64 a, .int .i64 b])] W0 by rw [hW0]; simpa using (((Bx.nil (Below.refl w.heap.size w)).new #[.int .i64 a, .int .i64 b] 23).new #[.int .i64 0, .int .i64 0, .int .i64 0, .int .i64 0] 31).new #[.int .i64 0, .int .i64 0, .int .i64 0, .int .i64 0] 31)
    clear hW0
    obtain ⟨c2_0, c2_1⟩ := HB0.out.two (List.mem_cons_of_mem _ (List.mem_cons_of_mem _ (List.mem_cons_self ..)))
    go_wp2_with fail
    refine (HC.out _).mono ?_
    rintro e1 w1 ⟨rfl, hbb⟩
    have HB1 := Lib.hid (HB0.out.keep hbb)
    clear c2_0 c2_1
    clear hbb HB0
    obtain ⟨c0_0, c0_1, c0_2, c0_3⟩ := HB1.out.four (List.mem_cons_self ..)
    obtain ⟨c1_0, c1_1, c1_2, c1_3⟩ := HB1.out.four (List.mem_cons_of_mem _ (List.mem_cons_self ..))
    obtain ⟨c2_0, c2_1⟩ := HB1.out.two (List.mem_cons_of_mem _ (List.mem_cons_of_mem _ (List.mem_cons_self ..)))
    obtain ⟨f0, f1, f2, f3, -⟩ := (HB1.out.own _ (List.mem_cons_self ..)).2.fr
    obtain ⟨g0, g1, g2, g3, -⟩ := (HB1.out.own _ (List.mem_cons_of_mem _ (List.mem_cons_self ..))).2.fr
    go_wp2_with fail
    obtain ⟨W9, e9, ⟨q0, q1, q2, q3⟩, ⟨r0, r1, r2, r3⟩, B9⟩ := HB1.out.fin44 (List.mem_cons_of_mem _ (List.mem_cons_self ..)) (List.mem_cons_self ..) (by omega) (.int .i64 0) (.int .i64 0) (.int .i64 0) (.int .i64 0) (.int .i64 0) (.int .i64 0) (.int .i64 0) (.int .i64 0)
    try rw [e9]
    refine bodyPost_ret (v := .tuple #[.agg #[.int .i64 0, .int .i64 0, .int .i64 0, .int .i64 0], .agg #[.int .i64 0, .int .i64 0, .int .i64 0, .int .i64 0], .int .i64 11]) (by simp [results, Try.results12, go_sem, q0, q1, q2, q3, r0, r1, r2, r3]) rfl ?_
    exact ⟨rfl, B9⟩

  by_cases c2 : 10000 < p
  · clear hp hPr
    go_enter Try.func12, Try.ntmps12
    go_upto_region 1 with fail
    obtain ⟨W0, hW0⟩ : ∃ W0 : World, W0 = ((w.alloc (.cells #[.int .i64 a, .int .i64 b] 23)).alloc (.cells #[.int .i64 0, .int .i64 0, .int .i64 0, .int .i64 0] 31)).alloc (.cells #[.int .i64 0, .int .i64 0, .int .i64 0, .int .i64 0] 31) := ⟨_, rfl⟩
    rw [← hW0]
    have HB0 := Lib.hid (show Bx w [(w.heap.size + 2, #[.int .i64 0, .int .i64 0, .int .i64 0, .int .i64 0]), (w.heap.size + 1, #[.int .i64 0, .int .i64 0, .int .i64 0, .int .i64 0]), (w.heap.size, #[.int .i64 a, .int .i64 b])] W0 by rw [hW0]; simpa using (((Bx.nil (Below.refl w.heap.size w)).new #[.int .i64 a, .int .i64 b] 23).new #[.int .i64 0, .int .i64 0, .int .i64 0, .int .i64 0] 31).new #[.int .i64 0, .int .i64 0, .int .i64 0, .int .i64 0] 31)
    clear hW0
    obtain ⟨c2_0, c2_1⟩ := HB0.out.two (List.mem_cons_of_mem _ (List.mem_cons_of_mem _ (List.mem_cons_self ..)))
    go_wp2_with fail
    refine (HC.out _).mono ?_
    rintro e1 w1 ⟨rfl, hbb⟩
    have HB1 := Lib.hid (HB0.out.keep hbb)
    clear c2_0 c2_1
    clear hbb HB0
    obtain ⟨c0_0, c0_1, c0_2, c0_3⟩ := HB1.out.four (List.mem_cons_self ..)
    obtain ⟨c1_0, c1_1, c1_2, c1_3⟩ := HB1.out.four (List.mem_cons_of_mem _ (List.mem_cons_self ..))
    obtain ⟨c2_0, c2_1⟩ := HB1.out.two (List.mem_cons_of_mem _ (List.mem_cons_of_mem _ (List.mem_cons_self ..)))
    obtain ⟨f0, f1, f2, f3, -⟩ := (HB1.out.own _ (List.mem_cons_self ..)).2.fr
    obtain ⟨g0, g1, g2, g3, -⟩ := (HB1.out.own _ (List.mem_cons_of_mem _ (List.mem_cons_self ..))).2.fr
    go_wp2_with fail
    obtain ⟨W9, e9, ⟨q0, q1, q2, q3⟩, ⟨r0, r1, r2, r3⟩, B9⟩ := HB1.out.fin44 (List.mem_cons_of_mem _ (List.mem_cons_self ..)) (List.mem_cons_self ..) (by omega) (.int .i64 0) (.int .i64 0) (.int .i64 0) (.int .i64 0) (.int .i64 0) (.int .i64 0) (.int .i64 0) (.int .i64 0)
    try rw [e9]
    refine bodyPost_ret (v := .tuple #[.agg #[.int .i64 0, .int .i64 0, .int .i64 0, .int .i64 0], .agg #[.int .i64 0, .int .i64 0, .int .i64 0, .int .i64 0], .int .i64 11]) (by simp [results, Try.results12, go_sem, q0, q1, q2, q3, r0, r1, r2, r3]) rfl ?_
    exact ⟨rfl, B9⟩

  have hw : winB p 3 10000 = true := winB_iff.2 ⟨by omega, by omega⟩
  have hp0 : p ≠ 0 := by omega
  rw [hw] at hp
  clear hw
  cases hpb : isPB p
  · rw [hpb] at hPr
    have HPr := Lib.hid hPr
    clear hp hPr hpb
    go_enter Try.func12, Try.ntmps12
    go_upto_region 1 with fail
    obtain ⟨W0, hW0⟩ : ∃ W0 : World, W0 = ((w.alloc (.cells #[.int .i64 a, .int .i64 b] 23)).alloc (.cells #[.int .i64 0, .int .i64 0, .int .i64 0, .int .i64 0] 31)).alloc (.cells #[.int .i64 0, .int .i64 0, .int .i64 0, .int .i64 0] 31) := ⟨_, rfl⟩
    rw [← hW0]
    have HB0 := Lib.hid (show Bx w [(w.heap.size + 2, #[.int .i64 0, .int .i64 0, .int .i64 0, .int .i64 0]), (w.heap.size + 1, #[.int .i64 0, .int .i64 0, .int .i64 0, .int .i64 0]), (w.heap.size, #[.int .i64 a, .int .i64 b])] W0 by rw [hW0]; simpa using (((Bx.nil (Below.refl w.heap.size w)).new #[.int .i64 a, .int .i64 b] 23).new #[.int .i64 0, .int .i64 0, .int .i64 0, .int .i64 0] 31).new #[.int .i64 0, .int .i64 0, .int .i64 0, .int .i64 0] 31)
    clear hW0
    obtain ⟨c2_0, c2_1⟩ := HB0.out.two (List.mem_cons_of_mem _ (List.mem_cons_of_mem _ (List.mem_cons_self ..)))
    go_wp2_with fail
    refine (HC.out _).mono ?_
    rintro e1 w1 ⟨rfl, hbb⟩
    have HB1 := Lib.hid (HB0.out.keep hbb)
    clear c2_0 c2_1
    clear hbb HB0
    obtain ⟨c2_0, c2_1⟩ := HB1.out.two (List.mem_cons_of_mem _ (List.mem_cons_of_mem _ (List.mem_cons_self ..)))
    go_wp2_with fail
    refine (HPr.out _).mono ?_
    rintro e2 w2 ⟨rfl, n2, rfl⟩
    obtain ⟨W2, hW2⟩ : ∃ W2 : World, W2 = w1.drewN n2 := ⟨_, rfl⟩
    rw [← hW2]
    have HB2 := Lib.hid (show Bx w [(w.heap.size + 2, #[.int .i64 0, .int .i64 0, .int .i64 0, .int .i64 0]), (w.heap.size + 1, #[.int .i64 0, .int .i64 0, .int .i64 0, .int .i64 0]), (w.heap.size, #[.int .i64 a, .int .i64 b])] W2 from hW2 ▸ HB1.out.drewN n2)
    clear c2_0 c2_1
    clear hW2 HB1
    obtain ⟨c0_0, c0_1, c0_2, c0_3⟩ := HB2.out.four (List.mem_cons_self ..)
    obtain ⟨c1_0, c1_1, c1_2, c1_3⟩ := HB2.out.four (List.mem_cons_of_mem _ (List.mem_cons_self ..))
    obtain ⟨c2_0, c2_1⟩ := HB2.out.two (List.mem_cons_of_mem _ (List.mem_cons_of_mem _ (List.mem_cons_self ..)))
    obtain ⟨f0, f1, f2, f3, -⟩ := (HB2.out.own _ (List.mem_cons_self ..)).2.fr
    obtain ⟨g0, g1, g2, g3, -⟩ := (HB2.out.own _ (List.mem_cons_of_mem _ (List.mem_cons_self ..))).2.fr
    go_wp2_with fail
    obtain ⟨W9, e9, ⟨q0, q1, q2, q3⟩, ⟨r0, r1, r2, r3⟩, B9⟩ := HB2.out.fin44 (List.mem_cons_of_mem _ (List.mem_cons_self ..)) (List.mem_cons_self ..) (by omega) (.int .i64 0) (.int .i64 0) (.int .i64 0) (.int .i64 0) (.int .i64 0) (.int .i64 0) (.int .i64 0) (.int .i64 0)
    try rw [e9]
    refine bodyPost_ret (v := .tuple #[.agg #[.int .i64 0, .int .i64 0, .int .i64 0, .int .i64 0], .agg #[.int .i64 0, .int .i64 0, .int .i64 0, .int .i64 0], .int .i64 11]) (by simp [results, Try.results12, go_sem, q0, q1, q2, q3, r0, r1, r2, r3]) rfl ?_
    exact ⟨rfl, B9⟩

  rw [hpb] at hPr hp
  have HPr := Lib.hid hPr
  clear hPr hpb
  obtain ⟨x, hx⟩ : ∃ x, a.tmod p = x := ⟨_, rfl⟩
  obtain ⟨y, hy⟩ : ∃ y, b.tmod p = y := ⟨_, rfl⟩
  rw [hx, hy] at hp
  by_cases h1 : x = 0
  · subst h1
    clear hp
    go_enter Try.func12, Try.ntmps12
    go_upto_region 1 with fail
    obtain ⟨W0, hW0⟩ : ∃ W0 : World, W0 = ((w.alloc (.cells #[.int .i64 a, .int .i64 b] 23)).alloc (.cells #[.int .i64 0, .int .i64 0, .int .i64 0, .int .i64 0] 31)).alloc (.cells #[.int .i64 0, .int .i64 0, .int .i64 0, .int .i64 0] 31) := ⟨_, rfl⟩
    rw [← hW0]
    have HB0 := Lib.hid (show Bx w [(w.heap.size + 2, #[.int .i64 0, .int .i64 0, .int .i64 0, .int .i64 0]), (w.heap.size + 1, #[.int .i64 0, .int .i64 0, .int .i64 0, .int .i64 0]), (w.heap.size, #[.int .i64 a, .int .i64 b])] W0 by rw [hW0]; simpa using (((Bx.nil (Below.refl w.heap.size w)).new #[.int .i64 a, .int .i64 b] 23).new #[.int .i64 0, .int .i64 0, .int .i64 0, .int .i64 0] 31).new #[.int .i64 0, .int .i64 0, .int .i64 0, .int .i64 0] 31)
    clear hW0
    obtain ⟨c2_0, c2_1⟩ := HB0.out.two (List.mem_cons_of_mem _ (List.mem_cons_of_mem _ (List.mem_cons_self ..)))
    go_wp2_with fail
    refine (HC.out _).mono ?_
    rintro e1 w1 ⟨rfl, hbb⟩
    have HB1 := Lib.hid (HB0.out.keep hbb)
    clear c2_0 c2_1
    clear hbb HB0
    obtain ⟨c2_0, c2_1⟩ := HB1.out.two (List.mem_cons_of_mem _ (List.mem_cons_of_mem _ (List.mem_cons_self ..)))
    go_wp2_with fail
    refine (HPr.out _).mono ?_
    rintro e2 w2 ⟨rfl, n2, rfl⟩
    obtain ⟨W2, hW2⟩ : ∃ W2 : World, W2 = w1.drewN n2 := ⟨_, rfl⟩
    rw [← hW2]
    have HB2 := Lib.hid (show Bx w [(w.heap.size + 2, #[.int .i64 0, .int .i64 0, .int .i64 0, .int .i64 0]), (w.heap.size + 1, #[.int .i64 0, .int .i64 0, .int .i64 0, .int .i64 0]), (w.heap.size, #[.int .i64 a, .int .i64 b])] W2 from hW2 ▸ HB1.out.drewN n2)
    clear c2_0 c2_1
    clear hW2 HB1
    obtain ⟨c0_0, c0_1, c0_2, c0_3⟩ := HB2.out.four (List.mem_cons_self ..)
    obtain ⟨c1_0, c1_1, c1_2, c1_3⟩ := HB2.out.four (List.mem_cons_of_mem _ (List.mem_cons_self ..))
    obtain ⟨c2_0, c2_1⟩ := HB2.out.two (List.mem_cons_of_mem _ (List.mem_cons_of_mem _ (List.mem_cons_self ..)))
    obtain ⟨f0, f1, f2, f3, -⟩ := (HB2.out.own _ (List.mem_cons_self ..)).2.fr
    obtain ⟨g0, g1, g2, g3, -⟩ := (HB2.out.own _ (List.mem_cons_of_mem _ (List.mem_cons_self ..))).2.fr
    go_wp2_with fail
    obtain ⟨W9, e9, ⟨q0, q1, q2, q3⟩, ⟨r0, r1, r2, r3⟩, B9⟩ := HB2.out.fin44 (List.mem_cons_of_mem _ (List.mem_cons_self ..)) (List.mem_cons_self ..) (by omega) (.int .i64 0) (.int .i64 0) (.int .i64 0) (.int .i64 0) (.int .i64 0) (.int .i64 0) (.int .i64 0) (.int .i64 0)
    try rw [e9]
    refine bodyPost_ret (v := .tuple #[.agg #[.int .i64 0, .int .i64 0, .int .i64 0, .int .i64 0], .agg #[.int .i64 0, .int .i64 0, .int .i64 0, .int .i64 0], .int .i64 11]) (by simp [results, Try.results12, go_sem, q0, q1, q2, q3, r0, r1, r2, r3]) rfl ?_
    exact ⟨rfl, B9⟩

  have d1 : (x == 0) = false := f_beq h1
  rw [d1] at hp
  by_cases h2 : y = 0
  · subst h2
    clear hp
    go_enter Try.func12, Try.ntmps12
    go_upto_region 1 with fail
    obtain ⟨W0, hW0⟩ : ∃ W0 : World, W0 = ((w.alloc (.cells #[.int .i64 a, .int .i64 b] 23)).alloc (.cells #[.int .i64 0, .int .i64 0, .int .i64 0, .int .i64 0] 31)).alloc (.cells #[.int .i64 0, .int .i64 0, .int .i64 0, .int .i64 0] 31) := ⟨_, rfl⟩
    rw [← hW0]
    have HB0 := Lib.hid (show Bx w [(w.heap.size + 2, #[.int .i64 0, .int .i64 0, .int .i64 0, .int .i64 0]), (w.heap.size + 1, #[.int .i64 0, .int .i64 0, .int .i64 0, .int .i64 0]), (w.heap.size, #[.int .i64 a, .int .i64 b])] W0 by rw [hW0]; simpa using (((Bx.nil (Below.refl w.heap.size w)).new #[.int .i64 a, .int .i64 b] 23).new #[.int .i64 0, .int .i64 0, .int .i64 0, .int .i64 0] 31).new #[.int .i64 0, .int .i64 0, .int .i64 0, .int .i64 0] 31)
    clear hW0
    obtain ⟨c2_0, c2_1⟩ := HB0.out.two (List.mem_cons_of_mem _ (List.mem_cons_of_mem _ (List.mem_cons_self ..)))
    go_wp2_with fail
    refine (HC.out _).mono ?_
    rintro e1 w1 ⟨rfl, hbb⟩
    have HB1 := Lib.hid (HB0.out.keep hbb)
    clear c2_0 c2_1
    clear hbb HB0
    obtain ⟨c2_0, c2_1⟩ := HB1.out.two (List.mem_cons_of_mem _ (List.mem_cons_of_mem _ (List.mem_cons_self ..)))
    go_wp2_with fail
    refine (HPr.out _).mono ?_
    rintro e2 w2 ⟨rfl, n2, rfl⟩
    obtain ⟨W2, hW2⟩ : ∃ W2 : World, W2 = w1.drewN n2 := ⟨_, rfl⟩
    rw [← hW2]
    have HB2 := Lib.hid (show Bx w [(w.heap.size + 2, #[.int .i64 0, .int .i64 0, .int .i64 0, .int .i64 0]), (w.heap.size + 1, #[.int .i64 0, .int .i64 0, .int .i64 0, .int .i64 0]), (w.heap.size, #[.int .i64 a, .int .i64 b])] W2 from hW2 ▸ HB1.out.drewN n2)
    clear c2_0 c2_1
    clear hW2 HB1
    obtain ⟨c0_0, c0_1, c0_2, c0_3⟩ := HB2.out.four (List.mem_cons_self ..)
    obtain ⟨c1_0, c1_1, c1_2, c1_3⟩ := HB2.out.four (List.mem_cons_of_mem _ (List.mem_cons_self ..))
    obtain ⟨c2_0, c2_1⟩ := HB2.out.two (List.mem_cons_of_mem _ (List.mem_cons_of_mem _ (List.mem_cons_self ..)))
    obtain ⟨f0, f1, f2, f3, -⟩ := (HB2.out.own _ (List.mem_cons_self ..)).2.fr
    obtain ⟨g0, g1, g2, g3, -⟩ := (HB2.out.own _ (List.mem_cons_of_mem _ (List.mem_cons_self ..))).2.fr
    go_wp2_with fail
    obtain ⟨W9, e9, ⟨q0, q1, q2, q3⟩, ⟨r0, r1, r2, r3⟩, B9⟩ := HB2.out.fin44 (List.mem_cons_of_mem _ (List.mem_cons_self ..)) (List.mem_cons_self ..) (by omega) (.int .i64 0) (.int .i64 0) (.int .i64 0) (.int .i64 0) (.int .i64 0) (.int .i64 0) (.int .i64 0) (.int .i64 0)
    try rw [e9]
    refine bodyPost_ret (v := .tuple #[.agg #[.int .i64 0, .int .i64 0, .int .i64 0, .int .i64 0], .agg #[.int .i64 0, .int .i64 0, .int .i64 0, .int .i64 0], .int .i64 11]) (by simp [results, Try.results12, go_sem, q0, q1, q2, q3, r0, r1, r2, r3]) rfl ?_
    exact ⟨rfl, B9⟩

  · rw [f_beq h2] at hp
    cases hp

end Go.Proofs.Ytfjmhfmhijhpkaa
