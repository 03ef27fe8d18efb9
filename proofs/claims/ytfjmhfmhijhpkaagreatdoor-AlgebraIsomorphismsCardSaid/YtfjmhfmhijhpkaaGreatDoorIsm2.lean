/- The first images that the reference finds. -/
import Derived.Test.YtfjmhfmhijhpkaaGreatDoorIsr
import Derived.BigRegion
namespace Go.Proofs.YtfjmhfmhijhpkaaGreatDoor
open Go.RowKit FF

theorem Cells.five_ {W : World} {b : Nat} {v0 v1 v2 v3 v4 : Value} (h : Cells W b #[v0, v1, v2, v3, v4]) : W.cell? ⟨b, 0, none⟩ = some v0 ∧ W.cell? ⟨b, 1, none⟩ = some v1 ∧ W.cell? ⟨b, 2, none⟩ = some v2 ∧ W.cell? ⟨b, 3, none⟩ = some v3 ∧ W.cell? ⟨b, 4, none⟩ = some v4 :=
  ⟨h.2.1 0 (by simp), h.2.1 1 (by simp), h.2.1 2 (by simp), h.2.1 3 (by simp), h.2.1 4 (by simp)⟩
/-- two results are stored -/
theorem Bx.fin55 {w W : World} {L : List (Nat × Array Value)} {i j : Nat} {x0 x1 x2 x3 x4 y0 y1 y2 y3 y4 : Value} (h : Bx w L W) (hi : (i, #[x0, x1, x2, x3, x4]) ∈ L) (hj : (j, #[y0, y1, y2, y3, y4]) ∈ L) (hne : i ≠ j) (u0 u1 u2 u3 u4 v0 v1 v2 v3 v4 : Value) :
    ∃ W9, ((((((((((W.setCell ⟨i, 0, none⟩ u0).setCell ⟨i, 1, none⟩ u1).setCell ⟨i, 2, none⟩ u2).setCell ⟨i, 3, none⟩ u3).setCell ⟨i, 4, none⟩ u4).setCell ⟨j, 0, none⟩ v0).setCell ⟨j, 1, none⟩ v1).setCell ⟨j, 2, none⟩ v2).setCell ⟨j, 3, none⟩ v3).setCell ⟨j, 4, none⟩ v4) = W9 ∧
      (W9.cell? ⟨i, 0, none⟩ = some u0 ∧ W9.cell? ⟨i, 1, none⟩ = some u1 ∧ W9.cell? ⟨i, 2, none⟩ = some u2 ∧ W9.cell? ⟨i, 3, none⟩ = some u3 ∧ W9.cell? ⟨i, 4, none⟩ = some u4) ∧
      (W9.cell? ⟨j, 0, none⟩ = some v0 ∧ W9.cell? ⟨j, 1, none⟩ = some v1 ∧ W9.cell? ⟨j, 2, none⟩ = some v2 ∧ W9.cell? ⟨j, 3, none⟩ = some v3 ∧ W9.cell? ⟨j, 4, none⟩ = some v4) ∧ Below w.heap.size w W9 := by
  have c1 := (h.own _ hi).2.put5 u0 u1 u2 u3 u4
  have o1 := Only.put5 W i u0 u1 u2 u3 u4
  have d1 := (h.own _ hj).2.only o1 (fun e => hne e.symm)
  have c2 := d1.put5 v0 v1 v2 v3 v4
  have o2 := Only.put5 (((((W.setCell ⟨i, 0, none⟩ u0).setCell ⟨i, 1, none⟩ u1).setCell ⟨i, 2, none⟩ u2).setCell ⟨i, 3, none⟩ u3).setCell ⟨i, 4, none⟩ u4) j v0 v1 v2 v3 v4
  have e1 := c1.only o2 hne
  exact ⟨_, rfl, e1.five_, c2.five_, o2.below (o1.below h.below (h.own _ hi).1) (h.own _ hj).1⟩

set_option maxHeartbeats 4000000 in
set_option maxRecDepth 100000 in
theorem rIsomorphism_any (a b c d : Int) (w : World) (ha : aE a b = 0) (hc : aE c d = 0) :
    Calls Tryz.prog 12 #[.agg #[.int .i64 a, .int .i64 b], .agg #[.int .i64 c, .int .i64 d]] w fun r w' => r = .returned (.tuple #[qv (isoXX a b c d), qv (isoYY a b c d), .int .i64 (isoErr a b c d)]) ∧ Below w.heap.size w w' := by
  have HIs := Lib.hid (fun w => rIsomorphic_any a b c d w ha hc)
  have hab := aE_zero.1 ha
  have HP1 := Lib.hid (fun W (hB : w.heap.size + 4 ≤ W.heap.size) => (rPure_any c d a W hc ⟨by omega, by omega⟩).mono fun _ _ h => pure_word h hB)
  have HP2 := Lib.hid (fun W (hB : w.heap.size + 4 ≤ W.heap.size) => (rPure_any c d b W hc ⟨by omega, by omega⟩).mono fun _ _ h => pure_word h hB)
  have HT := Lib.hid (fun p0 p1 p2 p3 p4 q0 q1 q2 q3 q4 w hp hq => rTurned_any c d p0 p1 p2 p3 p4 q0 q1 q2 q3 q4 w hp hq hc)
  have HO := Lib.hid (show isoO a b c d = firstP (opB c d) (pick (rtB c d a) 9826) (pick (rtB c d b) 9826) from rfl)
  have HM1 := Lib.hid (fun q (h : q ∈ pick (rtB c d a) 9826) => (mem_pick (Nat.le_refl _) h).1)
  have HM2 := Lib.hid (fun q (h : q ∈ pick (rtB c d b) 9826) => (mem_pick (Nat.le_refl _) h).1)
  have hn1 := pick_length (rtB c d a) 9826; have hn2 := pick_length (rtB c d b) 9826
  have HX0 := Lib.hid (@iso_no a b c d); have HX1 := Lib.hid (@iso_none a b c d); have HX2 := Lib.hid (fun p q => @iso_some a b c d p q)
  clear ha hc hab
  generalize isoErr a b c d = E at *
  generalize isoXX a b c d = X at *
  generalize isoYY a b c d = Y at *
  generalize isoB a b c d = F at *
  generalize isoO a b c d = O at *
  generalize pick (rtB c d a) 9826 = L1 at *
  generalize pick (rtB c d b) 9826 = L2 at *
  generalize opB c d = r at *
  go_enter Tryz.func12, Tryz.ntmps12
  go_upto_region 1 with fail
  obtain ⟨W0, hW0⟩ : ∃ W0 : World, W0 = ((((w.alloc (.cells #[.int .i64 a, .int .i64 b] 23)).alloc (.cells #[.int .i64 c, .int .i64 d] 23)).alloc (.cells #[.int .i64 0, .int .i64 0, .int .i64 0, .int .i64 0, .int .i64 0] 29)).alloc (.cells #[.int .i64 0, .int .i64 0, .int .i64 0, .int .i64 0, .int .i64 0] 29)) := ⟨_, rfl⟩
  rw [← hW0]
  have HB0 := Lib.hid (show Bx w [(w.heap.size + 3, #[.int .i64 0, .int .i64 0, .int .i64 0, .int .i64 0, .int .i64 0]), (w.heap.size + 2, #[.int .i64 0, .int .i64 0, .int .i64 0, .int .i64 0, .int .i64 0]), (w.heap.size + 1, #[.int .i64 c, .int .i64 d]), (w.heap.size, #[.int .i64 a, .int .i64 b])] W0 by rw [hW0]; simpa using (((((Bx.nil (Below.refl w.heap.size w)).new #[.int .i64 a, .int .i64 b] 23).new #[.int .i64 c, .int .i64 d] 23).new #[.int .i64 0, .int .i64 0, .int .i64 0, .int .i64 0, .int .i64 0] 29).new #[.int .i64 0, .int .i64 0, .int .i64 0, .int .i64 0, .int .i64 0] 29))
  clear hW0
  obtain ⟨c0, c1⟩ := HB0.out.two (List.mem_cons_of_mem _ (List.mem_cons_of_mem _ (List.mem_cons_self ..)))
  obtain ⟨c2, c3⟩ := HB0.out.two (List.mem_cons_of_mem _ (List.mem_cons_of_mem _ (List.mem_cons_of_mem _ (List.mem_cons_self ..))))
  go_wp2_with fail
  refine (HIs.out _).mono ?_
  rintro e1 w1 ⟨rfl, hbb⟩
  have HB1 := Lib.hid (HB0.out.keep hbb)
  clear c0 c1 c2 c3 hbb HB0 HIs
  cases F
  · have HZ := Lib.hid (HX0.out rfl); clear HX0 HX1 HX2
    obtain ⟨c0, c1, c2, c3, c4⟩ := HB1.out.five (List.mem_cons_of_mem _ (List.mem_cons_self ..))
    obtain ⟨d0, d1, d2, d3, d4⟩ := HB1.out.five (List.mem_cons_self ..)
    have f0 := (HB1.out.own _ (List.mem_cons_of_mem _ (List.mem_cons_self ..))).2.2.2
    have f1 := (HB1.out.own _ (List.mem_cons_self ..)).2.2.2
    have hlt0 := (HB1.out.own _ (List.mem_cons_of_mem _ (List.mem_cons_self ..))).2.1; have hlt1 := (HB1.out.own _ (List.mem_cons_self ..)).2.1
    go_wp2_with fail
    obtain ⟨W9, e9, ⟨q0, q1, q2, q3, q4⟩, ⟨r0, r1, r2, r3, r4⟩, B9⟩ := HB1.out.fin55 (List.mem_cons_of_mem _ (List.mem_cons_self ..)) (List.mem_cons_self ..) (by omega) (.int .i64 0) (.int .i64 0) (.int .i64 0) (.int .i64 0) (.int .i64 0) (.int .i64 0) (.int .i64 0) (.int .i64 0) (.int .i64 0) (.int .i64 0)
    try rw [e9]
    refine bodyPost_ret (v := .tuple #[.agg #[.int .i64 0, .int .i64 0, .int .i64 0, .int .i64 0, .int .i64 0], .agg #[.int .i64 0, .int .i64 0, .int .i64 0, .int .i64 0, .int .i64 0], .int .i64 12]) (by simp [results, Tryz.results12, go_sem, q0, q1, q2, q3, q4, r0, r1, r2, r3, r4]) rfl ?_
    obtain ⟨x1, x2, x3⟩ := HZ.out
    exact ⟨by rw [x1, x2, x3]; rfl, B9⟩
  have HZ1 := Lib.hid (fun h => HX1.out rfl h); have HZ2 := Lib.hid (fun p q h => HX2.out p q rfl h); clear HX0 HX1 HX2
  have hsz1 : w.heap.size + 4 ≤ w1.heap.size := (HB1.out.own _ (List.mem_cons_self ..)).2.1
  go_upto_region 3 with fail
  refine wp_region_full (w.heap.size) [(0, 17, VC (.agg #[.int .i64 c, .int .i64 d])), (1, 18, VC (.pointer (some ⟨w.heap.size, 0, none⟩))), (2, 19, VC (.int .i64 a)), (3, 20, VF ((w.heap.size + 4)) (L1.length) (qflat L1)), (4, 21, VC (.agg #[.int .i64 c, .int .i64 d])), (5, 22, VC (.pointer (some ⟨w.heap.size, 1, none⟩))), (6, 23, VC (.int .i64 b)), (7, 24, VF ((w.heap.size + 4)) (L2.length) (qflat L2)), (8, 7, VF ((w.heap.size + 4)) (L1.length) (qflat L1)), (9, 8, VF ((w.heap.size + 4)) (L2.length) (qflat L2))] [] [⟨w.heap.size + 3, 999, 999, 999, #[.int .i64 0, .int .i64 0, .int .i64 0, .int .i64 0, .int .i64 0], fun v vs => v = .agg vs⟩, ⟨w.heap.size + 2, 999, 999, 999, #[.int .i64 0, .int .i64 0, .int .i64 0, .int .i64 0, .int .i64 0], fun v vs => v = .agg vs⟩, ⟨w.heap.size + 1, 999, 999, 999, #[.int .i64 c, .int .i64 d], fun v vs => v = .agg vs⟩, ⟨w.heap.size, 999, 999, 999, #[.int .i64 a, .int .i64 b], fun v vs => v = .agg vs⟩] (fun _ => True) [17, 18, 19, 20, 21, 22, 23, 24, 7, 8] ?_ (by kernel_rfl) (by kernel_rfl) (by kernel_rfl) (Firms.all (l := [(0, 17, VC (.agg #[.int .i64 c, .int .i64 d])), (1, 18, VC (.pointer (some ⟨w.heap.size, 0, none⟩))), (2, 19, VC (.int .i64 a)), (3, 20, VF ((w.heap.size + 4)) (L1.length) (qflat L1)), (4, 21, VC (.agg #[.int .i64 c, .int .i64 d])), (5, 22, VC (.pointer (some ⟨w.heap.size, 1, none⟩))), (6, 23, VC (.int .i64 b)), (7, 24, VF ((w.heap.size + 4)) (L2.length) (qflat L2)), (8, 7, VF ((w.heap.size + 4)) (L1.length) (qflat L1)), (9, 8, VF ((w.heap.size + 4)) (L2.length) (qflat L2))]) ⟨Firm.vc _, Firm.vc _, Firm.vc _, Firm.vf _ _ _, Firm.vc _, Firm.vc _, Firm.vc _, Firm.vf _ _ _, Firm.vf _ _ _, Firm.vf _ _ _, trivial⟩) (⟨fun _ _ _ _ _ => trivial, fun _ _ _ _ _ _ _ => trivial⟩) (trivial) ?_ ?_ ?_
  · exact HB1.out.below.size
  · intro c hc
    simp only [List.mem_cons, List.not_mem_nil, or_false] at hc
    rcases hc with rfl | rfl | rfl | rfl
    · exact ⟨(HB1.out.own _ (List.mem_cons_self ..)).2, fun h => absurd rfl h⟩
    · exact ⟨(HB1.out.own _ (List.mem_cons_of_mem _ (List.mem_cons_self ..))).2, fun h => absurd rfl h⟩
    · exact ⟨(HB1.out.own _ (List.mem_cons_of_mem _ (List.mem_cons_of_mem _ (List.mem_cons_self ..)))).2, fun h => absurd rfl h⟩
    · exact ⟨(HB1.out.own _ (List.mem_cons_of_mem _ (List.mem_cons_of_mem _ (List.mem_cons_of_mem _ (List.mem_cons_self ..))))).2, fun h => absurd rfl h⟩
  · refine forall_ops ⟨?_, ?_, ?_, ?_, ?_, ?_, ?_, ?_, ?_, ?_, trivial⟩
    · refine .inl ⟨.inl rfl, .inl ⟨by simp, by simp, fun y W hB hE hO hV K Q' hK => ?_⟩⟩
      have hc : Cells W (w.heap.size + 1) #[.int .i64 c, .int .i64 d] := hO _ (List.mem_cons_of_mem _ (List.mem_cons_of_mem _ (List.mem_cons_self ..))) rfl
      have k0 := hc.2.1 0 (by simp)
      have k1 := hc.2.1 1 (by simp)
      simp only [List.getElem?_toArray, List.getElem?_cons_zero, List.getElem?_cons_succ] at k0 k1
      clear hc
      simp only [fr, putAll, List.foldl_cons, List.foldl_nil, List.setIfInBounds_toArray, List.set_cons_zero, List.set_cons_succ] at hK ⊢
      go_simp
      exact hK (.agg #[.int .i64 c, .int .i64 d]) W (Below.refl _ _) (word_only (d := 17) (by kernel_rfl) (show VC _ _ W from rfl))
    · refine .inl ⟨.inl rfl, .inl ⟨by simp, by simp, fun y W hB hE hO hV K Q' hK => ?_⟩⟩
      simp only [fr, putAll, List.foldl_cons, List.foldl_nil, List.setIfInBounds_toArray, List.set_cons_zero, List.set_cons_succ] at hK ⊢
      go_simp
      exact hK (.pointer (some ⟨w.heap.size, 0, none⟩)) W (Below.refl _ _) (word_only (d := 18) (by kernel_rfl) (show VC _ _ W from rfl))
    · refine .inl ⟨.inl rfl, .inl ⟨by simp, by simp, fun y W hB hE hO hV K Q' hK => ?_⟩⟩
      have y18 : y 18 = .pointer (some ⟨w.heap.size, 0, none⟩) := hV (1, 18, VC (.pointer (some ⟨w.heap.size, 0, none⟩))) (word_get (by kernel_rfl)) (by kernel_rfl)
      have hc : Cells W (w.heap.size) #[.int .i64 a, .int .i64 b] := hO _ (List.mem_cons_of_mem _ (List.mem_cons_of_mem _ (List.mem_cons_of_mem _ (List.mem_cons_self ..)))) rfl
      have k0 := hc.2.1 0 (by simp)
      simp only [List.getElem?_toArray, List.getElem?_cons_zero] at k0
      clear hc
      simp only [fr, putAll, List.foldl_cons, List.foldl_nil, List.setIfInBounds_toArray, List.set_cons_zero, List.set_cons_succ] at hK ⊢
      simp only [y18] at hK ⊢
      go_simp
      exact hK (.int .i64 a) W (Below.refl _ _) (word_only (d := 19) (by kernel_rfl) (show VC _ _ W from rfl))
    · refine .inl ⟨.inl rfl, .inl ⟨by simp, by simp, fun y W hB hE hO hV K Q' hK => ?_⟩⟩
      have y17 : y 17 = .agg #[.int .i64 c, .int .i64 d] := hV (0, 17, VC (.agg #[.int .i64 c, .int .i64 d])) (word_get (by kernel_rfl)) (by kernel_rfl)
      have y19 : y 19 = .int .i64 a := hV (2, 19, VC (.int .i64 a)) (word_get (by kernel_rfl)) (by kernel_rfl)
      simp only [fr, putAll, List.foldl_cons, List.foldl_nil, List.setIfInBounds_toArray, List.set_cons_zero, List.set_cons_succ] at hK ⊢
      simp only [y17, y19] at hK ⊢
      go_simp
      refine (HP1.out W (Nat.le_trans hsz1 hB.size)).mono ?_
      rintro e w' ⟨v, rfl, hv, hb⟩
      exact hK v w' hb (word_only (d := 20) (by kernel_rfl) hv)
    · refine .inl ⟨.inl rfl, .inl ⟨by simp, by simp, fun y W hB hE hO hV K Q' hK => ?_⟩⟩
      have hc : Cells W (w.heap.size + 1) #[.int .i64 c, .int .i64 d] := hO _ (List.mem_cons_of_mem _ (List.mem_cons_of_mem _ (List.mem_cons_self ..))) rfl
      have k0 := hc.2.1 0 (by simp)
      have k1 := hc.2.1 1 (by simp)
      simp only [List.getElem?_toArray, List.getElem?_cons_zero, List.getElem?_cons_succ] at k0 k1
      clear hc
      simp only [fr, putAll, List.foldl_cons, List.foldl_nil, List.setIfInBounds_toArray, List.set_cons_zero, List.set_cons_succ] at hK ⊢
      go_simp
      exact hK (.agg #[.int .i64 c, .int .i64 d]) W (Below.refl _ _) (word_only (d := 21) (by kernel_rfl) (show VC _ _ W from rfl))
    · refine .inl ⟨.inl rfl, .inl ⟨by simp, by simp, fun y W hB hE hO hV K Q' hK => ?_⟩⟩
      simp only [fr, putAll, List.foldl_cons, List.foldl_nil, List.setIfInBounds_toArray, List.set_cons_zero, List.set_cons_succ] at hK ⊢
      go_simp
      exact hK (.pointer (some ⟨w.heap.size, 1, none⟩)) W (Below.refl _ _) (word_only (d := 22) (by kernel_rfl) (show VC _ _ W from rfl))
    · refine .inl ⟨.inl rfl, .inl ⟨by simp, by simp, fun y W hB hE hO hV K Q' hK => ?_⟩⟩
      have y22 : y 22 = .pointer (some ⟨w.heap.size, 1, none⟩) := hV (5, 22, VC (.pointer (some ⟨w.heap.size, 1, none⟩))) (word_get (by kernel_rfl)) (by kernel_rfl)
      have hc : Cells W (w.heap.size) #[.int .i64 a, .int .i64 b] := hO _ (List.mem_cons_of_mem _ (List.mem_cons_of_mem _ (List.mem_cons_of_mem _ (List.mem_cons_self ..)))) rfl
      have k0 := hc.2.1 1 (by simp)
      simp only [List.getElem?_toArray, List.getElem?_cons_zero, List.getElem?_cons_succ] at k0
      clear hc
      simp only [fr, putAll, List.foldl_cons, List.foldl_nil, List.setIfInBounds_toArray, List.set_cons_zero, List.set_cons_succ] at hK ⊢
      simp only [y22] at hK ⊢
      go_simp
      exact hK (.int .i64 b) W (Below.refl _ _) (word_only (d := 23) (by kernel_rfl) (show VC _ _ W from rfl))
    · refine .inl ⟨.inl rfl, .inl ⟨by simp, by simp, fun y W hB hE hO hV K Q' hK => ?_⟩⟩
      have y21 : y 21 = .agg #[.int .i64 c, .int .i64 d] := hV (4, 21, VC (.agg #[.int .i64 c, .int .i64 d])) (word_get (by kernel_rfl)) (by kernel_rfl)
      have y23 : y 23 = .int .i64 b := hV (6, 23, VC (.int .i64 b)) (word_get (by kernel_rfl)) (by kernel_rfl)
      simp only [fr, putAll, List.foldl_cons, List.foldl_nil, List.setIfInBounds_toArray, List.set_cons_zero, List.set_cons_succ] at hK ⊢
      simp only [y21, y23] at hK ⊢
      go_simp
      refine (HP2.out W (Nat.le_trans hsz1 hB.size)).mono ?_
      rintro e w' ⟨v, rfl, hv, hb⟩
      exact hK v w' hb (word_only (d := 24) (by kernel_rfl) hv)
    · refine .inl ⟨.inl rfl, .inl ⟨by simp, by simp, fun y W hB hE hO hV K Q' hK => ?_⟩⟩
      obtain ⟨u20_0, u20_1, y20, i20⟩ : VF ((w.heap.size + 4)) (L1.length) (qflat L1) (y 20) W := hV (3, 20, VF ((w.heap.size + 4)) (L1.length) (qflat L1)) (word_get (by kernel_rfl)) (by kernel_rfl)
      simp only [fr, putAll, List.foldl_cons, List.foldl_nil, List.setIfInBounds_toArray, List.set_cons_zero, List.set_cons_succ] at hK ⊢
      simp only [y20] at hK ⊢
      go_simp
      exact hK _ W (Below.refl _ _) (word_only (d := 7) (by kernel_rfl) (show VF ((w.heap.size + 4)) (L1.length) (qflat L1) _ W from ⟨_, _, rfl, i20⟩))
    · refine .inl ⟨.inl rfl, .inl ⟨by simp, by simp, fun y W hB hE hO hV K Q' hK => ?_⟩⟩
      obtain ⟨u24_0, u24_1, y24, i24⟩ : VF ((w.heap.size + 4)) (L2.length) (qflat L2) (y 24) W := hV (7, 24, VF ((w.heap.size + 4)) (L2.length) (qflat L2)) (word_get (by kernel_rfl)) (by kernel_rfl)
      simp only [fr, putAll, List.foldl_cons, List.foldl_nil, List.setIfInBounds_toArray, List.set_cons_zero, List.set_cons_succ] at hK ⊢
      simp only [y24] at hK ⊢
      go_simp
      exact hK _ W (Below.refl _ _) (word_only (d := 8) (by kernel_rfl) (show VF ((w.heap.size + 4)) (L2.length) (qflat L2) _ W from ⟨_, _, rfl, i24⟩))
  intro y W3 hB hE hO hV hX hA
  have y17 : y 17 = .agg #[.int .i64 c, .int .i64 d] := hV (0, 17, VC (.agg #[.int .i64 c, .int .i64 d])) (word_get (by kernel_rfl))
  have y18 : y 18 = .pointer (some ⟨w.heap.size, 0, none⟩) := hV (1, 18, VC (.pointer (some ⟨w.heap.size, 0, none⟩))) (word_get (by kernel_rfl))
  have y19 : y 19 = .int .i64 a := hV (2, 19, VC (.int .i64 a)) (word_get (by kernel_rfl))
  obtain ⟨u20_0, u20_1, y20, j20⟩ : VF ((w.heap.size + 4)) (L1.length) (qflat L1) (y 20) W3 := hV (3, 20, VF ((w.heap.size + 4)) (L1.length) (qflat L1)) (word_get (by kernel_rfl))
  have J20 := Lib.hid j20; clear j20
  have y21 : y 21 = .agg #[.int .i64 c, .int .i64 d] := hV (4, 21, VC (.agg #[.int .i64 c, .int .i64 d])) (word_get (by kernel_rfl))
  have y22 : y 22 = .pointer (some ⟨w.heap.size, 1, none⟩) := hV (5, 22, VC (.pointer (some ⟨w.heap.size, 1, none⟩))) (word_get (by kernel_rfl))
  have y23 : y 23 = .int .i64 b := hV (6, 23, VC (.int .i64 b)) (word_get (by kernel_rfl))
  obtain ⟨u24_0, u24_1, y24, j24⟩ : VF ((w.heap.size + 4)) (L2.length) (qflat L2) (y 24) W3 := hV (7, 24, VF ((w.heap.size + 4)) (L2.length) (qflat L2)) (word_get (by kernel_rfl))
  have J24 := Lib.hid j24; clear j24
  obtain ⟨u7_0, u7_1, y7, j7⟩ : VF ((w.heap.size + 4)) (L1.length) (qflat L1) (y 7) W3 := hV (8, 7, VF ((w.heap.size + 4)) (L1.length) (qflat L1)) (word_get (by kernel_rfl))
  have J7 := Lib.hid j7; clear j7
  obtain ⟨u8_0, u8_1, y8, j8⟩ : VF ((w.heap.size + 4)) (L2.length) (qflat L2) (y 8) W3 := hV (9, 8, VF ((w.heap.size + 4)) (L2.length) (qflat L2)) (word_get (by kernel_rfl))
  have J8 := Lib.hid j8; clear j8
  have ho0 := (hO _ (List.mem_cons_self ..)).1 rfl
  dsimp only at ho0
  have ho1 := (hO _ (List.mem_cons_of_mem _ (List.mem_cons_self ..))).1 rfl
  dsimp only at ho1
  have ho2 := (hO _ (List.mem_cons_of_mem _ (List.mem_cons_of_mem _ (List.mem_cons_self ..)))).1 rfl
  dsimp only at ho2
  have ho3 := (hO _ (List.mem_cons_of_mem _ (List.mem_cons_of_mem _ (List.mem_cons_of_mem _ (List.mem_cons_self ..))))).1 rfl
  dsimp only at ho3
  have HB2 := Lib.hid (show Bx w [(w.heap.size + 3, #[.int .i64 0, .int .i64 0, .int .i64 0, .int .i64 0, .int .i64 0]), (w.heap.size + 2, #[.int .i64 0, .int .i64 0, .int .i64 0, .int .i64 0, .int .i64 0]), (w.heap.size + 1, #[.int .i64 c, .int .i64 d]), (w.heap.size, #[.int .i64 a, .int .i64 b])] W3 from (((((Bx.nil (HB1.out.below.trans hB)).cons (HB1.out.own _ (List.mem_cons_of_mem _ (List.mem_cons_of_mem _ (List.mem_cons_of_mem _ (List.mem_cons_self ..))))).1 ho3).cons (HB1.out.own _ (List.mem_cons_of_mem _ (List.mem_cons_of_mem _ (List.mem_cons_self ..)))).1 ho2).cons (HB1.out.own _ (List.mem_cons_of_mem _ (List.mem_cons_self ..))).1 ho1).cons (HB1.out.own _ (List.mem_cons_self ..)).1 ho0))
  have HE1 := Lib.hid hE
  simp only [fr, putAll, List.foldl_cons, List.foldl_nil, List.setIfInBounds_toArray, List.set_cons_zero, List.set_cons_succ]
  simp only [y17, y18, y19, y20, y21, y22, y23, y24, y7, y8]
  clear y17 y18 y19 y20 y21 y22 y23 y24 y7 y8  hB hE hO hV hX hA ho0 ho1 ho2 ho3
  obtain ⟨⟨j7, -⟩, f7⟩ := J7.out; obtain ⟨⟨j8, -⟩, f8⟩ := J8.out
  have S1 := Lib.hid j7; have S2 := Lib.hid j8; have F1 := Lib.hid f7; have F2 := Lib.hid f8
  clear j7 j8 f7 f8 J7 J8 J20 J24 HP1 HP2 HB1 hsz1
  go_wp2_with fail
  go_loopw [9] (fun s9 wr => ∃ i : Nat, s9 = .int .i64 i ∧ i ≤ L1.length ∧ firstP r (L1.take i) L2 = none ∧ Bx w [(w.heap.size + 3, #[.int .i64 0, .int .i64 0, .int .i64 0, .int .i64 0, .int .i64 0]), (w.heap.size + 2, #[.int .i64 0, .int .i64 0, .int .i64 0, .int .i64 0, .int .i64 0]), (w.heap.size + 1, #[.int .i64 c, .int .i64 d]), (w.heap.size, #[.int .i64 a, .int .i64 b])] wr ∧ Below W3.heap.size W3 wr) (fun s9 _ => L1.length - (intOf s9).toNat)
  case atStart => exact ⟨0, rfl, Nat.zero_le _, rfl, HB2.out, Below.refl _ _⟩
  case round =>
    obtain ⟨i, rfl, hi, h0, hb, hbw⟩ := hrel
    have HB3 := Lib.hid hb; have HW3 := Lib.hid hbw; have H0 := Lib.hid h0; clear hb hbw h0
    by_cases hil : i < L1.length
    · obtain ⟨wo, hwo⟩ : ∃ wo : World, wo = wr := ⟨_, rfl⟩; subst hwo
      obtain ⟨pq, hpq⟩ : ∃ q, L1[i]? = some q := ⟨_, List.getElem?_eq_getElem hil⟩
      have hpb := HM1.out _ (List.mem_of_getElem? hpq)
      have HPI := Lib.hid hpq; have HPB := Lib.hid hpb.qB; clear hpq hpb
      go_wp2_with fail
      go_loopw [10] (fun s10 wr => ∃ k : Nat, s10 = .int .i64 k ∧ k ≤ L2.length ∧ (L2.take k).find? (r pq) = none ∧ Bx w [(w.heap.size + 3, #[.int .i64 0, .int .i64 0, .int .i64 0, .int .i64 0, .int .i64 0]), (w.heap.size + 2, #[.int .i64 0, .int .i64 0, .int .i64 0, .int .i64 0, .int .i64 0]), (w.heap.size + 1, #[.int .i64 c, .int .i64 d]), (w.heap.size, #[.int .i64 a, .int .i64 b])] wr ∧ Below W3.heap.size W3 wr) (fun s10 _ => L2.length - (intOf s10).toNat)
      case atStart => exact ⟨0, rfl, Nat.zero_le _, rfl, HB3.out, HW3.out⟩
      case round =>
        obtain ⟨k, rfl, hk, h1, hb, hbw⟩ := hrel
        have HB4 := Lib.hid hb; have HW4 := Lib.hid hbw; have H1 := Lib.hid h1; clear hb hbw h1 HB3 HW3
        by_cases hkl : k < L2.length
        · obtain ⟨qq, hqq⟩ : ∃ q, L2[k]? = some q := ⟨_, List.getElem?_eq_getElem hkl⟩
          have hqb := (HM2.out _ (List.mem_of_getElem? hqq)).qB
          have HQI := Lib.hid hqq
          obtain ⟨b1, o1, rfl, hb1, z0, z1, z2, z3, z4⟩ := S1.out.quat HPI.out
          obtain ⟨b2, o2, rfl, hb2, y0, y1, y2, y3, y4⟩ := S2.out.quat hqq
          have HPB' := HPB.out
          obtain ⟨p0, p1, p2, p3, p4⟩ := pq; obtain ⟨q0, q1, q2, q3, q4⟩ := qq
          have HTn := Lib.hid (fun w => HT.out p0 p1 p2 p3 p4 q0 q1 q2 q3 q4 w HPB' hqb)
          dsimp only at z0 z1 z2 z3 z4 y0 y1 y2 y3 y4
          clear HPB' hqb hqq
          replace z0 := (HW4.out.cell (p := ⟨b1, _, none⟩) hb1).trans z0
          replace z1 := (HW4.out.cell (p := ⟨b1, _, none⟩) hb1).trans z1
          replace z2 := (HW4.out.cell (p := ⟨b1, _, none⟩) hb1).trans z2
          replace z3 := (HW4.out.cell (p := ⟨b1, _, none⟩) hb1).trans z3
          replace z4 := (HW4.out.cell (p := ⟨b1, _, none⟩) hb1).trans z4
          replace y0 := (HW4.out.cell (p := ⟨b2, _, none⟩) hb2).trans y0
          replace y1 := (HW4.out.cell (p := ⟨b2, _, none⟩) hb2).trans y1
          replace y2 := (HW4.out.cell (p := ⟨b2, _, none⟩) hb2).trans y2
          replace y3 := (HW4.out.cell (p := ⟨b2, _, none⟩) hb2).trans y3
          replace y4 := (HW4.out.cell (p := ⟨b2, _, none⟩) hb2).trans y4
          replace hb1 := Nat.lt_of_lt_of_le hb1 HW4.out.size; replace hb2 := Nat.lt_of_lt_of_le hb2 HW4.out.size
          have x1 : (0 : Int) ≤ (i : Int) := by omega
          have x2 : (i : Int) < (L1.length : Int) := by omega
          have x3 : (0 : Int) ≤ (k : Int) := by omega
          have x4 : (k : Int) < (L2.length : Int) := by omega
          go_upto_region 10 with fail
          cases hr : r ⟨p0, p1, p2, p3, p4⟩ ⟨q0, q1, q2, q3, q4⟩
          · rw [hr] at HTn
            refine wp_region_inv (wr.heap.size) [(0, 37, .agg #[.int .i64 c, .int .i64 d]), (1, 38, .slice (some ⟨b1, o1, none⟩) L1.length u7_1), (2, 39, .int .i64 ((i : Int))), (3, 40, .pointer (some ⟨b1, o1 + i * 5, none⟩)), (4, 41, .agg #[.int .i64 p0, .int .i64 p1, .int .i64 p2, .int .i64 p3, .int .i64 p4]), (5, 42, .slice (some ⟨b2, o2, none⟩) L2.length u8_1), (6, 43, .int .i64 ((k : Int))), (7, 44, .pointer (some ⟨b2, o2 + k * 5, none⟩)), (8, 45, .agg #[.int .i64 q0, .int .i64 q1, .int .i64 q2, .int .i64 q3, .int .i64 q4]), (9, 46, .bool false)] [] [⟨w.heap.size + 3, 999, #[.int .i64 0, .int .i64 0, .int .i64 0, .int .i64 0, .int .i64 0], #[.int .i64 0, .int .i64 0, .int .i64 0, .int .i64 0, .int .i64 0]⟩, ⟨w.heap.size + 2, 999, #[.int .i64 0, .int .i64 0, .int .i64 0, .int .i64 0, .int .i64 0], #[.int .i64 0, .int .i64 0, .int .i64 0, .int .i64 0, .int .i64 0]⟩, ⟨w.heap.size + 1, 999, #[.int .i64 c, .int .i64 d], #[.int .i64 c, .int .i64 d]⟩, ⟨w.heap.size, 999, #[.int .i64 a, .int .i64 b], #[.int .i64 a, .int .i64 b]⟩] [37, 38, 39, 40, 41, 42, 43, 44, 45, 46] ?_ (by kernel_rfl) (by kernel_rfl) (by kernel_rfl) ?_ (forall_ops ⟨?_, ?_, ?_, ?_, ?_, ?_, ?_, ?_, ?_, ?_, trivial⟩) ?_
            · exact Nat.le_refl _
            · intro c hc
              simp only [List.mem_cons, List.not_mem_nil, or_false] at hc
              rcases hc with rfl | rfl | rfl | rfl
              · exact ⟨(HB4.out.own _ (List.mem_cons_self ..)).2, .inr rfl⟩
              · exact ⟨(HB4.out.own _ (List.mem_cons_of_mem _ (List.mem_cons_self ..))).2, .inr rfl⟩
              · exact ⟨(HB4.out.own _ (List.mem_cons_of_mem _ (List.mem_cons_of_mem _ (List.mem_cons_self ..)))).2, .inr rfl⟩
              · exact ⟨(HB4.out.own _ (List.mem_cons_of_mem _ (List.mem_cons_of_mem _ (List.mem_cons_of_mem _ (List.mem_cons_self ..))))).2, .inr rfl⟩
            · refine .inl ⟨.inl rfl, .inl ⟨.agg #[.int .i64 c, .int .i64 d], val_only (d := 37) (by kernel_rfl), by simp, by simp, fun y W hB hO hV K Q' hK => ?_⟩⟩
              have hc : Cells W (w.heap.size + 1) #[.int .i64 c, .int .i64 d] := hO _ (List.mem_cons_of_mem _ (List.mem_cons_of_mem _ (List.mem_cons_self ..))) rfl
              have kk := hc.two
              have k0 := kk.1
              have k1 := kk.2
              clear kk
              simp only [fr, putAll, List.foldl_cons, List.foldl_nil, List.setIfInBounds_toArray, List.set_cons_zero, List.set_cons_succ] at hK ⊢
              go_simp
              exact hK W (Below.refl _ _)
            · refine .inl ⟨.inl rfl, .inl ⟨.slice (some ⟨b1, o1, none⟩) L1.length u7_1, val_only (d := 38) (by kernel_rfl), by simp, by simp, fun y W hB hO hV K Q' hK => ?_⟩⟩
              simp only [fr, putAll, List.foldl_cons, List.foldl_nil, List.setIfInBounds_toArray, List.set_cons_zero, List.set_cons_succ] at hK ⊢
              go_simp
              exact hK W (Below.refl _ _)
            · refine .inl ⟨.inl rfl, .inl ⟨.int .i64 ((i : Int)), val_only (d := 39) (by kernel_rfl), by simp, by simp, fun y W hB hO hV K Q' hK => ?_⟩⟩
              simp only [fr, putAll, List.foldl_cons, List.foldl_nil, List.setIfInBounds_toArray, List.set_cons_zero, List.set_cons_succ] at hK ⊢
              go_simp
              exact hK W (Below.refl _ _)
            · refine .inl ⟨.inl rfl, .inl ⟨.pointer (some ⟨b1, o1 + i * 5, none⟩), val_only (d := 40) (by kernel_rfl), by simp, by simp, fun y W hB hO hV K Q' hK => ?_⟩⟩
              have y38 : y 38 = .slice (some ⟨b1, o1, none⟩) L1.length u7_1 := hV (1, 38, .slice (some ⟨b1, o1, none⟩) L1.length u7_1) (val_get (by kernel_rfl)) (by kernel_rfl)
              have y39 : y 39 = .int .i64 ((i : Int)) := hV (2, 39, .int .i64 ((i : Int))) (val_get (by kernel_rfl)) (by kernel_rfl)
              simp only [fr, putAll, List.foldl_cons, List.foldl_nil, List.setIfInBounds_toArray, List.set_cons_zero, List.set_cons_succ] at hK ⊢
              simp only [y38, y39] at hK ⊢
              go_simp
              exact hK W (Below.refl _ _)
            · refine .inl ⟨.inl rfl, .inl ⟨.agg #[.int .i64 p0, .int .i64 p1, .int .i64 p2, .int .i64 p3, .int .i64 p4], val_only (d := 41) (by kernel_rfl), by simp, by simp, fun y W hB hO hV K Q' hK => ?_⟩⟩
              have y40 : y 40 = .pointer (some ⟨b1, o1 + i * 5, none⟩) := hV (3, 40, .pointer (some ⟨b1, o1 + i * 5, none⟩)) (val_get (by kernel_rfl)) (by kernel_rfl)
              have k0 := (hB.cell (p := ⟨b1, o1 + i * 5, none⟩) hb1).trans z0
              have k1 := (hB.cell (p := ⟨b1, o1 + i * 5 + 1, none⟩) hb1).trans z1
              have k2 := (hB.cell (p := ⟨b1, o1 + i * 5 + 2, none⟩) hb1).trans z2
              have k3 := (hB.cell (p := ⟨b1, o1 + i * 5 + 3, none⟩) hb1).trans z3
              have k4 := (hB.cell (p := ⟨b1, o1 + i * 5 + 4, none⟩) hb1).trans z4
              simp only [fr, putAll, List.foldl_cons, List.foldl_nil, List.setIfInBounds_toArray, List.set_cons_zero, List.set_cons_succ] at hK ⊢
              simp only [y40] at hK ⊢
              go_simp
              exact hK W (Below.refl _ _)
            · refine .inl ⟨.inl rfl, .inl ⟨.slice (some ⟨b2, o2, none⟩) L2.length u8_1, val_only (d := 42) (by kernel_rfl), by simp, by simp, fun y W hB hO hV K Q' hK => ?_⟩⟩
              simp only [fr, putAll, List.foldl_cons, List.foldl_nil, List.setIfInBounds_toArray, List.set_cons_zero, List.set_cons_succ] at hK ⊢
              go_simp
              exact hK W (Below.refl _ _)
            · refine .inl ⟨.inl rfl, .inl ⟨.int .i64 ((k : Int)), val_only (d := 43) (by kernel_rfl), by simp, by simp, fun y W hB hO hV K Q' hK => ?_⟩⟩
              simp only [fr, putAll, List.foldl_cons, List.foldl_nil, List.setIfInBounds_toArray, List.set_cons_zero, List.set_cons_succ] at hK ⊢
              go_simp
              exact hK W (Below.refl _ _)
            · refine .inl ⟨.inl rfl, .inl ⟨.pointer (some ⟨b2, o2 + k * 5, none⟩), val_only (d := 44) (by kernel_rfl), by simp, by simp, fun y W hB hO hV K Q' hK => ?_⟩⟩
              have y42 : y 42 = .slice (some ⟨b2, o2, none⟩) L2.length u8_1 := hV (5, 42, .slice (some ⟨b2, o2, none⟩) L2.length u8_1) (val_get (by kernel_rfl)) (by kernel_rfl)
              have y43 : y 43 = .int .i64 ((k : Int)) := hV (6, 43, .int .i64 ((k : Int))) (val_get (by kernel_rfl)) (by kernel_rfl)
              simp only [fr, putAll, List.foldl_cons, List.foldl_nil, List.setIfInBounds_toArray, List.set_cons_zero, List.set_cons_succ] at hK ⊢
              simp only [y42, y43] at hK ⊢
              go_simp
              exact hK W (Below.refl _ _)
            · refine .inl ⟨.inl rfl, .inl ⟨.agg #[.int .i64 q0, .int .i64 q1, .int .i64 q2, .int .i64 q3, .int .i64 q4], val_only (d := 45) (by kernel_rfl), by simp, by simp, fun y W hB hO hV K Q' hK => ?_⟩⟩
              have y44 : y 44 = .pointer (some ⟨b2, o2 + k * 5, none⟩) := hV (7, 44, .pointer (some ⟨b2, o2 + k * 5, none⟩)) (val_get (by kernel_rfl)) (by kernel_rfl)
              have k0 := (hB.cell (p := ⟨b2, o2 + k * 5, none⟩) hb2).trans y0
              have k1 := (hB.cell (p := ⟨b2, o2 + k * 5 + 1, none⟩) hb2).trans y1
              have k2 := (hB.cell (p := ⟨b2, o2 + k * 5 + 2, none⟩) hb2).trans y2
              have k3 := (hB.cell (p := ⟨b2, o2 + k * 5 + 3, none⟩) hb2).trans y3
              have k4 := (hB.cell (p := ⟨b2, o2 + k * 5 + 4, none⟩) hb2).trans y4
              simp only [fr, putAll, List.foldl_cons, List.foldl_nil, List.setIfInBounds_toArray, List.set_cons_zero, List.set_cons_succ] at hK ⊢
              simp only [y44] at hK ⊢
              go_simp
              exact hK W (Below.refl _ _)
            · refine .inl ⟨.inl rfl, .inl ⟨.bool false, val_only (d := 46) (by kernel_rfl), by simp, by simp, fun y W hB hO hV K Q' hK => ?_⟩⟩
              have y37 : y 37 = .agg #[.int .i64 c, .int .i64 d] := hV (0, 37, .agg #[.int .i64 c, .int .i64 d]) (val_get (by kernel_rfl)) (by kernel_rfl)
              have y41 : y 41 = .agg #[.int .i64 p0, .int .i64 p1, .int .i64 p2, .int .i64 p3, .int .i64 p4] := hV (4, 41, .agg #[.int .i64 p0, .int .i64 p1, .int .i64 p2, .int .i64 p3, .int .i64 p4]) (val_get (by kernel_rfl)) (by kernel_rfl)
              have y45 : y 45 = .agg #[.int .i64 q0, .int .i64 q1, .int .i64 q2, .int .i64 q3, .int .i64 q4] := hV (8, 45, .agg #[.int .i64 q0, .int .i64 q1, .int .i64 q2, .int .i64 q3, .int .i64 q4]) (val_get (by kernel_rfl)) (by kernel_rfl)
              simp only [fr, putAll, List.foldl_cons, List.foldl_nil, List.setIfInBounds_toArray, List.set_cons_zero, List.set_cons_succ] at hK ⊢
              simp only [y37, y41, y45] at hK ⊢
              go_simp
              refine (HTn.out _).mono ?_
              intro e w' h
              rw [h.1]
              exact hK w' h.2
            intro y W5 hB hO hV hX hA
            have y37 : y 37 = .agg #[.int .i64 c, .int .i64 d] := hV (0, 37, .agg #[.int .i64 c, .int .i64 d]) (val_get (by kernel_rfl))
            have y38 : y 38 = .slice (some ⟨b1, o1, none⟩) L1.length u7_1 := hV (1, 38, .slice (some ⟨b1, o1, none⟩) L1.length u7_1) (val_get (by kernel_rfl))
            have y39 : y 39 = .int .i64 ((i : Int)) := hV (2, 39, .int .i64 ((i : Int))) (val_get (by kernel_rfl))
            have y40 : y 40 = .pointer (some ⟨b1, o1 + i * 5, none⟩) := hV (3, 40, .pointer (some ⟨b1, o1 + i * 5, none⟩)) (val_get (by kernel_rfl))
            have y41 : y 41 = .agg #[.int .i64 p0, .int .i64 p1, .int .i64 p2, .int .i64 p3, .int .i64 p4] := hV (4, 41, .agg #[.int .i64 p0, .int .i64 p1, .int .i64 p2, .int .i64 p3, .int .i64 p4]) (val_get (by kernel_rfl))
            have y42 : y 42 = .slice (some ⟨b2, o2, none⟩) L2.length u8_1 := hV (5, 42, .slice (some ⟨b2, o2, none⟩) L2.length u8_1) (val_get (by kernel_rfl))
            have y43 : y 43 = .int .i64 ((k : Int)) := hV (6, 43, .int .i64 ((k : Int))) (val_get (by kernel_rfl))
            have y44 : y 44 = .pointer (some ⟨b2, o2 + k * 5, none⟩) := hV (7, 44, .pointer (some ⟨b2, o2 + k * 5, none⟩)) (val_get (by kernel_rfl))
            have y45 : y 45 = .agg #[.int .i64 q0, .int .i64 q1, .int .i64 q2, .int .i64 q3, .int .i64 q4] := hV (8, 45, .agg #[.int .i64 q0, .int .i64 q1, .int .i64 q2, .int .i64 q3, .int .i64 q4]) (val_get (by kernel_rfl))
            have y46 : y 46 = .bool false := hV (9, 46, .bool false) (val_get (by kernel_rfl))
            have ho0 := hO _ (List.mem_cons_self ..)
            have ho1 := hO _ (List.mem_cons_of_mem _ (List.mem_cons_self ..))
            have ho2 := hO _ (List.mem_cons_of_mem _ (List.mem_cons_of_mem _ (List.mem_cons_self ..)))
            have ho3 := hO _ (List.mem_cons_of_mem _ (List.mem_cons_of_mem _ (List.mem_cons_of_mem _ (List.mem_cons_self ..))))
            dsimp only at ho0 ho1 ho2 ho3
            have HB5 := Lib.hid (show Bx w [(w.heap.size + 3, #[.int .i64 0, .int .i64 0, .int .i64 0, .int .i64 0, .int .i64 0]), (w.heap.size + 2, #[.int .i64 0, .int .i64 0, .int .i64 0, .int .i64 0, .int .i64 0]), (w.heap.size + 1, #[.int .i64 c, .int .i64 d]), (w.heap.size, #[.int .i64 a, .int .i64 b])] W5 from (((((Bx.nil (HB4.out.below.trans (hB.mono HB4.out.below.size))).cons (HB4.out.own _ (List.mem_cons_of_mem _ (List.mem_cons_of_mem _ (List.mem_cons_of_mem _ (List.mem_cons_self ..))))).1 ho3).cons (HB4.out.own _ (List.mem_cons_of_mem _ (List.mem_cons_of_mem _ (List.mem_cons_self ..)))).1 ho2).cons (HB4.out.own _ (List.mem_cons_of_mem _ (List.mem_cons_self ..))).1 ho1).cons (HB4.out.own _ (List.mem_cons_self ..)).1 ho0))
            simp only [fr, putAll, List.foldl_cons, List.foldl_nil, List.setIfInBounds_toArray, List.set_cons_zero, List.set_cons_succ]
            simp only [y37, y38, y39, y40, y41, y42, y43, y44, y45, y46]
            have hbv := hB
            clear y37 y38 y39 y40 y41 y42 y43 y44 y45 y46  hB hO hV hX hA ho0 ho1 ho2 ho3
            have HN := Lib.hid (find_step H1.out HQI.out hr)
            have HW5 := Lib.hid (HW4.out.trans (hbv.mono HW4.out.size))
            clear hbv HW4 HB4 HTn H1 z0 z1 z2 z3 z4 y0 y1 y2 y3 y4 hr
            go_wp2_with fail
            exact ⟨⟨k + 1, by go_num, by omega, HN.out, HB5.out, HW5.out⟩, by simp [intOf]; omega⟩
          rw [hr] at HTn
          refine wp_region_inv (wr.heap.size) [(0, 37, .agg #[.int .i64 c, .int .i64 d]), (1, 38, .slice (some ⟨b1, o1, none⟩) L1.length u7_1), (2, 39, .int .i64 ((i : Int))), (3, 40, .pointer (some ⟨b1, o1 + i * 5, none⟩)), (4, 41, .agg #[.int .i64 p0, .int .i64 p1, .int .i64 p2, .int .i64 p3, .int .i64 p4]), (5, 42, .slice (some ⟨b2, o2, none⟩) L2.length u8_1), (6, 43, .int .i64 ((k : Int))), (7, 44, .pointer (some ⟨b2, o2 + k * 5, none⟩)), (8, 45, .agg #[.int .i64 q0, .int .i64 q1, .int .i64 q2, .int .i64 q3, .int .i64 q4]), (9, 46, .bool true)] [] [⟨w.heap.size + 3, 999, #[.int .i64 0, .int .i64 0, .int .i64 0, .int .i64 0, .int .i64 0], #[.int .i64 0, .int .i64 0, .int .i64 0, .int .i64 0, .int .i64 0]⟩, ⟨w.heap.size + 2, 999, #[.int .i64 0, .int .i64 0, .int .i64 0, .int .i64 0, .int .i64 0], #[.int .i64 0, .int .i64 0, .int .i64 0, .int .i64 0, .int .i64 0]⟩, ⟨w.heap.size + 1, 999, #[.int .i64 c, .int .i64 d], #[.int .i64 c, .int .i64 d]⟩, ⟨w.heap.size, 999, #[.int .i64 a, .int .i64 b], #[.int .i64 a, .int .i64 b]⟩] [37, 38, 39, 40, 41, 42, 43, 44, 45, 46] ?_ (by kernel_rfl) (by kernel_rfl) (by kernel_rfl) ?_ (forall_ops ⟨?_, ?_, ?_, ?_, ?_, ?_, ?_, ?_, ?_, ?_, trivial⟩) ?_
          · exact Nat.le_refl _
          · intro c hc
            simp only [List.mem_cons, List.not_mem_nil, or_false] at hc
            rcases hc with rfl | rfl | rfl | rfl
            · exact ⟨(HB4.out.own _ (List.mem_cons_self ..)).2, .inr rfl⟩
            · exact ⟨(HB4.out.own _ (List.mem_cons_of_mem _ (List.mem_cons_self ..))).2, .inr rfl⟩
            · exact ⟨(HB4.out.own _ (List.mem_cons_of_mem _ (List.mem_cons_of_mem _ (List.mem_cons_self ..)))).2, .inr rfl⟩
            · exact ⟨(HB4.out.own _ (List.mem_cons_of_mem _ (List.mem_cons_of_mem _ (List.mem_cons_of_mem _ (List.mem_cons_self ..))))).2, .inr rfl⟩
          · refine .inl ⟨.inl rfl, .inl ⟨.agg #[.int .i64 c, .int .i64 d], val_only (d := 37) (by kernel_rfl), by simp, by simp, fun y W hB hO hV K Q' hK => ?_⟩⟩
            have hc : Cells W (w.heap.size + 1) #[.int .i64 c, .int .i64 d] := hO _ (List.mem_cons_of_mem _ (List.mem_cons_of_mem _ (List.mem_cons_self ..))) rfl
            have kk := hc.two
            have k0 := kk.1
            have k1 := kk.2
            clear kk
            simp only [fr, putAll, List.foldl_cons, List.foldl_nil, List.setIfInBounds_toArray, List.set_cons_zero, List.set_cons_succ] at hK ⊢
            go_simp
            exact hK W (Below.refl _ _)
          · refine .inl ⟨.inl rfl, .inl ⟨.slice (some ⟨b1, o1, none⟩) L1.length u7_1, val_only (d := 38) (by kernel_rfl), by simp, by simp, fun y W hB hO hV K Q' hK => ?_⟩⟩
            simp only [fr, putAll, List.foldl_cons, List.foldl_nil, List.setIfInBounds_toArray, List.set_cons_zero, List.set_cons_succ] at hK ⊢
            go_simp
            exact hK W (Below.refl _ _)
          · refine .inl ⟨.inl rfl, .inl ⟨.int .i64 ((i : Int)), val_only (d := 39) (by kernel_rfl), by simp, by simp, fun y W hB hO hV K Q' hK => ?_⟩⟩
            simp only [fr, putAll, List.foldl_cons, List.foldl_nil, List.setIfInBounds_toArray, List.set_cons_zero, List.set_cons_succ] at hK ⊢
            go_simp
            exact hK W (Below.refl _ _)
          · refine .inl ⟨.inl rfl, .inl ⟨.pointer (some ⟨b1, o1 + i * 5, none⟩), val_only (d := 40) (by kernel_rfl), by simp, by simp, fun y W hB hO hV K Q' hK => ?_⟩⟩
            have y38 : y 38 = .slice (some ⟨b1, o1, none⟩) L1.length u7_1 := hV (1, 38, .slice (some ⟨b1, o1, none⟩) L1.length u7_1) (val_get (by kernel_rfl)) (by kernel_rfl)
            have y39 : y 39 = .int .i64 ((i : Int)) := hV (2, 39, .int .i64 ((i : Int))) (val_get (by kernel_rfl)) (by kernel_rfl)
            simp only [fr, putAll, List.foldl_cons, List.foldl_nil, List.setIfInBounds_toArray, List.set_cons_zero, List.set_cons_succ] at hK ⊢
            simp only [y38, y39] at hK ⊢
            go_simp
            exact hK W (Below.refl _ _)
          · refine .inl ⟨.inl rfl, .inl ⟨.agg #[.int .i64 p0, .int .i64 p1, .int .i64 p2, .int .i64 p3, .int .i64 p4], val_only (d := 41) (by kernel_rfl), by simp, by simp, fun y W hB hO hV K Q' hK => ?_⟩⟩
            have y40 : y 40 = .pointer (some ⟨b1, o1 + i * 5, none⟩) := hV (3, 40, .pointer (some ⟨b1, o1 + i * 5, none⟩)) (val_get (by kernel_rfl)) (by kernel_rfl)
            have k0 := (hB.cell (p := ⟨b1, o1 + i * 5, none⟩) hb1).trans z0
            have k1 := (hB.cell (p := ⟨b1, o1 + i * 5 + 1, none⟩) hb1).trans z1
            have k2 := (hB.cell (p := ⟨b1, o1 + i * 5 + 2, none⟩) hb1).trans z2
            have k3 := (hB.cell (p := ⟨b1, o1 + i * 5 + 3, none⟩) hb1).trans z3
            have k4 := (hB.cell (p := ⟨b1, o1 + i * 5 + 4, none⟩) hb1).trans z4
            simp only [fr, putAll, List.foldl_cons, List.foldl_nil, List.setIfInBounds_toArray, List.set_cons_zero, List.set_cons_succ] at hK ⊢
            simp only [y40] at hK ⊢
            go_simp
            exact hK W (Below.refl _ _)
          · refine .inl ⟨.inl rfl, .inl ⟨.slice (some ⟨b2, o2, none⟩) L2.length u8_1, val_only (d := 42) (by kernel_rfl), by simp, by simp, fun y W hB hO hV K Q' hK => ?_⟩⟩
            simp only [fr, putAll, List.foldl_cons, List.foldl_nil, List.setIfInBounds_toArray, List.set_cons_zero, List.set_cons_succ] at hK ⊢
            go_simp
            exact hK W (Below.refl _ _)
          · refine .inl ⟨.inl rfl, .inl ⟨.int .i64 ((k : Int)), val_only (d := 43) (by kernel_rfl), by simp, by simp, fun y W hB hO hV K Q' hK => ?_⟩⟩
            simp only [fr, putAll, List.foldl_cons, List.foldl_nil, List.setIfInBounds_toArray, List.set_cons_zero, List.set_cons_succ] at hK ⊢
            go_simp
            exact hK W (Below.refl _ _)
          · refine .inl ⟨.inl rfl, .inl ⟨.pointer (some ⟨b2, o2 + k * 5, none⟩), val_only (d := 44) (by kernel_rfl), by simp, by simp, fun y W hB hO hV K Q' hK => ?_⟩⟩
            have y42 : y 42 = .slice (some ⟨b2, o2, none⟩) L2.length u8_1 := hV (5, 42, .slice (some ⟨b2, o2, none⟩) L2.length u8_1) (val_get (by kernel_rfl)) (by kernel_rfl)
            have y43 : y 43 = .int .i64 ((k : Int)) := hV (6, 43, .int .i64 ((k : Int))) (val_get (by kernel_rfl)) (by kernel_rfl)
            simp only [fr, putAll, List.foldl_cons, List.foldl_nil, List.setIfInBounds_toArray, List.set_cons_zero, List.set_cons_succ] at hK ⊢
            simp only [y42, y43] at hK ⊢
            go_simp
            exact hK W (Below.refl _ _)
          · refine .inl ⟨.inl rfl, .inl ⟨.agg #[.int .i64 q0, .int .i64 q1, .int .i64 q2, .int .i64 q3, .int .i64 q4], val_only (d := 45) (by kernel_rfl), by simp, by simp, fun y W hB hO hV K Q' hK => ?_⟩⟩
            have y44 : y 44 = .pointer (some ⟨b2, o2 + k * 5, none⟩) := hV (7, 44, .pointer (some ⟨b2, o2 + k * 5, none⟩)) (val_get (by kernel_rfl)) (by kernel_rfl)
            have k0 := (hB.cell (p := ⟨b2, o2 + k * 5, none⟩) hb2).trans y0
            have k1 := (hB.cell (p := ⟨b2, o2 + k * 5 + 1, none⟩) hb2).trans y1
            have k2 := (hB.cell (p := ⟨b2, o2 + k * 5 + 2, none⟩) hb2).trans y2
            have k3 := (hB.cell (p := ⟨b2, o2 + k * 5 + 3, none⟩) hb2).trans y3
            have k4 := (hB.cell (p := ⟨b2, o2 + k * 5 + 4, none⟩) hb2).trans y4
            simp only [fr, putAll, List.foldl_cons, List.foldl_nil, List.setIfInBounds_toArray, List.set_cons_zero, List.set_cons_succ] at hK ⊢
            simp only [y44] at hK ⊢
            go_simp
            exact hK W (Below.refl _ _)
          · refine .inl ⟨.inl rfl, .inl ⟨.bool true, val_only (d := 46) (by kernel_rfl), by simp, by simp, fun y W hB hO hV K Q' hK => ?_⟩⟩
            have y37 : y 37 = .agg #[.int .i64 c, .int .i64 d] := hV (0, 37, .agg #[.int .i64 c, .int .i64 d]) (val_get (by kernel_rfl)) (by kernel_rfl)
            have y41 : y 41 = .agg #[.int .i64 p0, .int .i64 p1, .int .i64 p2, .int .i64 p3, .int .i64 p4] := hV (4, 41, .agg #[.int .i64 p0, .int .i64 p1, .int .i64 p2, .int .i64 p3, .int .i64 p4]) (val_get (by kernel_rfl)) (by kernel_rfl)
            have y45 : y 45 = .agg #[.int .i64 q0, .int .i64 q1, .int .i64 q2, .int .i64 q3, .int .i64 q4] := hV (8, 45, .agg #[.int .i64 q0, .int .i64 q1, .int .i64 q2, .int .i64 q3, .int .i64 q4]) (val_get (by kernel_rfl)) (by kernel_rfl)
            simp only [fr, putAll, List.foldl_cons, List.foldl_nil, List.setIfInBounds_toArray, List.set_cons_zero, List.set_cons_succ] at hK ⊢
            simp only [y37, y41, y45] at hK ⊢
            go_simp
            refine (HTn.out _).mono ?_
            intro e w' h
            rw [h.1]
            exact hK w' h.2
          intro y W5 hB hO hV hX hA
          have y37 : y 37 = .agg #[.int .i64 c, .int .i64 d] := hV (0, 37, .agg #[.int .i64 c, .int .i64 d]) (val_get (by kernel_rfl))
          have y38 : y 38 = .slice (some ⟨b1, o1, none⟩) L1.length u7_1 := hV (1, 38, .slice (some ⟨b1, o1, none⟩) L1.length u7_1) (val_get (by kernel_rfl))
          have y39 : y 39 = .int .i64 ((i : Int)) := hV (2, 39, .int .i64 ((i : Int))) (val_get (by kernel_rfl))
          have y40 : y 40 = .pointer (some ⟨b1, o1 + i * 5, none⟩) := hV (3, 40, .pointer (some ⟨b1, o1 + i * 5, none⟩)) (val_get (by kernel_rfl))
          have y41 : y 41 = .agg #[.int .i64 p0, .int .i64 p1, .int .i64 p2, .int .i64 p3, .int .i64 p4] := hV (4, 41, .agg #[.int .i64 p0, .int .i64 p1, .int .i64 p2, .int .i64 p3, .int .i64 p4]) (val_get (by kernel_rfl))
          have y42 : y 42 = .slice (some ⟨b2, o2, none⟩) L2.length u8_1 := hV (5, 42, .slice (some ⟨b2, o2, none⟩) L2.length u8_1) (val_get (by kernel_rfl))
          have y43 : y 43 = .int .i64 ((k : Int)) := hV (6, 43, .int .i64 ((k : Int))) (val_get (by kernel_rfl))
          have y44 : y 44 = .pointer (some ⟨b2, o2 + k * 5, none⟩) := hV (7, 44, .pointer (some ⟨b2, o2 + k * 5, none⟩)) (val_get (by kernel_rfl))
          have y45 : y 45 = .agg #[.int .i64 q0, .int .i64 q1, .int .i64 q2, .int .i64 q3, .int .i64 q4] := hV (8, 45, .agg #[.int .i64 q0, .int .i64 q1, .int .i64 q2, .int .i64 q3, .int .i64 q4]) (val_get (by kernel_rfl))
          have y46 : y 46 = .bool true := hV (9, 46, .bool true) (val_get (by kernel_rfl))
          have ho0 := hO _ (List.mem_cons_self ..)
          have ho1 := hO _ (List.mem_cons_of_mem _ (List.mem_cons_self ..))
          have ho2 := hO _ (List.mem_cons_of_mem _ (List.mem_cons_of_mem _ (List.mem_cons_self ..)))
          have ho3 := hO _ (List.mem_cons_of_mem _ (List.mem_cons_of_mem _ (List.mem_cons_of_mem _ (List.mem_cons_self ..))))
          dsimp only at ho0 ho1 ho2 ho3
          have HB5 := Lib.hid (show Bx w [(w.heap.size + 3, #[.int .i64 0, .int .i64 0, .int .i64 0, .int .i64 0, .int .i64 0]), (w.heap.size + 2, #[.int .i64 0, .int .i64 0, .int .i64 0, .int .i64 0, .int .i64 0]), (w.heap.size + 1, #[.int .i64 c, .int .i64 d]), (w.heap.size, #[.int .i64 a, .int .i64 b])] W5 from (((((Bx.nil (HB4.out.below.trans (hB.mono HB4.out.below.size))).cons (HB4.out.own _ (List.mem_cons_of_mem _ (List.mem_cons_of_mem _ (List.mem_cons_of_mem _ (List.mem_cons_self ..))))).1 ho3).cons (HB4.out.own _ (List.mem_cons_of_mem _ (List.mem_cons_of_mem _ (List.mem_cons_self ..)))).1 ho2).cons (HB4.out.own _ (List.mem_cons_of_mem _ (List.mem_cons_self ..))).1 ho1).cons (HB4.out.own _ (List.mem_cons_self ..)).1 ho0))
          simp only [fr, putAll, List.foldl_cons, List.foldl_nil, List.setIfInBounds_toArray, List.set_cons_zero, List.set_cons_succ]
          simp only [y37, y38, y39, y40, y41, y42, y43, y44, y45, y46]
          have hbv := hB
          clear y37 y38 y39 y40 y41 y42 y43 y44 y45 y46  hB hO hV hX hA ho0 ho1 ho2 ho3
          have HFd := Lib.hid (HO.out.trans (firstP_hit H0.out HPI.out (find_hit H1.out HQI.out hr)))
          replace z0 := (hbv.cell (p := ⟨b1, _, none⟩) hb1).trans z0
          replace z1 := (hbv.cell (p := ⟨b1, _, none⟩) hb1).trans z1
          replace z2 := (hbv.cell (p := ⟨b1, _, none⟩) hb1).trans z2
          replace z3 := (hbv.cell (p := ⟨b1, _, none⟩) hb1).trans z3
          replace z4 := (hbv.cell (p := ⟨b1, _, none⟩) hb1).trans z4
          replace y0 := (hbv.cell (p := ⟨b2, _, none⟩) hb2).trans y0
          replace y1 := (hbv.cell (p := ⟨b2, _, none⟩) hb2).trans y1
          replace y2 := (hbv.cell (p := ⟨b2, _, none⟩) hb2).trans y2
          replace y3 := (hbv.cell (p := ⟨b2, _, none⟩) hb2).trans y3
          replace y4 := (hbv.cell (p := ⟨b2, _, none⟩) hb2).trans y4
          replace hb1 := Nat.lt_of_lt_of_le hb1 hbv.size; replace hb2 := Nat.lt_of_lt_of_le hb2 hbv.size
          clear hbv HW4 HB4 HTn H1 H0 HO hr HT HM1 HM2
          go_upto_region 11 with fail
          have ne1 : b1 ≠ w.heap.size + 2 := by have := F1.out _ rfl; dsimp only at this; omega
          have ne2 : b1 ≠ w.heap.size + 3 := by have := F1.out _ rfl; dsimp only at this; omega
          have ne3 : b2 ≠ w.heap.size + 2 := by have := F2.out _ rfl; dsimp only at this; omega
          have ne4 : b2 ≠ w.heap.size + 3 := by have := F2.out _ rfl; dsimp only at this; omega
          have me1 := ne1.symm; have me2 := ne2.symm; have me3 := ne3.symm; have me4 := ne4.symm
          obtain ⟨d0, d1, d2, d3, d4⟩ := HB5.out.five (List.mem_cons_of_mem _ (List.mem_cons_self ..))
          obtain ⟨g0, g1, g2, g3, g4⟩ := HB5.out.five (List.mem_cons_self ..)
          have f0 := (HB5.out.own _ (List.mem_cons_of_mem _ (List.mem_cons_self ..))).2.2.2 0; have f1 := (HB5.out.own _ (List.mem_cons_of_mem _ (List.mem_cons_self ..))).2.2.2 1; have f2 := (HB5.out.own _ (List.mem_cons_of_mem _ (List.mem_cons_self ..))).2.2.2 2; have f3 := (HB5.out.own _ (List.mem_cons_of_mem _ (List.mem_cons_self ..))).2.2.2 3; have f4 := (HB5.out.own _ (List.mem_cons_of_mem _ (List.mem_cons_self ..))).2.2.2 4
          have h0 := (HB5.out.own _ (List.mem_cons_self ..)).2.2.2 0; have h1 := (HB5.out.own _ (List.mem_cons_self ..)).2.2.2 1; have h2 := (HB5.out.own _ (List.mem_cons_self ..)).2.2.2 2; have h3 := (HB5.out.own _ (List.mem_cons_self ..)).2.2.2 3; have h4 := (HB5.out.own _ (List.mem_cons_self ..)).2.2.2 4
          dsimp only at f0 f1 f2 f3 f4 h0 h1 h2 h3 h4
          go_region
          all_goals go_wp2_with fail
          obtain ⟨W9, e9, ⟨q0', q1', q2', q3', q4'⟩, ⟨r0', r1', r2', r3', r4'⟩, B9⟩ := HB5.out.fin55 (List.mem_cons_of_mem _ (List.mem_cons_self ..)) (List.mem_cons_self ..) (by omega) (.int .i64 p0) (.int .i64 p1) (.int .i64 p2) (.int .i64 p3) (.int .i64 p4) (.int .i64 q0) (.int .i64 q1) (.int .i64 q2) (.int .i64 q3) (.int .i64 q4)
          try rw [e9]
          refine bodyPost_ret (v := .tuple #[.agg #[.int .i64 p0, .int .i64 p1, .int .i64 p2, .int .i64 p3, .int .i64 p4], .agg #[.int .i64 q0, .int .i64 q1, .int .i64 q2, .int .i64 q3, .int .i64 q4], .int .i64 0]) (by simp [results, Tryz.results12, go_sem, q0', q1', q2', q3', q4', r0', r1', r2', r3', r4']) rfl ?_
          obtain ⟨x1, x2, x3⟩ := HZ2.out _ _ HFd.out
          exact ⟨by rw [x1, x2, x3]; rfl, by first | exact B9 | exact B9.drew⟩
        · obtain rfl : k = L2.length := by omega
          have HN := Lib.hid (firstP_step H0.out HPI.out (by have := H1.out; rwa [List.take_length] at this))
          clear H1 H0
          go_wp2_with fail
          exact ⟨⟨i + 1, by go_num, by omega, HN.out, HB4.out, HW4.out⟩, by simp [intOf]; omega⟩
    · obtain rfl : i = L1.length := by omega
      have HN := Lib.hid (show O = none by rw [HO.out]; have := H0.out; rwa [List.take_length] at this)
      clear H0 HO HT HM1 HM2
      obtain ⟨c0, c1, c2, c3, c4⟩ := HB3.out.five (List.mem_cons_of_mem _ (List.mem_cons_self ..))
      obtain ⟨d0, d1, d2, d3, d4⟩ := HB3.out.five (List.mem_cons_self ..)
      have f0 := (HB3.out.own _ (List.mem_cons_of_mem _ (List.mem_cons_self ..))).2.2.2
      have f1 := (HB3.out.own _ (List.mem_cons_self ..)).2.2.2
      have hlt0 := (HB3.out.own _ (List.mem_cons_of_mem _ (List.mem_cons_self ..))).2.1; have hlt1 := (HB3.out.own _ (List.mem_cons_self ..)).2.1
      go_wp2_with fail
      obtain ⟨W9, e9, ⟨q0, q1, q2, q3, q4⟩, ⟨r0, r1, r2, r3, r4⟩, B9⟩ := HB3.out.fin55 (List.mem_cons_of_mem _ (List.mem_cons_self ..)) (List.mem_cons_self ..) (by omega) (.int .i64 0) (.int .i64 0) (.int .i64 0) (.int .i64 0) (.int .i64 0) (.int .i64 0) (.int .i64 0) (.int .i64 0) (.int .i64 0) (.int .i64 0)
      try rw [e9]
      refine bodyPost_ret (v := .tuple #[.agg #[.int .i64 0, .int .i64 0, .int .i64 0, .int .i64 0, .int .i64 0], .agg #[.int .i64 0, .int .i64 0, .int .i64 0, .int .i64 0, .int .i64 0], .int .i64 21]) (by simp [results, Tryz.results12, go_sem, q0, q1, q2, q3, q4, r0, r1, r2, r3, r4]) rfl ?_
      obtain ⟨x1, x2, x3⟩ := HZ1.out HN.out
      exact ⟨by rw [x1, x2, x3]; rfl, B9⟩

end Go.Proofs.YtfjmhfmhijhpkaaGreatDoor
