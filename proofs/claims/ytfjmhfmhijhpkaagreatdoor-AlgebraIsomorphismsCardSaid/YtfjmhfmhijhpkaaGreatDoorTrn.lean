/- Products in both orders in the reference. -/
import Derived.Test.YtfjmhfmhijhpkaaGreatDoorIsq
import Derived.Test.YtfjmhfmhijhpkaaGreatDoorRin
namespace Go.Proofs.YtfjmhfmhijhpkaaGreatDoor
open Go.RowKit FF

set_option maxHeartbeats 4000000 in
set_option maxRecDepth 100000 in
theorem rTurned_any (a b p0 p1 p2 p3 p4 q0 q1 q2 q3 q4 : Int) (w : World) (hp : qB ⟨p0, p1, p2, p3, p4⟩ = true) (hq : qB ⟨q0, q1, q2, q3, q4⟩ = true) (ha : aE a b = 0) :
    Calls Tryz.prog 45 #[.agg #[.int .i64 a, .int .i64 b], qv ⟨p0, p1, p2, p3, p4⟩, qv ⟨q0, q1, q2, q3, q4⟩] w fun r w' => r = .returned (.bool (opB a b ⟨p0, p1, p2, p3, p4⟩ ⟨q0, q1, q2, q3, q4⟩)) ∧ Below w.heap.size w w' := by
  obtain ⟨c0, c1, c2, c3⟩ := mulQ_tight hp hq ha
  obtain ⟨g0, g1, g2, g3⟩ := mulQ_tight hq hp ha
  have HPQ := Lib.hid (fun w => rProduct_any ⟨p0, p1, p2, p3, p4⟩ ⟨q0, q1, q2, q3, q4⟩ a b w hp hq ha)
  have HQP := Lib.hid (fun w => rProduct_any ⟨q0, q1, q2, q3, q4⟩ ⟨p0, p1, p2, p3, p4⟩ a b w hq hp ha)
  have HE := Lib.hid (show opB a b ⟨p0, p1, p2, p3, p4⟩ ⟨q0, q1, q2, q3, q4⟩ = ((mulQ a b ⟨p0, p1, p2, p3, p4⟩ ⟨q0, q1, q2, q3, q4⟩).w + (mulQ a b ⟨q0, q1, q2, q3, q4⟩ ⟨p0, p1, p2, p3, p4⟩).w == 0 && ((mulQ a b ⟨p0, p1, p2, p3, p4⟩ ⟨q0, q1, q2, q3, q4⟩).x + (mulQ a b ⟨q0, q1, q2, q3, q4⟩ ⟨p0, p1, p2, p3, p4⟩).x == 0 && ((mulQ a b ⟨p0, p1, p2, p3, p4⟩ ⟨q0, q1, q2, q3, q4⟩).y + (mulQ a b ⟨q0, q1, q2, q3, q4⟩ ⟨p0, p1, p2, p3, p4⟩).y == 0 && (mulQ a b ⟨p0, p1, p2, p3, p4⟩ ⟨q0, q1, q2, q3, q4⟩).z + (mulQ a b ⟨q0, q1, q2, q3, q4⟩ ⟨p0, p1, p2, p3, p4⟩).z == 0))) from rfl)
  clear hp hq ha
  generalize opB a b ⟨p0, p1, p2, p3, p4⟩ ⟨q0, q1, q2, q3, q4⟩ = F at *
  generalize mulQ a b ⟨p0, p1, p2, p3, p4⟩ ⟨q0, q1, q2, q3, q4⟩ = M at *
  generalize mulQ a b ⟨q0, q1, q2, q3, q4⟩ ⟨p0, p1, p2, p3, p4⟩ = N at *
  obtain ⟨m0, m1, m2, m3, m4⟩ := M
  obtain ⟨n0, n1, n2, n3, n4⟩ := N
  simp only at c0 c1 c2 c3 g0 g1 g2 g3
  simp only [qv] at HPQ HQP HE ⊢
  go_enter Tryz.func45, Tryz.ntmps45
  go_upto_region 1 with fail
  obtain ⟨W0, hW0⟩ : ∃ W0 : World, W0 = (((w.alloc (.cells #[.int .i64 a, .int .i64 b] 23)).alloc (.cells #[.int .i64 p0, .int .i64 p1, .int .i64 p2, .int .i64 p3, .int .i64 p4] 29)).alloc (.cells #[.int .i64 q0, .int .i64 q1, .int .i64 q2, .int .i64 q3, .int .i64 q4] 29)) := ⟨_, rfl⟩
  rw [← hW0]
  have HB0 := Lib.hid (show Bx w [(w.heap.size + 2, #[.int .i64 q0, .int .i64 q1, .int .i64 q2, .int .i64 q3, .int .i64 q4]), (w.heap.size + 1, #[.int .i64 p0, .int .i64 p1, .int .i64 p2, .int .i64 p3, .int .i64 p4]), (w.heap.size, #[.int .i64 a, .int .i64 b])] W0 by rw [hW0]; simpa using ((((Bx.nil (Below.refl w.heap.size w)).new #[.int .i64 a, .int .i64 b] 23).new #[.int .i64 p0, .int .i64 p1, .int .i64 p2, .int .i64 p3, .int .i64 p4] 29).new #[.int .i64 q0, .int .i64 q1, .int .i64 q2, .int .i64 q3, .int .i64 q4] 29))
  clear hW0
  go_upto_region 1 with fail
  refine wp_region_inv (w.heap.size) [(0, 9, .agg #[.int .i64 a, .int .i64 b]), (1, 10, .agg #[.int .i64 p0, .int .i64 p1, .int .i64 p2, .int .i64 p3, .int .i64 p4]), (2, 11, .agg #[.int .i64 q0, .int .i64 q1, .int .i64 q2, .int .i64 q3, .int .i64 q4]), (3, 12, .agg #[.int .i64 m0, .int .i64 m1, .int .i64 m2, .int .i64 m3, .int .i64 m4]), (4, 13, .agg #[.int .i64 a, .int .i64 b]), (5, 14, .agg #[.int .i64 q0, .int .i64 q1, .int .i64 q2, .int .i64 q3, .int .i64 q4]), (6, 15, .agg #[.int .i64 p0, .int .i64 p1, .int .i64 p2, .int .i64 p3, .int .i64 p4]), (7, 16, .agg #[.int .i64 n0, .int .i64 n1, .int .i64 n2, .int .i64 n3, .int .i64 n4])] [⟨8, 7, 10, #[.int .i64 0, .int .i64 0, .int .i64 0, .int .i64 0, .int .i64 0], #[.int .i64 m0, .int .i64 m1, .int .i64 m2, .int .i64 m3, .int .i64 m4]⟩, ⟨9, 8, 11, #[.int .i64 0, .int .i64 0, .int .i64 0, .int .i64 0, .int .i64 0], #[.int .i64 n0, .int .i64 n1, .int .i64 n2, .int .i64 n3, .int .i64 n4]⟩] [⟨w.heap.size + 2, 999, #[.int .i64 q0, .int .i64 q1, .int .i64 q2, .int .i64 q3, .int .i64 q4], #[.int .i64 q0, .int .i64 q1, .int .i64 q2, .int .i64 q3, .int .i64 q4]⟩, ⟨w.heap.size + 1, 999, #[.int .i64 p0, .int .i64 p1, .int .i64 p2, .int .i64 p3, .int .i64 p4], #[.int .i64 p0, .int .i64 p1, .int .i64 p2, .int .i64 p3, .int .i64 p4]⟩, ⟨w.heap.size, 999, #[.int .i64 a, .int .i64 b], #[.int .i64 a, .int .i64 b]⟩] [9, 10, 11, 12, 13, 14, 15, 16, 7, 8] ?_ (by kernel_rfl) (by kernel_rfl) (by kernel_rfl) ?_ (forall_ops ⟨?_, ?_, ?_, ?_, ?_, ?_, ?_, ?_, ?_, ?_, ?_, ?_, trivial⟩) ?_
  · exact HB0.out.below.size
  · intro c hc
    simp only [List.mem_cons, List.not_mem_nil, or_false] at hc
    rcases hc with rfl | rfl | rfl
    · exact ⟨(HB0.out.own _ (List.mem_cons_self ..)).2, .inr rfl⟩
    · exact ⟨(HB0.out.own _ (List.mem_cons_of_mem _ (List.mem_cons_self ..))).2, .inr rfl⟩
    · exact ⟨(HB0.out.own _ (List.mem_cons_of_mem _ (List.mem_cons_of_mem _ (List.mem_cons_self ..)))).2, .inr rfl⟩
  · refine .inl ⟨.inl rfl, .inl ⟨.agg #[.int .i64 a, .int .i64 b], val_only (d := 9) (by kernel_rfl), by simp, by simp, fun y W hB hO hV K Q' hK => ?_⟩⟩
    have hc : Cells W (w.heap.size) #[.int .i64 a, .int .i64 b] := hO _ (List.mem_cons_of_mem _ (List.mem_cons_of_mem _ (List.mem_cons_self ..))) rfl
    have kk := hc.two
    have k0 := kk.1
    have k1 := kk.2
    clear kk
    simp only [fr, putAll, List.foldl_cons, List.foldl_nil, List.setIfInBounds_toArray, List.set_cons_zero, List.set_cons_succ] at hK ⊢
    go_simp
    exact hK W (Below.refl _ _)
  · refine .inl ⟨.inl rfl, .inl ⟨.agg #[.int .i64 p0, .int .i64 p1, .int .i64 p2, .int .i64 p3, .int .i64 p4], val_only (d := 10) (by kernel_rfl), by simp, by simp, fun y W hB hO hV K Q' hK => ?_⟩⟩
    have hc : Cells W (w.heap.size + 1) #[.int .i64 p0, .int .i64 p1, .int .i64 p2, .int .i64 p3, .int .i64 p4] := hO _ (List.mem_cons_of_mem _ (List.mem_cons_self ..)) rfl
    have kk := hc.five
    have k0 := kk.1
    have k1 := kk.2.1
    have k2 := kk.2.2.1
    have k3 := kk.2.2.2.1
    have k4 := kk.2.2.2.2
    clear kk
    simp only [fr, putAll, List.foldl_cons, List.foldl_nil, List.setIfInBounds_toArray, List.set_cons_zero, List.set_cons_succ] at hK ⊢
    go_simp
    exact hK W (Below.refl _ _)
  · refine .inl ⟨.inl rfl, .inl ⟨.agg #[.int .i64 q0, .int .i64 q1, .int .i64 q2, .int .i64 q3, .int .i64 q4], val_only (d := 11) (by kernel_rfl), by simp, by simp, fun y W hB hO hV K Q' hK => ?_⟩⟩
    have hc : Cells W (w.heap.size + 2) #[.int .i64 q0, .int .i64 q1, .int .i64 q2, .int .i64 q3, .int .i64 q4] := hO _ (List.mem_cons_self ..) rfl
    have kk := hc.five
    have k0 := kk.1
    have k1 := kk.2.1
    have k2 := kk.2.2.1
    have k3 := kk.2.2.2.1
    have k4 := kk.2.2.2.2
    clear kk
    simp only [fr, putAll, List.foldl_cons, List.foldl_nil, List.setIfInBounds_toArray, List.set_cons_zero, List.set_cons_succ] at hK ⊢
    go_simp
    exact hK W (Below.refl _ _)
  · refine .inl ⟨.inl rfl, .inl ⟨.agg #[.int .i64 m0, .int .i64 m1, .int .i64 m2, .int .i64 m3, .int .i64 m4], val_only (d := 12) (by kernel_rfl), by simp, by simp, fun y W hB hO hV K Q' hK => ?_⟩⟩
    have y9 : y 9 = .agg #[.int .i64 a, .int .i64 b] := hV (0, 9, .agg #[.int .i64 a, .int .i64 b]) (val_get (by kernel_rfl)) (by kernel_rfl)
    have y10 : y 10 = .agg #[.int .i64 p0, .int .i64 p1, .int .i64 p2, .int .i64 p3, .int .i64 p4] := hV (1, 10, .agg #[.int .i64 p0, .int .i64 p1, .int .i64 p2, .int .i64 p3, .int .i64 p4]) (val_get (by kernel_rfl)) (by kernel_rfl)
    have y11 : y 11 = .agg #[.int .i64 q0, .int .i64 q1, .int .i64 q2, .int .i64 q3, .int .i64 q4] := hV (2, 11, .agg #[.int .i64 q0, .int .i64 q1, .int .i64 q2, .int .i64 q3, .int .i64 q4]) (val_get (by kernel_rfl)) (by kernel_rfl)
    simp only [fr, putAll, List.foldl_cons, List.foldl_nil, List.setIfInBounds_toArray, List.set_cons_zero, List.set_cons_succ] at hK ⊢
    simp only [y9, y10, y11] at hK ⊢
    go_simp
    refine (HPQ.out _).mono ?_
    intro e w' h
    rw [h.1]
    exact hK w' h.2
  · refine .inl ⟨.inl rfl, .inl ⟨.agg #[.int .i64 a, .int .i64 b], val_only (d := 13) (by kernel_rfl), by simp, by simp, fun y W hB hO hV K Q' hK => ?_⟩⟩
    have hc : Cells W (w.heap.size) #[.int .i64 a, .int .i64 b] := hO _ (List.mem_cons_of_mem _ (List.mem_cons_of_mem _ (List.mem_cons_self ..))) rfl
    have kk := hc.two
    have k0 := kk.1
    have k1 := kk.2
    clear kk
    simp only [fr, putAll, List.foldl_cons, List.foldl_nil, List.setIfInBounds_toArray, List.set_cons_zero, List.set_cons_succ] at hK ⊢
    go_simp
    exact hK W (Below.refl _ _)
  · refine .inl ⟨.inl rfl, .inl ⟨.agg #[.int .i64 q0, .int .i64 q1, .int .i64 q2, .int .i64 q3, .int .i64 q4], val_only (d := 14) (by kernel_rfl), by simp, by simp, fun y W hB hO hV K Q' hK => ?_⟩⟩
    have hc : Cells W (w.heap.size + 2) #[.int .i64 q0, .int .i64 q1, .int .i64 q2, .int .i64 q3, .int .i64 q4] := hO _ (List.mem_cons_self ..) rfl
    have kk := hc.five
    have k0 := kk.1
    have k1 := kk.2.1
    have k2 := kk.2.2.1
    have k3 := kk.2.2.2.1
    have k4 := kk.2.2.2.2
    clear kk
    simp only [fr, putAll, List.foldl_cons, List.foldl_nil, List.setIfInBounds_toArray, List.set_cons_zero, List.set_cons_succ] at hK ⊢
    go_simp
    exact hK W (Below.refl _ _)
  · refine .inl ⟨.inl rfl, .inl ⟨.agg #[.int .i64 p0, .int .i64 p1, .int .i64 p2, .int .i64 p3, .int .i64 p4], val_only (d := 15) (by kernel_rfl), by simp, by simp, fun y W hB hO hV K Q' hK => ?_⟩⟩
    have hc : Cells W (w.heap.size + 1) #[.int .i64 p0, .int .i64 p1, .int .i64 p2, .int .i64 p3, .int .i64 p4] := hO _ (List.mem_cons_of_mem _ (List.mem_cons_self ..)) rfl
    have kk := hc.five
    have k0 := kk.1
    have k1 := kk.2.1
    have k2 := kk.2.2.1
    have k3 := kk.2.2.2.1
    have k4 := kk.2.2.2.2
    clear kk
    simp only [fr, putAll, List.foldl_cons, List.foldl_nil, List.setIfInBounds_toArray, List.set_cons_zero, List.set_cons_succ] at hK ⊢
    go_simp
    exact hK W (Below.refl _ _)
  · refine .inl ⟨.inl rfl, .inl ⟨.agg #[.int .i64 n0, .int .i64 n1, .int .i64 n2, .int .i64 n3, .int .i64 n4], val_only (d := 16) (by kernel_rfl), by simp, by simp, fun y W hB hO hV K Q' hK => ?_⟩⟩
    have y13 : y 13 = .agg #[.int .i64 a, .int .i64 b] := hV (4, 13, .agg #[.int .i64 a, .int .i64 b]) (val_get (by kernel_rfl)) (by kernel_rfl)
    have y14 : y 14 = .agg #[.int .i64 q0, .int .i64 q1, .int .i64 q2, .int .i64 q3, .int .i64 q4] := hV (5, 14, .agg #[.int .i64 q0, .int .i64 q1, .int .i64 q2, .int .i64 q3, .int .i64 q4]) (val_get (by kernel_rfl)) (by kernel_rfl)
    have y15 : y 15 = .agg #[.int .i64 p0, .int .i64 p1, .int .i64 p2, .int .i64 p3, .int .i64 p4] := hV (6, 15, .agg #[.int .i64 p0, .int .i64 p1, .int .i64 p2, .int .i64 p3, .int .i64 p4]) (val_get (by kernel_rfl)) (by kernel_rfl)
    simp only [fr, putAll, List.foldl_cons, List.foldl_nil, List.setIfInBounds_toArray, List.set_cons_zero, List.set_cons_succ] at hK ⊢
    simp only [y13, y14, y15] at hK ⊢
    go_simp
    refine (HQP.out _).mono ?_
    intro e w' h
    rw [h.1]
    exact hK w' h.2
  · refine .inl ⟨.inl rfl, .inr (.inl ⟨val_none (by kernel_rfl), by simp, _, (List.mem_cons_self ..), rfl, by simp, by simp, 29, fun y W K Q' hK => ?_⟩)⟩
    simp only [fr, putAll, List.foldl_cons, List.foldl_nil, List.setIfInBounds_toArray, List.set_cons_zero, List.set_cons_succ] at hK ⊢
    go_simp
    exact hK
  · refine .inl ⟨.inl rfl, .inr (.inl ⟨val_none (by kernel_rfl), by simp, _, (List.mem_cons_of_mem _ (List.mem_cons_self ..)), rfl, by simp, by simp, 29, fun y W K Q' hK => ?_⟩)⟩
    simp only [fr, putAll, List.foldl_cons, List.foldl_nil, List.setIfInBounds_toArray, List.set_cons_zero, List.set_cons_succ] at hK ⊢
    go_simp
    exact hK
  · refine .inl ⟨.inl rfl, .inr (.inr (.inl ⟨val_none (by kernel_rfl), by simp, _, (List.mem_cons_self ..), rfl, by simp, by simp, by kernel_rfl, fun y W g hB hV hg hgw hc K Q' hK => ?_⟩))⟩
    have y12 : y 12 = .agg #[.int .i64 m0, .int .i64 m1, .int .i64 m2, .int .i64 m3, .int .i64 m4] := hV (3, 12, .agg #[.int .i64 m0, .int .i64 m1, .int .i64 m2, .int .i64 m3, .int .i64 m4]) (val_get (by kernel_rfl)) (by kernel_rfl)
    have kk := hc.five
    have k0 := kk.1
    have k1 := kk.2.1
    have k2 := kk.2.2.1
    have k3 := kk.2.2.2.1
    have k4 := kk.2.2.2.2
    clear kk
    have kk := hc.fr
    have f0 := kk.1
    have f1 := kk.2.1
    have f2 := kk.2.2.1
    have f3 := kk.2.2.2.1
    have f4 := kk.2.2.2.2
    clear kk
    dsimp only at hg
    simp only [fr, putAll, List.foldl_cons, List.foldl_nil, List.setIfInBounds_toArray, List.set_cons_zero, List.set_cons_succ] at hK ⊢
    simp only [hg, y12] at hK ⊢
    go_simp
    exact hK _ (hc.put5 (.int .i64 m0) (.int .i64 m1) (.int .i64 m2) (.int .i64 m3) (.int .i64 m4)) (Only.put5 ..)
  · refine .inl ⟨.inl rfl, .inr (.inr (.inl ⟨val_none (by kernel_rfl), by simp, _, (List.mem_cons_of_mem _ (List.mem_cons_self ..)), rfl, by simp, by simp, by kernel_rfl, fun y W g hB hV hg hgw hc K Q' hK => ?_⟩))⟩
    have y16 : y 16 = .agg #[.int .i64 n0, .int .i64 n1, .int .i64 n2, .int .i64 n3, .int .i64 n4] := hV (7, 16, .agg #[.int .i64 n0, .int .i64 n1, .int .i64 n2, .int .i64 n3, .int .i64 n4]) (val_get (by kernel_rfl)) (by kernel_rfl)
    have kk := hc.five
    have k0 := kk.1
    have k1 := kk.2.1
    have k2 := kk.2.2.1
    have k3 := kk.2.2.2.1
    have k4 := kk.2.2.2.2
    clear kk
    have kk := hc.fr
    have f0 := kk.1
    have f1 := kk.2.1
    have f2 := kk.2.2.1
    have f3 := kk.2.2.2.1
    have f4 := kk.2.2.2.2
    clear kk
    dsimp only at hg
    simp only [fr, putAll, List.foldl_cons, List.foldl_nil, List.setIfInBounds_toArray, List.set_cons_zero, List.set_cons_succ] at hK ⊢
    simp only [hg, y16] at hK ⊢
    go_simp
    exact hK _ (hc.put5 (.int .i64 n0) (.int .i64 n1) (.int .i64 n2) (.int .i64 n3) (.int .i64 n4)) (Only.put5 ..)
  intro y W hB hO hV hX hA
  have y9 : y 9 = .agg #[.int .i64 a, .int .i64 b] := hV (0, 9, .agg #[.int .i64 a, .int .i64 b]) (val_get (by kernel_rfl))
  have y10 : y 10 = .agg #[.int .i64 p0, .int .i64 p1, .int .i64 p2, .int .i64 p3, .int .i64 p4] := hV (1, 10, .agg #[.int .i64 p0, .int .i64 p1, .int .i64 p2, .int .i64 p3, .int .i64 p4]) (val_get (by kernel_rfl))
  have y11 : y 11 = .agg #[.int .i64 q0, .int .i64 q1, .int .i64 q2, .int .i64 q3, .int .i64 q4] := hV (2, 11, .agg #[.int .i64 q0, .int .i64 q1, .int .i64 q2, .int .i64 q3, .int .i64 q4]) (val_get (by kernel_rfl))
  have y12 : y 12 = .agg #[.int .i64 m0, .int .i64 m1, .int .i64 m2, .int .i64 m3, .int .i64 m4] := hV (3, 12, .agg #[.int .i64 m0, .int .i64 m1, .int .i64 m2, .int .i64 m3, .int .i64 m4]) (val_get (by kernel_rfl))
  have y13 : y 13 = .agg #[.int .i64 a, .int .i64 b] := hV (4, 13, .agg #[.int .i64 a, .int .i64 b]) (val_get (by kernel_rfl))
  have y14 : y 14 = .agg #[.int .i64 q0, .int .i64 q1, .int .i64 q2, .int .i64 q3, .int .i64 q4] := hV (5, 14, .agg #[.int .i64 q0, .int .i64 q1, .int .i64 q2, .int .i64 q3, .int .i64 q4]) (val_get (by kernel_rfl))
  have y15 : y 15 = .agg #[.int .i64 p0, .int .i64 p1, .int .i64 p2, .int .i64 p3, .int .i64 p4] := hV (6, 15, .agg #[.int .i64 p0, .int .i64 p1, .int .i64 p2, .int .i64 p3, .int .i64 p4]) (val_get (by kernel_rfl))
  have y16 : y 16 = .agg #[.int .i64 n0, .int .i64 n1, .int .i64 n2, .int .i64 n3, .int .i64 n4] := hV (7, 16, .agg #[.int .i64 n0, .int .i64 n1, .int .i64 n2, .int .i64 n3, .int .i64 n4]) (val_get (by kernel_rfl))
  obtain ⟨g0, z0, g0l, g0c⟩ := hX _ (List.mem_cons_self ..)
  dsimp only at z0 g0c
  obtain ⟨g1, z1, g1l, g1c⟩ := hX _ (List.mem_cons_of_mem _ (List.mem_cons_self ..))
  dsimp only at z1 g1c
  have g0neg1 : g0 ≠ g1 := fun e => hA _ (List.mem_cons_self ..) _ (List.mem_cons_of_mem _ (List.mem_cons_self ..)) (by simp) (by simp only [z0, z1, e])
  have ho0 := hO _ (List.mem_cons_self ..)
  have ho1 := hO _ (List.mem_cons_of_mem _ (List.mem_cons_self ..))
  have ho2 := hO _ (List.mem_cons_of_mem _ (List.mem_cons_of_mem _ (List.mem_cons_self ..)))
  dsimp only at ho0 ho1 ho2
  have HB1 := Lib.hid (show Bx w [(g1, #[.int .i64 n0, .int .i64 n1, .int .i64 n2, .int .i64 n3, .int .i64 n4]), (g0, #[.int .i64 m0, .int .i64 m1, .int .i64 m2, .int .i64 m3, .int .i64 m4]), (w.heap.size + 2, #[.int .i64 q0, .int .i64 q1, .int .i64 q2, .int .i64 q3, .int .i64 q4]), (w.heap.size + 1, #[.int .i64 p0, .int .i64 p1, .int .i64 p2, .int .i64 p3, .int .i64 p4]), (w.heap.size, #[.int .i64 a, .int .i64 b])] W from ((((((Bx.nil (HB0.out.below.trans hB)).cons (HB0.out.own _ (List.mem_cons_of_mem _ (List.mem_cons_of_mem _ (List.mem_cons_self ..)))).1 ho2).cons (HB0.out.own _ (List.mem_cons_of_mem _ (List.mem_cons_self ..))).1 ho1).cons (HB0.out.own _ (List.mem_cons_self ..)).1 ho0).cons (Nat.le_trans HB0.out.below.size g0l) g0c).cons (Nat.le_trans HB0.out.below.size g1l) g1c))
  simp only [fr, putAll, List.foldl_cons, List.foldl_nil, List.setIfInBounds_toArray, List.set_cons_zero, List.set_cons_succ]
  simp only [y9, y10, y11, y12, y13, y14, y15, y16, z0, z1]
  clear y9 y10 y11 y12 y13 y14 y15 y16 z0 z1 g0l g0c g1l g1c hB hO hV hX hA ho0 ho1 ho2
  clear HB0 HPQ HQP
  obtain ⟨d0, d1, d2, d3, d4⟩ := HB1.out.five (List.mem_cons_of_mem _ (List.mem_cons_self ..))
  obtain ⟨e0, e1, e2, e3, e4⟩ := HB1.out.five (List.mem_cons_self ..)
  go_wp2_with fail
  all_goals
    go_ret
    refine ⟨ret_bool ?_, HB1.out.below⟩
    rw [HE.out, Bool.eq_iff_iff]
    simp only [Bool.and_eq_true, beq_iff_eq, Bool.false_eq_true, false_iff]
    omega


end Go.Proofs.YtfjmhfmhijhpkaaGreatDoor
