/- Fractions of integers of several words: the reference's. -/
import Derived.Test.YtimdkjbmeogpoaaGreatDoorURpg
import Derived.Test.YtimdkjbmeogpoaaGreatDoorUQo0
namespace Go.Proofs.YtimdkjbmeogpoaaGreatDoor
open Go.RowKit FF
set_option maxHeartbeats 4000000 in
set_option maxRecDepth 100000 in
theorem rratOf (n m : Int) (w : World) (hn : I64 n) (hm : I64 m) : Calls Tryz.prog 73 #[.agg #[.int .i64 n, .int .i64 m]] w (PostW (VR n m) w) := by
 go_enter Tryz.func73, Tryz.ntmps73
 go_upto_region 1 with fail
 obtain ⟨W0, hW0⟩ : ∃ W0 : World, W0 = ((w.alloc (.cells #[.int .i64 n, .int .i64 m] 25)).alloc (.cells zz2 73)) := ⟨_, rfl⟩
 rw [← hW0]
 have HB0 := lhd (show Bx w [(w.heap.size + 1, zz2), (w.heap.size, #[.int .i64 n, .int .i64 m])] W0 by rw [hW0]; simpa using (((Bx.nil (Below.refl w.heap.size w)).new #[.int .i64 n, .int .i64 m] 25).new zz2 73))
 have HNi := lhd (show NoIntAt W0 (w.heap.size + 1) by rw [hW0]; exact NoIntAt.new (w.alloc (.cells #[.int .i64 n, .int .i64 m] 25)) 73 (noint_list (by kernel_rfl)) (by simp))
 clear hW0
 refine wp_region_full (w.heap.size) [(0, 3, VC (.pointer (some ⟨w.heap.size, 0, none⟩))), (1, 4, VC (.int .i64 n)), (2, 5, VI n), (3, 6, VC (.pointer (some ⟨w.heap.size, 1, none⟩))), (4, 7, VC (.int .i64 m)), (5, 8, VI m), (6, 9, VR n m)] [] [⟨w.heap.size + 1, 7, 6, 9, zz2, fun v vs => v = .agg vs⟩, ⟨w.heap.size, 999, 999, 999, #[.int .i64 n, .int .i64 m], fun v vs => v = .agg vs⟩] (fun _ => True) [3, 4, 5, 6, 7, 8, 9] ?_ (by kernel_rfl) (by kernel_rfl) (by kernel_rfl) (Firms.all (l := [(0, 3, VC (.pointer (some ⟨w.heap.size, 0, none⟩))), (1, 4, VC (.int .i64 n)), (2, 5, VI n), (3, 6, VC (.pointer (some ⟨w.heap.size, 1, none⟩))), (4, 7, VC (.int .i64 m)), (5, 8, VI m), (6, 9, VR n m)]) ⟨Firm.vc _, Firm.vc _, Firm.vi _, Firm.vc _, Firm.vc _, Firm.vi _, Firm.vr _ _, trivial⟩) (⟨fun _ _ _ _ _ => trivial, fun _ _ _ _ _ _ _ => trivial⟩) (trivial) ?_ ?_ ?_
 ·exact HB0.out.below.size
 ·intro c hc
  simp only [List.mem_cons, List.not_mem_nil, or_false] at hc
  rcases hc with rfl | rfl
  ·exact ⟨(HB0.out.own _ lm0).2, fun _ => HNi.out⟩
  ·exact ⟨(HB0.out.own _ lm1).2, fun h => absurd rfl h⟩
 ·refine forall_ops ⟨?_, ?_, ?_, ?_, ?_, ?_, ?_, ?_, trivial⟩
  ·exact FOk.val rfl rfl rfl rfl fun _ _ _ _ _ _ => .fieldAddr rfl (fou (v := .pointer (some ⟨w.heap.size, 0, none⟩))) (by kernel_rfl) rfl
  ·exact FOk.val rfl rfl rfl rfl fun _ _ _ _ hO hV => .load1 rfl (fgt hV 0 rfl) (run_load_one Tryz.underlying3 rfl ((hO _ lm1 rfl).2.1 0 (by simp))) rfl
  ·exact FOk.val rfl rfl rfl rfl fun _ W _ _ _ hV => .call Tryz.func77 (by kernel_rfl) rfl rfl rfl (map_one (fgt hV 1 rfl)) (dOf n W hn)
  ·exact FOk.val rfl rfl rfl rfl fun _ _ _ _ _ _ => .fieldAddr rfl (fou (v := .pointer (some ⟨w.heap.size, 0, none⟩))) (by kernel_rfl) rfl
  ·exact FOk.val rfl rfl rfl rfl fun _ _ _ _ hO hV => .load1 rfl (fgt hV 3 rfl) (run_load_one Tryz.underlying3 rfl ((hO _ lm1 rfl).2.1 1 (by simp))) rfl
  ·exact FOk.val rfl rfl rfl rfl fun _ W _ _ _ hV => .call Tryz.func77 (by kernel_rfl) rfl rfl rfl (map_one (fgt hV 4 rfl)) (dOf m W hm)
  ·refine .inl ⟨.inl rfl, .inl ⟨by simp, by simp, fun y W hB hE hO hV K Q' hK => ?_⟩⟩
   obtain ⟨u5_0, u5_1, y5, i5⟩ : VI n (y 5) W := hV (2, 5, VI n) (word_get (by kernel_rfl)) (by kernel_rfl)
   obtain ⟨u8_0, u8_1, y8, i8⟩ : VI m (y 8) W := hV (5, 8, VI m) (word_get (by kernel_rfl)) (by kernel_rfl)
   simp only [fr, putAll, List.foldl_cons, List.foldl_nil, List.setIfInBounds_toArray, List.set_cons_zero, List.set_cons_succ] at hK ⊢
   simp only [y5, y8] at hK ⊢
   go_simp
   exact hK _ W (Below.refl _ _) (word_only (d := 9) (by kernel_rfl) (show VR n m _ W from ⟨_, _, _, _, rfl, i5, i8⟩))
  ·refine .inl ⟨.inl rfl, .inr (.inr (.inr ⟨rfl, word_none (by kernel_rfl), ?_, _, lm0, rfl, ?_, by simp, ?_, by kernel_rfl, fun y W hB hV hc hN K Q' hK => ?_⟩))⟩
   ·exact fun b hb => by simp at hb
   ·first | (with_reducible exact Nat.le_refl _) | assumption | omega | (simp; done)
   ·intro d hd
    simp only [List.mem_cons, List.not_mem_nil, or_false] at hd
    rcases hd with rfl | rfl
    ·exact ⟨fun _ => rfl, fun _ => rfl⟩
    ·exact ⟨fun h => absurd h (by simp), fun h => absurd h (by dsimp only; first | omega | assumption | exact Ne.symm (by assumption))⟩
   obtain ⟨u9_0, u9_1, u9_2, u9_3, y9, i9⟩ : VR n m (y 9) W := hV (6, 9, VR n m) (word_get (by kernel_rfl)) (by kernel_rfl)
   exact .stoR (k := 0) (us := #[u9_0, u9_1, u9_2, u9_3]) (vs := #[u9_0, u9_1, u9_2, u9_3]) rfl (fou (v := .pointer (some ⟨w.heap.size + 1, 0, none⟩))) ((fr_in (by kernel_rfl)).trans y9) (ICs.fit (l := [(_, _, _), (_, _, _)]) ⟨i9.1, i9.2, trivial⟩ rfl) hc hN rfl (Nat.le_of_ble_eq_true rfl) rfl (by kernel_rfl) fun W' hC hN' hO => hK W' ⟨⟨_, y9, hC⟩, hN'⟩ hO
 intro y W hB hE hO hV hX hA
 have y3 : y 3 = .pointer (some ⟨w.heap.size, 0, none⟩) := hV (0, 3, VC (.pointer (some ⟨w.heap.size, 0, none⟩))) (word_get (by kernel_rfl))
 have y4 : y 4 = .int .i64 n := hV (1, 4, VC (.int .i64 n)) (word_get (by kernel_rfl))
 obtain ⟨u5_0, u5_1, y5, j5⟩ : VI n (y 5) W := hV (2, 5, VI n) (word_get (by kernel_rfl))
 have J5 := lhd j5; clear j5
 have y6 : y 6 = .pointer (some ⟨w.heap.size, 1, none⟩) := hV (3, 6, VC (.pointer (some ⟨w.heap.size, 1, none⟩))) (word_get (by kernel_rfl))
 have y7 : y 7 = .int .i64 m := hV (4, 7, VC (.int .i64 m)) (word_get (by kernel_rfl))
 obtain ⟨u8_0, u8_1, y8, j8⟩ : VI m (y 8) W := hV (5, 8, VI m) (word_get (by kernel_rfl))
 have J8 := lhd j8; clear j8
 obtain ⟨u9_0, u9_1, u9_2, u9_3, y9, j9⟩ : VR n m (y 9) W := hV (6, 9, VR n m) (word_get (by kernel_rfl))
 have J9 := lhd j9; clear j9
 obtain ⟨⟨ov0, oe0, ho0⟩, hno0⟩ := (hO _ lm0).2 (by simp)
 dsimp only at oe0 ho0
 rw [y9] at oe0; injection oe0 with oe0; subst oe0
 have ho1 := (hO _ lm1).1 rfl
 dsimp only at ho1
 have HNo0 := lhd hno0; clear hno0
 dsimp only at HNo0
 have HB1 := lhd (show Bx w [(w.heap.size + 1, #[u9_0, u9_1, u9_2, u9_3]), (w.heap.size, #[.int .i64 n, .int .i64 m])] W from (((Bx.nil (HB0.out.below.trans hB)).cons (HB0.out.own _ lm1).1 ho1).cons (HB0.out.own _ lm0).1 ho0))
 have HE1 := lhd hE
 simp only [fr, putAll, List.foldl_cons, List.foldl_nil, List.setIfInBounds_toArray, List.set_cons_zero, List.set_cons_succ]
 simp only [y3, y4, y5, y6, y7, y8, y9]
 clear y3 y4 y5 y6 y7 y8 y9  hB hE hO hV hX hA ho0 ho1
 have q := fun (i : Nat) hi => (HB1.out.own _ lm0).2.2.1 i hi
 have q0 := q 0 (by simp)
 have q1 := q 1 (by simp)
 have q2 := q 2 (by simp)
 have q3 := q 3 (by simp)
 clear q
 simp only [List.getElem?_toArray, List.getElem?_cons_zero, List.getElem?_cons_succ] at q0 q1 q2 q3
 go_wp2_with fail
 refine bodyPost_ret (v := .agg #[u9_0, u9_1, u9_2, u9_3]) (by simp [results, Tryz.results73, go_sem, q0, q1, q2, q3]) rfl ?_
 exact ⟨_, rfl, ⟨_, _, _, _, rfl, J9.out⟩, HB1.out.below⟩
set_option maxHeartbeats 4000000 in
set_option maxRecDepth 100000 in
theorem rtimes {a0 a1 a2 a3 : Value} {b0 b1 b2 b3 : Value} {n1 d1 n2 d2 : Int} {w : World} {j k : Nat} (h0 : IC w (a0) (a1) n1) (h1 : IC w (a2) (a3) d1) (h2 : IC w (b0) (b1) n2) (h3 : IC w (b2) (b3) d2) (g0 : Wn j n1) (g1 : Wn j d1) (g2 : Wn k n2) (g3 : Wn k d2) (hb : 2 * (j + k) + 2 ≤ 400) :
  Calls Tryz.prog 74 #[.agg #[a0, a1, a2, a3], .agg #[b0, b1, b2, b3]] w (PostW (VR (n1 * n2) (d1 * d2)) w) := by
 go_enter Tryz.func74, Tryz.ntmps74
 go_upto_region 1 with fail
 obtain ⟨W0, hW0⟩ : ∃ W0 : World, W0 = (((w.alloc (.cells #[a0, a1, a2, a3] 73)).alloc (.cells #[b0, b1, b2, b3] 73)).alloc (.cells zz2 73)) := ⟨_, rfl⟩
 rw [← hW0]
 have HB0 := lhd (show Bx w [(w.heap.size + 2, zz2), (w.heap.size + 1, #[b0, b1, b2, b3]), (w.heap.size, #[a0, a1, a2, a3])] W0 by rw [hW0]; simpa using ((((Bx.nil (Below.refl w.heap.size w)).new #[a0, a1, a2, a3] 73).new #[b0, b1, b2, b3] 73).new zz2 73))
 have HNi := lhd (show NoIntAt W0 (w.heap.size + 2) by rw [hW0]; exact NoIntAt.new ((w.alloc (.cells #[a0, a1, a2, a3] 73)).alloc (.cells #[b0, b1, b2, b3] 73)) 73 (noint_list (by kernel_rfl)) (by simp))
 clear hW0
 have hz := HB0.out.below
 refine wp_region_full (w.heap.size) [(0, 5, VC (.pointer (some ⟨w.heap.size, 0, none⟩))), (1, 6, VC (.agg #[a0, a1])), (2, 7, VC (.pointer (some ⟨w.heap.size + 1, 0, none⟩))), (3, 8, VC (.agg #[b0, b1])), (4, 9, VI (n1 * n2)), (5, 10, VC (.pointer (some ⟨w.heap.size, 2, none⟩))), (6, 11, VC (.agg #[a2, a3])), (7, 12, VC (.pointer (some ⟨w.heap.size + 1, 2, none⟩))), (8, 13, VC (.agg #[b2, b3])), (9, 14, VI (d1 * d2)), (10, 15, VR (n1 * n2) (d1 * d2))] [] [⟨w.heap.size + 2, 11, 10, 15, zz2, fun v vs => v = .agg vs⟩, ⟨w.heap.size + 1, 999, 999, 999, #[b0, b1, b2, b3], fun v vs => v = .agg vs⟩, ⟨w.heap.size, 999, 999, 999, #[a0, a1, a2, a3], fun v vs => v = .agg vs⟩] (fun W => ICs W [(a0, a1, n1), (a2, a3, d1), (b0, b1, n2), (b2, b3, d2)]) [5, 6, 7, 8, 9, 10, 11, 12, 13, 14, 15] ?_ (by kernel_rfl) (by kernel_rfl) (by kernel_rfl) (Firms.all (l := [(0, 5, VC (.pointer (some ⟨w.heap.size, 0, none⟩))), (1, 6, VC (.agg #[a0, a1])), (2, 7, VC (.pointer (some ⟨w.heap.size + 1, 0, none⟩))), (3, 8, VC (.agg #[b0, b1])), (4, 9, VI (n1 * n2)), (5, 10, VC (.pointer (some ⟨w.heap.size, 2, none⟩))), (6, 11, VC (.agg #[a2, a3])), (7, 12, VC (.pointer (some ⟨w.heap.size + 1, 2, none⟩))), (8, 13, VC (.agg #[b2, b3])), (9, 14, VI (d1 * d2)), (10, 15, VR (n1 * n2) (d1 * d2))]) ⟨Firm.vc _, Firm.vc _, Firm.vc _, Firm.vc _, Firm.vi _, Firm.vc _, Firm.vc _, Firm.vc _, Firm.vc _, Firm.vi _, Firm.vr _ _, trivial⟩) (Firm.ics _) (⟨h0.keep hz, h1.keep hz, h2.keep hz, h3.keep hz, trivial⟩) ?_ ?_ ?_
 ·exact HB0.out.below.size
 ·intro c hc
  simp only [List.mem_cons, List.not_mem_nil, or_false] at hc
  rcases hc with rfl | rfl | rfl
  ·exact ⟨(HB0.out.own _ lm0).2, fun _ => HNi.out⟩
  ·exact ⟨(HB0.out.own _ lm1).2, fun h => absurd rfl h⟩
  ·exact ⟨(HB0.out.own _ lm2).2, fun h => absurd rfl h⟩
 ·refine forall_ops ⟨?_, ?_, ?_, ?_, ?_, ?_, ?_, ?_, ?_, ?_, ?_, ?_, trivial⟩
  ·exact FOk.val rfl rfl rfl rfl fun _ _ _ _ _ _ => .fieldAddr rfl (fou (v := .pointer (some ⟨w.heap.size, 0, none⟩))) (by kernel_rfl) rfl
  ·exact FOk.val rfl rfl rfl rfl fun _ _ _ _ hO hV => .load (g := w.heap.size) (k := 0) (n := 2) rfl (fgt hV 0 rfl) (hO _ lm2 rfl) (by simp) Tryz.underlying58 rfl (by kernel_rfl) rfl
  ·exact FOk.val rfl rfl rfl rfl fun _ _ _ _ _ _ => .fieldAddr rfl (fou (v := .pointer (some ⟨w.heap.size + 1, 0, none⟩))) (by kernel_rfl) rfl
  ·exact FOk.val rfl rfl rfl rfl fun _ _ _ _ hO hV => .load (g := w.heap.size + 1) (k := 0) (n := 2) rfl (fgt hV 2 rfl) (hO _ lm1 rfl) (by simp) Tryz.underlying58 rfl (by kernel_rfl) rfl
  ·refine FOk.val rfl rfl rfl rfl fun _ _ _ hE _ hV => ?_
   obtain ⟨E0, E1, E2, E3, -⟩ := hE
   exact .call Tryz.func76 (by kernel_rfl) rfl rfl rfl (map_two (fgt hV 1 rfl) (fgt hV 3 rfl)) (dMul E0 E2 g0 g2 (by omega))
  ·exact FOk.val rfl rfl rfl rfl fun _ _ _ _ _ _ => .fieldAddr rfl (fou (v := .pointer (some ⟨w.heap.size, 0, none⟩))) (by kernel_rfl) rfl
  ·exact FOk.val rfl rfl rfl rfl fun _ _ _ _ hO hV => .load (g := w.heap.size) (k := 2) (n := 2) rfl (fgt hV 5 rfl) (hO _ lm2 rfl) (by simp) Tryz.underlying58 rfl (by kernel_rfl) rfl
  ·exact FOk.val rfl rfl rfl rfl fun _ _ _ _ _ _ => .fieldAddr rfl (fou (v := .pointer (some ⟨w.heap.size + 1, 0, none⟩))) (by kernel_rfl) rfl
  ·exact FOk.val rfl rfl rfl rfl fun _ _ _ _ hO hV => .load (g := w.heap.size + 1) (k := 2) (n := 2) rfl (fgt hV 7 rfl) (hO _ lm1 rfl) (by simp) Tryz.underlying58 rfl (by kernel_rfl) rfl
  ·refine FOk.val rfl rfl rfl rfl fun _ _ _ hE _ hV => ?_
   obtain ⟨E0, E1, E2, E3, -⟩ := hE
   exact .call Tryz.func76 (by kernel_rfl) rfl rfl rfl (map_two (fgt hV 6 rfl) (fgt hV 8 rfl)) (dMul E1 E3 g1 g3 (by omega))
  ·refine .inl ⟨.inl rfl, .inl ⟨by simp, by simp, fun y W hB hE hO hV K Q' hK => ?_⟩⟩
   obtain ⟨u9_0, u9_1, y9, i9⟩ : VI (n1 * n2) (y 9) W := hV (4, 9, VI (n1 * n2)) (word_get (by kernel_rfl)) (by kernel_rfl)
   obtain ⟨u14_0, u14_1, y14, i14⟩ : VI (d1 * d2) (y 14) W := hV (9, 14, VI (d1 * d2)) (word_get (by kernel_rfl)) (by kernel_rfl)
   simp only [fr, putAll, List.foldl_cons, List.foldl_nil, List.setIfInBounds_toArray, List.set_cons_zero, List.set_cons_succ] at hK ⊢
   simp only [y9, y14] at hK ⊢
   go_simp
   exact hK _ W (Below.refl _ _) (word_only (d := 15) (by kernel_rfl) (show VR (n1 * n2) (d1 * d2) _ W from ⟨_, _, _, _, rfl, i9, i14⟩))
  ·refine .inl ⟨.inl rfl, .inr (.inr (.inr ⟨rfl, word_none (by kernel_rfl), ?_, _, lm0, rfl, ?_, by simp, ?_, by kernel_rfl, fun y W hB hV hc hN K Q' hK => ?_⟩))⟩
   ·exact fun b hb => by simp at hb
   ·first | (with_reducible exact Nat.le_refl _) | assumption | omega | (simp; done)
   ·intro d hd
    simp only [List.mem_cons, List.not_mem_nil, or_false] at hd
    rcases hd with rfl | rfl | rfl
    ·exact ⟨fun _ => rfl, fun _ => rfl⟩
    ·exact ⟨fun h => absurd h (by simp), fun h => absurd h (by dsimp only; first | omega | assumption | exact Ne.symm (by assumption))⟩
    ·exact ⟨fun h => absurd h (by simp), fun h => absurd h (by dsimp only; first | omega | assumption | exact Ne.symm (by assumption))⟩
   obtain ⟨u15_0, u15_1, u15_2, u15_3, y15, i15⟩ : VR (n1 * n2) (d1 * d2) (y 15) W := hV (10, 15, VR (n1 * n2) (d1 * d2)) (word_get (by kernel_rfl)) (by kernel_rfl)
   exact .stoR (k := 0) (us := #[u15_0, u15_1, u15_2, u15_3]) (vs := #[u15_0, u15_1, u15_2, u15_3]) rfl (fou (v := .pointer (some ⟨w.heap.size + 2, 0, none⟩))) ((fr_in (by kernel_rfl)).trans y15) (ICs.fit (l := [(_, _, _), (_, _, _)]) ⟨i15.1, i15.2, trivial⟩ rfl) hc hN rfl (Nat.le_of_ble_eq_true rfl) rfl (by kernel_rfl) fun W' hC hN' hO => hK W' ⟨⟨_, y15, hC⟩, hN'⟩ hO
 intro y W hB hE hO hV hX hA
 have y5 : y 5 = .pointer (some ⟨w.heap.size, 0, none⟩) := hV (0, 5, VC (.pointer (some ⟨w.heap.size, 0, none⟩))) (word_get (by kernel_rfl))
 have y6 : y 6 = .agg #[a0, a1] := hV (1, 6, VC (.agg #[a0, a1])) (word_get (by kernel_rfl))
 have y7 : y 7 = .pointer (some ⟨w.heap.size + 1, 0, none⟩) := hV (2, 7, VC (.pointer (some ⟨w.heap.size + 1, 0, none⟩))) (word_get (by kernel_rfl))
 have y8 : y 8 = .agg #[b0, b1] := hV (3, 8, VC (.agg #[b0, b1])) (word_get (by kernel_rfl))
 obtain ⟨u9_0, u9_1, y9, j9⟩ : VI (n1 * n2) (y 9) W := hV (4, 9, VI (n1 * n2)) (word_get (by kernel_rfl))
 have J9 := lhd j9; clear j9
 have y10 : y 10 = .pointer (some ⟨w.heap.size, 2, none⟩) := hV (5, 10, VC (.pointer (some ⟨w.heap.size, 2, none⟩))) (word_get (by kernel_rfl))
 have y11 : y 11 = .agg #[a2, a3] := hV (6, 11, VC (.agg #[a2, a3])) (word_get (by kernel_rfl))
 have y12 : y 12 = .pointer (some ⟨w.heap.size + 1, 2, none⟩) := hV (7, 12, VC (.pointer (some ⟨w.heap.size + 1, 2, none⟩))) (word_get (by kernel_rfl))
 have y13 : y 13 = .agg #[b2, b3] := hV (8, 13, VC (.agg #[b2, b3])) (word_get (by kernel_rfl))
 obtain ⟨u14_0, u14_1, y14, j14⟩ : VI (d1 * d2) (y 14) W := hV (9, 14, VI (d1 * d2)) (word_get (by kernel_rfl))
 have J14 := lhd j14; clear j14
 obtain ⟨u15_0, u15_1, u15_2, u15_3, y15, j15⟩ : VR (n1 * n2) (d1 * d2) (y 15) W := hV (10, 15, VR (n1 * n2) (d1 * d2)) (word_get (by kernel_rfl))
 have J15 := lhd j15; clear j15
 obtain ⟨⟨ov0, oe0, ho0⟩, hno0⟩ := (hO _ lm0).2 (by simp)
 dsimp only at oe0 ho0
 rw [y15] at oe0; injection oe0 with oe0; subst oe0
 have ho1 := (hO _ lm1).1 rfl
 dsimp only at ho1
 have ho2 := (hO _ lm2).1 rfl
 dsimp only at ho2
 have HNo0 := lhd hno0; clear hno0
 dsimp only at HNo0
 have HB1 := lhd (show Bx w [(w.heap.size + 2, #[u15_0, u15_1, u15_2, u15_3]), (w.heap.size + 1, #[b0, b1, b2, b3]), (w.heap.size, #[a0, a1, a2, a3])] W from ((((Bx.nil (HB0.out.below.trans hB)).cons (HB0.out.own _ lm2).1 ho2).cons (HB0.out.own _ lm1).1 ho1).cons (HB0.out.own _ lm0).1 ho0))
 have HE1 := lhd hE
 simp only [fr, putAll, List.foldl_cons, List.foldl_nil, List.setIfInBounds_toArray, List.set_cons_zero, List.set_cons_succ]
 simp only [y5, y6, y7, y8, y9, y10, y11, y12, y13, y14, y15]
 clear y5 y6 y7 y8 y9 y10 y11 y12 y13 y14 y15  hB hE hO hV hX hA ho0 ho1 ho2
 have q := fun (i : Nat) hi => (HB1.out.own _ lm0).2.2.1 i hi
 have q0 := q 0 (by simp)
 have q1 := q 1 (by simp)
 have q2 := q 2 (by simp)
 have q3 := q 3 (by simp)
 clear q
 simp only [List.getElem?_toArray, List.getElem?_cons_zero, List.getElem?_cons_succ] at q0 q1 q2 q3
 go_wp2_with fail
 refine bodyPost_ret (v := .agg #[u15_0, u15_1, u15_2, u15_3]) (by simp [results, Tryz.results74, go_sem, q0, q1, q2, q3]) rfl ?_
 exact ⟨_, rfl, ⟨_, _, _, _, rfl, J15.out⟩, HB1.out.below⟩
set_option maxHeartbeats 4000000 in
set_option maxRecDepth 100000 in
theorem rplus {a0 a1 a2 a3 : Value} {b0 b1 b2 b3 : Value} {n1 d1 n2 d2 : Int} {w : World} {j k : Nat} (h0 : IC w (a0) (a1) n1) (h1 : IC w (a2) (a3) d1) (h2 : IC w (b0) (b1) n2) (h3 : IC w (b2) (b3) d2) (g0 : Wn j n1) (g1 : Wn j d1) (g2 : Wn k n2) (g3 : Wn k d2) (hb : 2 * (j + k) + 2 ≤ 400) :
  Calls Tryz.prog 35 #[.agg #[a0, a1, a2, a3], .agg #[b0, b1, b2, b3]] w (PostW (VR (n1 * d2 + n2 * d1) (d1 * d2)) w) := by
 go_enter Tryz.func35, Tryz.ntmps35
 go_upto_region 1 with fail
 obtain ⟨W0, hW0⟩ : ∃ W0 : World, W0 = (((w.alloc (.cells #[a0, a1, a2, a3] 73)).alloc (.cells #[b0, b1, b2, b3] 73)).alloc (.cells zz2 73)) := ⟨_, rfl⟩
 rw [← hW0]
 have HB0 := lhd (show Bx w [(w.heap.size + 2, zz2), (w.heap.size + 1, #[b0, b1, b2, b3]), (w.heap.size, #[a0, a1, a2, a3])] W0 by rw [hW0]; simpa using ((((Bx.nil (Below.refl w.heap.size w)).new #[a0, a1, a2, a3] 73).new #[b0, b1, b2, b3] 73).new zz2 73))
 have HNi := lhd (show NoIntAt W0 (w.heap.size + 2) by rw [hW0]; exact NoIntAt.new ((w.alloc (.cells #[a0, a1, a2, a3] 73)).alloc (.cells #[b0, b1, b2, b3] 73)) 73 (noint_list (by kernel_rfl)) (by simp))
 clear hW0
 have hz := HB0.out.below
 refine wp_region_full (w.heap.size) [(0, 5, VC (.pointer (some ⟨w.heap.size, 0, none⟩))), (1, 6, VC (.agg #[a0, a1])), (2, 7, VC (.pointer (some ⟨w.heap.size + 1, 2, none⟩))), (3, 8, VC (.agg #[b2, b3])), (4, 9, VI (n1 * d2)), (5, 10, VC (.pointer (some ⟨w.heap.size + 1, 0, none⟩))), (6, 11, VC (.agg #[b0, b1])), (7, 12, VC (.pointer (some ⟨w.heap.size, 2, none⟩))), (8, 13, VC (.agg #[a2, a3])), (9, 14, VI (n2 * d1)), (10, 15, VI (n1 * d2 + n2 * d1)), (11, 16, VC (.pointer (some ⟨w.heap.size, 2, none⟩))), (12, 17, VC (.agg #[a2, a3])), (13, 18, VC (.pointer (some ⟨w.heap.size + 1, 2, none⟩))), (14, 19, VC (.agg #[b2, b3])), (15, 20, VI (d1 * d2)), (16, 21, VR (n1 * d2 + n2 * d1) (d1 * d2))] [] [⟨w.heap.size + 2, 17, 16, 21, zz2, fun v vs => v = .agg vs⟩, ⟨w.heap.size + 1, 999, 999, 999, #[b0, b1, b2, b3], fun v vs => v = .agg vs⟩, ⟨w.heap.size, 999, 999, 999, #[a0, a1, a2, a3], fun v vs => v = .agg vs⟩] (fun W => ICs W [(a0, a1, n1), (a2, a3, d1), (b0, b1, n2), (b2, b3, d2)]) [5, 6, 7, 8, 9, 10, 11, 12, 13, 14, 15, 16, 17, 18, 19, 20, 21] ?_ (by kernel_rfl) (by kernel_rfl) (by kernel_rfl) (Firms.all (l := [(0, 5, VC (.pointer (some ⟨w.heap.size, 0, none⟩))), (1, 6, VC (.agg #[a0, a1])), (2, 7, VC (.pointer (some ⟨w.heap.size + 1, 2, none⟩))), (3, 8, VC (.agg #[b2, b3])), (4, 9, VI (n1 * d2)), (5, 10, VC (.pointer (some ⟨w.heap.size + 1, 0, none⟩))), (6, 11, VC (.agg #[b0, b1])), (7, 12, VC (.pointer (some ⟨w.heap.size, 2, none⟩))), (8, 13, VC (.agg #[a2, a3])), (9, 14, VI (n2 * d1)), (10, 15, VI (n1 * d2 + n2 * d1)), (11, 16, VC (.pointer (some ⟨w.heap.size, 2, none⟩))), (12, 17, VC (.agg #[a2, a3])), (13, 18, VC (.pointer (some ⟨w.heap.size + 1, 2, none⟩))), (14, 19, VC (.agg #[b2, b3])), (15, 20, VI (d1 * d2)), (16, 21, VR (n1 * d2 + n2 * d1) (d1 * d2))]) ⟨Firm.vc _, Firm.vc _, Firm.vc _, Firm.vc _, Firm.vi _, Firm.vc _, Firm.vc _, Firm.vc _, Firm.vc _, Firm.vi _, Firm.vi _, Firm.vc _, Firm.vc _, Firm.vc _, Firm.vc _, Firm.vi _, Firm.vr _ _, trivial⟩) (Firm.ics _) (⟨h0.keep hz, h1.keep hz, h2.keep hz, h3.keep hz, trivial⟩) ?_ ?_ ?_
 ·exact HB0.out.below.size
 ·intro c hc
  simp only [List.mem_cons, List.not_mem_nil, or_false] at hc
  rcases hc with rfl | rfl | rfl
  ·exact ⟨(HB0.out.own _ lm0).2, fun _ => HNi.out⟩
  ·exact ⟨(HB0.out.own _ lm1).2, fun h => absurd rfl h⟩
  ·exact ⟨(HB0.out.own _ lm2).2, fun h => absurd rfl h⟩
 ·refine forall_ops ⟨?_, ?_, ?_, ?_, ?_, ?_, ?_, ?_, ?_, ?_, ?_, ?_, ?_, ?_, ?_, ?_, ?_, ?_, trivial⟩
  ·exact FOk.val rfl rfl rfl rfl fun _ _ _ _ _ _ => .fieldAddr rfl (fou (v := .pointer (some ⟨w.heap.size, 0, none⟩))) (by kernel_rfl) rfl
  ·exact FOk.val rfl rfl rfl rfl fun _ _ _ _ hO hV => .load (g := w.heap.size) (k := 0) (n := 2) rfl (fgt hV 0 rfl) (hO _ lm2 rfl) (by simp) Tryz.underlying58 rfl (by kernel_rfl) rfl
  ·exact FOk.val rfl rfl rfl rfl fun _ _ _ _ _ _ => .fieldAddr rfl (fou (v := .pointer (some ⟨w.heap.size + 1, 0, none⟩))) (by kernel_rfl) rfl
  ·exact FOk.val rfl rfl rfl rfl fun _ _ _ _ hO hV => .load (g := w.heap.size + 1) (k := 2) (n := 2) rfl (fgt hV 2 rfl) (hO _ lm1 rfl) (by simp) Tryz.underlying58 rfl (by kernel_rfl) rfl
  ·refine FOk.val rfl rfl rfl rfl fun _ _ _ hE _ hV => ?_
   obtain ⟨E0, E1, E2, E3, -⟩ := hE
   exact .call Tryz.func76 (by kernel_rfl) rfl rfl rfl (map_two (fgt hV 1 rfl) (fgt hV 3 rfl)) (dMul E0 E3 g0 g3 (by omega))
  ·exact FOk.val rfl rfl rfl rfl fun _ _ _ _ _ _ => .fieldAddr rfl (fou (v := .pointer (some ⟨w.heap.size + 1, 0, none⟩))) (by kernel_rfl) rfl
  ·exact FOk.val rfl rfl rfl rfl fun _ _ _ _ hO hV => .load (g := w.heap.size + 1) (k := 0) (n := 2) rfl (fgt hV 5 rfl) (hO _ lm1 rfl) (by simp) Tryz.underlying58 rfl (by kernel_rfl) rfl
  ·exact FOk.val rfl rfl rfl rfl fun _ _ _ _ _ _ => .fieldAddr rfl (fou (v := .pointer (some ⟨w.heap.size, 0, none⟩))) (by kernel_rfl) rfl
  ·exact FOk.val rfl rfl rfl rfl fun _ _ _ _ hO hV => .load (g := w.heap.size) (k := 2) (n := 2) rfl (fgt hV 7 rfl) (hO _ lm2 rfl) (by simp) Tryz.underlying58 rfl (by kernel_rfl) rfl
  ·refine FOk.val rfl rfl rfl rfl fun _ _ _ hE _ hV => ?_
   obtain ⟨E0, E1, E2, E3, -⟩ := hE
   exact .call Tryz.func76 (by kernel_rfl) rfl rfl rfl (map_two (fgt hV 6 rfl) (fgt hV 8 rfl)) (dMul E2 E1 g2 g1 (by omega))
  ·refine FOk.val rfl rfl rfl rfl fun _ _ _ _ _ hV => ?_
   obtain ⟨u9_0, u9_1, y9, i9⟩ := hget hV 4 rfl (by kernel_rfl)
   obtain ⟨u14_0, u14_1, y14, i14⟩ := hget hV 9 rfl (by kernel_rfl)
   exact .call Tryz.func78 (by kernel_rfl) rfl rfl rfl (map_two ((fr_in (by kernel_rfl)).trans y9) ((fr_in (by kernel_rfl)).trans y14)) (dAdd i9 i14 (g0.mul g3) (g2.mul g1) (by omega))
  ·exact FOk.val rfl rfl rfl rfl fun _ _ _ _ _ _ => .fieldAddr rfl (fou (v := .pointer (some ⟨w.heap.size, 0, none⟩))) (by kernel_rfl) rfl
  ·exact FOk.val rfl rfl rfl rfl fun _ _ _ _ hO hV => .load (g := w.heap.size) (k := 2) (n := 2) rfl (fgt hV 11 rfl) (hO _ lm2 rfl) (by simp) Tryz.underlying58 rfl (by kernel_rfl) rfl
  ·exact FOk.val rfl rfl rfl rfl fun _ _ _ _ _ _ => .fieldAddr rfl (fou (v := .pointer (some ⟨w.heap.size + 1, 0, none⟩))) (by kernel_rfl) rfl
  ·exact FOk.val rfl rfl rfl rfl fun _ _ _ _ hO hV => .load (g := w.heap.size + 1) (k := 2) (n := 2) rfl (fgt hV 13 rfl) (hO _ lm1 rfl) (by simp) Tryz.underlying58 rfl (by kernel_rfl) rfl
  ·refine FOk.val rfl rfl rfl rfl fun _ _ _ hE _ hV => ?_
   obtain ⟨E0, E1, E2, E3, -⟩ := hE
   exact .call Tryz.func76 (by kernel_rfl) rfl rfl rfl (map_two (fgt hV 12 rfl) (fgt hV 14 rfl)) (dMul E1 E3 g1 g3 (by omega))
  ·refine .inl ⟨.inl rfl, .inl ⟨by simp, by simp, fun y W hB hE hO hV K Q' hK => ?_⟩⟩
   obtain ⟨u15_0, u15_1, y15, i15⟩ : VI (n1 * d2 + n2 * d1) (y 15) W := hV (10, 15, VI (n1 * d2 + n2 * d1)) (word_get (by kernel_rfl)) (by kernel_rfl)
   obtain ⟨u20_0, u20_1, y20, i20⟩ : VI (d1 * d2) (y 20) W := hV (15, 20, VI (d1 * d2)) (word_get (by kernel_rfl)) (by kernel_rfl)
   simp only [fr, putAll, List.foldl_cons, List.foldl_nil, List.setIfInBounds_toArray, List.set_cons_zero, List.set_cons_succ] at hK ⊢
   simp only [y15, y20] at hK ⊢
   go_simp
   exact hK _ W (Below.refl _ _) (word_only (d := 21) (by kernel_rfl) (show VR (n1 * d2 + n2 * d1) (d1 * d2) _ W from ⟨_, _, _, _, rfl, i15, i20⟩))
  ·refine .inl ⟨.inl rfl, .inr (.inr (.inr ⟨rfl, word_none (by kernel_rfl), ?_, _, lm0, rfl, ?_, by simp, ?_, by kernel_rfl, fun y W hB hV hc hN K Q' hK => ?_⟩))⟩
   ·exact fun b hb => by simp at hb
   ·first | (with_reducible exact Nat.le_refl _) | assumption | omega | (simp; done)
   ·intro d hd
    simp only [List.mem_cons, List.not_mem_nil, or_false] at hd
    rcases hd with rfl | rfl | rfl
    ·exact ⟨fun _ => rfl, fun _ => rfl⟩
    ·exact ⟨fun h => absurd h (by simp), fun h => absurd h (by dsimp only; first | omega | assumption | exact Ne.symm (by assumption))⟩
    ·exact ⟨fun h => absurd h (by simp), fun h => absurd h (by dsimp only; first | omega | assumption | exact Ne.symm (by assumption))⟩
   obtain ⟨u21_0, u21_1, u21_2, u21_3, y21, i21⟩ : VR (n1 * d2 + n2 * d1) (d1 * d2) (y 21) W := hV (16, 21, VR (n1 * d2 + n2 * d1) (d1 * d2)) (word_get (by kernel_rfl)) (by kernel_rfl)
   exact .stoR (k := 0) (us := #[u21_0, u21_1, u21_2, u21_3]) (vs := #[u21_0, u21_1, u21_2, u21_3]) rfl (fou (v := .pointer (some ⟨w.heap.size + 2, 0, none⟩))) ((fr_in (by kernel_rfl)).trans y21) (ICs.fit (l := [(_, _, _), (_, _, _)]) ⟨i21.1, i21.2, trivial⟩ rfl) hc hN rfl (Nat.le_of_ble_eq_true rfl) rfl (by kernel_rfl) fun W' hC hN' hO => hK W' ⟨⟨_, y21, hC⟩, hN'⟩ hO
 intro y W hB hE hO hV hX hA
 have y5 : y 5 = .pointer (some ⟨w.heap.size, 0, none⟩) := hV (0, 5, VC (.pointer (some ⟨w.heap.size, 0, none⟩))) (word_get (by kernel_rfl))
 have y6 : y 6 = .agg #[a0, a1] := hV (1, 6, VC (.agg #[a0, a1])) (word_get (by kernel_rfl))
 have y7 : y 7 = .pointer (some ⟨w.heap.size + 1, 2, none⟩) := hV (2, 7, VC (.pointer (some ⟨w.heap.size + 1, 2, none⟩))) (word_get (by kernel_rfl))
 have y8 : y 8 = .agg #[b2, b3] := hV (3, 8, VC (.agg #[b2, b3])) (word_get (by kernel_rfl))
 obtain ⟨u9_0, u9_1, y9, j9⟩ : VI (n1 * d2) (y 9) W := hV (4, 9, VI (n1 * d2)) (word_get (by kernel_rfl))
 have J9 := lhd j9; clear j9
 have y10 : y 10 = .pointer (some ⟨w.heap.size + 1, 0, none⟩) := hV (5, 10, VC (.pointer (some ⟨w.heap.size + 1, 0, none⟩))) (word_get (by kernel_rfl))
 have y11 : y 11 = .agg #[b0, b1] := hV (6, 11, VC (.agg #[b0, b1])) (word_get (by kernel_rfl))
 have y12 : y 12 = .pointer (some ⟨w.heap.size, 2, none⟩) := hV (7, 12, VC (.pointer (some ⟨w.heap.size, 2, none⟩))) (word_get (by kernel_rfl))
 have y13 : y 13 = .agg #[a2, a3] := hV (8, 13, VC (.agg #[a2, a3])) (word_get (by kernel_rfl))
 obtain ⟨u14_0, u14_1, y14, j14⟩ : VI (n2 * d1) (y 14) W := hV (9, 14, VI (n2 * d1)) (word_get (by kernel_rfl))
 have J14 := lhd j14; clear j14
 obtain ⟨u15_0, u15_1, y15, j15⟩ : VI (n1 * d2 + n2 * d1) (y 15) W := hV (10, 15, VI (n1 * d2 + n2 * d1)) (word_get (by kernel_rfl))
 have J15 := lhd j15; clear j15
 have y16 : y 16 = .pointer (some ⟨w.heap.size, 2, none⟩) := hV (11, 16, VC (.pointer (some ⟨w.heap.size, 2, none⟩))) (word_get (by kernel_rfl))
 have y17 : y 17 = .agg #[a2, a3] := hV (12, 17, VC (.agg #[a2, a3])) (word_get (by kernel_rfl))
 have y18 : y 18 = .pointer (some ⟨w.heap.size + 1, 2, none⟩) := hV (13, 18, VC (.pointer (some ⟨w.heap.size + 1, 2, none⟩))) (word_get (by kernel_rfl))
 have y19 : y 19 = .agg #[b2, b3] := hV (14, 19, VC (.agg #[b2, b3])) (word_get (by kernel_rfl))
 obtain ⟨u20_0, u20_1, y20, j20⟩ : VI (d1 * d2) (y 20) W := hV (15, 20, VI (d1 * d2)) (word_get (by kernel_rfl))
 have J20 := lhd j20; clear j20
 obtain ⟨u21_0, u21_1, u21_2, u21_3, y21, j21⟩ : VR (n1 * d2 + n2 * d1) (d1 * d2) (y 21) W := hV (16, 21, VR (n1 * d2 + n2 * d1) (d1 * d2)) (word_get (by kernel_rfl))
 have J21 := lhd j21; clear j21
 obtain ⟨⟨ov0, oe0, ho0⟩, hno0⟩ := (hO _ lm0).2 (by simp)
 dsimp only at oe0 ho0
 rw [y21] at oe0; injection oe0 with oe0; subst oe0
 have ho1 := (hO _ lm1).1 rfl
 dsimp only at ho1
 have ho2 := (hO _ lm2).1 rfl
 dsimp only at ho2
 have HNo0 := lhd hno0; clear hno0
 dsimp only at HNo0
 have HB1 := lhd (show Bx w [(w.heap.size + 2, #[u21_0, u21_1, u21_2, u21_3]), (w.heap.size + 1, #[b0, b1, b2, b3]), (w.heap.size, #[a0, a1, a2, a3])] W from ((((Bx.nil (HB0.out.below.trans hB)).cons (HB0.out.own _ lm2).1 ho2).cons (HB0.out.own _ lm1).1 ho1).cons (HB0.out.own _ lm0).1 ho0))
 have HE1 := lhd hE
 simp only [fr, putAll, List.foldl_cons, List.foldl_nil, List.setIfInBounds_toArray, List.set_cons_zero, List.set_cons_succ]
 simp only [y5, y6, y7, y8, y9, y10, y11, y12, y13, y14, y15, y16, y17, y18, y19, y20, y21]
 clear y5 y6 y7 y8 y9 y10 y11 y12 y13 y14 y15 y16 y17 y18 y19 y20 y21  hB hE hO hV hX hA ho0 ho1 ho2
 have q := fun (i : Nat) hi => (HB1.out.own _ lm0).2.2.1 i hi
 have q0 := q 0 (by simp)
 have q1 := q 1 (by simp)
 have q2 := q 2 (by simp)
 have q3 := q 3 (by simp)
 clear q
 simp only [List.getElem?_toArray, List.getElem?_cons_zero, List.getElem?_cons_succ] at q0 q1 q2 q3
 go_wp2_with fail
 refine bodyPost_ret (v := .agg #[u21_0, u21_1, u21_2, u21_3]) (by simp [results, Tryz.results35, go_sem, q0, q1, q2, q3]) rfl ?_
 exact ⟨_, rfl, ⟨_, _, _, _, rfl, J21.out⟩, HB1.out.below⟩
set_option maxHeartbeats 4000000 in
set_option maxRecDepth 100000 in
theorem ris {a0 a1 a2 a3 : Value} {n1 d1 n : Int} {w : World} {j : Nat} (h0 : IC w (a0) (a1) n1) (h1 : IC w (a2) (a3) d1) (g0 : Wn j n1) (g1 : Wn j d1) (hn : I64 n) (hnn : -4294967295 ≤ n ∧ n ≤ 4294967295) (hb : 2 * j + 2 ≤ 400) :
  Calls Tryz.prog 34 #[.agg #[a0, a1, a2, a3], .int .i64 n] w (PostW (VC (.bool (decide (n1 = d1 * n)))) w) := by
 have hsg : ∀ z : Int, sgn z = sgn z := fun _ => rfl
 clear hsg
 go_enter Tryz.func34, Tryz.ntmps34
 go_upto_region 1 with fail
 obtain ⟨W0, hW0⟩ : ∃ W0 : World, W0 = (w.alloc (.cells #[a0, a1, a2, a3] 73)) := ⟨_, rfl⟩
 rw [← hW0]
 have HB0 := lhd (show Bx w [(w.heap.size, #[a0, a1, a2, a3])] W0 by rw [hW0]; simpa using ((Bx.nil (Below.refl w.heap.size w)).new #[a0, a1, a2, a3] 73))
 clear hW0
 have hz := HB0.out.below
 have hsg := @sgn_eq n1 (d1 * n)
 refine wp_region_full (w.heap.size) [(0, 5, VC (.pointer (some ⟨w.heap.size, 0, none⟩))), (1, 6, VC (.agg #[a0, a1])), (2, 7, VC (.pointer (some ⟨w.heap.size, 2, none⟩))), (3, 8, VC (.agg #[a2, a3])), (4, 9, VC (.int .i64 n)), (5, 10, VI n), (6, 11, VI (d1 * n)), (7, 12, VC (.int .i64 (sgn (n1 - d1 * n)))), (8, 13, VC (.bool ((decide (n1 = d1 * n))))), (9, 4, VC (.bool ((decide (n1 = d1 * n)))))] [] [⟨w.heap.size, 999, 999, 999, #[a0, a1, a2, a3], fun v vs => v = .agg vs⟩] (fun W => ICs W [(a0, a1, n1), (a2, a3, d1)]) [5, 6, 7, 8, 9, 10, 11, 12, 13, 4] ?_ (by kernel_rfl) (by kernel_rfl) (by kernel_rfl) (Firms.all (l := [(0, 5, VC (.pointer (some ⟨w.heap.size, 0, none⟩))), (1, 6, VC (.agg #[a0, a1])), (2, 7, VC (.pointer (some ⟨w.heap.size, 2, none⟩))), (3, 8, VC (.agg #[a2, a3])), (4, 9, VC (.int .i64 n)), (5, 10, VI n), (6, 11, VI (d1 * n)), (7, 12, VC (.int .i64 (sgn (n1 - d1 * n)))), (8, 13, VC (.bool ((decide (n1 = d1 * n))))), (9, 4, VC (.bool ((decide (n1 = d1 * n)))))]) ⟨Firm.vc _, Firm.vc _, Firm.vc _, Firm.vc _, Firm.vc _, Firm.vi _, Firm.vi _, Firm.vc _, Firm.vc _, Firm.vc _, trivial⟩) (Firm.ics _) (⟨h0.keep hz, h1.keep hz, trivial⟩) ?_ ?_ ?_
 ·exact HB0.out.below.size
 ·intro c hc
  simp only [List.mem_cons, List.not_mem_nil, or_false] at hc
  rcases hc with rfl
  ·exact ⟨(HB0.out.own _ lm0).2, fun h => absurd rfl h⟩
 ·refine forall_ops ⟨?_, ?_, ?_, ?_, ?_, ?_, ?_, ?_, ?_, ?_, trivial⟩
  ·exact FOk.val rfl rfl rfl rfl fun _ _ _ _ _ _ => .fieldAddr rfl (fou (v := .pointer (some ⟨w.heap.size, 0, none⟩))) (by kernel_rfl) rfl
  ·exact FOk.val rfl rfl rfl rfl fun _ _ _ _ hO hV => .load (g := w.heap.size) (k := 0) (n := 2) rfl (fgt hV 0 rfl) (hO _ lm0 rfl) (by simp) Tryz.underlying58 rfl (by kernel_rfl) rfl
  ·exact FOk.val rfl rfl rfl rfl fun _ _ _ _ _ _ => .fieldAddr rfl (fou (v := .pointer (some ⟨w.heap.size, 0, none⟩))) (by kernel_rfl) rfl
  ·exact FOk.val rfl rfl rfl rfl fun _ _ _ _ hO hV => .load (g := w.heap.size) (k := 2) (n := 2) rfl (fgt hV 2 rfl) (hO _ lm0 rfl) (by simp) Tryz.underlying58 rfl (by kernel_rfl) rfl
  ·exact FOk.val rfl rfl rfl rfl fun _ _ _ _ _ _ => .move rfl (fou (v := .int .i64 n)) rfl
  ·exact FOk.val rfl rfl rfl rfl fun _ W _ _ _ hV => .call Tryz.func77 (by kernel_rfl) rfl rfl rfl (map_one (fgt hV 4 rfl)) (dOf n W hn)
  ·refine FOk.val rfl rfl rfl rfl fun _ _ _ hE _ hV => ?_
   obtain ⟨u10_0, u10_1, y10, i10⟩ := hget hV 5 rfl (by kernel_rfl)
   obtain ⟨E0, E1, -⟩ := hE
   exact .call Tryz.func76 (by kernel_rfl) rfl rfl rfl (map_two (fgt hV 3 rfl) ((fr_in (by kernel_rfl)).trans y10)) (dMul E1 i10 g1 (Wn.of hnn) (by omega))
  ·refine FOk.val rfl rfl rfl rfl fun _ _ _ hE _ hV => ?_
   obtain ⟨u11_0, u11_1, y11, i11⟩ := hget hV 6 rfl (by kernel_rfl)
   obtain ⟨E0, E1, -⟩ := hE
   exact .call Tryz.func75 (by kernel_rfl) rfl rfl rfl (map_two (fgt hV 1 rfl) ((fr_in (by kernel_rfl)).trans y11)) (dCmp E0 i11 g0 (g1.mul (Wn.of hnn)) (by omega))
  ·refine .inl ⟨.inl rfl, .inl ⟨by simp, by simp, fun y W hB hE hO hV K Q' hK => ?_⟩⟩
   have y12 : y 12 = .int .i64 (sgn (n1 - d1 * n)) := hV (7, 12, VC (.int .i64 (sgn (n1 - d1 * n)))) (word_get (by kernel_rfl)) (by kernel_rfl)
   simp only [fr, putAll, List.foldl_cons, List.foldl_nil, List.setIfInBounds_toArray, List.set_cons_zero, List.set_cons_succ] at hK ⊢
   simp only [y12] at hK ⊢
   go_simp
   exact hK (.bool ((decide (n1 = d1 * n)))) W (Below.refl _ _) (word_only (d := 13) (by kernel_rfl) (show VC _ _ W from rfl))
  ·refine .inl ⟨.inl rfl, .inl ⟨by simp, by simp, fun y W hB hE hO hV K Q' hK => ?_⟩⟩
   have y13 : y 13 = .bool ((decide (n1 = d1 * n))) := hV (8, 13, VC (.bool ((decide (n1 = d1 * n))))) (word_get (by kernel_rfl)) (by kernel_rfl)
   simp only [fr, putAll, List.foldl_cons, List.foldl_nil, List.setIfInBounds_toArray, List.set_cons_zero, List.set_cons_succ] at hK ⊢
   simp only [y13] at hK ⊢
   go_simp
   exact hK (.bool ((decide (n1 = d1 * n)))) W (Below.refl _ _) (word_only (d := 4) (by kernel_rfl) (show VC _ _ W from rfl))
 intro y W hB hE hO hV hX hA
 have y5 : y 5 = .pointer (some ⟨w.heap.size, 0, none⟩) := hV (0, 5, VC (.pointer (some ⟨w.heap.size, 0, none⟩))) (word_get (by kernel_rfl))
 have y6 : y 6 = .agg #[a0, a1] := hV (1, 6, VC (.agg #[a0, a1])) (word_get (by kernel_rfl))
 have y7 : y 7 = .pointer (some ⟨w.heap.size, 2, none⟩) := hV (2, 7, VC (.pointer (some ⟨w.heap.size, 2, none⟩))) (word_get (by kernel_rfl))
 have y8 : y 8 = .agg #[a2, a3] := hV (3, 8, VC (.agg #[a2, a3])) (word_get (by kernel_rfl))
 have y9 : y 9 = .int .i64 n := hV (4, 9, VC (.int .i64 n)) (word_get (by kernel_rfl))
 obtain ⟨u10_0, u10_1, y10, j10⟩ : VI n (y 10) W := hV (5, 10, VI n) (word_get (by kernel_rfl))
 have J10 := lhd j10; clear j10
 obtain ⟨u11_0, u11_1, y11, j11⟩ : VI (d1 * n) (y 11) W := hV (6, 11, VI (d1 * n)) (word_get (by kernel_rfl))
 have J11 := lhd j11; clear j11
 have y12 : y 12 = .int .i64 (sgn (n1 - d1 * n)) := hV (7, 12, VC (.int .i64 (sgn (n1 - d1 * n)))) (word_get (by kernel_rfl))
 have y13 : y 13 = .bool ((decide (n1 = d1 * n))) := hV (8, 13, VC (.bool ((decide (n1 = d1 * n))))) (word_get (by kernel_rfl))
 have y4 : y 4 = .bool ((decide (n1 = d1 * n))) := hV (9, 4, VC (.bool ((decide (n1 = d1 * n))))) (word_get (by kernel_rfl))
 have ho0 := (hO _ lm0).1 rfl
 dsimp only at ho0
 have HB1 := lhd (show Bx w [(w.heap.size, #[a0, a1, a2, a3])] W from ((Bx.nil (HB0.out.below.trans hB)).cons (HB0.out.own _ lm0).1 ho0))
 have HE1 := lhd hE
 simp only [fr, putAll, List.foldl_cons, List.foldl_nil, List.setIfInBounds_toArray, List.set_cons_zero, List.set_cons_succ]
 simp only [y5, y6, y7, y8, y9, y10, y11, y12, y13, y4]
 clear y5 y6 y7 y8 y9 y10 y11 y12 y13 y4  hB hE hO hV hX hA ho0
 go_wp2_with fail
 go_ret
 exact ⟨_, rfl, rfl, HB1.out.below⟩
end Go.Proofs.YtimdkjbmeogpoaaGreatDoor
