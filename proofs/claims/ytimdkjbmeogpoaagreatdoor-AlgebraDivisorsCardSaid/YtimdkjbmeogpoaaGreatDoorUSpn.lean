/- Matrices of fractions: the reference's products. -/
import Derived.Test.YtimdkjbmeogpoaaGreatDoorUSpr
import Derived.Test.YtimdkjbmeogpoaaGreatDoorUSpm
namespace Go.Proofs.YtimdkjbmeogpoaaGreatDoor
open Go.RowKit FF
theorem Firm.and2 {p q : World → Prop} (h1 : Firm (fun _ => p)) (h2 : Firm (fun _ => q)) : Firm (fun _ W => p W ∧ q W) :=
 ⟨fun v _ _ h hb => ⟨h1.below v _ _ h.1 hb, h2.below v _ _ h.2 hb⟩, fun v _ _ g h ho hg => ⟨h1.only v _ _ g h.1 ho hg, h2.only v _ _ g h.2 ho hg⟩⟩
set_option maxHeartbeats 4000000 in
set_option maxRecDepth 100000 in
theorem rmatrix_any (n0 e0 n1 e1 n2 e2 n3 e3 : Int) (w : World) (hn0 : I64 n0) (he0 : I64 e0) (hn1 : I64 n1) (he1 : I64 e1) (hn2 : I64 n2) (he2 : I64 e2) (hn3 : I64 n3) (he3 : I64 e3) : Calls Tryz.prog 31 #[.agg #[.int .i64 n0, .int .i64 e0, .int .i64 n1, .int .i64 e1, .int .i64 n2, .int .i64 e2, .int .i64 n3, .int .i64 e3]] w (PostW (VM n0 e0 n1 e1 n2 e2 n3 e3) w) := by
 go_enter Tryz.func31, Tryz.ntmps31
 go_upto_region 1 with fail
 obtain ⟨W0, hW0⟩ : ∃ W0 : World, W0 = ((w.alloc (.cells #[.int .i64 n0, .int .i64 e0, .int .i64 n1, .int .i64 e1, .int .i64 n2, .int .i64 e2, .int .i64 n3, .int .i64 e3] 27)).alloc (.cells zz8 75)) := ⟨_, rfl⟩
 rw [← hW0]
 have HB0 := lhd (show Bx w [(w.heap.size + 1, zz8), (w.heap.size, #[.int .i64 n0, .int .i64 e0, .int .i64 n1, .int .i64 e1, .int .i64 n2, .int .i64 e2, .int .i64 n3, .int .i64 e3])] W0 by rw [hW0]; simpa using (((Bx.nil (Below.refl w.heap.size w)).new #[.int .i64 n0, .int .i64 e0, .int .i64 n1, .int .i64 e1, .int .i64 n2, .int .i64 e2, .int .i64 n3, .int .i64 e3] 27).new zz8 75))
 have HNi := lhd (show NoIntAt W0 (w.heap.size + 1) by rw [hW0]; exact NoIntAt.new (w.alloc (.cells #[.int .i64 n0, .int .i64 e0, .int .i64 n1, .int .i64 e1, .int .i64 n2, .int .i64 e2, .int .i64 n3, .int .i64 e3] 27)) 75 (noint_list (by kernel_rfl)) (by simp))
 clear hW0
 refine wp_region_full (w.heap.size) [(0, 3, VC (.pointer (some ⟨w.heap.size, 0, none⟩))), (1, 4, VC (.agg #[.int .i64 n0, .int .i64 e0])), (2, 5, VR n0 e0), (3, 6, VC (.pointer (some ⟨w.heap.size, 2, none⟩))), (4, 7, VC (.agg #[.int .i64 n1, .int .i64 e1])), (5, 8, VR n1 e1), (6, 9, VC (.pointer (some ⟨w.heap.size, 4, none⟩))), (7, 10, VC (.agg #[.int .i64 n2, .int .i64 e2])), (8, 11, VR n2 e2), (9, 12, VC (.pointer (some ⟨w.heap.size, 6, none⟩))), (10, 13, VC (.agg #[.int .i64 n3, .int .i64 e3])), (11, 14, VR n3 e3), (12, 15, VM n0 e0 n1 e1 n2 e2 n3 e3)] [] [⟨w.heap.size + 1, 13, 12, 15, zz8, fun v vs => v = .agg vs⟩, ⟨w.heap.size, 999, 999, 999, #[.int .i64 n0, .int .i64 e0, .int .i64 n1, .int .i64 e1, .int .i64 n2, .int .i64 e2, .int .i64 n3, .int .i64 e3], fun v vs => v = .agg vs⟩] (fun _ => True) [3, 4, 5, 6, 7, 8, 9, 10, 11, 12, 13, 14, 15] ?_ (by kernel_rfl) (by kernel_rfl) (by kernel_rfl) (Firms.all (l := [(0, 3, VC (.pointer (some ⟨w.heap.size, 0, none⟩))), (1, 4, VC (.agg #[.int .i64 n0, .int .i64 e0])), (2, 5, VR n0 e0), (3, 6, VC (.pointer (some ⟨w.heap.size, 2, none⟩))), (4, 7, VC (.agg #[.int .i64 n1, .int .i64 e1])), (5, 8, VR n1 e1), (6, 9, VC (.pointer (some ⟨w.heap.size, 4, none⟩))), (7, 10, VC (.agg #[.int .i64 n2, .int .i64 e2])), (8, 11, VR n2 e2), (9, 12, VC (.pointer (some ⟨w.heap.size, 6, none⟩))), (10, 13, VC (.agg #[.int .i64 n3, .int .i64 e3])), (11, 14, VR n3 e3), (12, 15, VM n0 e0 n1 e1 n2 e2 n3 e3)]) ⟨Firm.vc _, Firm.vc _, Firm.vr _ _, Firm.vc _, Firm.vc _, Firm.vr _ _, Firm.vc _, Firm.vc _, Firm.vr _ _, Firm.vc _, Firm.vc _, Firm.vr _ _, Firm.vm _ _ _ _ _ _ _ _, trivial⟩) (⟨fun _ _ _ _ _ => trivial, fun _ _ _ _ _ _ _ => trivial⟩) (trivial) ?_ ?_ ?_
 ·exact HB0.out.below.size
 ·intro c hc
  simp only [List.mem_cons, List.not_mem_nil, or_false] at hc
  rcases hc with rfl | rfl
  ·exact ⟨(HB0.out.own _ lm0).2, fun _ => HNi.out⟩
  ·exact ⟨(HB0.out.own _ lm1).2, fun h => absurd rfl h⟩
 ·refine forall_ops ⟨?_, ?_, ?_, ?_, ?_, ?_, ?_, ?_, ?_, ?_, ?_, ?_, ?_, ?_, trivial⟩
  ·exact FOk.val rfl rfl rfl rfl fun _ _ _ _ _ _ => .fieldAddr rfl (fou (v := .pointer (some ⟨w.heap.size, 0, none⟩))) (by kernel_rfl) rfl
  ·exact FOk.val rfl rfl rfl rfl fun _ _ _ _ hO hV => .load (g := w.heap.size) (k := 0) (n := 2) rfl (fgt hV 0 rfl) (hO _ lm1 rfl) (by simp) Tryz.underlying25 rfl (by kernel_rfl) rfl
  ·exact FOk.val rfl rfl rfl rfl fun _ W _ _ _ hV => .call Tryz.func73 (by kernel_rfl) rfl rfl rfl (map_one (fgt hV 1 rfl)) (rratOf n0 e0 W hn0 he0)
  ·exact FOk.val rfl rfl rfl rfl fun _ _ _ _ _ _ => .fieldAddr rfl (fou (v := .pointer (some ⟨w.heap.size, 0, none⟩))) (by kernel_rfl) rfl
  ·exact FOk.val rfl rfl rfl rfl fun _ _ _ _ hO hV => .load (g := w.heap.size) (k := 2) (n := 2) rfl (fgt hV 3 rfl) (hO _ lm1 rfl) (by simp) Tryz.underlying25 rfl (by kernel_rfl) rfl
  ·exact FOk.val rfl rfl rfl rfl fun _ W _ _ _ hV => .call Tryz.func73 (by kernel_rfl) rfl rfl rfl (map_one (fgt hV 4 rfl)) (rratOf n1 e1 W hn1 he1)
  ·exact FOk.val rfl rfl rfl rfl fun _ _ _ _ _ _ => .fieldAddr rfl (fou (v := .pointer (some ⟨w.heap.size, 0, none⟩))) (by kernel_rfl) rfl
  ·exact FOk.val rfl rfl rfl rfl fun _ _ _ _ hO hV => .load (g := w.heap.size) (k := 4) (n := 2) rfl (fgt hV 6 rfl) (hO _ lm1 rfl) (by simp) Tryz.underlying25 rfl (by kernel_rfl) rfl
  ·exact FOk.val rfl rfl rfl rfl fun _ W _ _ _ hV => .call Tryz.func73 (by kernel_rfl) rfl rfl rfl (map_one (fgt hV 7 rfl)) (rratOf n2 e2 W hn2 he2)
  ·exact FOk.val rfl rfl rfl rfl fun _ _ _ _ _ _ => .fieldAddr rfl (fou (v := .pointer (some ⟨w.heap.size, 0, none⟩))) (by kernel_rfl) rfl
  ·exact FOk.val rfl rfl rfl rfl fun _ _ _ _ hO hV => .load (g := w.heap.size) (k := 6) (n := 2) rfl (fgt hV 9 rfl) (hO _ lm1 rfl) (by simp) Tryz.underlying25 rfl (by kernel_rfl) rfl
  ·exact FOk.val rfl rfl rfl rfl fun _ W _ _ _ hV => .call Tryz.func73 (by kernel_rfl) rfl rfl rfl (map_one (fgt hV 10 rfl)) (rratOf n3 e3 W hn3 he3)
  ·refine .inl ⟨.inl rfl, .inl ⟨by simp, by simp, fun y W hB hE hO hV K Q' hK => ?_⟩⟩
   obtain ⟨u5_0, u5_1, u5_2, u5_3, y5, i5⟩ : VR n0 e0 (y 5) W := hV (2, 5, VR n0 e0) (word_get (by kernel_rfl)) (by kernel_rfl)
   obtain ⟨u8_0, u8_1, u8_2, u8_3, y8, i8⟩ : VR n1 e1 (y 8) W := hV (5, 8, VR n1 e1) (word_get (by kernel_rfl)) (by kernel_rfl)
   obtain ⟨u11_0, u11_1, u11_2, u11_3, y11, i11⟩ : VR n2 e2 (y 11) W := hV (8, 11, VR n2 e2) (word_get (by kernel_rfl)) (by kernel_rfl)
   obtain ⟨u14_0, u14_1, u14_2, u14_3, y14, i14⟩ : VR n3 e3 (y 14) W := hV (11, 14, VR n3 e3) (word_get (by kernel_rfl)) (by kernel_rfl)
   simp only [fr, putAll, List.foldl_cons, List.foldl_nil, List.setIfInBounds_toArray, List.set_cons_zero, List.set_cons_succ] at hK ⊢
   simp only [y5, y8, y11, y14] at hK ⊢
   go_simp
   exact hK _ W (Below.refl _ _) (word_only (d := 15) (by kernel_rfl) (show VM n0 e0 n1 e1 n2 e2 n3 e3 _ W from ⟨_, _, _, _, _, _, _, _, _, _, _, _, _, _, _, _, rfl, i5, i8, i11, i14⟩))
  ·refine .inl ⟨.inl rfl, .inr (.inr (.inr ⟨rfl, word_none (by kernel_rfl), ?_, _, lm0, rfl, ?_, by simp, ?_, by kernel_rfl, fun y W hB hV hc hN K Q' hK => ?_⟩))⟩
   ·exact fun b hb => by simp at hb
   ·first | (with_reducible exact Nat.le_refl _) | assumption | omega | (simp; done)
   ·intro d hd
    simp only [List.mem_cons, List.not_mem_nil, or_false] at hd
    rcases hd with rfl | rfl
    ·exact ⟨fun _ => rfl, fun _ => rfl⟩
    ·exact ⟨fun h => absurd h (by simp), fun h => absurd h (by dsimp only; first | omega | assumption | exact Ne.symm (by assumption))⟩
   obtain ⟨u15_0, u15_1, u15_2, u15_3, u15_4, u15_5, u15_6, u15_7, u15_8, u15_9, u15_10, u15_11, u15_12, u15_13, u15_14, u15_15, y15, i15⟩ : VM n0 e0 n1 e1 n2 e2 n3 e3 (y 15) W := hV (12, 15, VM n0 e0 n1 e1 n2 e2 n3 e3) (word_get (by kernel_rfl)) (by kernel_rfl)
   exact .stoR (k := 0) (us := #[u15_0, u15_1, u15_2, u15_3, u15_4, u15_5, u15_6, u15_7, u15_8, u15_9, u15_10, u15_11, u15_12, u15_13, u15_14, u15_15]) (vs := #[u15_0, u15_1, u15_2, u15_3, u15_4, u15_5, u15_6, u15_7, u15_8, u15_9, u15_10, u15_11, u15_12, u15_13, u15_14, u15_15]) rfl (fou (v := .pointer (some ⟨w.heap.size + 1, 0, none⟩))) ((fr_in (by kernel_rfl)).trans y15) (ICs.fit (l := [(_, _, _), (_, _, _), (_, _, _), (_, _, _), (_, _, _), (_, _, _), (_, _, _), (_, _, _)]) ⟨i15.1.1, i15.1.2, i15.2.1.1, i15.2.1.2, i15.2.2.1.1, i15.2.2.1.2, i15.2.2.2.1, i15.2.2.2.2, trivial⟩ rfl) hc hN rfl (Nat.le_of_ble_eq_true rfl) rfl (by kernel_rfl) fun W' hC hN' hO => hK W' ⟨⟨_, y15, hC⟩, hN'⟩ hO
 intro y W hB hE hO hV hX hA
 have y3 : y 3 = .pointer (some ⟨w.heap.size, 0, none⟩) := hV (0, 3, VC (.pointer (some ⟨w.heap.size, 0, none⟩))) (word_get (by kernel_rfl))
 have y4 : y 4 = .agg #[.int .i64 n0, .int .i64 e0] := hV (1, 4, VC (.agg #[.int .i64 n0, .int .i64 e0])) (word_get (by kernel_rfl))
 obtain ⟨u5_0, u5_1, u5_2, u5_3, y5, j5⟩ : VR n0 e0 (y 5) W := hV (2, 5, VR n0 e0) (word_get (by kernel_rfl))
 have J5 := lhd j5; clear j5
 have y6 : y 6 = .pointer (some ⟨w.heap.size, 2, none⟩) := hV (3, 6, VC (.pointer (some ⟨w.heap.size, 2, none⟩))) (word_get (by kernel_rfl))
 have y7 : y 7 = .agg #[.int .i64 n1, .int .i64 e1] := hV (4, 7, VC (.agg #[.int .i64 n1, .int .i64 e1])) (word_get (by kernel_rfl))
 obtain ⟨u8_0, u8_1, u8_2, u8_3, y8, j8⟩ : VR n1 e1 (y 8) W := hV (5, 8, VR n1 e1) (word_get (by kernel_rfl))
 have J8 := lhd j8; clear j8
 have y9 : y 9 = .pointer (some ⟨w.heap.size, 4, none⟩) := hV (6, 9, VC (.pointer (some ⟨w.heap.size, 4, none⟩))) (word_get (by kernel_rfl))
 have y10 : y 10 = .agg #[.int .i64 n2, .int .i64 e2] := hV (7, 10, VC (.agg #[.int .i64 n2, .int .i64 e2])) (word_get (by kernel_rfl))
 obtain ⟨u11_0, u11_1, u11_2, u11_3, y11, j11⟩ : VR n2 e2 (y 11) W := hV (8, 11, VR n2 e2) (word_get (by kernel_rfl))
 have J11 := lhd j11; clear j11
 have y12 : y 12 = .pointer (some ⟨w.heap.size, 6, none⟩) := hV (9, 12, VC (.pointer (some ⟨w.heap.size, 6, none⟩))) (word_get (by kernel_rfl))
 have y13 : y 13 = .agg #[.int .i64 n3, .int .i64 e3] := hV (10, 13, VC (.agg #[.int .i64 n3, .int .i64 e3])) (word_get (by kernel_rfl))
 obtain ⟨u14_0, u14_1, u14_2, u14_3, y14, j14⟩ : VR n3 e3 (y 14) W := hV (11, 14, VR n3 e3) (word_get (by kernel_rfl))
 have J14 := lhd j14; clear j14
 obtain ⟨u15_0, u15_1, u15_2, u15_3, u15_4, u15_5, u15_6, u15_7, u15_8, u15_9, u15_10, u15_11, u15_12, u15_13, u15_14, u15_15, y15, j15⟩ : VM n0 e0 n1 e1 n2 e2 n3 e3 (y 15) W := hV (12, 15, VM n0 e0 n1 e1 n2 e2 n3 e3) (word_get (by kernel_rfl))
 have J15 := lhd j15; clear j15
 obtain ⟨⟨ov0, oe0, ho0⟩, hno0⟩ := (hO _ lm0).2 (by simp)
 dsimp only at oe0 ho0
 rw [y15] at oe0; injection oe0 with oe0; subst oe0
 have ho1 := (hO _ lm1).1 rfl
 dsimp only at ho1
 have HNo0 := lhd hno0; clear hno0
 dsimp only at HNo0
 have HB1 := lhd (show Bx w [(w.heap.size + 1, #[u15_0, u15_1, u15_2, u15_3, u15_4, u15_5, u15_6, u15_7, u15_8, u15_9, u15_10, u15_11, u15_12, u15_13, u15_14, u15_15]), (w.heap.size, #[.int .i64 n0, .int .i64 e0, .int .i64 n1, .int .i64 e1, .int .i64 n2, .int .i64 e2, .int .i64 n3, .int .i64 e3])] W from (((Bx.nil (HB0.out.below.trans hB)).cons (HB0.out.own _ lm1).1 ho1).cons (HB0.out.own _ lm0).1 ho0))
 have HE1 := lhd hE
 simp only [fr, putAll, List.foldl_cons, List.foldl_nil, List.setIfInBounds_toArray, List.set_cons_zero, List.set_cons_succ]
 simp only [y3, y4, y5, y6, y7, y8, y9, y10, y11, y12, y13, y14, y15]
 clear y3 y4 y5 y6 y7 y8 y9 y10 y11 y12 y13 y14 y15  hB hE hO hV hX hA ho0 ho1
 have q := fun (i : Nat) hi => (HB1.out.own _ lm0).2.2.1 i hi
 have q0 := q 0 (by simp)
 have q1 := q 1 (by simp)
 have q2 := q 2 (by simp)
 have q3 := q 3 (by simp)
 have q4 := q 4 (by simp)
 have q5 := q 5 (by simp)
 have q6 := q 6 (by simp)
 have q7 := q 7 (by simp)
 have q8 := q 8 (by simp)
 have q9 := q 9 (by simp)
 have q10 := q 10 (by simp)
 have q11 := q 11 (by simp)
 have q12 := q 12 (by simp)
 have q13 := q 13 (by simp)
 have q14 := q 14 (by simp)
 have q15 := q 15 (by simp)
 clear q
 simp only [List.getElem?_toArray, List.getElem?_cons_zero, List.getElem?_cons_succ] at q0 q1 q2 q3 q4 q5 q6 q7 q8 q9 q10 q11 q12 q13 q14 q15
 go_wp2_with fail
 refine bodyPost_ret (v := .agg #[u15_0, u15_1, u15_2, u15_3, u15_4, u15_5, u15_6, u15_7, u15_8, u15_9, u15_10, u15_11, u15_12, u15_13, u15_14, u15_15]) (by simp [results, Tryz.results31, go_sem, q0, q1, q2, q3, q4, q5, q6, q7, q8, q9, q10, q11, q12, q13, q14, q15]) rfl ?_
 exact ⟨_, rfl, ⟨_, _, _, _, _, _, _, _, _, _, _, _, _, _, _, _, rfl, J15.out⟩, HB1.out.below⟩
set_option maxHeartbeats 4000000 in
set_option maxRecDepth 100000 in
theorem rscalar_any {xn0 xd0 xn1 xd1 xn2 xd2 xn3 xd3 : Int} {xv0 xv1 xv2 xv3 xv4 xv5 xv6 xv7 xv8 xv9 xv10 xv11 xv12 xv13 xv14 xv15 : Value} {n : Int} {w : World} {j : Nat} (hX : ICs w [(xv0, xv1, xn0), (xv2, xv3, xd0), (xv4, xv5, xn1), (xv6, xv7, xd1), (xv8, xv9, xn2), (xv10, xv11, xd2), (xv12, xv13, xn3), (xv14, xv15, xd3)]) (gX : WN j [xn0, xd0, xn1, xd1, xn2, xd2, xn3, xd3]) (hn : I64 n) (hnn : -4294967295 ≤ n ∧ n ≤ 4294967295) (hj : 2 * j + 2 ≤ 400) :
  Calls Tryz.prog 32 #[.agg #[xv0, xv1, xv2, xv3, xv4, xv5, xv6, xv7, xv8, xv9, xv10, xv11, xv12, xv13, xv14, xv15], .int .i64 n] w (PostW (VC (.bool (scB xn0 xd0 xn1 xd1 xn2 xd2 xn3 xd3 n))) w) := by
 obtain ⟨h0, h1, h2, h3, h4, h5, h6, h7, -⟩ := hX
 have HK0 := lhd (fun (W : World) (hb : Below w.heap.size w W) => ris (n := n) (h0.keep hb) (h1.keep hb) (gX _ (by simp)) (gX _ (by simp)) hn hnn hj)
 have HK1 := lhd (fun (W : World) (hb : Below w.heap.size w W) => ris (n := 0) (h2.keep hb) (h3.keep hb) (gX _ (by simp)) (gX _ (by simp)) ⟨by omega, by omega⟩ ⟨by omega, by omega⟩ hj)
 have HK2 := lhd (fun (W : World) (hb : Below w.heap.size w W) => ris (n := 0) (h4.keep hb) (h5.keep hb) (gX _ (by simp)) (gX _ (by simp)) ⟨by omega, by omega⟩ ⟨by omega, by omega⟩ hj)
 have HK3 := lhd (fun (W : World) (hb : Below w.heap.size w W) => ris (n := n) (h6.keep hb) (h7.keep hb) (gX _ (by simp)) (gX _ (by simp)) hn hnn hj)
 have HS := lhd (show scB xn0 xd0 xn1 xd1 xn2 xd2 xn3 xd3 n = (((decide (xn0 = xd0 * n) && decide (xn3 = xd3 * n)) && decide (xn1 = xd1 * 0)) && decide (xn2 = xd2 * 0)) from rfl)
 generalize decide (xn0 = xd0 * n) = t0 at *
 generalize decide (xn1 = xd1 * 0) = t1 at *
 generalize decide (xn2 = xd2 * 0) = t2 at *
 generalize decide (xn3 = xd3 * n) = t3 at *
 generalize scB xn0 xd0 xn1 xd1 xn2 xd2 xn3 xd3 n = S at *
 clear h0 h1 h2 h3 h4 h5 h6 h7 gX hj hn hnn
 go_enter Tryz.func32, Tryz.ntmps32
 go_upto_region 1 with fail
 obtain ⟨W0, hW0⟩ : ∃ W0 : World, W0 = (w.alloc (.cells #[xv0, xv1, xv2, xv3, xv4, xv5, xv6, xv7, xv8, xv9, xv10, xv11, xv12, xv13, xv14, xv15] 75)) := ⟨_, rfl⟩
 rw [← hW0]
 have HB0 := lhd (show Bx w [(w.heap.size, #[xv0, xv1, xv2, xv3, xv4, xv5, xv6, xv7, xv8, xv9, xv10, xv11, xv12, xv13, xv14, xv15])] W0 by rw [hW0]; simpa using ((Bx.nil (Below.refl w.heap.size w)).new #[xv0, xv1, xv2, xv3, xv4, xv5, xv6, xv7, xv8, xv9, xv10, xv11, xv12, xv13, xv14, xv15] 75))
 clear hW0
 have q := fun (i : Nat) hi => (HB0.out.own _ lm0).2.2.1 i hi
 have q0 := q 0 (by simp)
 have q1 := q 1 (by simp)
 have q2 := q 2 (by simp)
 have q3 := q 3 (by simp)
 have q4 := q 4 (by simp)
 have q5 := q 5 (by simp)
 have q6 := q 6 (by simp)
 have q7 := q 7 (by simp)
 have q8 := q 8 (by simp)
 have q9 := q 9 (by simp)
 have q10 := q 10 (by simp)
 have q11 := q 11 (by simp)
 have q12 := q 12 (by simp)
 have q13 := q 13 (by simp)
 have q14 := q 14 (by simp)
 have q15 := q 15 (by simp)
 clear q
 simp only [List.getElem?_toArray, List.getElem?_cons_zero, List.getElem?_cons_succ] at q0 q1 q2 q3 q4 q5 q6 q7 q8 q9 q10 q11 q12 q13 q14 q15
 go_wp2_with fail
 refine (HK0.out _ HB0.out.below).mono ?_
 rintro _ w1 ⟨_, rfl, rfl, hbb⟩
 have HB1 := lhd (HB0.out.keep hbb)
 clear hbb HB0 HK0 q0 q1 q2 q3 q4 q5 q6 q7 q8 q9 q10 q11 q12 q13 q14 q15
 cases t0
 ·go_wp2_with fail
  go_ret
  exact ⟨_, rfl, by rw [HS.out]; simp [VC], HB1.out.below⟩
 have q := fun (i : Nat) hi => (HB1.out.own _ lm0).2.2.1 i hi
 have q0 := q 0 (by simp)
 have q1 := q 1 (by simp)
 have q2 := q 2 (by simp)
 have q3 := q 3 (by simp)
 have q4 := q 4 (by simp)
 have q5 := q 5 (by simp)
 have q6 := q 6 (by simp)
 have q7 := q 7 (by simp)
 have q8 := q 8 (by simp)
 have q9 := q 9 (by simp)
 have q10 := q 10 (by simp)
 have q11 := q 11 (by simp)
 have q12 := q 12 (by simp)
 have q13 := q 13 (by simp)
 have q14 := q 14 (by simp)
 have q15 := q 15 (by simp)
 clear q
 simp only [List.getElem?_toArray, List.getElem?_cons_zero, List.getElem?_cons_succ] at q0 q1 q2 q3 q4 q5 q6 q7 q8 q9 q10 q11 q12 q13 q14 q15
 go_wp2_with fail
 refine (HK1.out _ HB1.out.below).mono ?_
 rintro _ w2 ⟨_, rfl, rfl, hbb⟩
 have HB2 := lhd (HB1.out.keep hbb)
 clear hbb HB1 HK1 q0 q1 q2 q3 q4 q5 q6 q7 q8 q9 q10 q11 q12 q13 q14 q15
 cases t1
 ·go_wp2_with fail
  go_ret
  exact ⟨_, rfl, by rw [HS.out]; simp [VC], HB2.out.below⟩
 have q := fun (i : Nat) hi => (HB2.out.own _ lm0).2.2.1 i hi
 have q0 := q 0 (by simp)
 have q1 := q 1 (by simp)
 have q2 := q 2 (by simp)
 have q3 := q 3 (by simp)
 have q4 := q 4 (by simp)
 have q5 := q 5 (by simp)
 have q6 := q 6 (by simp)
 have q7 := q 7 (by simp)
 have q8 := q 8 (by simp)
 have q9 := q 9 (by simp)
 have q10 := q 10 (by simp)
 have q11 := q 11 (by simp)
 have q12 := q 12 (by simp)
 have q13 := q 13 (by simp)
 have q14 := q 14 (by simp)
 have q15 := q 15 (by simp)
 clear q
 simp only [List.getElem?_toArray, List.getElem?_cons_zero, List.getElem?_cons_succ] at q0 q1 q2 q3 q4 q5 q6 q7 q8 q9 q10 q11 q12 q13 q14 q15
 go_wp2_with fail
 refine (HK2.out _ HB2.out.below).mono ?_
 rintro _ w3 ⟨_, rfl, rfl, hbb⟩
 have HB3 := lhd (HB2.out.keep hbb)
 clear hbb HB2 HK2 q0 q1 q2 q3 q4 q5 q6 q7 q8 q9 q10 q11 q12 q13 q14 q15
 cases t2
 ·go_wp2_with fail
  go_ret
  exact ⟨_, rfl, by rw [HS.out]; simp [VC], HB3.out.below⟩
 have q := fun (i : Nat) hi => (HB3.out.own _ lm0).2.2.1 i hi
 have q0 := q 0 (by simp)
 have q1 := q 1 (by simp)
 have q2 := q 2 (by simp)
 have q3 := q 3 (by simp)
 have q4 := q 4 (by simp)
 have q5 := q 5 (by simp)
 have q6 := q 6 (by simp)
 have q7 := q 7 (by simp)
 have q8 := q 8 (by simp)
 have q9 := q 9 (by simp)
 have q10 := q 10 (by simp)
 have q11 := q 11 (by simp)
 have q12 := q 12 (by simp)
 have q13 := q 13 (by simp)
 have q14 := q 14 (by simp)
 have q15 := q 15 (by simp)
 clear q
 simp only [List.getElem?_toArray, List.getElem?_cons_zero, List.getElem?_cons_succ] at q0 q1 q2 q3 q4 q5 q6 q7 q8 q9 q10 q11 q12 q13 q14 q15
 go_wp2_with fail
 refine (HK3.out _ HB3.out.below).mono ?_
 rintro _ w4 ⟨_, rfl, rfl, hbb⟩
 have HB4 := lhd (HB3.out.keep hbb)
 clear hbb HB3 HK3 q0 q1 q2 q3 q4 q5 q6 q7 q8 q9 q10 q11 q12 q13 q14 q15
 cases t3
 ·go_wp2_with fail
  go_ret
  exact ⟨_, rfl, by rw [HS.out]; simp [VC], HB4.out.below⟩
 go_wp2_with fail
 go_ret
 exact ⟨_, rfl, by rw [HS.out]; rfl, HB4.out.below⟩
set_option maxHeartbeats 40000000 in
set_option maxRecDepth 100000 in
theorem rproduct_any {xn0 xd0 xn1 xd1 xn2 xd2 xn3 xd3 : Int} {xv0 xv1 xv2 xv3 xv4 xv5 xv6 xv7 xv8 xv9 xv10 xv11 xv12 xv13 xv14 xv15 : Value} {yn0 yd0 yn1 yd1 yn2 yd2 yn3 yd3 : Int} {yv0 yv1 yv2 yv3 yv4 yv5 yv6 yv7 yv8 yv9 yv10 yv11 yv12 yv13 yv14 yv15 : Value} {w : World} (hX : ICs w [(xv0, xv1, xn0), (xv2, xv3, xd0), (xv4, xv5, xn1), (xv6, xv7, xd1), (xv8, xv9, xn2), (xv10, xv11, xd2), (xv12, xv13, xn3), (xv14, xv15, xd3)]) (hY : ICs w [(yv0, yv1, yn0), (yv2, yv3, yd0), (yv4, yv5, yn1), (yv6, yv7, yd1), (yv8, yv9, yn2), (yv10, yv11, yd2), (yv12, yv13, yn3), (yv14, yv15, yd3)]) (gX : WN 1 [xn0, xd0, xn1, xd1, xn2, xd2, xn3, xd3]) (gY : WN 1 [yn0, yd0, yn1, yd1, yn2, yd2, yn3, yd3]) :
  Calls Tryz.prog 33 #[.agg #[xv0, xv1, xv2, xv3, xv4, xv5, xv6, xv7, xv8, xv9, xv10, xv11, xv12, xv13, xv14, xv15], .agg #[yv0, yv1, yv2, yv3, yv4, yv5, yv6, yv7, yv8, yv9, yv10, yv11, yv12, yv13, yv14, yv15]] w (PostW (VM (pN xn0 xd0 xn1 xd1 yn0 yd0 yn2 yd2) (pD xd0 xd1 yd0 yd2) (pN xn0 xd0 xn1 xd1 yn1 yd1 yn3 yd3) (pD xd0 xd1 yd1 yd3) (pN xn2 xd2 xn3 xd3 yn0 yd0 yn2 yd2) (pD xd2 xd3 yd0 yd2) (pN xn2 xd2 xn3 xd3 yn1 yd1 yn3 yd3) (pD xd2 xd3 yd1 yd3)) w) := by
 go_enter Tryz.func33, Tryz.ntmps33
 go_upto_region 1 with fail
 obtain ⟨W0, hW0⟩ : ∃ W0 : World, W0 = (((w.alloc (.cells #[xv0, xv1, xv2, xv3, xv4, xv5, xv6, xv7, xv8, xv9, xv10, xv11, xv12, xv13, xv14, xv15] 75)).alloc (.cells #[yv0, yv1, yv2, yv3, yv4, yv5, yv6, yv7, yv8, yv9, yv10, yv11, yv12, yv13, yv14, yv15] 75)).alloc (.cells zz8 75)) := ⟨_, rfl⟩
 rw [← hW0]
 have HB0 := lhd (show Bx w [(w.heap.size + 2, zz8), (w.heap.size + 1, #[yv0, yv1, yv2, yv3, yv4, yv5, yv6, yv7, yv8, yv9, yv10, yv11, yv12, yv13, yv14, yv15]), (w.heap.size, #[xv0, xv1, xv2, xv3, xv4, xv5, xv6, xv7, xv8, xv9, xv10, xv11, xv12, xv13, xv14, xv15])] W0 by rw [hW0]; simpa using ((((Bx.nil (Below.refl w.heap.size w)).new #[xv0, xv1, xv2, xv3, xv4, xv5, xv6, xv7, xv8, xv9, xv10, xv11, xv12, xv13, xv14, xv15] 75).new #[yv0, yv1, yv2, yv3, yv4, yv5, yv6, yv7, yv8, yv9, yv10, yv11, yv12, yv13, yv14, yv15] 75).new zz8 75))
 have HNi := lhd (show NoIntAt W0 (w.heap.size + 2) by rw [hW0]; exact NoIntAt.new ((w.alloc (.cells #[xv0, xv1, xv2, xv3, xv4, xv5, xv6, xv7, xv8, xv9, xv10, xv11, xv12, xv13, xv14, xv15] 75)).alloc (.cells #[yv0, yv1, yv2, yv3, yv4, yv5, yv6, yv7, yv8, yv9, yv10, yv11, yv12, yv13, yv14, yv15] 75)) 75 (noint_list (by kernel_rfl)) (by simp))
 clear hW0
 have hx0 := (Firm.ics _).below undef _ _ hX HB0.out.below; have hy0 := (Firm.ics _).below undef _ _ hY HB0.out.below
 refine wp_region_full (w.heap.size) ((0, 5, VC (.pointer (some ⟨w.heap.size, 0, none⟩))) :: (1, 6, VC (.agg #[xv0, xv1, xv2, xv3])) :: (2, 7, VC (.pointer (some ⟨w.heap.size + 1, 0, none⟩))) :: (3, 8, VC (.agg #[yv0, yv1, yv2, yv3])) :: (4, 9, VR (xn0 * yn0) (xd0 * yd0)) :: (5, 10, VC (.pointer (some ⟨w.heap.size, 4, none⟩))) :: (6, 11, VC (.agg #[xv4, xv5, xv6, xv7])) :: (7, 12, VC (.pointer (some ⟨w.heap.size + 1, 8, none⟩))) :: (8, 13, VC (.agg #[yv8, yv9, yv10, yv11])) :: (9, 14, VR (xn1 * yn2) (xd1 * yd2)) :: (10, 15, VR (pN xn0 xd0 xn1 xd1 yn0 yd0 yn2 yd2) (pD xd0 xd1 yd0 yd2)) :: (11, 16, VC (.pointer (some ⟨w.heap.size, 0, none⟩))) :: (12, 17, VC (.agg #[xv0, xv1, xv2, xv3])) :: (13, 18, VC (.pointer (some ⟨w.heap.size + 1, 4, none⟩))) :: (14, 19, VC (.agg #[yv4, yv5, yv6, yv7])) :: (15, 20, VR (xn0 * yn1) (xd0 * yd1)) :: (16, 21, VC (.pointer (some ⟨w.heap.size, 4, none⟩))) :: (17, 22, VC (.agg #[xv4, xv5, xv6, xv7])) :: (18, 23, VC (.pointer (some ⟨w.heap.size + 1, 12, none⟩))) :: (19, 24, VC (.agg #[yv12, yv13, yv14, yv15])) :: (20, 25, VR (xn1 * yn3) (xd1 * yd3)) :: (21, 26, VR (pN xn0 xd0 xn1 xd1 yn1 yd1 yn3 yd3) (pD xd0 xd1 yd1 yd3)) :: (22, 27, VC (.pointer (some ⟨w.heap.size, 8, none⟩))) :: (23, 28, VC (.agg #[xv8, xv9, xv10, xv11])) :: (24, 29, VC (.pointer (some ⟨w.heap.size + 1, 0, none⟩))) :: (25, 30, VC (.agg #[yv0, yv1, yv2, yv3])) :: (26, 31, VR (xn2 * yn0) (xd2 * yd0)) :: (27, 32, VC (.pointer (some ⟨w.heap.size, 12, none⟩))) :: (28, 33, VC (.agg #[xv12, xv13, xv14, xv15])) :: (29, 34, VC (.pointer (some ⟨w.heap.size + 1, 8, none⟩))) :: (30, 35, VC (.agg #[yv8, yv9, yv10, yv11])) :: (31, 36, VR (xn3 * yn2) (xd3 * yd2)) :: (32, 37, VR (pN xn2 xd2 xn3 xd3 yn0 yd0 yn2 yd2) (pD xd2 xd3 yd0 yd2)) :: (33, 38, VC (.pointer (some ⟨w.heap.size, 8, none⟩))) :: (34, 39, VC (.agg #[xv8, xv9, xv10, xv11])) :: (35, 40, VC (.pointer (some ⟨w.heap.size + 1, 4, none⟩))) :: (36, 41, VC (.agg #[yv4, yv5, yv6, yv7])) :: (37, 42, VR (xn2 * yn1) (xd2 * yd1)) :: (38, 43, VC (.pointer (some ⟨w.heap.size, 12, none⟩))) :: (39, 44, VC (.agg #[xv12, xv13, xv14, xv15])) :: (40, 45, VC (.pointer (some ⟨w.heap.size + 1, 12, none⟩))) :: (41, 46, VC (.agg #[yv12, yv13, yv14, yv15])) :: (42, 47, VR (xn3 * yn3) (xd3 * yd3)) :: (43, 48, VR (pN xn2 xd2 xn3 xd3 yn1 yd1 yn3 yd3) (pD xd2 xd3 yd1 yd3)) :: (44, 49, VM (pN xn0 xd0 xn1 xd1 yn0 yd0 yn2 yd2) (pD xd0 xd1 yd0 yd2) (pN xn0 xd0 xn1 xd1 yn1 yd1 yn3 yd3) (pD xd0 xd1 yd1 yd3) (pN xn2 xd2 xn3 xd3 yn0 yd0 yn2 yd2) (pD xd2 xd3 yd0 yd2) (pN xn2 xd2 xn3 xd3 yn1 yd1 yn3 yd3) (pD xd2 xd3 yd1 yd3)) :: []) [] [⟨w.heap.size + 2, 45, 44, 49, zz8, fun v vs => v = .agg vs⟩, ⟨w.heap.size + 1, 999, 999, 999, #[yv0, yv1, yv2, yv3, yv4, yv5, yv6, yv7, yv8, yv9, yv10, yv11, yv12, yv13, yv14, yv15], fun v vs => v = .agg vs⟩, ⟨w.heap.size, 999, 999, 999, #[xv0, xv1, xv2, xv3, xv4, xv5, xv6, xv7, xv8, xv9, xv10, xv11, xv12, xv13, xv14, xv15], fun v vs => v = .agg vs⟩] (fun W => ICs W [(xv0, xv1, xn0), (xv2, xv3, xd0), (xv4, xv5, xn1), (xv6, xv7, xd1), (xv8, xv9, xn2), (xv10, xv11, xd2), (xv12, xv13, xn3), (xv14, xv15, xd3)] ∧ ICs W [(yv0, yv1, yn0), (yv2, yv3, yd0), (yv4, yv5, yn1), (yv6, yv7, yd1), (yv8, yv9, yn2), (yv10, yv11, yd2), (yv12, yv13, yn3), (yv14, yv15, yd3)]) (5 :: 6 :: 7 :: 8 :: 9 :: 10 :: 11 :: 12 :: 13 :: 14 :: 15 :: 16 :: 17 :: 18 :: 19 :: 20 :: 21 :: 22 :: 23 :: 24 :: 25 :: 26 :: 27 :: 28 :: 29 :: 30 :: 31 :: 32 :: 33 :: 34 :: 35 :: 36 :: 37 :: 38 :: 39 :: 40 :: 41 :: 42 :: 43 :: 44 :: 45 :: 46 :: 47 :: 48 :: 49 :: []) ?_ (by kernel_rfl) (by kernel_rfl) (by kernel_rfl) (Firms.all (l := ((0, 5, VC (.pointer (some ⟨w.heap.size, 0, none⟩))) :: (1, 6, VC (.agg #[xv0, xv1, xv2, xv3])) :: (2, 7, VC (.pointer (some ⟨w.heap.size + 1, 0, none⟩))) :: (3, 8, VC (.agg #[yv0, yv1, yv2, yv3])) :: (4, 9, VR (xn0 * yn0) (xd0 * yd0)) :: (5, 10, VC (.pointer (some ⟨w.heap.size, 4, none⟩))) :: (6, 11, VC (.agg #[xv4, xv5, xv6, xv7])) :: (7, 12, VC (.pointer (some ⟨w.heap.size + 1, 8, none⟩))) :: (8, 13, VC (.agg #[yv8, yv9, yv10, yv11])) :: (9, 14, VR (xn1 * yn2) (xd1 * yd2)) :: (10, 15, VR (pN xn0 xd0 xn1 xd1 yn0 yd0 yn2 yd2) (pD xd0 xd1 yd0 yd2)) :: (11, 16, VC (.pointer (some ⟨w.heap.size, 0, none⟩))) :: (12, 17, VC (.agg #[xv0, xv1, xv2, xv3])) :: (13, 18, VC (.pointer (some ⟨w.heap.size + 1, 4, none⟩))) :: (14, 19, VC (.agg #[yv4, yv5, yv6, yv7])) :: (15, 20, VR (xn0 * yn1) (xd0 * yd1)) :: (16, 21, VC (.pointer (some ⟨w.heap.size, 4, none⟩))) :: (17, 22, VC (.agg #[xv4, xv5, xv6, xv7])) :: (18, 23, VC (.pointer (some ⟨w.heap.size + 1, 12, none⟩))) :: (19, 24, VC (.agg #[yv12, yv13, yv14, yv15])) :: (20, 25, VR (xn1 * yn3) (xd1 * yd3)) :: (21, 26, VR (pN xn0 xd0 xn1 xd1 yn1 yd1 yn3 yd3) (pD xd0 xd1 yd1 yd3)) :: (22, 27, VC (.pointer (some ⟨w.heap.size, 8, none⟩))) :: (23, 28, VC (.agg #[xv8, xv9, xv10, xv11])) :: (24, 29, VC (.pointer (some ⟨w.heap.size + 1, 0, none⟩))) :: (25, 30, VC (.agg #[yv0, yv1, yv2, yv3])) :: (26, 31, VR (xn2 * yn0) (xd2 * yd0)) :: (27, 32, VC (.pointer (some ⟨w.heap.size, 12, none⟩))) :: (28, 33, VC (.agg #[xv12, xv13, xv14, xv15])) :: (29, 34, VC (.pointer (some ⟨w.heap.size + 1, 8, none⟩))) :: (30, 35, VC (.agg #[yv8, yv9, yv10, yv11])) :: (31, 36, VR (xn3 * yn2) (xd3 * yd2)) :: (32, 37, VR (pN xn2 xd2 xn3 xd3 yn0 yd0 yn2 yd2) (pD xd2 xd3 yd0 yd2)) :: (33, 38, VC (.pointer (some ⟨w.heap.size, 8, none⟩))) :: (34, 39, VC (.agg #[xv8, xv9, xv10, xv11])) :: (35, 40, VC (.pointer (some ⟨w.heap.size + 1, 4, none⟩))) :: (36, 41, VC (.agg #[yv4, yv5, yv6, yv7])) :: (37, 42, VR (xn2 * yn1) (xd2 * yd1)) :: (38, 43, VC (.pointer (some ⟨w.heap.size, 12, none⟩))) :: (39, 44, VC (.agg #[xv12, xv13, xv14, xv15])) :: (40, 45, VC (.pointer (some ⟨w.heap.size + 1, 12, none⟩))) :: (41, 46, VC (.agg #[yv12, yv13, yv14, yv15])) :: (42, 47, VR (xn3 * yn3) (xd3 * yd3)) :: (43, 48, VR (pN xn2 xd2 xn3 xd3 yn1 yd1 yn3 yd3) (pD xd2 xd3 yd1 yd3)) :: (44, 49, VM (pN xn0 xd0 xn1 xd1 yn0 yd0 yn2 yd2) (pD xd0 xd1 yd0 yd2) (pN xn0 xd0 xn1 xd1 yn1 yd1 yn3 yd3) (pD xd0 xd1 yd1 yd3) (pN xn2 xd2 xn3 xd3 yn0 yd0 yn2 yd2) (pD xd2 xd3 yd0 yd2) (pN xn2 xd2 xn3 xd3 yn1 yd1 yn3 yd3) (pD xd2 xd3 yd1 yd3)) :: [])) ⟨Firm.vc _, Firm.vc _, Firm.vc _, Firm.vc _, Firm.vr _ _, Firm.vc _, Firm.vc _, Firm.vc _, Firm.vc _, Firm.vr _ _, Firm.vr _ _, Firm.vc _, Firm.vc _, Firm.vc _, Firm.vc _, Firm.vr _ _, Firm.vc _, Firm.vc _, Firm.vc _, Firm.vc _, Firm.vr _ _, Firm.vr _ _, Firm.vc _, Firm.vc _, Firm.vc _, Firm.vc _, Firm.vr _ _, Firm.vc _, Firm.vc _, Firm.vc _, Firm.vc _, Firm.vr _ _, Firm.vr _ _, Firm.vc _, Firm.vc _, Firm.vc _, Firm.vc _, Firm.vr _ _, Firm.vc _, Firm.vc _, Firm.vc _, Firm.vc _, Firm.vr _ _, Firm.vr _ _, Firm.vm _ _ _ _ _ _ _ _, trivial⟩) (Firm.and2 (Firm.ics _) (Firm.ics _)) (⟨hx0, hy0⟩) ?_ ?_ ?_
 ·exact HB0.out.below.size
 ·intro c hc
  simp only [List.mem_cons, List.not_mem_nil, or_false] at hc
  rcases hc with rfl | rfl | rfl
  ·exact ⟨(HB0.out.own _ lm0).2, fun _ => HNi.out⟩
  ·exact ⟨(HB0.out.own _ lm1).2, fun h => absurd rfl h⟩
  ·exact ⟨(HB0.out.own _ lm2).2, fun h => absurd rfl h⟩
 ·refine forall_ops ⟨?_, ?_, ?_, ?_, ?_, ?_, ?_, ?_, ?_, ?_, ?_, ?_, ?_, ?_, ?_, ?_, ?_, ?_, ?_, ?_, ?_, ?_, ?_, ?_, ?_, ?_, ?_, ?_, ?_, ?_, ?_, ?_, ?_, ?_, ?_, ?_, ?_, ?_, ?_, ?_, ?_, ?_, ?_, ?_, ?_, ?_, trivial⟩
  ·exact FOk.val rfl rfl rfl rfl fun _ _ _ _ _ _ => .indexAddr rfl (fou (v := .pointer (some ⟨w.heap.size, 0, none⟩))) rfl (by kernel_rfl) rfl
  ·exact FOk.val rfl rfl rfl rfl fun _ _ _ _ hO hV => .load (g := w.heap.size) (k := 0) (n := 4) rfl (fgt hV 0 rfl) (hO _ lm2 rfl) (by simp) Tryz.underlying73 rfl (by kernel_rfl) rfl
  ·exact FOk.val rfl rfl rfl rfl fun _ _ _ _ _ _ => .indexAddr rfl (fou (v := .pointer (some ⟨w.heap.size + 1, 0, none⟩))) rfl (by kernel_rfl) rfl
  ·exact FOk.val rfl rfl rfl rfl fun _ _ _ _ hO hV => .load (g := w.heap.size + 1) (k := 0) (n := 4) rfl (fgt hV 2 rfl) (hO _ lm1 rfl) (by simp) Tryz.underlying73 rfl (by kernel_rfl) rfl
  ·refine FOk.val rfl rfl rfl rfl fun _ _ _ hE _ hV => ?_
   obtain ⟨⟨X0, X1, X2, X3, X4, X5, X6, X7, -⟩, ⟨Y0, Y1, Y2, Y3, Y4, Y5, Y6, Y7, -⟩⟩ := hE
   exact .call Tryz.func74 (by kernel_rfl) rfl rfl rfl (map_two (fgt hV 1 rfl) (fgt hV 3 rfl)) (rtimes X0 X1 Y0 Y1 (gX _ (by simp)) (gX _ (by simp)) (gY _ (by simp)) (gY _ (by simp)) (by omega))
  ·exact FOk.val rfl rfl rfl rfl fun _ _ _ _ _ _ => .indexAddr rfl (fou (v := .pointer (some ⟨w.heap.size, 0, none⟩))) rfl (by kernel_rfl) rfl
  ·exact FOk.val rfl rfl rfl rfl fun _ _ _ _ hO hV => .load (g := w.heap.size) (k := 4) (n := 4) rfl (fgt hV 5 rfl) (hO _ lm2 rfl) (by simp) Tryz.underlying73 rfl (by kernel_rfl) rfl
  ·exact FOk.val rfl rfl rfl rfl fun _ _ _ _ _ _ => .indexAddr rfl (fou (v := .pointer (some ⟨w.heap.size + 1, 0, none⟩))) rfl (by kernel_rfl) rfl
  ·exact FOk.val rfl rfl rfl rfl fun _ _ _ _ hO hV => .load (g := w.heap.size + 1) (k := 8) (n := 4) rfl (fgt hV 7 rfl) (hO _ lm1 rfl) (by simp) Tryz.underlying73 rfl (by kernel_rfl) rfl
  ·refine FOk.val rfl rfl rfl rfl fun _ _ _ hE _ hV => ?_
   obtain ⟨⟨X0, X1, X2, X3, X4, X5, X6, X7, -⟩, ⟨Y0, Y1, Y2, Y3, Y4, Y5, Y6, Y7, -⟩⟩ := hE
   exact .call Tryz.func74 (by kernel_rfl) rfl rfl rfl (map_two (fgt hV 6 rfl) (fgt hV 8 rfl)) (rtimes X2 X3 Y4 Y5 (gX _ (by simp)) (gX _ (by simp)) (gY _ (by simp)) (gY _ (by simp)) (by omega))
  ·refine FOk.val rfl rfl rfl rfl fun _ _ _ _ _ hV => ?_
   obtain ⟨u9_0, u9_1, u9_2, u9_3, y9, i9⟩ := hget hV 4 rfl (by kernel_rfl)
   obtain ⟨u14_0, u14_1, u14_2, u14_3, y14, i14⟩ := hget hV 9 rfl (by kernel_rfl)
   exact .call Tryz.func35 (by kernel_rfl) rfl rfl rfl (map_two ((fr_in (by kernel_rfl)).trans y9) ((fr_in (by kernel_rfl)).trans y14)) (rplus i9.1 i9.2 i14.1 i14.2 ((gX (xn0) (by simp)).mul (gY (yn0) (by simp))) ((gX (xd0) (by simp)).mul (gY (yd0) (by simp))) ((gX (xn1) (by simp)).mul (gY (yn2) (by simp))) ((gX (xd1) (by simp)).mul (gY (yd2) (by simp))) (by omega))
  ·exact FOk.val rfl rfl rfl rfl fun _ _ _ _ _ _ => .indexAddr rfl (fou (v := .pointer (some ⟨w.heap.size, 0, none⟩))) rfl (by kernel_rfl) rfl
  ·exact FOk.val rfl rfl rfl rfl fun _ _ _ _ hO hV => .load (g := w.heap.size) (k := 0) (n := 4) rfl (fgt hV 11 rfl) (hO _ lm2 rfl) (by simp) Tryz.underlying73 rfl (by kernel_rfl) rfl
  ·exact FOk.val rfl rfl rfl rfl fun _ _ _ _ _ _ => .indexAddr rfl (fou (v := .pointer (some ⟨w.heap.size + 1, 0, none⟩))) rfl (by kernel_rfl) rfl
  ·exact FOk.val rfl rfl rfl rfl fun _ _ _ _ hO hV => .load (g := w.heap.size + 1) (k := 4) (n := 4) rfl (fgt hV 13 rfl) (hO _ lm1 rfl) (by simp) Tryz.underlying73 rfl (by kernel_rfl) rfl
  ·refine FOk.val rfl rfl rfl rfl fun _ _ _ hE _ hV => ?_
   obtain ⟨⟨X0, X1, X2, X3, X4, X5, X6, X7, -⟩, ⟨Y0, Y1, Y2, Y3, Y4, Y5, Y6, Y7, -⟩⟩ := hE
   exact .call Tryz.func74 (by kernel_rfl) rfl rfl rfl (map_two (fgt hV 12 rfl) (fgt hV 14 rfl)) (rtimes X0 X1 Y2 Y3 (gX _ (by simp)) (gX _ (by simp)) (gY _ (by simp)) (gY _ (by simp)) (by omega))
  ·exact FOk.val rfl rfl rfl rfl fun _ _ _ _ _ _ => .indexAddr rfl (fou (v := .pointer (some ⟨w.heap.size, 0, none⟩))) rfl (by kernel_rfl) rfl
  ·exact FOk.val rfl rfl rfl rfl fun _ _ _ _ hO hV => .load (g := w.heap.size) (k := 4) (n := 4) rfl (fgt hV 16 rfl) (hO _ lm2 rfl) (by simp) Tryz.underlying73 rfl (by kernel_rfl) rfl
  ·exact FOk.val rfl rfl rfl rfl fun _ _ _ _ _ _ => .indexAddr rfl (fou (v := .pointer (some ⟨w.heap.size + 1, 0, none⟩))) rfl (by kernel_rfl) rfl
  ·exact FOk.val rfl rfl rfl rfl fun _ _ _ _ hO hV => .load (g := w.heap.size + 1) (k := 12) (n := 4) rfl (fgt hV 18 rfl) (hO _ lm1 rfl) (by simp) Tryz.underlying73 rfl (by kernel_rfl) rfl
  ·refine FOk.val rfl rfl rfl rfl fun _ _ _ hE _ hV => ?_
   obtain ⟨⟨X0, X1, X2, X3, X4, X5, X6, X7, -⟩, ⟨Y0, Y1, Y2, Y3, Y4, Y5, Y6, Y7, -⟩⟩ := hE
   exact .call Tryz.func74 (by kernel_rfl) rfl rfl rfl (map_two (fgt hV 17 rfl) (fgt hV 19 rfl)) (rtimes X2 X3 Y6 Y7 (gX _ (by simp)) (gX _ (by simp)) (gY _ (by simp)) (gY _ (by simp)) (by omega))
  ·refine FOk.val rfl rfl rfl rfl fun _ _ _ _ _ hV => ?_
   obtain ⟨u20_0, u20_1, u20_2, u20_3, y20, i20⟩ := hget hV 15 rfl (by kernel_rfl)
   obtain ⟨u25_0, u25_1, u25_2, u25_3, y25, i25⟩ := hget hV 20 rfl (by kernel_rfl)
   exact .call Tryz.func35 (by kernel_rfl) rfl rfl rfl (map_two ((fr_in (by kernel_rfl)).trans y20) ((fr_in (by kernel_rfl)).trans y25)) (rplus i20.1 i20.2 i25.1 i25.2 ((gX (xn0) (by simp)).mul (gY (yn1) (by simp))) ((gX (xd0) (by simp)).mul (gY (yd1) (by simp))) ((gX (xn1) (by simp)).mul (gY (yn3) (by simp))) ((gX (xd1) (by simp)).mul (gY (yd3) (by simp))) (by omega))
  ·exact FOk.val rfl rfl rfl rfl fun _ _ _ _ _ _ => .indexAddr rfl (fou (v := .pointer (some ⟨w.heap.size, 0, none⟩))) rfl (by kernel_rfl) rfl
  ·exact FOk.val rfl rfl rfl rfl fun _ _ _ _ hO hV => .load (g := w.heap.size) (k := 8) (n := 4) rfl (fgt hV 22 rfl) (hO _ lm2 rfl) (by simp) Tryz.underlying73 rfl (by kernel_rfl) rfl
  ·exact FOk.val rfl rfl rfl rfl fun _ _ _ _ _ _ => .indexAddr rfl (fou (v := .pointer (some ⟨w.heap.size + 1, 0, none⟩))) rfl (by kernel_rfl) rfl
  ·exact FOk.val rfl rfl rfl rfl fun _ _ _ _ hO hV => .load (g := w.heap.size + 1) (k := 0) (n := 4) rfl (fgt hV 24 rfl) (hO _ lm1 rfl) (by simp) Tryz.underlying73 rfl (by kernel_rfl) rfl
  ·refine FOk.val rfl rfl rfl rfl fun _ _ _ hE _ hV => ?_
   obtain ⟨⟨X0, X1, X2, X3, X4, X5, X6, X7, -⟩, ⟨Y0, Y1, Y2, Y3, Y4, Y5, Y6, Y7, -⟩⟩ := hE
   exact .call Tryz.func74 (by kernel_rfl) rfl rfl rfl (map_two (fgt hV 23 rfl) (fgt hV 25 rfl)) (rtimes X4 X5 Y0 Y1 (gX _ (by simp)) (gX _ (by simp)) (gY _ (by simp)) (gY _ (by simp)) (by omega))
  ·exact FOk.val rfl rfl rfl rfl fun _ _ _ _ _ _ => .indexAddr rfl (fou (v := .pointer (some ⟨w.heap.size, 0, none⟩))) rfl (by kernel_rfl) rfl
  ·exact FOk.val rfl rfl rfl rfl fun _ _ _ _ hO hV => .load (g := w.heap.size) (k := 12) (n := 4) rfl (fgt hV 27 rfl) (hO _ lm2 rfl) (by simp) Tryz.underlying73 rfl (by kernel_rfl) rfl
  ·exact FOk.val rfl rfl rfl rfl fun _ _ _ _ _ _ => .indexAddr rfl (fou (v := .pointer (some ⟨w.heap.size + 1, 0, none⟩))) rfl (by kernel_rfl) rfl
  ·exact FOk.val rfl rfl rfl rfl fun _ _ _ _ hO hV => .load (g := w.heap.size + 1) (k := 8) (n := 4) rfl (fgt hV 29 rfl) (hO _ lm1 rfl) (by simp) Tryz.underlying73 rfl (by kernel_rfl) rfl
  ·refine FOk.val rfl rfl rfl rfl fun _ _ _ hE _ hV => ?_
   obtain ⟨⟨X0, X1, X2, X3, X4, X5, X6, X7, -⟩, ⟨Y0, Y1, Y2, Y3, Y4, Y5, Y6, Y7, -⟩⟩ := hE
   exact .call Tryz.func74 (by kernel_rfl) rfl rfl rfl (map_two (fgt hV 28 rfl) (fgt hV 30 rfl)) (rtimes X6 X7 Y4 Y5 (gX _ (by simp)) (gX _ (by simp)) (gY _ (by simp)) (gY _ (by simp)) (by omega))
  ·refine FOk.val rfl rfl rfl rfl fun _ _ _ _ _ hV => ?_
   obtain ⟨u31_0, u31_1, u31_2, u31_3, y31, i31⟩ := hget hV 26 rfl (by kernel_rfl)
   obtain ⟨u36_0, u36_1, u36_2, u36_3, y36, i36⟩ := hget hV 31 rfl (by kernel_rfl)
   exact .call Tryz.func35 (by kernel_rfl) rfl rfl rfl (map_two ((fr_in (by kernel_rfl)).trans y31) ((fr_in (by kernel_rfl)).trans y36)) (rplus i31.1 i31.2 i36.1 i36.2 ((gX (xn2) (by simp)).mul (gY (yn0) (by simp))) ((gX (xd2) (by simp)).mul (gY (yd0) (by simp))) ((gX (xn3) (by simp)).mul (gY (yn2) (by simp))) ((gX (xd3) (by simp)).mul (gY (yd2) (by simp))) (by omega))
  ·exact FOk.val rfl rfl rfl rfl fun _ _ _ _ _ _ => .indexAddr rfl (fou (v := .pointer (some ⟨w.heap.size, 0, none⟩))) rfl (by kernel_rfl) rfl
  ·exact FOk.val rfl rfl rfl rfl fun _ _ _ _ hO hV => .load (g := w.heap.size) (k := 8) (n := 4) rfl (fgt hV 33 rfl) (hO _ lm2 rfl) (by simp) Tryz.underlying73 rfl (by kernel_rfl) rfl
  ·exact FOk.val rfl rfl rfl rfl fun _ _ _ _ _ _ => .indexAddr rfl (fou (v := .pointer (some ⟨w.heap.size + 1, 0, none⟩))) rfl (by kernel_rfl) rfl
  ·exact FOk.val rfl rfl rfl rfl fun _ _ _ _ hO hV => .load (g := w.heap.size + 1) (k := 4) (n := 4) rfl (fgt hV 35 rfl) (hO _ lm1 rfl) (by simp) Tryz.underlying73 rfl (by kernel_rfl) rfl
  ·refine FOk.val rfl rfl rfl rfl fun _ _ _ hE _ hV => ?_
   obtain ⟨⟨X0, X1, X2, X3, X4, X5, X6, X7, -⟩, ⟨Y0, Y1, Y2, Y3, Y4, Y5, Y6, Y7, -⟩⟩ := hE
   exact .call Tryz.func74 (by kernel_rfl) rfl rfl rfl (map_two (fgt hV 34 rfl) (fgt hV 36 rfl)) (rtimes X4 X5 Y2 Y3 (gX _ (by simp)) (gX _ (by simp)) (gY _ (by simp)) (gY _ (by simp)) (by omega))
  ·exact FOk.val rfl rfl rfl rfl fun _ _ _ _ _ _ => .indexAddr rfl (fou (v := .pointer (some ⟨w.heap.size, 0, none⟩))) rfl (by kernel_rfl) rfl
  ·exact FOk.val rfl rfl rfl rfl fun _ _ _ _ hO hV => .load (g := w.heap.size) (k := 12) (n := 4) rfl (fgt hV 38 rfl) (hO _ lm2 rfl) (by simp) Tryz.underlying73 rfl (by kernel_rfl) rfl
  ·exact FOk.val rfl rfl rfl rfl fun _ _ _ _ _ _ => .indexAddr rfl (fou (v := .pointer (some ⟨w.heap.size + 1, 0, none⟩))) rfl (by kernel_rfl) rfl
  ·exact FOk.val rfl rfl rfl rfl fun _ _ _ _ hO hV => .load (g := w.heap.size + 1) (k := 12) (n := 4) rfl (fgt hV 40 rfl) (hO _ lm1 rfl) (by simp) Tryz.underlying73 rfl (by kernel_rfl) rfl
  ·refine FOk.val rfl rfl rfl rfl fun _ _ _ hE _ hV => ?_
   obtain ⟨⟨X0, X1, X2, X3, X4, X5, X6, X7, -⟩, ⟨Y0, Y1, Y2, Y3, Y4, Y5, Y6, Y7, -⟩⟩ := hE
   exact .call Tryz.func74 (by kernel_rfl) rfl rfl rfl (map_two (fgt hV 39 rfl) (fgt hV 41 rfl)) (rtimes X6 X7 Y6 Y7 (gX _ (by simp)) (gX _ (by simp)) (gY _ (by simp)) (gY _ (by simp)) (by omega))
  ·refine FOk.val rfl rfl rfl rfl fun _ _ _ _ _ hV => ?_
   obtain ⟨u42_0, u42_1, u42_2, u42_3, y42, i42⟩ := hget hV 37 rfl (by kernel_rfl)
   obtain ⟨u47_0, u47_1, u47_2, u47_3, y47, i47⟩ := hget hV 42 rfl (by kernel_rfl)
   exact .call Tryz.func35 (by kernel_rfl) rfl rfl rfl (map_two ((fr_in (by kernel_rfl)).trans y42) ((fr_in (by kernel_rfl)).trans y47)) (rplus i42.1 i42.2 i47.1 i47.2 ((gX (xn2) (by simp)).mul (gY (yn1) (by simp))) ((gX (xd2) (by simp)).mul (gY (yd1) (by simp))) ((gX (xn3) (by simp)).mul (gY (yn3) (by simp))) ((gX (xd3) (by simp)).mul (gY (yd3) (by simp))) (by omega))
  ·refine .inl ⟨.inl rfl, .inl ⟨by simp, by simp, fun y W hB hE hO hV K Q' hK => ?_⟩⟩
   obtain ⟨u15_0, u15_1, u15_2, u15_3, y15, i15⟩ : VR (pN xn0 xd0 xn1 xd1 yn0 yd0 yn2 yd2) (pD xd0 xd1 yd0 yd2) (y 15) W := hV (10, 15, VR (pN xn0 xd0 xn1 xd1 yn0 yd0 yn2 yd2) (pD xd0 xd1 yd0 yd2)) (word_get (by kernel_rfl)) (by kernel_rfl)
   obtain ⟨u26_0, u26_1, u26_2, u26_3, y26, i26⟩ : VR (pN xn0 xd0 xn1 xd1 yn1 yd1 yn3 yd3) (pD xd0 xd1 yd1 yd3) (y 26) W := hV (21, 26, VR (pN xn0 xd0 xn1 xd1 yn1 yd1 yn3 yd3) (pD xd0 xd1 yd1 yd3)) (word_get (by kernel_rfl)) (by kernel_rfl)
   obtain ⟨u37_0, u37_1, u37_2, u37_3, y37, i37⟩ : VR (pN xn2 xd2 xn3 xd3 yn0 yd0 yn2 yd2) (pD xd2 xd3 yd0 yd2) (y 37) W := hV (32, 37, VR (pN xn2 xd2 xn3 xd3 yn0 yd0 yn2 yd2) (pD xd2 xd3 yd0 yd2)) (word_get (by kernel_rfl)) (by kernel_rfl)
   obtain ⟨u48_0, u48_1, u48_2, u48_3, y48, i48⟩ : VR (pN xn2 xd2 xn3 xd3 yn1 yd1 yn3 yd3) (pD xd2 xd3 yd1 yd3) (y 48) W := hV (43, 48, VR (pN xn2 xd2 xn3 xd3 yn1 yd1 yn3 yd3) (pD xd2 xd3 yd1 yd3)) (word_get (by kernel_rfl)) (by kernel_rfl)
   simp only [fr, putAll, List.foldl_cons, List.foldl_nil, List.setIfInBounds_toArray, List.set_cons_zero, List.set_cons_succ] at hK ⊢
   simp only [y15, y26, y37, y48] at hK ⊢
   go_simp
   exact hK _ W (Below.refl _ _) (word_only (d := 49) (by kernel_rfl) (show VM (pN xn0 xd0 xn1 xd1 yn0 yd0 yn2 yd2) (pD xd0 xd1 yd0 yd2) (pN xn0 xd0 xn1 xd1 yn1 yd1 yn3 yd3) (pD xd0 xd1 yd1 yd3) (pN xn2 xd2 xn3 xd3 yn0 yd0 yn2 yd2) (pD xd2 xd3 yd0 yd2) (pN xn2 xd2 xn3 xd3 yn1 yd1 yn3 yd3) (pD xd2 xd3 yd1 yd3) _ W from ⟨_, _, _, _, _, _, _, _, _, _, _, _, _, _, _, _, rfl, i15, i26, i37, i48⟩))
  ·refine .inl ⟨.inl rfl, .inr (.inr (.inr ⟨rfl, word_none (by kernel_rfl), ?_, _, lm0, rfl, ?_, by simp, ?_, by kernel_rfl, fun y W hB hV hc hN K Q' hK => ?_⟩))⟩
   ·exact fun b hb => by simp at hb
   ·first | (with_reducible exact Nat.le_refl _) | assumption | omega | (simp; done)
   ·intro d hd
    simp only [List.mem_cons, List.not_mem_nil, or_false] at hd
    rcases hd with rfl | rfl | rfl
    ·exact ⟨fun _ => rfl, fun _ => rfl⟩
    ·exact ⟨fun h => absurd h (by simp), fun h => absurd h (by dsimp only; first | omega | assumption | exact Ne.symm (by assumption))⟩
    ·exact ⟨fun h => absurd h (by simp), fun h => absurd h (by dsimp only; first | omega | assumption | exact Ne.symm (by assumption))⟩
   obtain ⟨u49_0, u49_1, u49_2, u49_3, u49_4, u49_5, u49_6, u49_7, u49_8, u49_9, u49_10, u49_11, u49_12, u49_13, u49_14, u49_15, y49, i49⟩ : VM (pN xn0 xd0 xn1 xd1 yn0 yd0 yn2 yd2) (pD xd0 xd1 yd0 yd2) (pN xn0 xd0 xn1 xd1 yn1 yd1 yn3 yd3) (pD xd0 xd1 yd1 yd3) (pN xn2 xd2 xn3 xd3 yn0 yd0 yn2 yd2) (pD xd2 xd3 yd0 yd2) (pN xn2 xd2 xn3 xd3 yn1 yd1 yn3 yd3) (pD xd2 xd3 yd1 yd3) (y 49) W := hV (44, 49, VM (pN xn0 xd0 xn1 xd1 yn0 yd0 yn2 yd2) (pD xd0 xd1 yd0 yd2) (pN xn0 xd0 xn1 xd1 yn1 yd1 yn3 yd3) (pD xd0 xd1 yd1 yd3) (pN xn2 xd2 xn3 xd3 yn0 yd0 yn2 yd2) (pD xd2 xd3 yd0 yd2) (pN xn2 xd2 xn3 xd3 yn1 yd1 yn3 yd3) (pD xd2 xd3 yd1 yd3)) (word_get (by kernel_rfl)) (by kernel_rfl)
   exact .stoR (k := 0) (us := #[u49_0, u49_1, u49_2, u49_3, u49_4, u49_5, u49_6, u49_7, u49_8, u49_9, u49_10, u49_11, u49_12, u49_13, u49_14, u49_15]) (vs := #[u49_0, u49_1, u49_2, u49_3, u49_4, u49_5, u49_6, u49_7, u49_8, u49_9, u49_10, u49_11, u49_12, u49_13, u49_14, u49_15]) rfl (fou (v := .pointer (some ⟨w.heap.size + 2, 0, none⟩))) ((fr_in (by kernel_rfl)).trans y49) (ICs.fit (l := [(_, _, _), (_, _, _), (_, _, _), (_, _, _), (_, _, _), (_, _, _), (_, _, _), (_, _, _)]) ⟨i49.1.1, i49.1.2, i49.2.1.1, i49.2.1.2, i49.2.2.1.1, i49.2.2.1.2, i49.2.2.2.1, i49.2.2.2.2, trivial⟩ rfl) hc hN rfl (Nat.le_of_ble_eq_true rfl) rfl (by kernel_rfl) fun W' hC hN' hO => hK W' ⟨⟨_, y49, hC⟩, hN'⟩ hO
 intro y W hB hE hO hV hX hA
 have y5 : y 5 = .pointer (some ⟨w.heap.size, 0, none⟩) := hV (0, 5, VC (.pointer (some ⟨w.heap.size, 0, none⟩))) (word_get (by kernel_rfl))
 have y6 : y 6 = .agg #[xv0, xv1, xv2, xv3] := hV (1, 6, VC (.agg #[xv0, xv1, xv2, xv3])) (word_get (by kernel_rfl))
 have y7 : y 7 = .pointer (some ⟨w.heap.size + 1, 0, none⟩) := hV (2, 7, VC (.pointer (some ⟨w.heap.size + 1, 0, none⟩))) (word_get (by kernel_rfl))
 have y8 : y 8 = .agg #[yv0, yv1, yv2, yv3] := hV (3, 8, VC (.agg #[yv0, yv1, yv2, yv3])) (word_get (by kernel_rfl))
 obtain ⟨u9_0, u9_1, u9_2, u9_3, y9, j9⟩ : VR (xn0 * yn0) (xd0 * yd0) (y 9) W := hV (4, 9, VR (xn0 * yn0) (xd0 * yd0)) (word_get (by kernel_rfl))
 have J9 := lhd j9; clear j9
 have y10 : y 10 = .pointer (some ⟨w.heap.size, 4, none⟩) := hV (5, 10, VC (.pointer (some ⟨w.heap.size, 4, none⟩))) (word_get (by kernel_rfl))
 have y11 : y 11 = .agg #[xv4, xv5, xv6, xv7] := hV (6, 11, VC (.agg #[xv4, xv5, xv6, xv7])) (word_get (by kernel_rfl))
 have y12 : y 12 = .pointer (some ⟨w.heap.size + 1, 8, none⟩) := hV (7, 12, VC (.pointer (some ⟨w.heap.size + 1, 8, none⟩))) (word_get (by kernel_rfl))
 have y13 : y 13 = .agg #[yv8, yv9, yv10, yv11] := hV (8, 13, VC (.agg #[yv8, yv9, yv10, yv11])) (word_get (by kernel_rfl))
 obtain ⟨u14_0, u14_1, u14_2, u14_3, y14, j14⟩ : VR (xn1 * yn2) (xd1 * yd2) (y 14) W := hV (9, 14, VR (xn1 * yn2) (xd1 * yd2)) (word_get (by kernel_rfl))
 have J14 := lhd j14; clear j14
 obtain ⟨u15_0, u15_1, u15_2, u15_3, y15, j15⟩ : VR (pN xn0 xd0 xn1 xd1 yn0 yd0 yn2 yd2) (pD xd0 xd1 yd0 yd2) (y 15) W := hV (10, 15, VR (pN xn0 xd0 xn1 xd1 yn0 yd0 yn2 yd2) (pD xd0 xd1 yd0 yd2)) (word_get (by kernel_rfl))
 have J15 := lhd j15; clear j15
 have y16 : y 16 = .pointer (some ⟨w.heap.size, 0, none⟩) := hV (11, 16, VC (.pointer (some ⟨w.heap.size, 0, none⟩))) (word_get (by kernel_rfl))
 have y17 : y 17 = .agg #[xv0, xv1, xv2, xv3] := hV (12, 17, VC (.agg #[xv0, xv1, xv2, xv3])) (word_get (by kernel_rfl))
 have y18 : y 18 = .pointer (some ⟨w.heap.size + 1, 4, none⟩) := hV (13, 18, VC (.pointer (some ⟨w.heap.size + 1, 4, none⟩))) (word_get (by kernel_rfl))
 have y19 : y 19 = .agg #[yv4, yv5, yv6, yv7] := hV (14, 19, VC (.agg #[yv4, yv5, yv6, yv7])) (word_get (by kernel_rfl))
 obtain ⟨u20_0, u20_1, u20_2, u20_3, y20, j20⟩ : VR (xn0 * yn1) (xd0 * yd1) (y 20) W := hV (15, 20, VR (xn0 * yn1) (xd0 * yd1)) (word_get (by kernel_rfl))
 have J20 := lhd j20; clear j20
 have y21 : y 21 = .pointer (some ⟨w.heap.size, 4, none⟩) := hV (16, 21, VC (.pointer (some ⟨w.heap.size, 4, none⟩))) (word_get (by kernel_rfl))
 have y22 : y 22 = .agg #[xv4, xv5, xv6, xv7] := hV (17, 22, VC (.agg #[xv4, xv5, xv6, xv7])) (word_get (by kernel_rfl))
 have y23 : y 23 = .pointer (some ⟨w.heap.size + 1, 12, none⟩) := hV (18, 23, VC (.pointer (some ⟨w.heap.size + 1, 12, none⟩))) (word_get (by kernel_rfl))
 have y24 : y 24 = .agg #[yv12, yv13, yv14, yv15] := hV (19, 24, VC (.agg #[yv12, yv13, yv14, yv15])) (word_get (by kernel_rfl))
 obtain ⟨u25_0, u25_1, u25_2, u25_3, y25, j25⟩ : VR (xn1 * yn3) (xd1 * yd3) (y 25) W := hV (20, 25, VR (xn1 * yn3) (xd1 * yd3)) (word_get (by kernel_rfl))
 have J25 := lhd j25; clear j25
 obtain ⟨u26_0, u26_1, u26_2, u26_3, y26, j26⟩ : VR (pN xn0 xd0 xn1 xd1 yn1 yd1 yn3 yd3) (pD xd0 xd1 yd1 yd3) (y 26) W := hV (21, 26, VR (pN xn0 xd0 xn1 xd1 yn1 yd1 yn3 yd3) (pD xd0 xd1 yd1 yd3)) (word_get (by kernel_rfl))
 have J26 := lhd j26; clear j26
 have y27 : y 27 = .pointer (some ⟨w.heap.size, 8, none⟩) := hV (22, 27, VC (.pointer (some ⟨w.heap.size, 8, none⟩))) (word_get (by kernel_rfl))
 have y28 : y 28 = .agg #[xv8, xv9, xv10, xv11] := hV (23, 28, VC (.agg #[xv8, xv9, xv10, xv11])) (word_get (by kernel_rfl))
 have y29 : y 29 = .pointer (some ⟨w.heap.size + 1, 0, none⟩) := hV (24, 29, VC (.pointer (some ⟨w.heap.size + 1, 0, none⟩))) (word_get (by kernel_rfl))
 have y30 : y 30 = .agg #[yv0, yv1, yv2, yv3] := hV (25, 30, VC (.agg #[yv0, yv1, yv2, yv3])) (word_get (by kernel_rfl))
 obtain ⟨u31_0, u31_1, u31_2, u31_3, y31, j31⟩ : VR (xn2 * yn0) (xd2 * yd0) (y 31) W := hV (26, 31, VR (xn2 * yn0) (xd2 * yd0)) (word_get (by kernel_rfl))
 have J31 := lhd j31; clear j31
 have y32 : y 32 = .pointer (some ⟨w.heap.size, 12, none⟩) := hV (27, 32, VC (.pointer (some ⟨w.heap.size, 12, none⟩))) (word_get (by kernel_rfl))
 have y33 : y 33 = .agg #[xv12, xv13, xv14, xv15] := hV (28, 33, VC (.agg #[xv12, xv13, xv14, xv15])) (word_get (by kernel_rfl))
 have y34 : y 34 = .pointer (some ⟨w.heap.size + 1, 8, none⟩) := hV (29, 34, VC (.pointer (some ⟨w.heap.size + 1, 8, none⟩))) (word_get (by kernel_rfl))
 have y35 : y 35 = .agg #[yv8, yv9, yv10, yv11] := hV (30, 35, VC (.agg #[yv8, yv9, yv10, yv11])) (word_get (by kernel_rfl))
 obtain ⟨u36_0, u36_1, u36_2, u36_3, y36, j36⟩ : VR (xn3 * yn2) (xd3 * yd2) (y 36) W := hV (31, 36, VR (xn3 * yn2) (xd3 * yd2)) (word_get (by kernel_rfl))
 have J36 := lhd j36; clear j36
 obtain ⟨u37_0, u37_1, u37_2, u37_3, y37, j37⟩ : VR (pN xn2 xd2 xn3 xd3 yn0 yd0 yn2 yd2) (pD xd2 xd3 yd0 yd2) (y 37) W := hV (32, 37, VR (pN xn2 xd2 xn3 xd3 yn0 yd0 yn2 yd2) (pD xd2 xd3 yd0 yd2)) (word_get (by kernel_rfl))
 have J37 := lhd j37; clear j37
 have y38 : y 38 = .pointer (some ⟨w.heap.size, 8, none⟩) := hV (33, 38, VC (.pointer (some ⟨w.heap.size, 8, none⟩))) (word_get (by kernel_rfl))
 have y39 : y 39 = .agg #[xv8, xv9, xv10, xv11] := hV (34, 39, VC (.agg #[xv8, xv9, xv10, xv11])) (word_get (by kernel_rfl))
 have y40 : y 40 = .pointer (some ⟨w.heap.size + 1, 4, none⟩) := hV (35, 40, VC (.pointer (some ⟨w.heap.size + 1, 4, none⟩))) (word_get (by kernel_rfl))
 have y41 : y 41 = .agg #[yv4, yv5, yv6, yv7] := hV (36, 41, VC (.agg #[yv4, yv5, yv6, yv7])) (word_get (by kernel_rfl))
 obtain ⟨u42_0, u42_1, u42_2, u42_3, y42, j42⟩ : VR (xn2 * yn1) (xd2 * yd1) (y 42) W := hV (37, 42, VR (xn2 * yn1) (xd2 * yd1)) (word_get (by kernel_rfl))
 have J42 := lhd j42; clear j42
 have y43 : y 43 = .pointer (some ⟨w.heap.size, 12, none⟩) := hV (38, 43, VC (.pointer (some ⟨w.heap.size, 12, none⟩))) (word_get (by kernel_rfl))
 have y44 : y 44 = .agg #[xv12, xv13, xv14, xv15] := hV (39, 44, VC (.agg #[xv12, xv13, xv14, xv15])) (word_get (by kernel_rfl))
 have y45 : y 45 = .pointer (some ⟨w.heap.size + 1, 12, none⟩) := hV (40, 45, VC (.pointer (some ⟨w.heap.size + 1, 12, none⟩))) (word_get (by kernel_rfl))
 have y46 : y 46 = .agg #[yv12, yv13, yv14, yv15] := hV (41, 46, VC (.agg #[yv12, yv13, yv14, yv15])) (word_get (by kernel_rfl))
 obtain ⟨u47_0, u47_1, u47_2, u47_3, y47, j47⟩ : VR (xn3 * yn3) (xd3 * yd3) (y 47) W := hV (42, 47, VR (xn3 * yn3) (xd3 * yd3)) (word_get (by kernel_rfl))
 have J47 := lhd j47; clear j47
 obtain ⟨u48_0, u48_1, u48_2, u48_3, y48, j48⟩ : VR (pN xn2 xd2 xn3 xd3 yn1 yd1 yn3 yd3) (pD xd2 xd3 yd1 yd3) (y 48) W := hV (43, 48, VR (pN xn2 xd2 xn3 xd3 yn1 yd1 yn3 yd3) (pD xd2 xd3 yd1 yd3)) (word_get (by kernel_rfl))
 have J48 := lhd j48; clear j48
 obtain ⟨u49_0, u49_1, u49_2, u49_3, u49_4, u49_5, u49_6, u49_7, u49_8, u49_9, u49_10, u49_11, u49_12, u49_13, u49_14, u49_15, y49, j49⟩ : VM (pN xn0 xd0 xn1 xd1 yn0 yd0 yn2 yd2) (pD xd0 xd1 yd0 yd2) (pN xn0 xd0 xn1 xd1 yn1 yd1 yn3 yd3) (pD xd0 xd1 yd1 yd3) (pN xn2 xd2 xn3 xd3 yn0 yd0 yn2 yd2) (pD xd2 xd3 yd0 yd2) (pN xn2 xd2 xn3 xd3 yn1 yd1 yn3 yd3) (pD xd2 xd3 yd1 yd3) (y 49) W := hV (44, 49, VM (pN xn0 xd0 xn1 xd1 yn0 yd0 yn2 yd2) (pD xd0 xd1 yd0 yd2) (pN xn0 xd0 xn1 xd1 yn1 yd1 yn3 yd3) (pD xd0 xd1 yd1 yd3) (pN xn2 xd2 xn3 xd3 yn0 yd0 yn2 yd2) (pD xd2 xd3 yd0 yd2) (pN xn2 xd2 xn3 xd3 yn1 yd1 yn3 yd3) (pD xd2 xd3 yd1 yd3)) (word_get (by kernel_rfl))
 have J49 := lhd j49; clear j49
 obtain ⟨⟨ov0, oe0, ho0⟩, hno0⟩ := (hO _ lm0).2 (by simp)
 dsimp only at oe0 ho0
 rw [y49] at oe0; injection oe0 with oe0; subst oe0
 have ho1 := (hO _ lm1).1 rfl
 dsimp only at ho1
 have ho2 := (hO _ lm2).1 rfl
 dsimp only at ho2
 have HNo0 := lhd hno0; clear hno0
 dsimp only at HNo0
 have HB1 := lhd (show Bx w [(w.heap.size + 2, #[u49_0, u49_1, u49_2, u49_3, u49_4, u49_5, u49_6, u49_7, u49_8, u49_9, u49_10, u49_11, u49_12, u49_13, u49_14, u49_15]), (w.heap.size + 1, #[yv0, yv1, yv2, yv3, yv4, yv5, yv6, yv7, yv8, yv9, yv10, yv11, yv12, yv13, yv14, yv15]), (w.heap.size, #[xv0, xv1, xv2, xv3, xv4, xv5, xv6, xv7, xv8, xv9, xv10, xv11, xv12, xv13, xv14, xv15])] W from ((((Bx.nil (HB0.out.below.trans hB)).cons (HB0.out.own _ lm2).1 ho2).cons (HB0.out.own _ lm1).1 ho1).cons (HB0.out.own _ lm0).1 ho0))
 have HE1 := lhd hE
 simp only [fr, putAll, List.foldl_cons, List.foldl_nil, List.setIfInBounds_toArray, List.set_cons_zero, List.set_cons_succ]
 simp only [y5, y6, y7, y8, y9, y10, y11, y12, y13, y14, y15, y16, y17, y18, y19, y20, y21, y22, y23, y24, y25, y26, y27, y28, y29, y30, y31, y32, y33, y34, y35, y36, y37, y38, y39, y40, y41, y42, y43, y44, y45, y46, y47, y48, y49]
 clear y5 y6 y7 y8 y9 y10 y11 y12 y13 y14 y15 y16 y17 y18 y19 y20 y21 y22 y23 y24 y25 y26 y27 y28 y29 y30 y31 y32 y33 y34 y35 y36 y37 y38 y39 y40 y41 y42 y43 y44 y45 y46 y47 y48 y49  hB hE hO hV hX hA ho0 ho1 ho2
 have q := fun (i : Nat) hi => (HB1.out.own _ lm0).2.2.1 i hi
 have q0 := q 0 (by simp)
 have q1 := q 1 (by simp)
 have q2 := q 2 (by simp)
 have q3 := q 3 (by simp)
 have q4 := q 4 (by simp)
 have q5 := q 5 (by simp)
 have q6 := q 6 (by simp)
 have q7 := q 7 (by simp)
 have q8 := q 8 (by simp)
 have q9 := q 9 (by simp)
 have q10 := q 10 (by simp)
 have q11 := q 11 (by simp)
 have q12 := q 12 (by simp)
 have q13 := q 13 (by simp)
 have q14 := q 14 (by simp)
 have q15 := q 15 (by simp)
 clear q
 simp only [List.getElem?_toArray, List.getElem?_cons_zero, List.getElem?_cons_succ] at q0 q1 q2 q3 q4 q5 q6 q7 q8 q9 q10 q11 q12 q13 q14 q15
 go_wp2_with fail
 refine bodyPost_ret (v := .agg #[u49_0, u49_1, u49_2, u49_3, u49_4, u49_5, u49_6, u49_7, u49_8, u49_9, u49_10, u49_11, u49_12, u49_13, u49_14, u49_15]) (by simp [results, Tryz.results33, go_sem, q0, q1, q2, q3, q4, q5, q6, q7, q8, q9, q10, q11, q12, q13, q14, q15]) rfl ?_
 exact ⟨_, rfl, ⟨_, _, _, _, _, _, _, _, _, _, _, _, _, _, _, _, rfl, J49.out⟩, HB1.out.below⟩
end Go.Proofs.YtimdkjbmeogpoaaGreatDoor
