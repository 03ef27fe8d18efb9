/- Matrices of fractions: the program's products. -/
import Derived.Test.YtimdkjbmeogpoaaGreatDoorUSpq
namespace Go.Proofs.YtimdkjbmeogpoaaGreatDoor
open Go.RowKit FF
def WN (j : Nat) (l : List Int) : Prop := ∀ z ∈ l, Wn j z
def pN (a b c d e f g h : Int) : Int := a * e * (d * h) + c * g * (b * f)
def pD (b d f h : Int) : Int := b * f * (d * h)
def scB (n0 d0 n1 d1 n2 d2 n3 d3 n : Int) : Bool := ((decide (n0 = d0 * n) && decide (n3 = d3 * n)) && decide (n1 = d1 * 0)) && decide (n2 = d2 * 0)
theorem pN_b {j : Nat} {a b c d e f g h : Int} (ha : Wn j a) (hb : Wn j b) (hc : Wn j c) (hd : Wn j d) (he : Wn j e) (hf : Wn j f) (hg : Wn j g) (hh : Wn j h) : Wn (4 * j + 1) (pN a b c d e f g h) := by
 unfold pN
 exact (((ha.mul he).mul (hd.mul hh)).mono (by omega)).add (((hc.mul hg).mul (hb.mul hf)).mono (k := 4 * j) (by omega))
theorem pD_b {j : Nat} {b d f h : Int} (hb : Wn j b) (hd : Wn j d) (hf : Wn j f) (hh : Wn j h) : Wn (4 * j + 1) (pD b d f h) := by
 unfold pD
 exact ((hb.mul hf).mul (hd.mul hh)).mono (by omega)
theorem Firm.and3 {p q r : World → Prop} (h1 : Firm (fun _ => p)) (h2 : Firm (fun _ => q)) (h3 : Firm (fun _ => r)) : Firm (fun _ W => p W ∧ q W ∧ r W) :=
 ⟨fun v _ _ h hb => ⟨h1.below v _ _ h.1 hb, h2.below v _ _ h.2.1 hb, h3.below v _ _ h.2.2 hb⟩, fun v _ _ g h ho hg => ⟨h1.only v _ _ g h.1 ho hg, h2.only v _ _ g h.2.1 ho hg, h3.only v _ _ g h.2.2 ho hg⟩⟩
theorem store16 {w W : World} {b : Nat} {v0 v1 v2 v3 v4 v5 v6 v7 v8 v9 v10 v11 v12 v13 v14 v15 : Value} (h : Cells W b #[v0, v1, v2, v3, v4, v5, v6, v7, v8, v9, v10, v11, v12, v13, v14, v15]) (hb : Below w.heap.size w W) (hw : w.heap.size ≤ b) :
  ∃ W9, ((((((((((((((((W.setCell ⟨b, 0, none⟩ v0).setCell ⟨b, 1, none⟩ v1).setCell ⟨b, 2, none⟩ v2).setCell ⟨b, 3, none⟩ v3).setCell ⟨b, 4, none⟩ v4).setCell ⟨b, 5, none⟩ v5).setCell ⟨b, 6, none⟩ v6).setCell ⟨b, 7, none⟩ v7).setCell ⟨b, 8, none⟩ v8).setCell ⟨b, 9, none⟩ v9).setCell ⟨b, 10, none⟩ v10).setCell ⟨b, 11, none⟩ v11).setCell ⟨b, 12, none⟩ v12).setCell ⟨b, 13, none⟩ v13).setCell ⟨b, 14, none⟩ v14).setCell ⟨b, 15, none⟩ v15) = W9 ∧ Cells W9 b #[v0, v1, v2, v3, v4, v5, v6, v7, v8, v9, v10, v11, v12, v13, v14, v15] ∧ Below w.heap.size w W9 ∧ Only b W W9 :=
 ⟨_, rfl, ((((((((((((((((h.setL 0 v0 (vs' := #[v0, v1, v2, v3, v4, v5, v6, v7, v8, v9, v10, v11, v12, v13, v14, v15]) (by simp) rfl).setL 1 v1 (vs' := #[v0, v1, v2, v3, v4, v5, v6, v7, v8, v9, v10, v11, v12, v13, v14, v15]) (by simp) rfl).setL 2 v2 (vs' := #[v0, v1, v2, v3, v4, v5, v6, v7, v8, v9, v10, v11, v12, v13, v14, v15]) (by simp) rfl).setL 3 v3 (vs' := #[v0, v1, v2, v3, v4, v5, v6, v7, v8, v9, v10, v11, v12, v13, v14, v15]) (by simp) rfl).setL 4 v4 (vs' := #[v0, v1, v2, v3, v4, v5, v6, v7, v8, v9, v10, v11, v12, v13, v14, v15]) (by simp) rfl).setL 5 v5 (vs' := #[v0, v1, v2, v3, v4, v5, v6, v7, v8, v9, v10, v11, v12, v13, v14, v15]) (by simp) rfl).setL 6 v6 (vs' := #[v0, v1, v2, v3, v4, v5, v6, v7, v8, v9, v10, v11, v12, v13, v14, v15]) (by simp) rfl).setL 7 v7 (vs' := #[v0, v1, v2, v3, v4, v5, v6, v7, v8, v9, v10, v11, v12, v13, v14, v15]) (by simp) rfl).setL 8 v8 (vs' := #[v0, v1, v2, v3, v4, v5, v6, v7, v8, v9, v10, v11, v12, v13, v14, v15]) (by simp) rfl).setL 9 v9 (vs' := #[v0, v1, v2, v3, v4, v5, v6, v7, v8, v9, v10, v11, v12, v13, v14, v15]) (by simp) rfl).setL 10 v10 (vs' := #[v0, v1, v2, v3, v4, v5, v6, v7, v8, v9, v10, v11, v12, v13, v14, v15]) (by simp) rfl).setL 11 v11 (vs' := #[v0, v1, v2, v3, v4, v5, v6, v7, v8, v9, v10, v11, v12, v13, v14, v15]) (by simp) rfl).setL 12 v12 (vs' := #[v0, v1, v2, v3, v4, v5, v6, v7, v8, v9, v10, v11, v12, v13, v14, v15]) (by simp) rfl).setL 13 v13 (vs' := #[v0, v1, v2, v3, v4, v5, v6, v7, v8, v9, v10, v11, v12, v13, v14, v15]) (by simp) rfl).setL 14 v14 (vs' := #[v0, v1, v2, v3, v4, v5, v6, v7, v8, v9, v10, v11, v12, v13, v14, v15]) (by simp) rfl).setL 15 v15 (vs' := #[v0, v1, v2, v3, v4, v5, v6, v7, v8, v9, v10, v11, v12, v13, v14, v15]) (by simp) rfl), (((((((((((((((((Only.setCell W b 0 v0).trans (Only.setCell _ b 1 v1)).trans (Only.setCell _ b 2 v2)).trans (Only.setCell _ b 3 v3)).trans (Only.setCell _ b 4 v4)).trans (Only.setCell _ b 5 v5)).trans (Only.setCell _ b 6 v6)).trans (Only.setCell _ b 7 v7)).trans (Only.setCell _ b 8 v8)).trans (Only.setCell _ b 9 v9)).trans (Only.setCell _ b 10 v10)).trans (Only.setCell _ b 11 v11)).trans (Only.setCell _ b 12 v12)).trans (Only.setCell _ b 13 v13)).trans (Only.setCell _ b 14 v14)).trans (Only.setCell _ b 15 v15))).below hb hw, ((((((((((((((((Only.setCell W b 0 v0).trans (Only.setCell _ b 1 v1)).trans (Only.setCell _ b 2 v2)).trans (Only.setCell _ b 3 v3)).trans (Only.setCell _ b 4 v4)).trans (Only.setCell _ b 5 v5)).trans (Only.setCell _ b 6 v6)).trans (Only.setCell _ b 7 v7)).trans (Only.setCell _ b 8 v8)).trans (Only.setCell _ b 9 v9)).trans (Only.setCell _ b 10 v10)).trans (Only.setCell _ b 11 v11)).trans (Only.setCell _ b 12 v12)).trans (Only.setCell _ b 13 v13)).trans (Only.setCell _ b 14 v14)).trans (Only.setCell _ b 15 v15))⟩
set_option maxHeartbeats 4000000 in
set_option maxRecDepth 100000 in
theorem qtabIs {xn0 xd0 xn1 xd1 xn2 xd2 xn3 xd3 : Int} {xv0 xv1 xv2 xv3 xv4 xv5 xv6 xv7 xv8 xv9 xv10 xv11 xv12 xv13 xv14 xv15 : Value} {n : Int} {w : World} {j : Nat} (hX : ICs w [(xv0, xv1, xn0), (xv2, xv3, xd0), (xv4, xv5, xn1), (xv6, xv7, xd1), (xv8, xv9, xn2), (xv10, xv11, xd2), (xv12, xv13, xn3), (xv14, xv15, xd3)]) (gX : WN j [xn0, xd0, xn1, xd1, xn2, xd2, xn3, xd3]) (hn : I64 n) (hnn : -4294967295 ≤ n ∧ n ≤ 4294967295) (hj : 2 * j + 2 ≤ 400) :
  Calls Tryz.prog 26 #[.agg #[xv0, xv1, xv2, xv3, xv4, xv5, xv6, xv7, xv8, xv9, xv10, xv11, xv12, xv13, xv14, xv15], .int .i64 n] w (PostW (VC (.bool (scB xn0 xd0 xn1 xd1 xn2 xd2 xn3 xd3 n))) w) := by
 obtain ⟨h0, h1, h2, h3, h4, h5, h6, h7, -⟩ := hX
 have HK0 := lhd (fun (W : World) (hb : Below w.heap.size w W) => qis (n := n) (h0.keep hb) (h1.keep hb) (gX _ (by simp)) (gX _ (by simp)) hn hnn hj)
 have HK1 := lhd (fun (W : World) (hb : Below w.heap.size w W) => qis (n := n) (h6.keep hb) (h7.keep hb) (gX _ (by simp)) (gX _ (by simp)) hn hnn hj)
 have HK2 := lhd (fun (W : World) (hb : Below w.heap.size w W) => qis (n := 0) (h2.keep hb) (h3.keep hb) (gX _ (by simp)) (gX _ (by simp)) ⟨by omega, by omega⟩ ⟨by omega, by omega⟩ hj)
 have HK3 := lhd (fun (W : World) (hb : Below w.heap.size w W) => qis (n := 0) (h4.keep hb) (h5.keep hb) (gX _ (by simp)) (gX _ (by simp)) ⟨by omega, by omega⟩ ⟨by omega, by omega⟩ hj)
 have HS := lhd (show scB xn0 xd0 xn1 xd1 xn2 xd2 xn3 xd3 n = (((decide (xn0 = xd0 * n) && decide (xn3 = xd3 * n)) && decide (xn1 = xd1 * 0)) && decide (xn2 = xd2 * 0)) from rfl)
 generalize decide (xn0 = xd0 * n) = t0 at *
 generalize decide (xn3 = xd3 * n) = t1 at *
 generalize decide (xn1 = xd1 * 0) = t2 at *
 generalize decide (xn2 = xd2 * 0) = t3 at *
 generalize scB xn0 xd0 xn1 xd1 xn2 xd2 xn3 xd3 n = S at *
 clear h0 h1 h2 h3 h4 h5 h6 h7 gX hj hn hnn
 go_enter Tryz.func26, Tryz.ntmps26
 go_upto_region 1 with fail
 obtain ⟨W0, hW0⟩ : ∃ W0 : World, W0 = (w.alloc (.cells #[xv0, xv1, xv2, xv3, xv4, xv5, xv6, xv7, xv8, xv9, xv10, xv11, xv12, xv13, xv14, xv15] 63)) := ⟨_, rfl⟩
 rw [← hW0]
 have HB0 := lhd (show Bx w [(w.heap.size, #[xv0, xv1, xv2, xv3, xv4, xv5, xv6, xv7, xv8, xv9, xv10, xv11, xv12, xv13, xv14, xv15])] W0 by rw [hW0]; simpa using ((Bx.nil (Below.refl w.heap.size w)).new #[xv0, xv1, xv2, xv3, xv4, xv5, xv6, xv7, xv8, xv9, xv10, xv11, xv12, xv13, xv14, xv15] 63))
 clear hW0
 have q := fun (i : Nat) hi => (HB0.out.own _ lm0).2.2.1 i hi
 have q0 := q 0 (by simp)
 have q1 := q 1 (by simp)
 have q2 := q 2 (by simp)
 have q3 := q 3 (by simp)
 have q4 := q 4 (by simp)
 have q5 := q 5 (by simp)
 have q6 := q 6 (by simp)
 have q7 := q 7 (by simp)
 have q8 := q 8 (by simp)
 have q9 := q 9 (by simp)
 have q10 := q 10 (by simp)
 have q11 := q 11 (by simp)
 have q12 := q 12 (by simp)
 have q13 := q 13 (by simp)
 have q14 := q 14 (by simp)
 have q15 := q 15 (by simp)
 clear q
 simp only [List.getElem?_toArray, List.getElem?_cons_zero, List.getElem?_cons_succ] at q0 q1 q2 q3 q4 q5 q6 q7 q8 q9 q10 q11 q12 q13 q14 q15
 go_wp2_with fail
 refine (HK0.out _ HB0.out.below).mono ?_
 rintro _ w1 ⟨_, rfl, rfl, hbb⟩
 have HB1 := lhd (HB0.out.keep hbb)
 clear hbb HB0 HK0 q0 q1 q2 q3 q4 q5 q6 q7 q8 q9 q10 q11 q12 q13 q14 q15
 cases t0
 ·go_wp2_with fail
  go_ret
  exact ⟨_, rfl, by rw [HS.out]; simp [VC], HB1.out.below⟩
 have q := fun (i : Nat) hi => (HB1.out.own _ lm0).2.2.1 i hi
 have q0 := q 0 (by simp)
 have q1 := q 1 (by simp)
 have q2 := q 2 (by simp)
 have q3 := q 3 (by simp)
 have q4 := q 4 (by simp)
 have q5 := q 5 (by simp)
 have q6 := q 6 (by simp)
 have q7 := q 7 (by simp)
 have q8 := q 8 (by simp)
 have q9 := q 9 (by simp)
 have q10 := q 10 (by simp)
 have q11 := q 11 (by simp)
 have q12 := q 12 (by simp)
 have q13 := q 13 (by simp)
 have q14 := q 14 (by simp)
 have q15 := q 15 (by simp)
 clear q
 simp only [List.getElem?_toArray, List.getElem?_cons_zero, List.getElem?_cons_succ] at q0 q1 q2 q3 q4 q5 q6 q7 q8 q9 q10 q11 q12 q13 q14 q15
 go_wp2_with fail
 refine (HK1.out _ HB1.out.below).mono ?_
 rintro _ w2 ⟨_, rfl, rfl, hbb⟩
 have HB2 := lhd (HB1.out.keep hbb)
 clear hbb HB1 HK1 q0 q1 q2 q3 q4 q5 q6 q7 q8 q9 q10 q11 q12 q13 q14 q15
 cases t1
 ·go_wp2_with fail
  go_ret
  exact ⟨_, rfl, by rw [HS.out]; simp [VC], HB2.out.below⟩
 have q := fun (i : Nat) hi => (HB2.out.own _ lm0).2.2.1 i hi
 have q0 := q 0 (by simp)
 have q1 := q 1 (by simp)
 have q2 := q 2 (by simp)
 have q3 := q 3 (by simp)
 have q4 := q 4 (by simp)
 have q5 := q 5 (by simp)
 have q6 := q 6 (by simp)
 have q7 := q 7 (by simp)
 have q8 := q 8 (by simp)
 have q9 := q 9 (by simp)
 have q10 := q 10 (by simp)
 have q11 := q 11 (by simp)
 have q12 := q 12 (by simp)
 have q13 := q 13 (by simp)
 have q14 := q 14 (by simp)
 have q15 := q 15 (by simp)
 clear q
 simp only [List.getElem?_toArray, List.getElem?_cons_zero, List.getElem?_cons_succ] at q0 q1 q2 q3 q4 q5 q6 q7 q8 q9 q10 q11 q12 q13 q14 q15
 go_wp2_with fail
 refine (HK2.out _ HB2.out.below).mono ?_
 rintro _ w3 ⟨_, rfl, rfl, hbb⟩
 have HB3 := lhd (HB2.out.keep hbb)
 clear hbb HB2 HK2 q0 q1 q2 q3 q4 q5 q6 q7 q8 q9 q10 q11 q12 q13 q14 q15
 cases t2
 ·go_wp2_with fail
  go_ret
  exact ⟨_, rfl, by rw [HS.out]; simp [VC], HB3.out.below⟩
 have q := fun (i : Nat) hi => (HB3.out.own _ lm0).2.2.1 i hi
 have q0 := q 0 (by simp)
 have q1 := q 1 (by simp)
 have q2 := q 2 (by simp)
 have q3 := q 3 (by simp)
 have q4 := q 4 (by simp)
 have q5 := q 5 (by simp)
 have q6 := q 6 (by simp)
 have q7 := q 7 (by simp)
 have q8 := q 8 (by simp)
 have q9 := q 9 (by simp)
 have q10 := q 10 (by simp)
 have q11 := q 11 (by simp)
 have q12 := q 12 (by simp)
 have q13 := q 13 (by simp)
 have q14 := q 14 (by simp)
 have q15 := q 15 (by simp)
 clear q
 simp only [List.getElem?_toArray, List.getElem?_cons_zero, List.getElem?_cons_succ] at q0 q1 q2 q3 q4 q5 q6 q7 q8 q9 q10 q11 q12 q13 q14 q15
 go_wp2_with fail
 refine (HK3.out _ HB3.out.below).mono ?_
 rintro _ w4 ⟨_, rfl, rfl, hbb⟩
 have HB4 := lhd (HB3.out.keep hbb)
 clear hbb HB3 HK3 q0 q1 q2 q3 q4 q5 q6 q7 q8 q9 q10 q11 q12 q13 q14 q15
 cases t3
 ·go_wp2_with fail
  go_ret
  exact ⟨_, rfl, by rw [HS.out]; simp [VC], HB4.out.below⟩
 go_wp2_with fail
 go_ret
 exact ⟨_, rfl, by rw [HS.out]; rfl, HB4.out.below⟩
set_option maxHeartbeats 40000000 in
set_option maxRecDepth 100000 in
theorem qtabTimes {xn0 xd0 xn1 xd1 xn2 xd2 xn3 xd3 : Int} {xv0 xv1 xv2 xv3 xv4 xv5 xv6 xv7 xv8 xv9 xv10 xv11 xv12 xv13 xv14 xv15 : Value} {yn0 yd0 yn1 yd1 yn2 yd2 yn3 yd3 : Int} {yv0 yv1 yv2 yv3 yv4 yv5 yv6 yv7 yv8 yv9 yv10 yv11 yv12 yv13 yv14 yv15 : Value} {w : World} (hX : ICs w [(xv0, xv1, xn0), (xv2, xv3, xd0), (xv4, xv5, xn1), (xv6, xv7, xd1), (xv8, xv9, xn2), (xv10, xv11, xd2), (xv12, xv13, xn3), (xv14, xv15, xd3)]) (hY : ICs w [(yv0, yv1, yn0), (yv2, yv3, yd0), (yv4, yv5, yn1), (yv6, yv7, yd1), (yv8, yv9, yn2), (yv10, yv11, yd2), (yv12, yv13, yn3), (yv14, yv15, yd3)]) (gX : WN 1 [xn0, xd0, xn1, xd1, xn2, xd2, xn3, xd3]) (gY : WN 1 [yn0, yd0, yn1, yd1, yn2, yd2, yn3, yd3]) :
  Calls Tryz.prog 25 #[.agg #[xv0, xv1, xv2, xv3, xv4, xv5, xv6, xv7, xv8, xv9, xv10, xv11, xv12, xv13, xv14, xv15], .agg #[yv0, yv1, yv2, yv3, yv4, yv5, yv6, yv7, yv8, yv9, yv10, yv11, yv12, yv13, yv14, yv15]] w (PostW (VM (pN xn0 xd0 xn1 xd1 yn0 yd0 yn2 yd2) (pD xd0 xd1 yd0 yd2) (pN xn0 xd0 xn1 xd1 yn1 yd1 yn3 yd3) (pD xd0 xd1 yd1 yd3) (pN xn2 xd2 xn3 xd3 yn0 yd0 yn2 yd2) (pD xd2 xd3 yd0 yd2) (pN xn2 xd2 xn3 xd3 yn1 yd1 yn3 yd3) (pD xd2 xd3 yd1 yd3)) w) := by
 go_enter Tryz.func25, Tryz.ntmps25
 go_upto_region 1 with fail
 obtain ⟨W0, hW0⟩ : ∃ W0 : World, W0 = (((w.alloc (.cells #[xv0, xv1, xv2, xv3, xv4, xv5, xv6, xv7, xv8, xv9, xv10, xv11, xv12, xv13, xv14, xv15] 63)).alloc (.cells #[yv0, yv1, yv2, yv3, yv4, yv5, yv6, yv7, yv8, yv9, yv10, yv11, yv12, yv13, yv14, yv15] 63)).alloc (.cells zz8 63)) := ⟨_, rfl⟩
 rw [← hW0]
 have HB0 := lhd (show Bx w [(w.heap.size + 2, zz8), (w.heap.size + 1, #[yv0, yv1, yv2, yv3, yv4, yv5, yv6, yv7, yv8, yv9, yv10, yv11, yv12, yv13, yv14, yv15]), (w.heap.size, #[xv0, xv1, xv2, xv3, xv4, xv5, xv6, xv7, xv8, xv9, xv10, xv11, xv12, xv13, xv14, xv15])] W0 by rw [hW0]; simpa using ((((Bx.nil (Below.refl w.heap.size w)).new #[xv0, xv1, xv2, xv3, xv4, xv5, xv6, xv7, xv8, xv9, xv10, xv11, xv12, xv13, xv14, xv15] 63).new #[yv0, yv1, yv2, yv3, yv4, yv5, yv6, yv7, yv8, yv9, yv10, yv11, yv12, yv13, yv14, yv15] 63).new zz8 63))
 have HNi := lhd (show NoIntAt W0 (w.heap.size + 2) by rw [hW0]; exact NoIntAt.new ((w.alloc (.cells #[xv0, xv1, xv2, xv3, xv4, xv5, xv6, xv7, xv8, xv9, xv10, xv11, xv12, xv13, xv14, xv15] 63)).alloc (.cells #[yv0, yv1, yv2, yv3, yv4, yv5, yv6, yv7, yv8, yv9, yv10, yv11, yv12, yv13, yv14, yv15] 63)) 63 (noint_list (by kernel_rfl)) (by simp))
 clear hW0
 have hXY := lhd (fun (W : World) (hb : Below w.heap.size w W) => And.intro ((Firm.ics _).below undef _ _ hX hb) ((Firm.ics _).below undef _ _ hY hb))
 obtain ⟨St, g0, g1, g2, g3, g4⟩ : ∃ St : Nat → World → Prop, (∀ wr, St 0 wr = (Bx w [(w.heap.size + 2, zz8), (w.heap.size + 1, #[yv0, yv1, yv2, yv3, yv4, yv5, yv6, yv7, yv8, yv9, yv10, yv11, yv12, yv13, yv14, yv15]), (w.heap.size, #[xv0, xv1, xv2, xv3, xv4, xv5, xv6, xv7, xv8, xv9, xv10, xv11, xv12, xv13, xv14, xv15])] wr ∧ NoIntAt wr (w.heap.size + 2) ∧ ICs wr [])) ∧ (∀ wr, St 1 wr = (∃ r0_0 r0_1 r0_2 r0_3, Bx w [(w.heap.size + 2, #[r0_0, r0_1, r0_2, r0_3, .bool false, .slice none 0 0, .bool false, .slice none 0 0, .bool false, .slice none 0 0, .bool false, .slice none 0 0, .bool false, .slice none 0 0, .bool false, .slice none 0 0]), (w.heap.size + 1, #[yv0, yv1, yv2, yv3, yv4, yv5, yv6, yv7, yv8, yv9, yv10, yv11, yv12, yv13, yv14, yv15]), (w.heap.size, #[xv0, xv1, xv2, xv3, xv4, xv5, xv6, xv7, xv8, xv9, xv10, xv11, xv12, xv13, xv14, xv15])] wr ∧ NoIntAt wr (w.heap.size + 2) ∧ ICs wr [(r0_0, r0_1, pN xn0 xd0 xn1 xd1 yn0 yd0 yn2 yd2), (r0_2, r0_3, pD xd0 xd1 yd0 yd2)])) ∧ (∀ wr, St 2 wr = (∃ r0_0 r0_1 r0_2 r0_3 r1_0 r1_1 r1_2 r1_3, Bx w [(w.heap.size + 2, #[r0_0, r0_1, r0_2, r0_3, r1_0, r1_1, r1_2, r1_3, .bool false, .slice none 0 0, .bool false, .slice none 0 0, .bool false, .slice none 0 0, .bool false, .slice none 0 0]), (w.heap.size + 1, #[yv0, yv1, yv2, yv3, yv4, yv5, yv6, yv7, yv8, yv9, yv10, yv11, yv12, yv13, yv14, yv15]), (w.heap.size, #[xv0, xv1, xv2, xv3, xv4, xv5, xv6, xv7, xv8, xv9, xv10, xv11, xv12, xv13, xv14, xv15])] wr ∧ NoIntAt wr (w.heap.size + 2) ∧ ICs wr [(r0_0, r0_1, pN xn0 xd0 xn1 xd1 yn0 yd0 yn2 yd2), (r0_2, r0_3, pD xd0 xd1 yd0 yd2), (r1_0, r1_1, pN xn0 xd0 xn1 xd1 yn1 yd1 yn3 yd3), (r1_2, r1_3, pD xd0 xd1 yd1 yd3)])) ∧ (∀ wr, St 3 wr = (∃ r0_0 r0_1 r0_2 r0_3 r1_0 r1_1 r1_2 r1_3 r2_0 r2_1 r2_2 r2_3, Bx w [(w.heap.size + 2, #[r0_0, r0_1, r0_2, r0_3, r1_0, r1_1, r1_2, r1_3, r2_0, r2_1, r2_2, r2_3, .bool false, .slice none 0 0, .bool false, .slice none 0 0]), (w.heap.size + 1, #[yv0, yv1, yv2, yv3, yv4, yv5, yv6, yv7, yv8, yv9, yv10, yv11, yv12, yv13, yv14, yv15]), (w.heap.size, #[xv0, xv1, xv2, xv3, xv4, xv5, xv6, xv7, xv8, xv9, xv10, xv11, xv12, xv13, xv14, xv15])] wr ∧ NoIntAt wr (w.heap.size + 2) ∧ ICs wr [(r0_0, r0_1, pN xn0 xd0 xn1 xd1 yn0 yd0 yn2 yd2), (r0_2, r0_3, pD xd0 xd1 yd0 yd2), (r1_0, r1_1, pN xn0 xd0 xn1 xd1 yn1 yd1 yn3 yd3), (r1_2, r1_3, pD xd0 xd1 yd1 yd3), (r2_0, r2_1, pN xn2 xd2 xn3 xd3 yn0 yd0 yn2 yd2), (r2_2, r2_3, pD xd2 xd3 yd0 yd2)])) ∧ (∀ wr, St 4 wr = (∃ r0_0 r0_1 r0_2 r0_3 r1_0 r1_1 r1_2 r1_3 r2_0 r2_1 r2_2 r2_3 r3_0 r3_1 r3_2 r3_3, Bx w [(w.heap.size + 2, #[r0_0, r0_1, r0_2, r0_3, r1_0, r1_1, r1_2, r1_3, r2_0, r2_1, r2_2, r2_3, r3_0, r3_1, r3_2, r3_3]), (w.heap.size + 1, #[yv0, yv1, yv2, yv3, yv4, yv5, yv6, yv7, yv8, yv9, yv10, yv11, yv12, yv13, yv14, yv15]), (w.heap.size, #[xv0, xv1, xv2, xv3, xv4, xv5, xv6, xv7, xv8, xv9, xv10, xv11, xv12, xv13, xv14, xv15])] wr ∧ NoIntAt wr (w.heap.size + 2) ∧ ICs wr [(r0_0, r0_1, pN xn0 xd0 xn1 xd1 yn0 yd0 yn2 yd2), (r0_2, r0_3, pD xd0 xd1 yd0 yd2), (r1_0, r1_1, pN xn0 xd0 xn1 xd1 yn1 yd1 yn3 yd3), (r1_2, r1_3, pD xd0 xd1 yd1 yd3), (r2_0, r2_1, pN xn2 xd2 xn3 xd3 yn0 yd0 yn2 yd2), (r2_2, r2_3, pD xd2 xd3 yd0 yd2), (r3_0, r3_1, pN xn2 xd2 xn3 xd3 yn1 yd1 yn3 yd3), (r3_2, r3_3, pD xd2 xd3 yd1 yd3)])) := ⟨fun k wr => match k with | 0 => (Bx w [(w.heap.size + 2, zz8), (w.heap.size + 1, #[yv0, yv1, yv2, yv3, yv4, yv5, yv6, yv7, yv8, yv9, yv10, yv11, yv12, yv13, yv14, yv15]), (w.heap.size, #[xv0, xv1, xv2, xv3, xv4, xv5, xv6, xv7, xv8, xv9, xv10, xv11, xv12, xv13, xv14, xv15])] wr ∧ NoIntAt wr (w.heap.size + 2) ∧ ICs wr []) | 1 => (∃ r0_0 r0_1 r0_2 r0_3, Bx w [(w.heap.size + 2, #[r0_0, r0_1, r0_2, r0_3, .bool false, .slice none 0 0, .bool false, .slice none 0 0, .bool false, .slice none 0 0, .bool false, .slice none 0 0, .bool false, .slice none 0 0, .bool false, .slice none 0 0]), (w.heap.size + 1, #[yv0, yv1, yv2, yv3, yv4, yv5, yv6, yv7, yv8, yv9, yv10, yv11, yv12, yv13, yv14, yv15]), (w.heap.size, #[xv0, xv1, xv2, xv3, xv4, xv5, xv6, xv7, xv8, xv9, xv10, xv11, xv12, xv13, xv14, xv15])] wr ∧ NoIntAt wr (w.heap.size + 2) ∧ ICs wr [(r0_0, r0_1, pN xn0 xd0 xn1 xd1 yn0 yd0 yn2 yd2), (r0_2, r0_3, pD xd0 xd1 yd0 yd2)]) | 2 => (∃ r0_0 r0_1 r0_2 r0_3 r1_0 r1_1 r1_2 r1_3, Bx w [(w.heap.size + 2, #[r0_0, r0_1, r0_2, r0_3, r1_0, r1_1, r1_2, r1_3, .bool false, .slice none 0 0, .bool false, .slice none 0 0, .bool false, .slice none 0 0, .bool false, .slice none 0 0]), (w.heap.size + 1, #[yv0, yv1, yv2, yv3, yv4, yv5, yv6, yv7, yv8, yv9, yv10, yv11, yv12, yv13, yv14, yv15]), (w.heap.size, #[xv0, xv1, xv2, xv3, xv4, xv5, xv6, xv7, xv8, xv9, xv10, xv11, xv12, xv13, xv14, xv15])] wr ∧ NoIntAt wr (w.heap.size + 2) ∧ ICs wr [(r0_0, r0_1, pN xn0 xd0 xn1 xd1 yn0 yd0 yn2 yd2), (r0_2, r0_3, pD xd0 xd1 yd0 yd2), (r1_0, r1_1, pN xn0 xd0 xn1 xd1 yn1 yd1 yn3 yd3), (r1_2, r1_3, pD xd0 xd1 yd1 yd3)]) | 3 => (∃ r0_0 r0_1 r0_2 r0_3 r1_0 r1_1 r1_2 r1_3 r2_0 r2_1 r2_2 r2_3, Bx w [(w.heap.size + 2, #[r0_0, r0_1, r0_2, r0_3, r1_0, r1_1, r1_2, r1_3, r2_0, r2_1, r2_2, r2_3, .bool false, .slice none 0 0, .bool false, .slice none 0 0]), (w.heap.size + 1, #[yv0, yv1, yv2, yv3, yv4, yv5, yv6, yv7, yv8, yv9, yv10, yv11, yv12, yv13, yv14, yv15]), (w.heap.size, #[xv0, xv1, xv2, xv3, xv4, xv5, xv6, xv7, xv8, xv9, xv10, xv11, xv12, xv13, xv14, xv15])] wr ∧ NoIntAt wr (w.heap.size + 2) ∧ ICs wr [(r0_0, r0_1, pN xn0 xd0 xn1 xd1 yn0 yd0 yn2 yd2), (r0_2, r0_3, pD xd0 xd1 yd0 yd2), (r1_0, r1_1, pN xn0 xd0 xn1 xd1 yn1 yd1 yn3 yd3), (r1_2, r1_3, pD xd0 xd1 yd1 yd3), (r2_0, r2_1, pN xn2 xd2 xn3 xd3 yn0 yd0 yn2 yd2), (r2_2, r2_3, pD xd2 xd3 yd0 yd2)]) | _ => (∃ r0_0 r0_1 r0_2 r0_3 r1_0 r1_1 r1_2 r1_3 r2_0 r2_1 r2_2 r2_3 r3_0 r3_1 r3_2 r3_3, Bx w [(w.heap.size + 2, #[r0_0, r0_1, r0_2, r0_3, r1_0, r1_1, r1_2, r1_3, r2_0, r2_1, r2_2, r2_3, r3_0, r3_1, r3_2, r3_3]), (w.heap.size + 1, #[yv0, yv1, yv2, yv3, yv4, yv5, yv6, yv7, yv8, yv9, yv10, yv11, yv12, yv13, yv14, yv15]), (w.heap.size, #[xv0, xv1, xv2, xv3, xv4, xv5, xv6, xv7, xv8, xv9, xv10, xv11, xv12, xv13, xv14, xv15])] wr ∧ NoIntAt wr (w.heap.size + 2) ∧ ICs wr [(r0_0, r0_1, pN xn0 xd0 xn1 xd1 yn0 yd0 yn2 yd2), (r0_2, r0_3, pD xd0 xd1 yd0 yd2), (r1_0, r1_1, pN xn0 xd0 xn1 xd1 yn1 yd1 yn3 yd3), (r1_2, r1_3, pD xd0 xd1 yd1 yd3), (r2_0, r2_1, pN xn2 xd2 xn3 xd3 yn0 yd0 yn2 yd2), (r2_2, r2_3, pD xd2 xd3 yd0 yd2), (r3_0, r3_1, pN xn2 xd2 xn3 xd3 yn1 yd1 yn3 yd3), (r3_2, r3_3, pD xd2 xd3 yd1 yd3)]), fun _ => rfl, fun _ => rfl, fun _ => rfl, fun _ => rfl, fun _ => rfl⟩
 have T0 := lhd g0; clear g0
 have T1 := lhd g1; clear g1
 have T2 := lhd g2; clear g2
 have T3 := lhd g3; clear g3
 have T4 := lhd g4; clear g4
 go_wp2_with fail
 go_loopw [7] (fun s7 wr => ∃ k : Nat, s7 = .int .i64 k ∧ k ≤ 2 ∧ St (2 * k) wr) (fun s _ => 2 - (intOf s).toNat)
 case atStart => exact ⟨0, rfl, by omega, by rw [T0.out]; exact ⟨HB0.out, HNi.out, trivial⟩⟩
 case round =>
  obtain ⟨k, rfl, hk, hst⟩ := hrel
  clear HB0 HNi
  by_cases k0 : k = 0
  ·subst k0
   clear hk
   obtain ⟨wo, hwo⟩ : ∃ wo : World, wo = wr := ⟨_, rfl⟩; subst hwo
   go_wp2_with fail
   go_loopw [10] (fun s10 wr => ∃ m : Nat, s10 = .int .i64 m ∧ m ≤ 2 ∧ St (0 + m) wr) (fun s _ => 2 - (intOf s).toNat)
   case atStart => exact ⟨0, rfl, by omega, hst⟩
   case round =>
    clear hst
    obtain ⟨m, rfl, hm, hst⟩ := hrel
    by_cases m0 : m = 0
    ·subst m0
     replace hst : St 0 wr := hst
     rw [T0.out] at hst
     obtain ⟨hb, hn, hi⟩ := hst
     have HB := lhd hb; have HN := lhd hn; clear hb hn hm
     have hxy := hXY.out _ HB.out.below
     go_upto_region 7 with fail
     refine wp_region_full (w.heap.size) [(0, 13, VC (.int .i64 0)), (1, 14, VC (.int .i64 0)), (2, 15, VC (.int .i64 0)), (3, 16, VC (.pointer (some ⟨w.heap.size, 0, none⟩))), (4, 17, VC (.pointer (some ⟨w.heap.size, 0, none⟩))), (5, 18, VC (.agg #[xv0, xv1, xv2, xv3])), (6, 19, VC (.int .i64 0)), (7, 20, VC (.pointer (some ⟨w.heap.size + 1, 0, none⟩))), (8, 21, VC (.pointer (some ⟨w.heap.size + 1, 0, none⟩))), (9, 22, VC (.agg #[yv0, yv1, yv2, yv3])), (10, 23, VR (xn0 * yn0) (xd0 * yd0)), (11, 24, VC (.int .i64 0)), (12, 25, VC (.pointer (some ⟨w.heap.size, 0, none⟩))), (13, 26, VC (.pointer (some ⟨w.heap.size, 4, none⟩))), (14, 27, VC (.agg #[xv4, xv5, xv6, xv7])), (15, 28, VC (.int .i64 0)), (16, 29, VC (.pointer (some ⟨w.heap.size + 1, 8, none⟩))), (17, 30, VC (.pointer (some ⟨w.heap.size + 1, 8, none⟩))), (18, 31, VC (.agg #[yv8, yv9, yv10, yv11])), (19, 32, VR (xn1 * yn2) (xd1 * yd2)), (20, 33, VR (pN xn0 xd0 xn1 xd1 yn0 yd0 yn2 yd2) (pD xd0 xd1 yd0 yd2)), (21, 34, VC (.pointer (some ⟨w.heap.size + 2, 0, none⟩))), (22, 35, VC (.pointer (some ⟨w.heap.size + 2, 0, none⟩)))] [] [⟨w.heap.size + 2, 23, 20, 33, zz8, fun v vs => ∃ xa0 xa1 xa2 xa3, v = .agg #[xa0, xa1, xa2, xa3] ∧ vs = #[xa0, xa1, xa2, xa3, .bool false, .slice none 0 0, .bool false, .slice none 0 0, .bool false, .slice none 0 0, .bool false, .slice none 0 0, .bool false, .slice none 0 0, .bool false, .slice none 0 0]⟩, ⟨w.heap.size + 1, 999, 999, 999, #[yv0, yv1, yv2, yv3, yv4, yv5, yv6, yv7, yv8, yv9, yv10, yv11, yv12, yv13, yv14, yv15], fun v vs => v = .agg vs⟩, ⟨w.heap.size, 999, 999, 999, #[xv0, xv1, xv2, xv3, xv4, xv5, xv6, xv7, xv8, xv9, xv10, xv11, xv12, xv13, xv14, xv15], fun v vs => v = .agg vs⟩] (fun W => ICs W [(xv0, xv1, xn0), (xv2, xv3, xd0), (xv4, xv5, xn1), (xv6, xv7, xd1), (xv8, xv9, xn2), (xv10, xv11, xd2), (xv12, xv13, xn3), (xv14, xv15, xd3)] ∧ ICs W [(yv0, yv1, yn0), (yv2, yv3, yd0), (yv4, yv5, yn1), (yv6, yv7, yd1), (yv8, yv9, yn2), (yv10, yv11, yd2), (yv12, yv13, yn3), (yv14, yv15, yd3)] ∧ ICs W []) [13, 14, 15, 16, 17, 18, 19, 20, 21, 22, 23, 24, 25, 26, 27, 28, 29, 30, 31, 32, 33, 34, 35] ?_ (by kernel_rfl) (by kernel_rfl) (by kernel_rfl) (Firms.all (l := [(0, 13, VC (.int .i64 0)), (1, 14, VC (.int .i64 0)), (2, 15, VC (.int .i64 0)), (3, 16, VC (.pointer (some ⟨w.heap.size, 0, none⟩))), (4, 17, VC (.pointer (some ⟨w.heap.size, 0, none⟩))), (5, 18, VC (.agg #[xv0, xv1, xv2, xv3])), (6, 19, VC (.int .i64 0)), (7, 20, VC (.pointer (some ⟨w.heap.size + 1, 0, none⟩))), (8, 21, VC (.pointer (some ⟨w.heap.size + 1, 0, none⟩))), (9, 22, VC (.agg #[yv0, yv1, yv2, yv3])), (10, 23, VR (xn0 * yn0) (xd0 * yd0)), (11, 24, VC (.int .i64 0)), (12, 25, VC (.pointer (some ⟨w.heap.size, 0, none⟩))), (13, 26, VC (.pointer (some ⟨w.heap.size, 4, none⟩))), (14, 27, VC (.agg #[xv4, xv5, xv6, xv7])), (15, 28, VC (.int .i64 0)), (16, 29, VC (.pointer (some ⟨w.heap.size + 1, 8, none⟩))), (17, 30, VC (.pointer (some ⟨w.heap.size + 1, 8, none⟩))), (18, 31, VC (.agg #[yv8, yv9, yv10, yv11])), (19, 32, VR (xn1 * yn2) (xd1 * yd2)), (20, 33, VR (pN xn0 xd0 xn1 xd1 yn0 yd0 yn2 yd2) (pD xd0 xd1 yd0 yd2)), (21, 34, VC (.pointer (some ⟨w.heap.size + 2, 0, none⟩))), (22, 35, VC (.pointer (some ⟨w.heap.size + 2, 0, none⟩)))]) ⟨Firm.vc _, Firm.vc _, Firm.vc _, Firm.vc _, Firm.vc _, Firm.vc _, Firm.vc _, Firm.vc _, Firm.vc _, Firm.vc _, Firm.vr _ _, Firm.vc _, Firm.vc _, Firm.vc _, Firm.vc _, Firm.vc _, Firm.vc _, Firm.vc _, Firm.vc _, Firm.vr _ _, Firm.vr _ _, Firm.vc _, Firm.vc _, trivial⟩) (Firm.and3 (Firm.ics _) (Firm.ics _) (Firm.ics _)) (⟨hxy.1, hxy.2, hi⟩) ?_ ?_ ?_
     ·exact HB.out.below.size
     ·intro c hc
      simp only [List.mem_cons, List.not_mem_nil, or_false] at hc
      rcases hc with rfl | rfl | rfl
      ·exact ⟨(HB.out.own _ lm0).2, fun _ => HN.out⟩
      ·exact ⟨(HB.out.own _ lm1).2, fun h => absurd rfl h⟩
      ·exact ⟨(HB.out.own _ lm2).2, fun h => absurd rfl h⟩
     ·refine forall_ops ⟨?_, ?_, ?_, ?_, ?_, ?_, ?_, ?_, ?_, ?_, ?_, ?_, ?_, ?_, ?_, ?_, ?_, ?_, ?_, ?_, ?_, ?_, ?_, ?_, trivial⟩
      ·exact FOk.val rfl rfl rfl rfl fun _ _ _ _ _ _ => .move rfl (fou (v := .int .i64 0)) rfl
      ·exact FOk.val rfl rfl rfl rfl fun _ _ _ _ _ _ => .move rfl (fou (v := .int .i64 0)) rfl
      ·exact FOk.val rfl rfl rfl rfl fun _ _ _ _ _ _ => .move rfl (fou (v := .int .i64 0)) rfl
      ·exact FOk.val rfl rfl rfl rfl fun _ _ _ _ _ hV => .indexAddr rfl (fou (v := .pointer (some ⟨w.heap.size, 0, none⟩))) (fgt hV 2 rfl) (by kernel_rfl) rfl
      ·exact FOk.val rfl rfl rfl rfl fun _ _ _ _ _ hV => .indexAddr rfl (fgt hV 3 rfl) rfl (by kernel_rfl) rfl
      ·exact FOk.val rfl rfl rfl rfl fun _ _ _ _ hO hV => .load (g := w.heap.size) (k := 0) (n := 4) rfl (fgt hV 4 rfl) (hO _ lm2 rfl) (by simp) Tryz.underlying60 rfl (by kernel_rfl) rfl
      ·exact FOk.val rfl rfl rfl rfl fun _ _ _ _ _ _ => .move rfl (fou (v := .int .i64 0)) rfl
      ·exact FOk.val rfl rfl rfl rfl fun _ _ _ _ _ _ => .indexAddr rfl (fou (v := .pointer (some ⟨w.heap.size + 1, 0, none⟩))) rfl (by kernel_rfl) rfl
      ·exact FOk.val rfl rfl rfl rfl fun _ _ _ _ _ hV => .indexAddr rfl (fgt hV 7 rfl) (fgt hV 6 rfl) (by kernel_rfl) rfl
      ·exact FOk.val rfl rfl rfl rfl fun _ _ _ _ hO hV => .load (g := w.heap.size + 1) (k := 0) (n := 4) rfl (fgt hV 8 rfl) (hO _ lm1 rfl) (by simp) Tryz.underlying60 rfl (by kernel_rfl) rfl
      ·refine FOk.val rfl rfl rfl rfl fun _ _ _ hE _ hV => ?_
       obtain ⟨⟨X0, X1, X2, X3, X4, X5, X6, X7, -⟩, ⟨Y0, Y1, Y2, Y3, Y4, Y5, Y6, Y7, -⟩, -⟩ := hE
       exact .call Tryz.func68 (by kernel_rfl) rfl rfl rfl (map_two (fgt hV 5 rfl) (fgt hV 9 rfl)) (qtimes X0 X1 Y0 Y1 (gX _ (by simp)) (gX _ (by simp)) (gY _ (by simp)) (gY _ (by simp)) (by omega))
      ·exact FOk.val rfl rfl rfl rfl fun _ _ _ _ _ _ => .move rfl (fou (v := .int .i64 0)) rfl
      ·exact FOk.val rfl rfl rfl rfl fun _ _ _ _ _ hV => .indexAddr rfl (fou (v := .pointer (some ⟨w.heap.size, 0, none⟩))) (fgt hV 11 rfl) (by kernel_rfl) rfl
      ·exact FOk.val rfl rfl rfl rfl fun _ _ _ _ _ hV => .indexAddr rfl (fgt hV 12 rfl) rfl (by kernel_rfl) rfl
      ·exact FOk.val rfl rfl rfl rfl fun _ _ _ _ hO hV => .load (g := w.heap.size) (k := 4) (n := 4) rfl (fgt hV 13 rfl) (hO _ lm2 rfl) (by simp) Tryz.underlying60 rfl (by kernel_rfl) rfl
      ·exact FOk.val rfl rfl rfl rfl fun _ _ _ _ _ _ => .move rfl (fou (v := .int .i64 0)) rfl
      ·exact FOk.val rfl rfl rfl rfl fun _ _ _ _ _ _ => .indexAddr rfl (fou (v := .pointer (some ⟨w.heap.size + 1, 0, none⟩))) rfl (by kernel_rfl) rfl
      ·exact FOk.val rfl rfl rfl rfl fun _ _ _ _ _ hV => .indexAddr rfl (fgt hV 16 rfl) (fgt hV 15 rfl) (by kernel_rfl) rfl
      ·exact FOk.val rfl rfl rfl rfl fun _ _ _ _ hO hV => .load (g := w.heap.size + 1) (k := 8) (n := 4) rfl (fgt hV 17 rfl) (hO _ lm1 rfl) (by simp) Tryz.underlying60 rfl (by kernel_rfl) rfl
      ·refine FOk.val rfl rfl rfl rfl fun _ _ _ hE _ hV => ?_
       obtain ⟨⟨X0, X1, X2, X3, X4, X5, X6, X7, -⟩, ⟨Y0, Y1, Y2, Y3, Y4, Y5, Y6, Y7, -⟩, -⟩ := hE
       exact .call Tryz.func68 (by kernel_rfl) rfl rfl rfl (map_two (fgt hV 14 rfl) (fgt hV 18 rfl)) (qtimes X2 X3 Y4 Y5 (gX _ (by simp)) (gX _ (by simp)) (gY _ (by simp)) (gY _ (by simp)) (by omega))
      ·refine FOk.val rfl rfl rfl rfl fun _ _ _ _ _ hV => ?_
       obtain ⟨u23_0, u23_1, u23_2, u23_3, y23, i23⟩ := hget hV 10 rfl (by kernel_rfl)
       obtain ⟨u32_0, u32_1, u32_2, u32_3, y32, i32⟩ := hget hV 19 rfl (by kernel_rfl)
       exact .call Tryz.func27 (by kernel_rfl) rfl rfl rfl (map_two ((fr_in (by kernel_rfl)).trans y23) ((fr_in (by kernel_rfl)).trans y32)) (qplus i23.1 i23.2 i32.1 i32.2 ((gX (xn0) (by simp)).mul (gY (yn0) (by simp))) ((gX (xd0) (by simp)).mul (gY (yd0) (by simp))) ((gX (xn1) (by simp)).mul (gY (yn2) (by simp))) ((gX (xd1) (by simp)).mul (gY (yd2) (by simp))) (by omega))
      ·exact FOk.val rfl rfl rfl rfl fun _ _ _ _ _ hV => .indexAddr rfl (fou (v := .pointer (some ⟨w.heap.size + 2, 0, none⟩))) (fgt hV 0 rfl) (by kernel_rfl) rfl
      ·exact FOk.val rfl rfl rfl rfl fun _ _ _ _ _ hV => .indexAddr rfl (fgt hV 21 rfl) (fgt hV 1 rfl) (by kernel_rfl) rfl
      ·refine .inl ⟨.inl rfl, .inr (.inr (.inr ⟨rfl, word_none (by kernel_rfl), ?_, _, lm0, rfl, ?_, by simp, ?_, by kernel_rfl, fun y W hB hV hc hN K Q' hK => ?_⟩))⟩
       ·exact fun b hb => by simp at hb
       ·first | (with_reducible exact Nat.le_refl _) | assumption | omega | (simp; done)
       ·intro d hd
        simp only [List.mem_cons, List.not_mem_nil, or_false] at hd
        rcases hd with rfl | rfl | rfl
        ·exact ⟨fun _ => rfl, fun _ => rfl⟩
        ·exact ⟨fun h => absurd h (by simp), fun h => absurd h (by dsimp only; first | omega | assumption | exact Ne.symm (by assumption))⟩
        ·exact ⟨fun h => absurd h (by simp), fun h => absurd h (by dsimp only; first | omega | assumption | exact Ne.symm (by assumption))⟩
       have y35 : y 35 = .pointer (some ⟨w.heap.size + 2, 0, none⟩) := hV (22, 35, VC (.pointer (some ⟨w.heap.size + 2, 0, none⟩))) (word_get (by kernel_rfl)) (by kernel_rfl)
       obtain ⟨u33_0, u33_1, u33_2, u33_3, y33, i33⟩ : VR (pN xn0 xd0 xn1 xd1 yn0 yd0 yn2 yd2) (pD xd0 xd1 yd0 yd2) (y 33) W := hV (20, 33, VR (pN xn0 xd0 xn1 xd1 yn0 yd0 yn2 yd2) (pD xd0 xd1 yd0 yd2)) (word_get (by kernel_rfl)) (by kernel_rfl)
       exact .stoR (k := 0) (us := #[u33_0, u33_1, u33_2, u33_3]) (vs := #[u33_0, u33_1, u33_2, u33_3, .bool false, .slice none 0 0, .bool false, .slice none 0 0, .bool false, .slice none 0 0, .bool false, .slice none 0 0, .bool false, .slice none 0 0, .bool false, .slice none 0 0]) rfl (fgt hV 22 rfl) ((fr_in (by kernel_rfl)).trans y33) (ICs.fit (l := [(_, _, _), (_, _, _)]) ⟨i33.1, i33.2, trivial⟩ rfl) hc hN rfl (Nat.le_of_ble_eq_true rfl) rfl (by kernel_rfl) fun W' hC hN' hO => hK W' ⟨⟨_, ⟨_, _, _, _, y33, rfl⟩, hC⟩, hN'⟩ hO
     intro y W1 hB hE hO hV hX hA
     have y13 : y 13 = .int .i64 0 := hV (0, 13, VC (.int .i64 0)) (word_get (by kernel_rfl))
     have y14 : y 14 = .int .i64 0 := hV (1, 14, VC (.int .i64 0)) (word_get (by kernel_rfl))
     have y15 : y 15 = .int .i64 0 := hV (2, 15, VC (.int .i64 0)) (word_get (by kernel_rfl))
     have y16 : y 16 = .pointer (some ⟨w.heap.size, 0, none⟩) := hV (3, 16, VC (.pointer (some ⟨w.heap.size, 0, none⟩))) (word_get (by kernel_rfl))
     have y17 : y 17 = .pointer (some ⟨w.heap.size, 0, none⟩) := hV (4, 17, VC (.pointer (some ⟨w.heap.size, 0, none⟩))) (word_get (by kernel_rfl))
     have y18 : y 18 = .agg #[xv0, xv1, xv2, xv3] := hV (5, 18, VC (.agg #[xv0, xv1, xv2, xv3])) (word_get (by kernel_rfl))
     have y19 : y 19 = .int .i64 0 := hV (6, 19, VC (.int .i64 0)) (word_get (by kernel_rfl))
     have y20 : y 20 = .pointer (some ⟨w.heap.size + 1, 0, none⟩) := hV (7, 20, VC (.pointer (some ⟨w.heap.size + 1, 0, none⟩))) (word_get (by kernel_rfl))
     have y21 : y 21 = .pointer (some ⟨w.heap.size + 1, 0, none⟩) := hV (8, 21, VC (.pointer (some ⟨w.heap.size + 1, 0, none⟩))) (word_get (by kernel_rfl))
     have y22 : y 22 = .agg #[yv0, yv1, yv2, yv3] := hV (9, 22, VC (.agg #[yv0, yv1, yv2, yv3])) (word_get (by kernel_rfl))
     obtain ⟨u23_0, u23_1, u23_2, u23_3, y23, j23⟩ : VR (xn0 * yn0) (xd0 * yd0) (y 23) W1 := hV (10, 23, VR (xn0 * yn0) (xd0 * yd0)) (word_get (by kernel_rfl))
     have J23 := lhd j23; clear j23
     have y24 : y 24 = .int .i64 0 := hV (11, 24, VC (.int .i64 0)) (word_get (by kernel_rfl))
     have y25 : y 25 = .pointer (some ⟨w.heap.size, 0, none⟩) := hV (12, 25, VC (.pointer (some ⟨w.heap.size, 0, none⟩))) (word_get (by kernel_rfl))
     have y26 : y 26 = .pointer (some ⟨w.heap.size, 4, none⟩) := hV (13, 26, VC (.pointer (some ⟨w.heap.size, 4, none⟩))) (word_get (by kernel_rfl))
     have y27 : y 27 = .agg #[xv4, xv5, xv6, xv7] := hV (14, 27, VC (.agg #[xv4, xv5, xv6, xv7])) (word_get (by kernel_rfl))
     have y28 : y 28 = .int .i64 0 := hV (15, 28, VC (.int .i64 0)) (word_get (by kernel_rfl))
     have y29 : y 29 = .pointer (some ⟨w.heap.size + 1, 8, none⟩) := hV (16, 29, VC (.pointer (some ⟨w.heap.size + 1, 8, none⟩))) (word_get (by kernel_rfl))
     have y30 : y 30 = .pointer (some ⟨w.heap.size + 1, 8, none⟩) := hV (17, 30, VC (.pointer (some ⟨w.heap.size + 1, 8, none⟩))) (word_get (by kernel_rfl))
     have y31 : y 31 = .agg #[yv8, yv9, yv10, yv11] := hV (18, 31, VC (.agg #[yv8, yv9, yv10, yv11])) (word_get (by kernel_rfl))
     obtain ⟨u32_0, u32_1, u32_2, u32_3, y32, j32⟩ : VR (xn1 * yn2) (xd1 * yd2) (y 32) W1 := hV (19, 32, VR (xn1 * yn2) (xd1 * yd2)) (word_get (by kernel_rfl))
     have J32 := lhd j32; clear j32
     obtain ⟨u33_0, u33_1, u33_2, u33_3, y33, j33⟩ : VR (pN xn0 xd0 xn1 xd1 yn0 yd0 yn2 yd2) (pD xd0 xd1 yd0 yd2) (y 33) W1 := hV (20, 33, VR (pN xn0 xd0 xn1 xd1 yn0 yd0 yn2 yd2) (pD xd0 xd1 yd0 yd2)) (word_get (by kernel_rfl))
     have J33 := lhd j33; clear j33
     have y34 : y 34 = .pointer (some ⟨w.heap.size + 2, 0, none⟩) := hV (21, 34, VC (.pointer (some ⟨w.heap.size + 2, 0, none⟩))) (word_get (by kernel_rfl))
     have y35 : y 35 = .pointer (some ⟨w.heap.size + 2, 0, none⟩) := hV (22, 35, VC (.pointer (some ⟨w.heap.size + 2, 0, none⟩))) (word_get (by kernel_rfl))
     obtain ⟨⟨ov0, ⟨xa0, xa1, xa2, xa3, oe0, oz0⟩, ho0⟩, hno0⟩ := (hO _ lm0).2 (by simp)
     dsimp only at oe0 oz0 ho0
     subst oz0
     rw [y33] at oe0; simp only [Value.agg.injEq, Array.mk.injEq, List.cons.injEq, and_true] at oe0; obtain ⟨rfl, rfl, rfl, rfl⟩ := oe0
     have ho1 := (hO _ lm1).1 rfl
     dsimp only at ho1
     have ho2 := (hO _ lm2).1 rfl
     dsimp only at ho2
     have HNo0 := lhd hno0; clear hno0
     dsimp only at HNo0
     have HB1 := lhd (show Bx w [(w.heap.size + 2, #[u33_0, u33_1, u33_2, u33_3, .bool false, .slice none 0 0, .bool false, .slice none 0 0, .bool false, .slice none 0 0, .bool false, .slice none 0 0, .bool false, .slice none 0 0, .bool false, .slice none 0 0]), (w.heap.size + 1, #[yv0, yv1, yv2, yv3, yv4, yv5, yv6, yv7, yv8, yv9, yv10, yv11, yv12, yv13, yv14, yv15]), (w.heap.size, #[xv0, xv1, xv2, xv3, xv4, xv5, xv6, xv7, xv8, xv9, xv10, xv11, xv12, xv13, xv14, xv15])] W1 from ((((Bx.nil (HB.out.below.trans hB)).cons (HB.out.own _ lm2).1 ho2).cons (HB.out.own _ lm1).1 ho1).cons (HB.out.own _ lm0).1 ho0))
     have HE1 := lhd hE
     simp only [fr, putAll, List.foldl_cons, List.foldl_nil, List.setIfInBounds_toArray, List.set_cons_zero, List.set_cons_succ]
     simp only [y13, y14, y15, y16, y17, y18, y19, y20, y21, y22, y23, y24, y25, y26, y27, y28, y29, y30, y31, y32, y33, y34, y35]
     clear y13 y14 y15 y16 y17 y18 y19 y20 y21 y22 y23 y24 y25 y26 y27 y28 y29 y30 y31 y32 y33 y34 y35  hB hE hO hV hX hA ho0 ho1 ho2
     have hi1 := HE1.out.2.2
     clear HB HN hi hxy
     obtain ⟨j0, j1⟩ := J33.out
     have HI1 := lhd (show ICs W1 [(u33_0, u33_1, pN xn0 xd0 xn1 xd1 yn0 yd0 yn2 yd2), (u33_2, u33_3, pD xd0 xd1 yd0 yd2)] from ⟨j0, j1, trivial⟩)
     clear hi1 j0 j1 HE1
     go_wp2_with fail
     exact ⟨⟨1, by first | rfl | go_num, by omega, by show St 1 W1; rw [T1.out]; exact ⟨_, _, _, _, HB1.out, HNo0.out, HI1.out⟩⟩, by simp [intOf]⟩
    by_cases m1 : m = 1
    ·subst m1
     replace hst : St 1 wr := hst
     rw [T1.out] at hst
     obtain ⟨r0_0, r0_1, r0_2, r0_3, hb, hn, hi⟩ := hst
     have HB := lhd hb; have HN := lhd hn; clear hb hn hm
     have hxy := hXY.out _ HB.out.below
     go_upto_region 7 with fail
     refine wp_region_full (w.heap.size) [(0, 13, VC (.int .i64 0)), (1, 14, VC (.int .i64 1)), (2, 15, VC (.int .i64 0)), (3, 16, VC (.pointer (some ⟨w.heap.size, 0, none⟩))), (4, 17, VC (.pointer (some ⟨w.heap.size, 0, none⟩))), (5, 18, VC (.agg #[xv0, xv1, xv2, xv3])), (6, 19, VC (.int .i64 1)), (7, 20, VC (.pointer (some ⟨w.heap.size + 1, 0, none⟩))), (8, 21, VC (.pointer (some ⟨w.heap.size + 1, 4, none⟩))), (9, 22, VC (.agg #[yv4, yv5, yv6, yv7])), (10, 23, VR (xn0 * yn1) (xd0 * yd1)), (11, 24, VC (.int .i64 0)), (12, 25, VC (.pointer (some ⟨w.heap.size, 0, none⟩))), (13, 26, VC (.pointer (some ⟨w.heap.size, 4, none⟩))), (14, 27, VC (.agg #[xv4, xv5, xv6, xv7])), (15, 28, VC (.int .i64 1)), (16, 29, VC (.pointer (some ⟨w.heap.size + 1, 8, none⟩))), (17, 30, VC (.pointer (some ⟨w.heap.size + 1, 12, none⟩))), (18, 31, VC (.agg #[yv12, yv13, yv14, yv15])), (19, 32, VR (xn1 * yn3) (xd1 * yd3)), (20, 33, VR (pN xn0 xd0 xn1 xd1 yn1 yd1 yn3 yd3) (pD xd0 xd1 yd1 yd3)), (21, 34, VC (.pointer (some ⟨w.heap.size + 2, 0, none⟩))), (22, 35, VC (.pointer (some ⟨w.heap.size + 2, 4, none⟩)))] [] [⟨w.heap.size + 2, 23, 20, 33, #[r0_0, r0_1, r0_2, r0_3, .bool false, .slice none 0 0, .bool false, .slice none 0 0, .bool false, .slice none 0 0, .bool false, .slice none 0 0, .bool false, .slice none 0 0, .bool false, .slice none 0 0], fun v vs => ∃ xa0 xa1 xa2 xa3, v = .agg #[xa0, xa1, xa2, xa3] ∧ vs = #[r0_0, r0_1, r0_2, r0_3, xa0, xa1, xa2, xa3, .bool false, .slice none 0 0, .bool false, .slice none 0 0, .bool false, .slice none 0 0, .bool false, .slice none 0 0]⟩, ⟨w.heap.size + 1, 999, 999, 999, #[yv0, yv1, yv2, yv3, yv4, yv5, yv6, yv7, yv8, yv9, yv10, yv11, yv12, yv13, yv14, yv15], fun v vs => v = .agg vs⟩, ⟨w.heap.size, 999, 999, 999, #[xv0, xv1, xv2, xv3, xv4, xv5, xv6, xv7, xv8, xv9, xv10, xv11, xv12, xv13, xv14, xv15], fun v vs => v = .agg vs⟩] (fun W => ICs W [(xv0, xv1, xn0), (xv2, xv3, xd0), (xv4, xv5, xn1), (xv6, xv7, xd1), (xv8, xv9, xn2), (xv10, xv11, xd2), (xv12, xv13, xn3), (xv14, xv15, xd3)] ∧ ICs W [(yv0, yv1, yn0), (yv2, yv3, yd0), (yv4, yv5, yn1), (yv6, yv7, yd1), (yv8, yv9, yn2), (yv10, yv11, yd2), (yv12, yv13, yn3), (yv14, yv15, yd3)] ∧ ICs W [(r0_0, r0_1, pN xn0 xd0 xn1 xd1 yn0 yd0 yn2 yd2), (r0_2, r0_3, pD xd0 xd1 yd0 yd2)]) [13, 14, 15, 16, 17, 18, 19, 20, 21, 22, 23, 24, 25, 26, 27, 28, 29, 30, 31, 32, 33, 34, 35] ?_ (by kernel_rfl) (by kernel_rfl) (by kernel_rfl) (Firms.all (l := [(0, 13, VC (.int .i64 0)), (1, 14, VC (.int .i64 1)), (2, 15, VC (.int .i64 0)), (3, 16, VC (.pointer (some ⟨w.heap.size, 0, none⟩))), (4, 17, VC (.pointer (some ⟨w.heap.size, 0, none⟩))), (5, 18, VC (.agg #[xv0, xv1, xv2, xv3])), (6, 19, VC (.int .i64 1)), (7, 20, VC (.pointer (some ⟨w.heap.size + 1, 0, none⟩))), (8, 21, VC (.pointer (some ⟨w.heap.size + 1, 4, none⟩))), (9, 22, VC (.agg #[yv4, yv5, yv6, yv7])), (10, 23, VR (xn0 * yn1) (xd0 * yd1)), (11, 24, VC (.int .i64 0)), (12, 25, VC (.pointer (some ⟨w.heap.size, 0, none⟩))), (13, 26, VC (.pointer (some ⟨w.heap.size, 4, none⟩))), (14, 27, VC (.agg #[xv4, xv5, xv6, xv7])), (15, 28, VC (.int .i64 1)), (16, 29, VC (.pointer (some ⟨w.heap.size + 1, 8, none⟩))), (17, 30, VC (.pointer (some ⟨w.heap.size + 1, 12, none⟩))), (18, 31, VC (.agg #[yv12, yv13, yv14, yv15])), (19, 32, VR (xn1 * yn3) (xd1 * yd3)), (20, 33, VR (pN xn0 xd0 xn1 xd1 yn1 yd1 yn3 yd3) (pD xd0 xd1 yd1 yd3)), (21, 34, VC (.pointer (some ⟨w.heap.size + 2, 0, none⟩))), (22, 35, VC (.pointer (some ⟨w.heap.size + 2, 4, none⟩)))]) ⟨Firm.vc _, Firm.vc _, Firm.vc _, Firm.vc _, Firm.vc _, Firm.vc _, Firm.vc _, Firm.vc _, Firm.vc _, Firm.vc _, Firm.vr _ _, Firm.vc _, Firm.vc _, Firm.vc _, Firm.vc _, Firm.vc _, Firm.vc _, Firm.vc _, Firm.vc _, Firm.vr _ _, Firm.vr _ _, Firm.vc _, Firm.vc _, trivial⟩) (Firm.and3 (Firm.ics _) (Firm.ics _) (Firm.ics _)) (⟨hxy.1, hxy.2, hi⟩) ?_ ?_ ?_
     ·exact HB.out.below.size
     ·intro c hc
      simp only [List.mem_cons, List.not_mem_nil, or_false] at hc
      rcases hc with rfl | rfl | rfl
      ·exact ⟨(HB.out.own _ lm0).2, fun _ => HN.out⟩
      ·exact ⟨(HB.out.own _ lm1).2, fun h => absurd rfl h⟩
      ·exact ⟨(HB.out.own _ lm2).2, fun h => absurd rfl h⟩
     ·refine forall_ops ⟨?_, ?_, ?_, ?_, ?_, ?_, ?_, ?_, ?_, ?_, ?_, ?_, ?_, ?_, ?_, ?_, ?_, ?_, ?_, ?_, ?_, ?_, ?_, ?_, trivial⟩
      ·exact FOk.val rfl rfl rfl rfl fun _ _ _ _ _ _ => .move rfl (fou (v := .int .i64 0)) rfl
      ·exact FOk.val rfl rfl rfl rfl fun _ _ _ _ _ _ => .move rfl (fou (v := .int .i64 1)) rfl
      ·exact FOk.val rfl rfl rfl rfl fun _ _ _ _ _ _ => .move rfl (fou (v := .int .i64 0)) rfl
      ·exact FOk.val rfl rfl rfl rfl fun _ _ _ _ _ hV => .indexAddr rfl (fou (v := .pointer (some ⟨w.heap.size, 0, none⟩))) (fgt hV 2 rfl) (by kernel_rfl) rfl
      ·exact FOk.val rfl rfl rfl rfl fun _ _ _ _ _ hV => .indexAddr rfl (fgt hV 3 rfl) rfl (by kernel_rfl) rfl
      ·exact FOk.val rfl rfl rfl rfl fun _ _ _ _ hO hV => .load (g := w.heap.size) (k := 0) (n := 4) rfl (fgt hV 4 rfl) (hO _ lm2 rfl) (by simp) Tryz.underlying60 rfl (by kernel_rfl) rfl
      ·exact FOk.val rfl rfl rfl rfl fun _ _ _ _ _ _ => .move rfl (fou (v := .int .i64 1)) rfl
      ·exact FOk.val rfl rfl rfl rfl fun _ _ _ _ _ _ => .indexAddr rfl (fou (v := .pointer (some ⟨w.heap.size + 1, 0, none⟩))) rfl (by kernel_rfl) rfl
      ·exact FOk.val rfl rfl rfl rfl fun _ _ _ _ _ hV => .indexAddr rfl (fgt hV 7 rfl) (fgt hV 6 rfl) (by kernel_rfl) rfl
      ·exact FOk.val rfl rfl rfl rfl fun _ _ _ _ hO hV => .load (g := w.heap.size + 1) (k := 4) (n := 4) rfl (fgt hV 8 rfl) (hO _ lm1 rfl) (by simp) Tryz.underlying60 rfl (by kernel_rfl) rfl
      ·refine FOk.val rfl rfl rfl rfl fun _ _ _ hE _ hV => ?_
       obtain ⟨⟨X0, X1, X2, X3, X4, X5, X6, X7, -⟩, ⟨Y0, Y1, Y2, Y3, Y4, Y5, Y6, Y7, -⟩, -⟩ := hE
       exact .call Tryz.func68 (by kernel_rfl) rfl rfl rfl (map_two (fgt hV 5 rfl) (fgt hV 9 rfl)) (qtimes X0 X1 Y2 Y3 (gX _ (by simp)) (gX _ (by simp)) (gY _ (by simp)) (gY _ (by simp)) (by omega))
      ·exact FOk.val rfl rfl rfl rfl fun _ _ _ _ _ _ => .move rfl (fou (v := .int .i64 0)) rfl
      ·exact FOk.val rfl rfl rfl rfl fun _ _ _ _ _ hV => .indexAddr rfl (fou (v := .pointer (some ⟨w.heap.size, 0, none⟩))) (fgt hV 11 rfl) (by kernel_rfl) rfl
      ·exact FOk.val rfl rfl rfl rfl fun _ _ _ _ _ hV => .indexAddr rfl (fgt hV 12 rfl) rfl (by kernel_rfl) rfl
      ·exact FOk.val rfl rfl rfl rfl fun _ _ _ _ hO hV => .load (g := w.heap.size) (k := 4) (n := 4) rfl (fgt hV 13 rfl) (hO _ lm2 rfl) (by simp) Tryz.underlying60 rfl (by kernel_rfl) rfl
      ·exact FOk.val rfl rfl rfl rfl fun _ _ _ _ _ _ => .move rfl (fou (v := .int .i64 1)) rfl
      ·exact FOk.val rfl rfl rfl rfl fun _ _ _ _ _ _ => .indexAddr rfl (fou (v := .pointer (some ⟨w.heap.size + 1, 0, none⟩))) rfl (by kernel_rfl) rfl
      ·exact FOk.val rfl rfl rfl rfl fun _ _ _ _ _ hV => .indexAddr rfl (fgt hV 16 rfl) (fgt hV 15 rfl) (by kernel_rfl) rfl
      ·exact FOk.val rfl rfl rfl rfl fun _ _ _ _ hO hV => .load (g := w.heap.size + 1) (k := 12) (n := 4) rfl (fgt hV 17 rfl) (hO _ lm1 rfl) (by simp) Tryz.underlying60 rfl (by kernel_rfl) rfl
      ·refine FOk.val rfl rfl rfl rfl fun _ _ _ hE _ hV => ?_
       obtain ⟨⟨X0, X1, X2, X3, X4, X5, X6, X7, -⟩, ⟨Y0, Y1, Y2, Y3, Y4, Y5, Y6, Y7, -⟩, -⟩ := hE
       exact .call Tryz.func68 (by kernel_rfl) rfl rfl rfl (map_two (fgt hV 14 rfl) (fgt hV 18 rfl)) (qtimes X2 X3 Y6 Y7 (gX _ (by simp)) (gX _ (by simp)) (gY _ (by simp)) (gY _ (by simp)) (by omega))
      ·refine FOk.val rfl rfl rfl rfl fun _ _ _ _ _ hV => ?_
       obtain ⟨u23_0, u23_1, u23_2, u23_3, y23, i23⟩ := hget hV 10 rfl (by kernel_rfl)
       obtain ⟨u32_0, u32_1, u32_2, u32_3, y32, i32⟩ := hget hV 19 rfl (by kernel_rfl)
       exact .call Tryz.func27 (by kernel_rfl) rfl rfl rfl (map_two ((fr_in (by kernel_rfl)).trans y23) ((fr_in (by kernel_rfl)).trans y32)) (qplus i23.1 i23.2 i32.1 i32.2 ((gX (xn0) (by simp)).mul (gY (yn1) (by simp))) ((gX (xd0) (by simp)).mul (gY (yd1) (by simp))) ((gX (xn1) (by simp)).mul (gY (yn3) (by simp))) ((gX (xd1) (by simp)).mul (gY (yd3) (by simp))) (by omega))
      ·exact FOk.val rfl rfl rfl rfl fun _ _ _ _ _ hV => .indexAddr rfl (fou (v := .pointer (some ⟨w.heap.size + 2, 0, none⟩))) (fgt hV 0 rfl) (by kernel_rfl) rfl
      ·exact FOk.val rfl rfl rfl rfl fun _ _ _ _ _ hV => .indexAddr rfl (fgt hV 21 rfl) (fgt hV 1 rfl) (by kernel_rfl) rfl
      ·refine .inl ⟨.inl rfl, .inr (.inr (.inr ⟨rfl, word_none (by kernel_rfl), ?_, _, lm0, rfl, ?_, by simp, ?_, by kernel_rfl, fun y W hB hV hc hN K Q' hK => ?_⟩))⟩
       ·exact fun b hb => by simp at hb
       ·first | (with_reducible exact Nat.le_refl _) | assumption | omega | (simp; done)
       ·intro d hd
        simp only [List.mem_cons, List.not_mem_nil, or_false] at hd
        rcases hd with rfl | rfl | rfl
        ·exact ⟨fun _ => rfl, fun _ => rfl⟩
        ·exact ⟨fun h => absurd h (by simp), fun h => absurd h (by dsimp only; first | omega | assumption | exact Ne.symm (by assumption))⟩
        ·exact ⟨fun h => absurd h (by simp), fun h => absurd h (by dsimp only; first | omega | assumption | exact Ne.symm (by assumption))⟩
       have y35 : y 35 = .pointer (some ⟨w.heap.size + 2, 4, none⟩) := hV (22, 35, VC (.pointer (some ⟨w.heap.size + 2, 4, none⟩))) (word_get (by kernel_rfl)) (by kernel_rfl)
       obtain ⟨u33_0, u33_1, u33_2, u33_3, y33, i33⟩ : VR (pN xn0 xd0 xn1 xd1 yn1 yd1 yn3 yd3) (pD xd0 xd1 yd1 yd3) (y 33) W := hV (20, 33, VR (pN xn0 xd0 xn1 xd1 yn1 yd1 yn3 yd3) (pD xd0 xd1 yd1 yd3)) (word_get (by kernel_rfl)) (by kernel_rfl)
       exact .stoR (k := 4) (us := #[u33_0, u33_1, u33_2, u33_3]) (vs := #[r0_0, r0_1, r0_2, r0_3, u33_0, u33_1, u33_2, u33_3, .bool false, .slice none 0 0, .bool false, .slice none 0 0, .bool false, .slice none 0 0, .bool false, .slice none 0 0]) rfl (fgt hV 22 rfl) ((fr_in (by kernel_rfl)).trans y33) (ICs.fit (l := [(_, _, _), (_, _, _)]) ⟨i33.1, i33.2, trivial⟩ rfl) hc hN rfl (Nat.le_of_ble_eq_true rfl) rfl (by kernel_rfl) fun W' hC hN' hO => hK W' ⟨⟨_, ⟨_, _, _, _, y33, rfl⟩, hC⟩, hN'⟩ hO
     intro y W1 hB hE hO hV hX hA
     have y13 : y 13 = .int .i64 0 := hV (0, 13, VC (.int .i64 0)) (word_get (by kernel_rfl))
     have y14 : y 14 = .int .i64 1 := hV (1, 14, VC (.int .i64 1)) (word_get (by kernel_rfl))
     have y15 : y 15 = .int .i64 0 := hV (2, 15, VC (.int .i64 0)) (word_get (by kernel_rfl))
     have y16 : y 16 = .pointer (some ⟨w.heap.size, 0, none⟩) := hV (3, 16, VC (.pointer (some ⟨w.heap.size, 0, none⟩))) (word_get (by kernel_rfl))
     have y17 : y 17 = .pointer (some ⟨w.heap.size, 0, none⟩) := hV (4, 17, VC (.pointer (some ⟨w.heap.size, 0, none⟩))) (word_get (by kernel_rfl))
     have y18 : y 18 = .agg #[xv0, xv1, xv2, xv3] := hV (5, 18, VC (.agg #[xv0, xv1, xv2, xv3])) (word_get (by kernel_rfl))
     have y19 : y 19 = .int .i64 1 := hV (6, 19, VC (.int .i64 1)) (word_get (by kernel_rfl))
     have y20 : y 20 = .pointer (some ⟨w.heap.size + 1, 0, none⟩) := hV (7, 20, VC (.pointer (some ⟨w.heap.size + 1, 0, none⟩))) (word_get (by kernel_rfl))
     have y21 : y 21 = .pointer (some ⟨w.heap.size + 1, 4, none⟩) := hV (8, 21, VC (.pointer (some ⟨w.heap.size + 1, 4, none⟩))) (word_get (by kernel_rfl))
     have y22 : y 22 = .agg #[yv4, yv5, yv6, yv7] := hV (9, 22, VC (.agg #[yv4, yv5, yv6, yv7])) (word_get (by kernel_rfl))
     obtain ⟨u23_0, u23_1, u23_2, u23_3, y23, j23⟩ : VR (xn0 * yn1) (xd0 * yd1) (y 23) W1 := hV (10, 23, VR (xn0 * yn1) (xd0 * yd1)) (word_get (by kernel_rfl))
     have J23 := lhd j23; clear j23
     have y24 : y 24 = .int .i64 0 := hV (11, 24, VC (.int .i64 0)) (word_get (by kernel_rfl))
     have y25 : y 25 = .pointer (some ⟨w.heap.size, 0, none⟩) := hV (12, 25, VC (.pointer (some ⟨w.heap.size, 0, none⟩))) (word_get (by kernel_rfl))
     have y26 : y 26 = .pointer (some ⟨w.heap.size, 4, none⟩) := hV (13, 26, VC (.pointer (some ⟨w.heap.size, 4, none⟩))) (word_get (by kernel_rfl))
     have y27 : y 27 = .agg #[xv4, xv5, xv6, xv7] := hV (14, 27, VC (.agg #[xv4, xv5, xv6, xv7])) (word_get (by kernel_rfl))
     have y28 : y 28 = .int .i64 1 := hV (15, 28, VC (.int .i64 1)) (word_get (by kernel_rfl))
     have y29 : y 29 = .pointer (some ⟨w.heap.size + 1, 8, none⟩) := hV (16, 29, VC (.pointer (some ⟨w.heap.size + 1, 8, none⟩))) (word_get (by kernel_rfl))
     have y30 : y 30 = .pointer (some ⟨w.heap.size + 1, 12, none⟩) := hV (17, 30, VC (.pointer (some ⟨w.heap.size + 1, 12, none⟩))) (word_get (by kernel_rfl))
     have y31 : y 31 = .agg #[yv12, yv13, yv14, yv15] := hV (18, 31, VC (.agg #[yv12, yv13, yv14, yv15])) (word_get (by kernel_rfl))
     obtain ⟨u32_0, u32_1, u32_2, u32_3, y32, j32⟩ : VR (xn1 * yn3) (xd1 * yd3) (y 32) W1 := hV (19, 32, VR (xn1 * yn3) (xd1 * yd3)) (word_get (by kernel_rfl))
     have J32 := lhd j32; clear j32
     obtain ⟨u33_0, u33_1, u33_2, u33_3, y33, j33⟩ : VR (pN xn0 xd0 xn1 xd1 yn1 yd1 yn3 yd3) (pD xd0 xd1 yd1 yd3) (y 33) W1 := hV (20, 33, VR (pN xn0 xd0 xn1 xd1 yn1 yd1 yn3 yd3) (pD xd0 xd1 yd1 yd3)) (word_get (by kernel_rfl))
     have J33 := lhd j33; clear j33
     have y34 : y 34 = .pointer (some ⟨w.heap.size + 2, 0, none⟩) := hV (21, 34, VC (.pointer (some ⟨w.heap.size + 2, 0, none⟩))) (word_get (by kernel_rfl))
     have y35 : y 35 = .pointer (some ⟨w.heap.size + 2, 4, none⟩) := hV (22, 35, VC (.pointer (some ⟨w.heap.size + 2, 4, none⟩))) (word_get (by kernel_rfl))
     obtain ⟨⟨ov0, ⟨xa0, xa1, xa2, xa3, oe0, oz0⟩, ho0⟩, hno0⟩ := (hO _ lm0).2 (by simp)
     dsimp only at oe0 oz0 ho0
     subst oz0
     rw [y33] at oe0; simp only [Value.agg.injEq, Array.mk.injEq, List.cons.injEq, and_true] at oe0; obtain ⟨rfl, rfl, rfl, rfl⟩ := oe0
     have ho1 := (hO _ lm1).1 rfl
     dsimp only at ho1
     have ho2 := (hO _ lm2).1 rfl
     dsimp only at ho2
     have HNo0 := lhd hno0; clear hno0
     dsimp only at HNo0
     have HB1 := lhd (show Bx w [(w.heap.size + 2, #[r0_0, r0_1, r0_2, r0_3, u33_0, u33_1, u33_2, u33_3, .bool false, .slice none 0 0, .bool false, .slice none 0 0, .bool false, .slice none 0 0, .bool false, .slice none 0 0]), (w.heap.size + 1, #[yv0, yv1, yv2, yv3, yv4, yv5, yv6, yv7, yv8, yv9, yv10, yv11, yv12, yv13, yv14, yv15]), (w.heap.size, #[xv0, xv1, xv2, xv3, xv4, xv5, xv6, xv7, xv8, xv9, xv10, xv11, xv12, xv13, xv14, xv15])] W1 from ((((Bx.nil (HB.out.below.trans hB)).cons (HB.out.own _ lm2).1 ho2).cons (HB.out.own _ lm1).1 ho1).cons (HB.out.own _ lm0).1 ho0))
     have HE1 := lhd hE
     simp only [fr, putAll, List.foldl_cons, List.foldl_nil, List.setIfInBounds_toArray, List.set_cons_zero, List.set_cons_succ]
     simp only [y13, y14, y15, y16, y17, y18, y19, y20, y21, y22, y23, y24, y25, y26, y27, y28, y29, y30, y31, y32, y33, y34, y35]
     clear y13 y14 y15 y16 y17 y18 y19 y20 y21 y22 y23 y24 y25 y26 y27 y28 y29 y30 y31 y32 y33 y34 y35  hB hE hO hV hX hA ho0 ho1 ho2
     have hi1 := HE1.out.2.2
     clear HB HN hi hxy
     obtain ⟨j0, j1⟩ := J33.out
     have HI1 := lhd (show ICs W1 [(r0_0, r0_1, pN xn0 xd0 xn1 xd1 yn0 yd0 yn2 yd2), (r0_2, r0_3, pD xd0 xd1 yd0 yd2), (u33_0, u33_1, pN xn0 xd0 xn1 xd1 yn1 yd1 yn3 yd3), (u33_2, u33_3, pD xd0 xd1 yd1 yd3)] from ⟨hi1.1, hi1.2.1, j0, j1, trivial⟩)
     clear hi1 j0 j1 HE1
     go_wp2_with fail
     exact ⟨⟨2, by first | rfl | go_num, by omega, by show St 2 W1; rw [T2.out]; exact ⟨r0_0, r0_1, r0_2, r0_3, _, _, _, _, HB1.out, HNo0.out, HI1.out⟩⟩, by simp [intOf]⟩
    obtain rfl : m = 2 := by omega
    clear m0 m1 hm
    go_wp2_with fail
    exact ⟨⟨1, by first | rfl | go_num, by omega, hst⟩, by simp [intOf]⟩
  by_cases k1 : k = 1
  ·subst k1
   clear hk
   obtain ⟨wo, hwo⟩ : ∃ wo : World, wo = wr := ⟨_, rfl⟩; subst hwo
   go_wp2_with fail
   go_loopw [10] (fun s10 wr => ∃ m : Nat, s10 = .int .i64 m ∧ m ≤ 2 ∧ St (2 + m) wr) (fun s _ => 2 - (intOf s).toNat)
   case atStart => exact ⟨0, rfl, by omega, hst⟩
   case round =>
    clear hst
    obtain ⟨m, rfl, hm, hst⟩ := hrel
    by_cases m0 : m = 0
    ·subst m0
     replace hst : St 2 wr := hst
     rw [T2.out] at hst
     obtain ⟨r0_0, r0_1, r0_2, r0_3, r1_0, r1_1, r1_2, r1_3, hb, hn, hi⟩ := hst
     have HB := lhd hb; have HN := lhd hn; clear hb hn hm
     have hxy := hXY.out _ HB.out.below
     go_upto_region 7 with fail
     refine wp_region_full (w.heap.size) [(0, 13, VC (.int .i64 1)), (1, 14, VC (.int .i64 0)), (2, 15, VC (.int .i64 1)), (3, 16, VC (.pointer (some ⟨w.heap.size, 8, none⟩))), (4, 17, VC (.pointer (some ⟨w.heap.size, 8, none⟩))), (5, 18, VC (.agg #[xv8, xv9, xv10, xv11])), (6, 19, VC (.int .i64 0)), (7, 20, VC (.pointer (some ⟨w.heap.size + 1, 0, none⟩))), (8, 21, VC (.pointer (some ⟨w.heap.size + 1, 0, none⟩))), (9, 22, VC (.agg #[yv0, yv1, yv2, yv3])), (10, 23, VR (xn2 * yn0) (xd2 * yd0)), (11, 24, VC (.int .i64 1)), (12, 25, VC (.pointer (some ⟨w.heap.size, 8, none⟩))), (13, 26, VC (.pointer (some ⟨w.heap.size, 12, none⟩))), (14, 27, VC (.agg #[xv12, xv13, xv14, xv15])), (15, 28, VC (.int .i64 0)), (16, 29, VC (.pointer (some ⟨w.heap.size + 1, 8, none⟩))), (17, 30, VC (.pointer (some ⟨w.heap.size + 1, 8, none⟩))), (18, 31, VC (.agg #[yv8, yv9, yv10, yv11])), (19, 32, VR (xn3 * yn2) (xd3 * yd2)), (20, 33, VR (pN xn2 xd2 xn3 xd3 yn0 yd0 yn2 yd2) (pD xd2 xd3 yd0 yd2)), (21, 34, VC (.pointer (some ⟨w.heap.size + 2, 8, none⟩))), (22, 35, VC (.pointer (some ⟨w.heap.size + 2, 8, none⟩)))] [] [⟨w.heap.size + 2, 23, 20, 33, #[r0_0, r0_1, r0_2, r0_3, r1_0, r1_1, r1_2, r1_3, .bool false, .slice none 0 0, .bool false, .slice none 0 0, .bool false, .slice none 0 0, .bool false, .slice none 0 0], fun v vs => ∃ xa0 xa1 xa2 xa3, v = .agg #[xa0, xa1, xa2, xa3] ∧ vs = #[r0_0, r0_1, r0_2, r0_3, r1_0, r1_1, r1_2, r1_3, xa0, xa1, xa2, xa3, .bool false, .slice none 0 0, .bool false, .slice none 0 0]⟩, ⟨w.heap.size + 1, 999, 999, 999, #[yv0, yv1, yv2, yv3, yv4, yv5, yv6, yv7, yv8, yv9, yv10, yv11, yv12, yv13, yv14, yv15], fun v vs => v = .agg vs⟩, ⟨w.heap.size, 999, 999, 999, #[xv0, xv1, xv2, xv3, xv4, xv5, xv6, xv7, xv8, xv9, xv10, xv11, xv12, xv13, xv14, xv15], fun v vs => v = .agg vs⟩] (fun W => ICs W [(xv0, xv1, xn0), (xv2, xv3, xd0), (xv4, xv5, xn1), (xv6, xv7, xd1), (xv8, xv9, xn2), (xv10, xv11, xd2), (xv12, xv13, xn3), (xv14, xv15, xd3)] ∧ ICs W [(yv0, yv1, yn0), (yv2, yv3, yd0), (yv4, yv5, yn1), (yv6, yv7, yd1), (yv8, yv9, yn2), (yv10, yv11, yd2), (yv12, yv13, yn3), (yv14, yv15, yd3)] ∧ ICs W [(r0_0, r0_1, pN xn0 xd0 xn1 xd1 yn0 yd0 yn2 yd2), (r0_2, r0_3, pD xd0 xd1 yd0 yd2), (r1_0, r1_1, pN xn0 xd0 xn1 xd1 yn1 yd1 yn3 yd3), (r1_2, r1_3, pD xd0 xd1 yd1 yd3)]) [13, 14, 15, 16, 17, 18, 19, 20, 21, 22, 23, 24, 25, 26, 27, 28, 29, 30, 31, 32, 33, 34, 35] ?_ (by kernel_rfl) (by kernel_rfl) (by kernel_rfl) (Firms.all (l := [(0, 13, VC (.int .i64 1)), (1, 14, VC (.int .i64 0)), (2, 15, VC (.int .i64 1)), (3, 16, VC (.pointer (some ⟨w.heap.size, 8, none⟩))), (4, 17, VC (.pointer (some ⟨w.heap.size, 8, none⟩))), (5, 18, VC (.agg #[xv8, xv9, xv10, xv11])), (6, 19, VC (.int .i64 0)), (7, 20, VC (.pointer (some ⟨w.heap.size + 1, 0, none⟩))), (8, 21, VC (.pointer (some ⟨w.heap.size + 1, 0, none⟩))), (9, 22, VC (.agg #[yv0, yv1, yv2, yv3])), (10, 23, VR (xn2 * yn0) (xd2 * yd0)), (11, 24, VC (.int .i64 1)), (12, 25, VC (.pointer (some ⟨w.heap.size, 8, none⟩))), (13, 26, VC (.pointer (some ⟨w.heap.size, 12, none⟩))), (14, 27, VC (.agg #[xv12, xv13, xv14, xv15])), (15, 28, VC (.int .i64 0)), (16, 29, VC (.pointer (some ⟨w.heap.size + 1, 8, none⟩))), (17, 30, VC (.pointer (some ⟨w.heap.size + 1, 8, none⟩))), (18, 31, VC (.agg #[yv8, yv9, yv10, yv11])), (19, 32, VR (xn3 * yn2) (xd3 * yd2)), (20, 33, VR (pN xn2 xd2 xn3 xd3 yn0 yd0 yn2 yd2) (pD xd2 xd3 yd0 yd2)), (21, 34, VC (.pointer (some ⟨w.heap.size + 2, 8, none⟩))), (22, 35, VC (.pointer (some ⟨w.heap.size + 2, 8, none⟩)))]) ⟨Firm.vc _, Firm.vc _, Firm.vc _, Firm.vc _, Firm.vc _, Firm.vc _, Firm.vc _, Firm.vc _, Firm.vc _, Firm.vc _, Firm.vr _ _, Firm.vc _, Firm.vc _, Firm.vc _, Firm.vc _, Firm.vc _, Firm.vc _, Firm.vc _, Firm.vc _, Firm.vr _ _, Firm.vr _ _, Firm.vc _, Firm.vc _, trivial⟩) (Firm.and3 (Firm.ics _) (Firm.ics _) (Firm.ics _)) (⟨hxy.1, hxy.2, hi⟩) ?_ ?_ ?_
     ·exact HB.out.below.size
     ·intro c hc
      simp only [List.mem_cons, List.not_mem_nil, or_false] at hc
      rcases hc with rfl | rfl | rfl
      ·exact ⟨(HB.out.own _ lm0).2, fun _ => HN.out⟩
      ·exact ⟨(HB.out.own _ lm1).2, fun h => absurd rfl h⟩
      ·exact ⟨(HB.out.own _ lm2).2, fun h => absurd rfl h⟩
     ·refine forall_ops ⟨?_, ?_, ?_, ?_, ?_, ?_, ?_, ?_, ?_, ?_, ?_, ?_, ?_, ?_, ?_, ?_, ?_, ?_, ?_, ?_, ?_, ?_, ?_, ?_, trivial⟩
      ·exact FOk.val rfl rfl rfl rfl fun _ _ _ _ _ _ => .move rfl (fou (v := .int .i64 1)) rfl
      ·exact FOk.val rfl rfl rfl rfl fun _ _ _ _ _ _ => .move rfl (fou (v := .int .i64 0)) rfl
      ·exact FOk.val rfl rfl rfl rfl fun _ _ _ _ _ _ => .move rfl (fou (v := .int .i64 1)) rfl
      ·exact FOk.val rfl rfl rfl rfl fun _ _ _ _ _ hV => .indexAddr rfl (fou (v := .pointer (some ⟨w.heap.size, 0, none⟩))) (fgt hV 2 rfl) (by kernel_rfl) rfl
      ·exact FOk.val rfl rfl rfl rfl fun _ _ _ _ _ hV => .indexAddr rfl (fgt hV 3 rfl) rfl (by kernel_rfl) rfl
      ·exact FOk.val rfl rfl rfl rfl fun _ _ _ _ hO hV => .load (g := w.heap.size) (k := 8) (n := 4) rfl (fgt hV 4 rfl) (hO _ lm2 rfl) (by simp) Tryz.underlying60 rfl (by kernel_rfl) rfl
      ·exact FOk.val rfl rfl rfl rfl fun _ _ _ _ _ _ => .move rfl (fou (v := .int .i64 0)) rfl
      ·exact FOk.val rfl rfl rfl rfl fun _ _ _ _ _ _ => .indexAddr rfl (fou (v := .pointer (some ⟨w.heap.size + 1, 0, none⟩))) rfl (by kernel_rfl) rfl
      ·exact FOk.val rfl rfl rfl rfl fun _ _ _ _ _ hV => .indexAddr rfl (fgt hV 7 rfl) (fgt hV 6 rfl) (by kernel_rfl) rfl
      ·exact FOk.val rfl rfl rfl rfl fun _ _ _ _ hO hV => .load (g := w.heap.size + 1) (k := 0) (n := 4) rfl (fgt hV 8 rfl) (hO _ lm1 rfl) (by simp) Tryz.underlying60 rfl (by kernel_rfl) rfl
      ·refine FOk.val rfl rfl rfl rfl fun _ _ _ hE _ hV => ?_
       obtain ⟨⟨X0, X1, X2, X3, X4, X5, X6, X7, -⟩, ⟨Y0, Y1, Y2, Y3, Y4, Y5, Y6, Y7, -⟩, -⟩ := hE
       exact .call Tryz.func68 (by kernel_rfl) rfl rfl rfl (map_two (fgt hV 5 rfl) (fgt hV 9 rfl)) (qtimes X4 X5 Y0 Y1 (gX _ (by simp)) (gX _ (by simp)) (gY _ (by simp)) (gY _ (by simp)) (by omega))
      ·exact FOk.val rfl rfl rfl rfl fun _ _ _ _ _ _ => .move rfl (fou (v := .int .i64 1)) rfl
      ·exact FOk.val rfl rfl rfl rfl fun _ _ _ _ _ hV => .indexAddr rfl (fou (v := .pointer (some ⟨w.heap.size, 0, none⟩))) (fgt hV 11 rfl) (by kernel_rfl) rfl
      ·exact FOk.val rfl rfl rfl rfl fun _ _ _ _ _ hV => .indexAddr rfl (fgt hV 12 rfl) rfl (by kernel_rfl) rfl
      ·exact FOk.val rfl rfl rfl rfl fun _ _ _ _ hO hV => .load (g := w.heap.size) (k := 12) (n := 4) rfl (fgt hV 13 rfl) (hO _ lm2 rfl) (by simp) Tryz.underlying60 rfl (by kernel_rfl) rfl
      ·exact FOk.val rfl rfl rfl rfl fun _ _ _ _ _ _ => .move rfl (fou (v := .int .i64 0)) rfl
      ·exact FOk.val rfl rfl rfl rfl fun _ _ _ _ _ _ => .indexAddr rfl (fou (v := .pointer (some ⟨w.heap.size + 1, 0, none⟩))) rfl (by kernel_rfl) rfl
      ·exact FOk.val rfl rfl rfl rfl fun _ _ _ _ _ hV => .indexAddr rfl (fgt hV 16 rfl) (fgt hV 15 rfl) (by kernel_rfl) rfl
      ·exact FOk.val rfl rfl rfl rfl fun _ _ _ _ hO hV => .load (g := w.heap.size + 1) (k := 8) (n := 4) rfl (fgt hV 17 rfl) (hO _ lm1 rfl) (by simp) Tryz.underlying60 rfl (by kernel_rfl) rfl
      ·refine FOk.val rfl rfl rfl rfl fun _ _ _ hE _ hV => ?_
       obtain ⟨⟨X0, X1, X2, X3, X4, X5, X6, X7, -⟩, ⟨Y0, Y1, Y2, Y3, Y4, Y5, Y6, Y7, -⟩, -⟩ := hE
       exact .call Tryz.func68 (by kernel_rfl) rfl rfl rfl (map_two (fgt hV 14 rfl) (fgt hV 18 rfl)) (qtimes X6 X7 Y4 Y5 (gX _ (by simp)) (gX _ (by simp)) (gY _ (by simp)) (gY _ (by simp)) (by omega))
      ·refine FOk.val rfl rfl rfl rfl fun _ _ _ _ _ hV => ?_
       obtain ⟨u23_0, u23_1, u23_2, u23_3, y23, i23⟩ := hget hV 10 rfl (by kernel_rfl)
       obtain ⟨u32_0, u32_1, u32_2, u32_3, y32, i32⟩ := hget hV 19 rfl (by kernel_rfl)
       exact .call Tryz.func27 (by kernel_rfl) rfl rfl rfl (map_two ((fr_in (by kernel_rfl)).trans y23) ((fr_in (by kernel_rfl)).trans y32)) (qplus i23.1 i23.2 i32.1 i32.2 ((gX (xn2) (by simp)).mul (gY (yn0) (by simp))) ((gX (xd2) (by simp)).mul (gY (yd0) (by simp))) ((gX (xn3) (by simp)).mul (gY (yn2) (by simp))) ((gX (xd3) (by simp)).mul (gY (yd2) (by simp))) (by omega))
      ·exact FOk.val rfl rfl rfl rfl fun _ _ _ _ _ hV => .indexAddr rfl (fou (v := .pointer (some ⟨w.heap.size + 2, 0, none⟩))) (fgt hV 0 rfl) (by kernel_rfl) rfl
      ·exact FOk.val rfl rfl rfl rfl fun _ _ _ _ _ hV => .indexAddr rfl (fgt hV 21 rfl) (fgt hV 1 rfl) (by kernel_rfl) rfl
      ·refine .inl ⟨.inl rfl, .inr (.inr (.inr ⟨rfl, word_none (by kernel_rfl), ?_, _, lm0, rfl, ?_, by simp, ?_, by kernel_rfl, fun y W hB hV hc hN K Q' hK => ?_⟩))⟩
       ·exact fun b hb => by simp at hb
       ·first | (with_reducible exact Nat.le_refl _) | assumption | omega | (simp; done)
       ·intro d hd
        simp only [List.mem_cons, List.not_mem_nil, or_false] at hd
        rcases hd with rfl | rfl | rfl
        ·exact ⟨fun _ => rfl, fun _ => rfl⟩
        ·exact ⟨fun h => absurd h (by simp), fun h => absurd h (by dsimp only; first | omega | assumption | exact Ne.symm (by assumption))⟩
        ·exact ⟨fun h => absurd h (by simp), fun h => absurd h (by dsimp only; first | omega | assumption | exact Ne.symm (by assumption))⟩
       have y35 : y 35 = .pointer (some ⟨w.heap.size + 2, 8, none⟩) := hV (22, 35, VC (.pointer (some ⟨w.heap.size + 2, 8, none⟩))) (word_get (by kernel_rfl)) (by kernel_rfl)
       obtain ⟨u33_0, u33_1, u33_2, u33_3, y33, i33⟩ : VR (pN xn2 xd2 xn3 xd3 yn0 yd0 yn2 yd2) (pD xd2 xd3 yd0 yd2) (y 33) W := hV (20, 33, VR (pN xn2 xd2 xn3 xd3 yn0 yd0 yn2 yd2) (pD xd2 xd3 yd0 yd2)) (word_get (by kernel_rfl)) (by kernel_rfl)
       exact .stoR (k := 8) (us := #[u33_0, u33_1, u33_2, u33_3]) (vs := #[r0_0, r0_1, r0_2, r0_3, r1_0, r1_1, r1_2, r1_3, u33_0, u33_1, u33_2, u33_3, .bool false, .slice none 0 0, .bool false, .slice none 0 0]) rfl (fgt hV 22 rfl) ((fr_in (by kernel_rfl)).trans y33) (ICs.fit (l := [(_, _, _), (_, _, _)]) ⟨i33.1, i33.2, trivial⟩ rfl) hc hN rfl (Nat.le_of_ble_eq_true rfl) rfl (by kernel_rfl) fun W' hC hN' hO => hK W' ⟨⟨_, ⟨_, _, _, _, y33, rfl⟩, hC⟩, hN'⟩ hO
     intro y W1 hB hE hO hV hX hA
     have y13 : y 13 = .int .i64 1 := hV (0, 13, VC (.int .i64 1)) (word_get (by kernel_rfl))
     have y14 : y 14 = .int .i64 0 := hV (1, 14, VC (.int .i64 0)) (word_get (by kernel_rfl))
     have y15 : y 15 = .int .i64 1 := hV (2, 15, VC (.int .i64 1)) (word_get (by kernel_rfl))
     have y16 : y 16 = .pointer (some ⟨w.heap.size, 8, none⟩) := hV (3, 16, VC (.pointer (some ⟨w.heap.size, 8, none⟩))) (word_get (by kernel_rfl))
     have y17 : y 17 = .pointer (some ⟨w.heap.size, 8, none⟩) := hV (4, 17, VC (.pointer (some ⟨w.heap.size, 8, none⟩))) (word_get (by kernel_rfl))
     have y18 : y 18 = .agg #[xv8, xv9, xv10, xv11] := hV (5, 18, VC (.agg #[xv8, xv9, xv10, xv11])) (word_get (by kernel_rfl))
     have y19 : y 19 = .int .i64 0 := hV (6, 19, VC (.int .i64 0)) (word_get (by kernel_rfl))
     have y20 : y 20 = .pointer (some ⟨w.heap.size + 1, 0, none⟩) := hV (7, 20, VC (.pointer (some ⟨w.heap.size + 1, 0, none⟩))) (word_get (by kernel_rfl))
     have y21 : y 21 = .pointer (some ⟨w.heap.size + 1, 0, none⟩) := hV (8, 21, VC (.pointer (some ⟨w.heap.size + 1, 0, none⟩))) (word_get (by kernel_rfl))
     have y22 : y 22 = .agg #[yv0, yv1, yv2, yv3] := hV (9, 22, VC (.agg #[yv0, yv1, yv2, yv3])) (word_get (by kernel_rfl))
     obtain ⟨u23_0, u23_1, u23_2, u23_3, y23, j23⟩ : VR (xn2 * yn0) (xd2 * yd0) (y 23) W1 := hV (10, 23, VR (xn2 * yn0) (xd2 * yd0)) (word_get (by kernel_rfl))
     have J23 := lhd j23; clear j23
     have y24 : y 24 = .int .i64 1 := hV (11, 24, VC (.int .i64 1)) (word_get (by kernel_rfl))
     have y25 : y 25 = .pointer (some ⟨w.heap.size, 8, none⟩) := hV (12, 25, VC (.pointer (some ⟨w.heap.size, 8, none⟩))) (word_get (by kernel_rfl))
     have y26 : y 26 = .pointer (some ⟨w.heap.size, 12, none⟩) := hV (13, 26, VC (.pointer (some ⟨w.heap.size, 12, none⟩))) (word_get (by kernel_rfl))
     have y27 : y 27 = .agg #[xv12, xv13, xv14, xv15] := hV (14, 27, VC (.agg #[xv12, xv13, xv14, xv15])) (word_get (by kernel_rfl))
     have y28 : y 28 = .int .i64 0 := hV (15, 28, VC (.int .i64 0)) (word_get (by kernel_rfl))
     have y29 : y 29 = .pointer (some ⟨w.heap.size + 1, 8, none⟩) := hV (16, 29, VC (.pointer (some ⟨w.heap.size + 1, 8, none⟩))) (word_get (by kernel_rfl))
     have y30 : y 30 = .pointer (some ⟨w.heap.size + 1, 8, none⟩) := hV (17, 30, VC (.pointer (some ⟨w.heap.size + 1, 8, none⟩))) (word_get (by kernel_rfl))
     have y31 : y 31 = .agg #[yv8, yv9, yv10, yv11] := hV (18, 31, VC (.agg #[yv8, yv9, yv10, yv11])) (word_get (by kernel_rfl))
     obtain ⟨u32_0, u32_1, u32_2, u32_3, y32, j32⟩ : VR (xn3 * yn2) (xd3 * yd2) (y 32) W1 := hV (19, 32, VR (xn3 * yn2) (xd3 * yd2)) (word_get (by kernel_rfl))
     have J32 := lhd j32; clear j32
     obtain ⟨u33_0, u33_1, u33_2, u33_3, y33, j33⟩ : VR (pN xn2 xd2 xn3 xd3 yn0 yd0 yn2 yd2) (pD xd2 xd3 yd0 yd2) (y 33) W1 := hV (20, 33, VR (pN xn2 xd2 xn3 xd3 yn0 yd0 yn2 yd2) (pD xd2 xd3 yd0 yd2)) (word_get (by kernel_rfl))
     have J33 := lhd j33; clear j33
     have y34 : y 34 = .pointer (some ⟨w.heap.size + 2, 8, none⟩) := hV (21, 34, VC (.pointer (some ⟨w.heap.size + 2, 8, none⟩))) (word_get (by kernel_rfl))
     have y35 : y 35 = .pointer (some ⟨w.heap.size + 2, 8, none⟩) := hV (22, 35, VC (.pointer (some ⟨w.heap.size + 2, 8, none⟩))) (word_get (by kernel_rfl))
     obtain ⟨⟨ov0, ⟨xa0, xa1, xa2, xa3, oe0, oz0⟩, ho0⟩, hno0⟩ := (hO _ lm0).2 (by simp)
     dsimp only at oe0 oz0 ho0
     subst oz0
     rw [y33] at oe0; simp only [Value.agg.injEq, Array.mk.injEq, List.cons.injEq, and_true] at oe0; obtain ⟨rfl, rfl, rfl, rfl⟩ := oe0
     have ho1 := (hO _ lm1).1 rfl
     dsimp only at ho1
     have ho2 := (hO _ lm2).1 rfl
     dsimp only at ho2
     have HNo0 := lhd hno0; clear hno0
     dsimp only at HNo0
     have HB1 := lhd (show Bx w [(w.heap.size + 2, #[r0_0, r0_1, r0_2, r0_3, r1_0, r1_1, r1_2, r1_3, u33_0, u33_1, u33_2, u33_3, .bool false, .slice none 0 0, .bool false, .slice none 0 0]), (w.heap.size + 1, #[yv0, yv1, yv2, yv3, yv4, yv5, yv6, yv7, yv8, yv9, yv10, yv11, yv12, yv13, yv14, yv15]), (w.heap.size, #[xv0, xv1, xv2, xv3, xv4, xv5, xv6, xv7, xv8, xv9, xv10, xv11, xv12, xv13, xv14, xv15])] W1 from ((((Bx.nil (HB.out.below.trans hB)).cons (HB.out.own _ lm2).1 ho2).cons (HB.out.own _ lm1).1 ho1).cons (HB.out.own _ lm0).1 ho0))
     have HE1 := lhd hE
     simp only [fr, putAll, List.foldl_cons, List.foldl_nil, List.setIfInBounds_toArray, List.set_cons_zero, List.set_cons_succ]
     simp only [y13, y14, y15, y16, y17, y18, y19, y20, y21, y22, y23, y24, y25, y26, y27, y28, y29, y30, y31, y32, y33, y34, y35]
     clear y13 y14 y15 y16 y17 y18 y19 y20 y21 y22 y23 y24 y25 y26 y27 y28 y29 y30 y31 y32 y33 y34 y35  hB hE hO hV hX hA ho0 ho1 ho2
     have hi1 := HE1.out.2.2
     clear HB HN hi hxy
     obtain ⟨j0, j1⟩ := J33.out
     have HI1 := lhd (show ICs W1 [(r0_0, r0_1, pN xn0 xd0 xn1 xd1 yn0 yd0 yn2 yd2), (r0_2, r0_3, pD xd0 xd1 yd0 yd2), (r1_0, r1_1, pN xn0 xd0 xn1 xd1 yn1 yd1 yn3 yd3), (r1_2, r1_3, pD xd0 xd1 yd1 yd3), (u33_0, u33_1, pN xn2 xd2 xn3 xd3 yn0 yd0 yn2 yd2), (u33_2, u33_3, pD xd2 xd3 yd0 yd2)] from ⟨hi1.1, hi1.2.1, hi1.2.2.1, hi1.2.2.2.1, j0, j1, trivial⟩)
     clear hi1 j0 j1 HE1
     go_wp2_with fail
     exact ⟨⟨1, by first | rfl | go_num, by omega, by show St 3 W1; rw [T3.out]; exact ⟨r0_0, r0_1, r0_2, r0_3, r1_0, r1_1, r1_2, r1_3, _, _, _, _, HB1.out, HNo0.out, HI1.out⟩⟩, by simp [intOf]⟩
    by_cases m1 : m = 1
    ·subst m1
     replace hst : St 3 wr := hst
     rw [T3.out] at hst
     obtain ⟨r0_0, r0_1, r0_2, r0_3, r1_0, r1_1, r1_2, r1_3, r2_0, r2_1, r2_2, r2_3, hb, hn, hi⟩ := hst
     have HB := lhd hb; have HN := lhd hn; clear hb hn hm
     have hxy := hXY.out _ HB.out.below
     go_upto_region 7 with fail
     refine wp_region_full (w.heap.size) [(0, 13, VC (.int .i64 1)), (1, 14, VC (.int .i64 1)), (2, 15, VC (.int .i64 1)), (3, 16, VC (.pointer (some ⟨w.heap.size, 8, none⟩))), (4, 17, VC (.pointer (some ⟨w.heap.size, 8, none⟩))), (5, 18, VC (.agg #[xv8, xv9, xv10, xv11])), (6, 19, VC (.int .i64 1)), (7, 20, VC (.pointer (some ⟨w.heap.size + 1, 0, none⟩))), (8, 21, VC (.pointer (some ⟨w.heap.size + 1, 4, none⟩))), (9, 22, VC (.agg #[yv4, yv5, yv6, yv7])), (10, 23, VR (xn2 * yn1) (xd2 * yd1)), (11, 24, VC (.int .i64 1)), (12, 25, VC (.pointer (some ⟨w.heap.size, 8, none⟩))), (13, 26, VC (.pointer (some ⟨w.heap.size, 12, none⟩))), (14, 27, VC (.agg #[xv12, xv13, xv14, xv15])), (15, 28, VC (.int .i64 1)), (16, 29, VC (.pointer (some ⟨w.heap.size + 1, 8, none⟩))), (17, 30, VC (.pointer (some ⟨w.heap.size + 1, 12, none⟩))), (18, 31, VC (.agg #[yv12, yv13, yv14, yv15])), (19, 32, VR (xn3 * yn3) (xd3 * yd3)), (20, 33, VR (pN xn2 xd2 xn3 xd3 yn1 yd1 yn3 yd3) (pD xd2 xd3 yd1 yd3)), (21, 34, VC (.pointer (some ⟨w.heap.size + 2, 8, none⟩))), (22, 35, VC (.pointer (some ⟨w.heap.size + 2, 12, none⟩)))] [] [⟨w.heap.size + 2, 23, 20, 33, #[r0_0, r0_1, r0_2, r0_3, r1_0, r1_1, r1_2, r1_3, r2_0, r2_1, r2_2, r2_3, .bool false, .slice none 0 0, .bool false, .slice none 0 0], fun v vs => ∃ xa0 xa1 xa2 xa3, v = .agg #[xa0, xa1, xa2, xa3] ∧ vs = #[r0_0, r0_1, r0_2, r0_3, r1_0, r1_1, r1_2, r1_3, r2_0, r2_1, r2_2, r2_3, xa0, xa1, xa2, xa3]⟩, ⟨w.heap.size + 1, 999, 999, 999, #[yv0, yv1, yv2, yv3, yv4, yv5, yv6, yv7, yv8, yv9, yv10, yv11, yv12, yv13, yv14, yv15], fun v vs => v = .agg vs⟩, ⟨w.heap.size, 999, 999, 999, #[xv0, xv1, xv2, xv3, xv4, xv5, xv6, xv7, xv8, xv9, xv10, xv11, xv12, xv13, xv14, xv15], fun v vs => v = .agg vs⟩] (fun W => ICs W [(xv0, xv1, xn0), (xv2, xv3, xd0), (xv4, xv5, xn1), (xv6, xv7, xd1), (xv8, xv9, xn2), (xv10, xv11, xd2), (xv12, xv13, xn3), (xv14, xv15, xd3)] ∧ ICs W [(yv0, yv1, yn0), (yv2, yv3, yd0), (yv4, yv5, yn1), (yv6, yv7, yd1), (yv8, yv9, yn2), (yv10, yv11, yd2), (yv12, yv13, yn3), (yv14, yv15, yd3)] ∧ ICs W [(r0_0, r0_1, pN xn0 xd0 xn1 xd1 yn0 yd0 yn2 yd2), (r0_2, r0_3, pD xd0 xd1 yd0 yd2), (r1_0, r1_1, pN xn0 xd0 xn1 xd1 yn1 yd1 yn3 yd3), (r1_2, r1_3, pD xd0 xd1 yd1 yd3), (r2_0, r2_1, pN xn2 xd2 xn3 xd3 yn0 yd0 yn2 yd2), (r2_2, r2_3, pD xd2 xd3 yd0 yd2)]) [13, 14, 15, 16, 17, 18, 19, 20, 21, 22, 23, 24, 25, 26, 27, 28, 29, 30, 31, 32, 33, 34, 35] ?_ (by kernel_rfl) (by kernel_rfl) (by kernel_rfl) (Firms.all (l := [(0, 13, VC (.int .i64 1)), (1, 14, VC (.int .i64 1)), (2, 15, VC (.int .i64 1)), (3, 16, VC (.pointer (some ⟨w.heap.size, 8, none⟩))), (4, 17, VC (.pointer (some ⟨w.heap.size, 8, none⟩))), (5, 18, VC (.agg #[xv8, xv9, xv10, xv11])), (6, 19, VC (.int .i64 1)), (7, 20, VC (.pointer (some ⟨w.heap.size + 1, 0, none⟩))), (8, 21, VC (.pointer (some ⟨w.heap.size + 1, 4, none⟩))), (9, 22, VC (.agg #[yv4, yv5, yv6, yv7])), (10, 23, VR (xn2 * yn1) (xd2 * yd1)), (11, 24, VC (.int .i64 1)), (12, 25, VC (.pointer (some ⟨w.heap.size, 8, none⟩))), (13, 26, VC (.pointer (some ⟨w.heap.size, 12, none⟩))), (14, 27, VC (.agg #[xv12, xv13, xv14, xv15])), (15, 28, VC (.int .i64 1)), (16, 29, VC (.pointer (some ⟨w.heap.size + 1, 8, none⟩))), (17, 30, VC (.pointer (some ⟨w.heap.size + 1, 12, none⟩))), (18, 31, VC (.agg #[yv12, yv13, yv14, yv15])), (19, 32, VR (xn3 * yn3) (xd3 * yd3)), (20, 33, VR (pN xn2 xd2 xn3 xd3 yn1 yd1 yn3 yd3) (pD xd2 xd3 yd1 yd3)), (21, 34, VC (.pointer (some ⟨w.heap.size + 2, 8, none⟩))), (22, 35, VC (.pointer (some ⟨w.heap.size + 2, 12, none⟩)))]) ⟨Firm.vc _, Firm.vc _, Firm.vc _, Firm.vc _, Firm.vc _, Firm.vc _, Firm.vc _, Firm.vc _, Firm.vc _, Firm.vc _, Firm.vr _ _, Firm.vc _, Firm.vc _, Firm.vc _, Firm.vc _, Firm.vc _, Firm.vc _, Firm.vc _, Firm.vc _, Firm.vr _ _, Firm.vr _ _, Firm.vc _, Firm.vc _, trivial⟩) (Firm.and3 (Firm.ics _) (Firm.ics _) (Firm.ics _)) (⟨hxy.1, hxy.2, hi⟩) ?_ ?_ ?_
     ·exact HB.out.below.size
     ·intro c hc
      simp only [List.mem_cons, List.not_mem_nil, or_false] at hc
      rcases hc with rfl | rfl | rfl
      ·exact ⟨(HB.out.own _ lm0).2, fun _ => HN.out⟩
      ·exact ⟨(HB.out.own _ lm1).2, fun h => absurd rfl h⟩
      ·exact ⟨(HB.out.own _ lm2).2, fun h => absurd rfl h⟩
     ·refine forall_ops ⟨?_, ?_, ?_, ?_, ?_, ?_, ?_, ?_, ?_, ?_, ?_, ?_, ?_, ?_, ?_, ?_, ?_, ?_, ?_, ?_, ?_, ?_, ?_, ?_, trivial⟩
      ·exact FOk.val rfl rfl rfl rfl fun _ _ _ _ _ _ => .move rfl (fou (v := .int .i64 1)) rfl
      ·exact FOk.val rfl rfl rfl rfl fun _ _ _ _ _ _ => .move rfl (fou (v := .int .i64 1)) rfl
      ·exact FOk.val rfl rfl rfl rfl fun _ _ _ _ _ _ => .move rfl (fou (v := .int .i64 1)) rfl
      ·exact FOk.val rfl rfl rfl rfl fun _ _ _ _ _ hV => .indexAddr rfl (fou (v := .pointer (some ⟨w.heap.size, 0, none⟩))) (fgt hV 2 rfl) (by kernel_rfl) rfl
      ·exact FOk.val rfl rfl rfl rfl fun _ _ _ _ _ hV => .indexAddr rfl (fgt hV 3 rfl) rfl (by kernel_rfl) rfl
      ·exact FOk.val rfl rfl rfl rfl fun _ _ _ _ hO hV => .load (g := w.heap.size) (k := 8) (n := 4) rfl (fgt hV 4 rfl) (hO _ lm2 rfl) (by simp) Tryz.underlying60 rfl (by kernel_rfl) rfl
      ·exact FOk.val rfl rfl rfl rfl fun _ _ _ _ _ _ => .move rfl (fou (v := .int .i64 1)) rfl
      ·exact FOk.val rfl rfl rfl rfl fun _ _ _ _ _ _ => .indexAddr rfl (fou (v := .pointer (some ⟨w.heap.size + 1, 0, none⟩))) rfl (by kernel_rfl) rfl
      ·exact FOk.val rfl rfl rfl rfl fun _ _ _ _ _ hV => .indexAddr rfl (fgt hV 7 rfl) (fgt hV 6 rfl) (by kernel_rfl) rfl
      ·exact FOk.val rfl rfl rfl rfl fun _ _ _ _ hO hV => .load (g := w.heap.size + 1) (k := 4) (n := 4) rfl (fgt hV 8 rfl) (hO _ lm1 rfl) (by simp) Tryz.underlying60 rfl (by kernel_rfl) rfl
      ·refine FOk.val rfl rfl rfl rfl fun _ _ _ hE _ hV => ?_
       obtain ⟨⟨X0, X1, X2, X3, X4, X5, X6, X7, -⟩, ⟨Y0, Y1, Y2, Y3, Y4, Y5, Y6, Y7, -⟩, -⟩ := hE
       exact .call Tryz.func68 (by kernel_rfl) rfl rfl rfl (map_two (fgt hV 5 rfl) (fgt hV 9 rfl)) (qtimes X4 X5 Y2 Y3 (gX _ (by simp)) (gX _ (by simp)) (gY _ (by simp)) (gY _ (by simp)) (by omega))
      ·exact FOk.val rfl rfl rfl rfl fun _ _ _ _ _ _ => .move rfl (fou (v := .int .i64 1)) rfl
      ·exact FOk.val rfl rfl rfl rfl fun _ _ _ _ _ hV => .indexAddr rfl (fou (v := .pointer (some ⟨w.heap.size, 0, none⟩))) (fgt hV 11 rfl) (by kernel_rfl) rfl
      ·exact FOk.val rfl rfl rfl rfl fun _ _ _ _ _ hV => .indexAddr rfl (fgt hV 12 rfl) rfl (by kernel_rfl) rfl
      ·exact FOk.val rfl rfl rfl rfl fun _ _ _ _ hO hV => .load (g := w.heap.size) (k := 12) (n := 4) rfl (fgt hV 13 rfl) (hO _ lm2 rfl) (by simp) Tryz.underlying60 rfl (by kernel_rfl) rfl
      ·exact FOk.val rfl rfl rfl rfl fun _ _ _ _ _ _ => .move rfl (fou (v := .int .i64 1)) rfl
      ·exact FOk.val rfl rfl rfl rfl fun _ _ _ _ _ _ => .indexAddr rfl (fou (v := .pointer (some ⟨w.heap.size + 1, 0, none⟩))) rfl (by kernel_rfl) rfl
      ·exact FOk.val rfl rfl rfl rfl fun _ _ _ _ _ hV => .indexAddr rfl (fgt hV 16 rfl) (fgt hV 15 rfl) (by kernel_rfl) rfl
      ·exact FOk.val rfl rfl rfl rfl fun _ _ _ _ hO hV => .load (g := w.heap.size + 1) (k := 12) (n := 4) rfl (fgt hV 17 rfl) (hO _ lm1 rfl) (by simp) Tryz.underlying60 rfl (by kernel_rfl) rfl
      ·refine FOk.val rfl rfl rfl rfl fun _ _ _ hE _ hV => ?_
       obtain ⟨⟨X0, X1, X2, X3, X4, X5, X6, X7, -⟩, ⟨Y0, Y1, Y2, Y3, Y4, Y5, Y6, Y7, -⟩, -⟩ := hE
       exact .call Tryz.func68 (by kernel_rfl) rfl rfl rfl (map_two (fgt hV 14 rfl) (fgt hV 18 rfl)) (qtimes X6 X7 Y6 Y7 (gX _ (by simp)) (gX _ (by simp)) (gY _ (by simp)) (gY _ (by simp)) (by omega))
      ·refine FOk.val rfl rfl rfl rfl fun _ _ _ _ _ hV => ?_
       obtain ⟨u23_0, u23_1, u23_2, u23_3, y23, i23⟩ := hget hV 10 rfl (by kernel_rfl)
       obtain ⟨u32_0, u32_1, u32_2, u32_3, y32, i32⟩ := hget hV 19 rfl (by kernel_rfl)
       exact .call Tryz.func27 (by kernel_rfl) rfl rfl rfl (map_two ((fr_in (by kernel_rfl)).trans y23) ((fr_in (by kernel_rfl)).trans y32)) (qplus i23.1 i23.2 i32.1 i32.2 ((gX (xn2) (by simp)).mul (gY (yn1) (by simp))) ((gX (xd2) (by simp)).mul (gY (yd1) (by simp))) ((gX (xn3) (by simp)).mul (gY (yn3) (by simp))) ((gX (xd3) (by simp)).mul (gY (yd3) (by simp))) (by omega))
      ·exact FOk.val rfl rfl rfl rfl fun _ _ _ _ _ hV => .indexAddr rfl (fou (v := .pointer (some ⟨w.heap.size + 2, 0, none⟩))) (fgt hV 0 rfl) (by kernel_rfl) rfl
      ·exact FOk.val rfl rfl rfl rfl fun _ _ _ _ _ hV => .indexAddr rfl (fgt hV 21 rfl) (fgt hV 1 rfl) (by kernel_rfl) rfl
      ·refine .inl ⟨.inl rfl, .inr (.inr (.inr ⟨rfl, word_none (by kernel_rfl), ?_, _, lm0, rfl, ?_, by simp, ?_, by kernel_rfl, fun y W hB hV hc hN K Q' hK => ?_⟩))⟩
       ·exact fun b hb => by simp at hb
       ·first | (with_reducible exact Nat.le_refl _) | assumption | omega | (simp; done)
       ·intro d hd
        simp only [List.mem_cons, List.not_mem_nil, or_false] at hd
        rcases hd with rfl | rfl | rfl
        ·exact ⟨fun _ => rfl, fun _ => rfl⟩
        ·exact ⟨fun h => absurd h (by simp), fun h => absurd h (by dsimp only; first | omega | assumption | exact Ne.symm (by assumption))⟩
        ·exact ⟨fun h => absurd h (by simp), fun h => absurd h (by dsimp only; first | omega | assumption | exact Ne.symm (by assumption))⟩
       have y35 : y 35 = .pointer (some ⟨w.heap.size + 2, 12, none⟩) := hV (22, 35, VC (.pointer (some ⟨w.heap.size + 2, 12, none⟩))) (word_get (by kernel_rfl)) (by kernel_rfl)
       obtain ⟨u33_0, u33_1, u33_2, u33_3, y33, i33⟩ : VR (pN xn2 xd2 xn3 xd3 yn1 yd1 yn3 yd3) (pD xd2 xd3 yd1 yd3) (y 33) W := hV (20, 33, VR (pN xn2 xd2 xn3 xd3 yn1 yd1 yn3 yd3) (pD xd2 xd3 yd1 yd3)) (word_get (by kernel_rfl)) (by kernel_rfl)
       exact .stoR (k := 12) (us := #[u33_0, u33_1, u33_2, u33_3]) (vs := #[r0_0, r0_1, r0_2, r0_3, r1_0, r1_1, r1_2, r1_3, r2_0, r2_1, r2_2, r2_3, u33_0, u33_1, u33_2, u33_3]) rfl (fgt hV 22 rfl) ((fr_in (by kernel_rfl)).trans y33) (ICs.fit (l := [(_, _, _), (_, _, _)]) ⟨i33.1, i33.2, trivial⟩ rfl) hc hN rfl (Nat.le_of_ble_eq_true rfl) rfl (by kernel_rfl) fun W' hC hN' hO => hK W' ⟨⟨_, ⟨_, _, _, _, y33, rfl⟩, hC⟩, hN'⟩ hO
     intro y W1 hB hE hO hV hX hA
     have y13 : y 13 = .int .i64 1 := hV (0, 13, VC (.int .i64 1)) (word_get (by kernel_rfl))
     have y14 : y 14 = .int .i64 1 := hV (1, 14, VC (.int .i64 1)) (word_get (by kernel_rfl))
     have y15 : y 15 = .int .i64 1 := hV (2, 15, VC (.int .i64 1)) (word_get (by kernel_rfl))
     have y16 : y 16 = .pointer (some ⟨w.heap.size, 8, none⟩) := hV (3, 16, VC (.pointer (some ⟨w.heap.size, 8, none⟩))) (word_get (by kernel_rfl))
     have y17 : y 17 = .pointer (some ⟨w.heap.size, 8, none⟩) := hV (4, 17, VC (.pointer (some ⟨w.heap.size, 8, none⟩))) (word_get (by kernel_rfl))
     have y18 : y 18 = .agg #[xv8, xv9, xv10, xv11] := hV (5, 18, VC (.agg #[xv8, xv9, xv10, xv11])) (word_get (by kernel_rfl))
     have y19 : y 19 = .int .i64 1 := hV (6, 19, VC (.int .i64 1)) (word_get (by kernel_rfl))
     have y20 : y 20 = .pointer (some ⟨w.heap.size + 1, 0, none⟩) := hV (7, 20, VC (.pointer (some ⟨w.heap.size + 1, 0, none⟩))) (word_get (by kernel_rfl))
     have y21 : y 21 = .pointer (some ⟨w.heap.size + 1, 4, none⟩) := hV (8, 21, VC (.pointer (some ⟨w.heap.size + 1, 4, none⟩))) (word_get (by kernel_rfl))
     have y22 : y 22 = .agg #[yv4, yv5, yv6, yv7] := hV (9, 22, VC (.agg #[yv4, yv5, yv6, yv7])) (word_get (by kernel_rfl))
     obtain ⟨u23_0, u23_1, u23_2, u23_3, y23, j23⟩ : VR (xn2 * yn1) (xd2 * yd1) (y 23) W1 := hV (10, 23, VR (xn2 * yn1) (xd2 * yd1)) (word_get (by kernel_rfl))
     have J23 := lhd j23; clear j23
     have y24 : y 24 = .int .i64 1 := hV (11, 24, VC (.int .i64 1)) (word_get (by kernel_rfl))
     have y25 : y 25 = .pointer (some ⟨w.heap.size, 8, none⟩) := hV (12, 25, VC (.pointer (some ⟨w.heap.size, 8, none⟩))) (word_get (by kernel_rfl))
     have y26 : y 26 = .pointer (some ⟨w.heap.size, 12, none⟩) := hV (13, 26, VC (.pointer (some ⟨w.heap.size, 12, none⟩))) (word_get (by kernel_rfl))
     have y27 : y 27 = .agg #[xv12, xv13, xv14, xv15] := hV (14, 27, VC (.agg #[xv12, xv13, xv14, xv15])) (word_get (by kernel_rfl))
     have y28 : y 28 = .int .i64 1 := hV (15, 28, VC (.int .i64 1)) (word_get (by kernel_rfl))
     have y29 : y 29 = .pointer (some ⟨w.heap.size + 1, 8, none⟩) := hV (16, 29, VC (.pointer (some ⟨w.heap.size + 1, 8, none⟩))) (word_get (by kernel_rfl))
     have y30 : y 30 = .pointer (some ⟨w.heap.size + 1, 12, none⟩) := hV (17, 30, VC (.pointer (some ⟨w.heap.size + 1, 12, none⟩))) (word_get (by kernel_rfl))
     have y31 : y 31 = .agg #[yv12, yv13, yv14, yv15] := hV (18, 31, VC (.agg #[yv12, yv13, yv14, yv15])) (word_get (by kernel_rfl))
     obtain ⟨u32_0, u32_1, u32_2, u32_3, y32, j32⟩ : VR (xn3 * yn3) (xd3 * yd3) (y 32) W1 := hV (19, 32, VR (xn3 * yn3) (xd3 * yd3)) (word_get (by kernel_rfl))
     have J32 := lhd j32; clear j32
     obtain ⟨u33_0, u33_1, u33_2, u33_3, y33, j33⟩ : VR (pN xn2 xd2 xn3 xd3 yn1 yd1 yn3 yd3) (pD xd2 xd3 yd1 yd3) (y 33) W1 := hV (20, 33, VR (pN xn2 xd2 xn3 xd3 yn1 yd1 yn3 yd3) (pD xd2 xd3 yd1 yd3)) (word_get (by kernel_rfl))
     have J33 := lhd j33; clear j33
     have y34 : y 34 = .pointer (some ⟨w.heap.size + 2, 8, none⟩) := hV (21, 34, VC (.pointer (some ⟨w.heap.size + 2, 8, none⟩))) (word_get (by kernel_rfl))
     have y35 : y 35 = .pointer (some ⟨w.heap.size + 2, 12, none⟩) := hV (22, 35, VC (.pointer (some ⟨w.heap.size + 2, 12, none⟩))) (word_get (by kernel_rfl))
     obtain ⟨⟨ov0, ⟨xa0, xa1, xa2, xa3, oe0, oz0⟩, ho0⟩, hno0⟩ := (hO _ lm0).2 (by simp)
     dsimp only at oe0 oz0 ho0
     subst oz0
     rw [y33] at oe0; simp only [Value.agg.injEq, Array.mk.injEq, List.cons.injEq, and_true] at oe0; obtain ⟨rfl, rfl, rfl, rfl⟩ := oe0
     have ho1 := (hO _ lm1).1 rfl
     dsimp only at ho1
     have ho2 := (hO _ lm2).1 rfl
     dsimp only at ho2
     have HNo0 := lhd hno0; clear hno0
     dsimp only at HNo0
     have HB1 := lhd (show Bx w [(w.heap.size + 2, #[r0_0, r0_1, r0_2, r0_3, r1_0, r1_1, r1_2, r1_3, r2_0, r2_1, r2_2, r2_3, u33_0, u33_1, u33_2, u33_3]), (w.heap.size + 1, #[yv0, yv1, yv2, yv3, yv4, yv5, yv6, yv7, yv8, yv9, yv10, yv11, yv12, yv13, yv14, yv15]), (w.heap.size, #[xv0, xv1, xv2, xv3, xv4, xv5, xv6, xv7, xv8, xv9, xv10, xv11, xv12, xv13, xv14, xv15])] W1 from ((((Bx.nil (HB.out.below.trans hB)).cons (HB.out.own _ lm2).1 ho2).cons (HB.out.own _ lm1).1 ho1).cons (HB.out.own _ lm0).1 ho0))
     have HE1 := lhd hE
     simp only [fr, putAll, List.foldl_cons, List.foldl_nil, List.setIfInBounds_toArray, List.set_cons_zero, List.set_cons_succ]
     simp only [y13, y14, y15, y16, y17, y18, y19, y20, y21, y22, y23, y24, y25, y26, y27, y28, y29, y30, y31, y32, y33, y34, y35]
     clear y13 y14 y15 y16 y17 y18 y19 y20 y21 y22 y23 y24 y25 y26 y27 y28 y29 y30 y31 y32 y33 y34 y35  hB hE hO hV hX hA ho0 ho1 ho2
     have hi1 := HE1.out.2.2
     clear HB HN hi hxy
     obtain ⟨j0, j1⟩ := J33.out
     have HI1 := lhd (show ICs W1 [(r0_0, r0_1, pN xn0 xd0 xn1 xd1 yn0 yd0 yn2 yd2), (r0_2, r0_3, pD xd0 xd1 yd0 yd2), (r1_0, r1_1, pN xn0 xd0 xn1 xd1 yn1 yd1 yn3 yd3), (r1_2, r1_3, pD xd0 xd1 yd1 yd3), (r2_0, r2_1, pN xn2 xd2 xn3 xd3 yn0 yd0 yn2 yd2), (r2_2, r2_3, pD xd2 xd3 yd0 yd2), (u33_0, u33_1, pN xn2 xd2 xn3 xd3 yn1 yd1 yn3 yd3), (u33_2, u33_3, pD xd2 xd3 yd1 yd3)] from ⟨hi1.1, hi1.2.1, hi1.2.2.1, hi1.2.2.2.1, hi1.2.2.2.2.1, hi1.2.2.2.2.2.1, j0, j1, trivial⟩)
     clear hi1 j0 j1 HE1
     go_wp2_with fail
     exact ⟨⟨2, by first | rfl | go_num, by omega, by show St 4 W1; rw [T4.out]; exact ⟨r0_0, r0_1, r0_2, r0_3, r1_0, r1_1, r1_2, r1_3, r2_0, r2_1, r2_2, r2_3, _, _, _, _, HB1.out, HNo0.out, HI1.out⟩⟩, by simp [intOf]⟩
    obtain rfl : m = 2 := by omega
    clear m0 m1 hm
    go_wp2_with fail
    exact ⟨⟨2, by first | rfl | go_num, by omega, hst⟩, by simp [intOf]⟩
  obtain rfl : k = 2 := by omega
  replace hst : St 4 wr := hst
  rw [T4.out] at hst
  obtain ⟨r0_0, r0_1, r0_2, r0_3, r1_0, r1_1, r1_2, r1_3, r2_0, r2_1, r2_2, r2_3, r3_0, r3_1, r3_2, r3_3, hb, hn, hi⟩ := hst
  have HB := lhd hb; have HN := lhd hn; have HI := lhd hi; clear hb hn hk k0 k1 hi
  obtain ⟨j0, j1, j2, j3, j4, j5, j6, j7, -⟩ := HI.out
  dsimp only at j0 j1 j2 j3 j4 j5 j6 j7
  obtain ⟨A0_0, c0_0, rfl, rfl, -⟩ := j0; obtain ⟨A0_1, c0_1, rfl, rfl, -⟩ := j1; obtain ⟨A1_0, c1_0, rfl, rfl, -⟩ := j2; obtain ⟨A1_1, c1_1, rfl, rfl, -⟩ := j3; obtain ⟨A2_0, c2_0, rfl, rfl, -⟩ := j4; obtain ⟨A2_1, c2_1, rfl, rfl, -⟩ := j5; obtain ⟨A3_0, c3_0, rfl, rfl, -⟩ := j6; obtain ⟨A3_1, c3_1, rfl, rfl, -⟩ := j7
  have q := fun (i : Nat) hi => (HB.out.own _ lm0).2.2.1 i hi
  have q0 := q 0 (by simp)
  have q1 := q 1 (by simp)
  have q2 := q 2 (by simp)
  have q3 := q 3 (by simp)
  have q4 := q 4 (by simp)
  have q5 := q 5 (by simp)
  have q6 := q 6 (by simp)
  have q7 := q 7 (by simp)
  have q8 := q 8 (by simp)
  have q9 := q 9 (by simp)
  have q10 := q 10 (by simp)
  have q11 := q 11 (by simp)
  have q12 := q 12 (by simp)
  have q13 := q 13 (by simp)
  have q14 := q 14 (by simp)
  have q15 := q 15 (by simp)
  clear q
  simp only [List.getElem?_toArray, List.getElem?_cons_zero, List.getElem?_cons_succ] at q0 q1 q2 q3 q4 q5 q6 q7 q8 q9 q10 q11 q12 q13 q14 q15
  have fz := (HB.out.own _ lm0).2.2.2
  have f0 := fz 0
  have f1 := fz 1
  have f2 := fz 2
  have f3 := fz 3
  have f4 := fz 4
  have f5 := fz 5
  have f6 := fz 6
  have f7 := fz 7
  have f8 := fz 8
  have f9 := fz 9
  have f10 := fz 10
  have f11 := fz 11
  have f12 := fz 12
  have f13 := fz 13
  have f14 := fz 14
  have f15 := fz 15
  clear fz
  dsimp only at f0 f1 f2 f3 f4 f5 f6 f7 f8 f9 f10 f11 f12 f13 f14 f15
  obtain ⟨W9, e9, C9, B9, S9⟩ := store16 (HB.out.own _ lm0).2 HB.out.below (HB.out.own _ lm0).1
  have HI9 := lhd ((Firm.ics _).only undef _ _ _ HI.out S9 HN.out)
  go_wp2_with fail
  try rw [e9]
  have g0 := C9.2.1 0 (by simp)
  have g1 := C9.2.1 1 (by simp)
  have g2 := C9.2.1 2 (by simp)
  have g3 := C9.2.1 3 (by simp)
  have g4 := C9.2.1 4 (by simp)
  have g5 := C9.2.1 5 (by simp)
  have g6 := C9.2.1 6 (by simp)
  have g7 := C9.2.1 7 (by simp)
  have g8 := C9.2.1 8 (by simp)
  have g9 := C9.2.1 9 (by simp)
  have g10 := C9.2.1 10 (by simp)
  have g11 := C9.2.1 11 (by simp)
  have g12 := C9.2.1 12 (by simp)
  have g13 := C9.2.1 13 (by simp)
  have g14 := C9.2.1 14 (by simp)
  have g15 := C9.2.1 15 (by simp)
  simp only [List.getElem?_toArray, List.getElem?_cons_zero, List.getElem?_cons_succ] at g0 g1 g2 g3 g4 g5 g6 g7 g8 g9 g10 g11 g12 g13 g14 g15
  obtain ⟨E0, E1, E2, E3, E4, E5, E6, E7, -⟩ := HI9.out
  refine bodyPost_ret (v := .agg #[.bool (sgB (pN xn0 xd0 xn1 xd1 yn0 yd0 yn2 yd2)), .slice A0_0 (lnW (pN xn0 xd0 xn1 xd1 yn0 yd0 yn2 yd2)) c0_0, .bool (sgB (pD xd0 xd1 yd0 yd2)), .slice A0_1 (lnW (pD xd0 xd1 yd0 yd2)) c0_1, .bool (sgB (pN xn0 xd0 xn1 xd1 yn1 yd1 yn3 yd3)), .slice A1_0 (lnW (pN xn0 xd0 xn1 xd1 yn1 yd1 yn3 yd3)) c1_0, .bool (sgB (pD xd0 xd1 yd1 yd3)), .slice A1_1 (lnW (pD xd0 xd1 yd1 yd3)) c1_1, .bool (sgB (pN xn2 xd2 xn3 xd3 yn0 yd0 yn2 yd2)), .slice A2_0 (lnW (pN xn2 xd2 xn3 xd3 yn0 yd0 yn2 yd2)) c2_0, .bool (sgB (pD xd2 xd3 yd0 yd2)), .slice A2_1 (lnW (pD xd2 xd3 yd0 yd2)) c2_1, .bool (sgB (pN xn2 xd2 xn3 xd3 yn1 yd1 yn3 yd3)), .slice A3_0 (lnW (pN xn2 xd2 xn3 xd3 yn1 yd1 yn3 yd3)) c3_0, .bool (sgB (pD xd2 xd3 yd1 yd3)), .slice A3_1 (lnW (pD xd2 xd3 yd1 yd3)) c3_1]) (by simp [results, Tryz.results25, go_sem, g0, g1, g2, g3, g4, g5, g6, g7, g8, g9, g10, g11, g12, g13, g14, g15]) rfl ?_
  exact ⟨_, rfl, ⟨_, _, _, _, _, _, _, _, _, _, _, _, _, _, _, _, rfl, ⟨E0, E1⟩, ⟨E2, E3⟩, ⟨E4, E5⟩, ⟨E6, E7⟩⟩, B9⟩
end Go.Proofs.YtimdkjbmeogpoaaGreatDoor
