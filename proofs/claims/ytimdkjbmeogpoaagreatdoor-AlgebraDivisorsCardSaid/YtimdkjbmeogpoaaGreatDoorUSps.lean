/- Which matrices the program accepts. -/
import Derived.Test.YtimdkjbmeogpoaaGreatDoorURpg
import Derived.Test.YtimdkjbmeogpoaaGreatDoorUScl
namespace Go.Proofs.YtimdkjbmeogpoaaGreatDoor
open Go.RowKit FF
theorem TabW.of {p : Value → World → Prop} {n0 d0 n1 d1 n2 d2 n3 d3 : Int} (h : p = VM n0 d0 n1 d1 n2 d2 n3 d3) : TabW p := by
 subst h
 refine ⟨Firm.vm _ _ _ _ _ _ _ _, fun v W h => ?_⟩
 obtain ⟨_, _, _, _, _, _, _, _, _, _, _, _, _, _, _, _, rfl, ⟨⟨_, _, rfl, rfl, -⟩, ⟨_, _, rfl, rfl, -⟩⟩, ⟨⟨_, _, rfl, rfl, -⟩, ⟨_, _, rfl, rfl, -⟩⟩, ⟨⟨_, _, rfl, rfl, -⟩, ⟨_, _, rfl, rfl, -⟩⟩, ⟨_, _, rfl, rfl, -⟩, ⟨_, _, rfl, rfl, -⟩⟩ := h
 exact ⟨_, _, _, _, _, _, _, _, _, _, _, _, _, _, _, _, _, _, _, _, _, _, _, _, _, _, _, _, _, _, _, _, rfl⟩
theorem t_times {xn0 xd0 xn1 xd1 xn2 xd2 xn3 xd3 yn0 yd0 yn1 yd1 yn2 yd2 yn3 yd3 : Int} {v u : Value} {W : World} (h : VM xn0 xd0 xn1 xd1 xn2 xd2 xn3 xd3 v W) (k : VM yn0 yd0 yn1 yd1 yn2 yd2 yn3 yd3 u W) (gX : WN 1 [xn0, xd0, xn1, xd1, xn2, xd2, xn3, xd3]) (gY : WN 1 [yn0, yd0, yn1, yd1, yn2, yd2, yn3, yd3]) :
  Calls Tryz.prog 25 #[v, u] W (PostW (VM (pN xn0 xd0 xn1 xd1 yn0 yd0 yn2 yd2) (pD xd0 xd1 yd0 yd2) (pN xn0 xd0 xn1 xd1 yn1 yd1 yn3 yd3) (pD xd0 xd1 yd1 yd3) (pN xn2 xd2 xn3 xd3 yn0 yd0 yn2 yd2) (pD xd2 xd3 yd0 yd2) (pN xn2 xd2 xn3 xd3 yn1 yd1 yn3 yd3) (pD xd2 xd3 yd1 yd3)) W) := by
 obtain ⟨XA0, xa0, XB0, xb0, XA1, xa1, XB1, xb1, XA2, xa2, XB2, xb2, XA3, xa3, XB3, xb3, rfl, ⟨h0, h1⟩, ⟨h2, h3⟩, ⟨h4, h5⟩, ⟨h6, h7⟩⟩ := h
 obtain ⟨YA0, ya0, YB0, yb0, YA1, ya1, YB1, yb1, YA2, ya2, YB2, yb2, YA3, ya3, YB3, yb3, rfl, ⟨k0, k1⟩, ⟨k2, k3⟩, ⟨k4, k5⟩, ⟨k6, k7⟩⟩ := k
 exact qtabTimes ⟨h0, h1, h2, h3, h4, h5, h6, h7, trivial⟩ ⟨k0, k1, k2, k3, k4, k5, k6, k7, trivial⟩ gX gY
theorem t_is {xn0 xd0 xn1 xd1 xn2 xd2 xn3 xd3 n : Int} {v : Value} {W : World} {j : Nat} (h : VM xn0 xd0 xn1 xd1 xn2 xd2 xn3 xd3 v W) (gX : WN j [xn0, xd0, xn1, xd1, xn2, xd2, xn3, xd3]) (hn : I64 n) (hnn : -4294967295 ≤ n ∧ n ≤ 4294967295) (hj : 2 * j + 2 ≤ 400) :
  Calls Tryz.prog 26 #[v, .int .i64 n] W (PostW (VC (.bool (scB xn0 xd0 xn1 xd1 xn2 xd2 xn3 xd3 n))) W) := by
 obtain ⟨XA0, xa0, XB0, xb0, XA1, xa1, XB1, xb1, XA2, xa2, XB2, xb2, XA3, xa3, XB3, xb3, rfl, ⟨h0, h1⟩, ⟨h2, h3⟩, ⟨h4, h5⟩, ⟨h6, h7⟩⟩ := h
 exact qtabIs ⟨h0, h1, h2, h3, h4, h5, h6, h7, trivial⟩ gX hn hnn hj
theorem z_is {n d m e : Int} {v : Value} {W : World} (h : VR (n * e + m * d) (d * e) v W) (gn : Wn 5 n) (gd : Wn 5 d) (gm : Wn 5 m) (ge : Wn 5 e) :
  Calls Tryz.prog 28 #[v, .int .i64 0] W (PostW (VC (.bool (zE n d m e))) W) := by
 obtain ⟨A, c, A', c', rfl, h0, h1⟩ := h
 exact qis (j := 11) h0 h1 ((gn.mul ge).add (gm.mul gd)) ((gd.mul ge).mono (by omega)) ⟨by omega, by omega⟩ ⟨by omega, by omega⟩ (by omega)
theorem t_plus0 {xn0 xd0 xn1 xd1 xn2 xd2 xn3 xd3 yn0 yd0 yn1 yd1 yn2 yd2 yn3 yd3 : Int} {cr ct : Array Value} {W : World} (h : VM xn0 xd0 xn1 xd1 xn2 xd2 xn3 xd3 (.agg cr) W) (k : VM yn0 yd0 yn1 yd1 yn2 yd2 yn3 yd3 (.agg ct) W) (gX : WN 5 [xn0, xd0, xn1, xd1, xn2, xd2, xn3, xd3]) (gY : WN 5 [yn0, yd0, yn1, yd1, yn2, yd2, yn3, yd3]) :
  Calls Tryz.prog 27 #[.agg (cr.extract 0 4), .agg (ct.extract 0 4)] W (PostW (VR (xn0 * yd0 + yn0 * xd0) (xd0 * yd0)) W) := by
 obtain ⟨XA0, xa0, XB0, xb0, XA1, xa1, XB1, xb1, XA2, xa2, XB2, xb2, XA3, xa3, XB3, xb3, hv, ⟨h0, h1⟩, ⟨h2, h3⟩, ⟨h4, h5⟩, ⟨h6, h7⟩⟩ := h
 obtain ⟨YA0, ya0, YB0, yb0, YA1, ya1, YB1, yb1, YA2, ya2, YB2, yb2, YA3, ya3, YB3, yb3, hu, ⟨k0, k1⟩, ⟨k2, k3⟩, ⟨k4, k5⟩, ⟨k6, k7⟩⟩ := k
 injection hv with hv; injection hu with hu
 subst hv hu
 exact qplus h0 h1 k0 k1 (gX _ (by simp)) (gX _ (by simp)) (gY _ (by simp)) (gY _ (by simp)) (by omega)
theorem t_plus1 {xn0 xd0 xn1 xd1 xn2 xd2 xn3 xd3 yn0 yd0 yn1 yd1 yn2 yd2 yn3 yd3 : Int} {cr ct : Array Value} {W : World} (h : VM xn0 xd0 xn1 xd1 xn2 xd2 xn3 xd3 (.agg cr) W) (k : VM yn0 yd0 yn1 yd1 yn2 yd2 yn3 yd3 (.agg ct) W) (gX : WN 5 [xn0, xd0, xn1, xd1, xn2, xd2, xn3, xd3]) (gY : WN 5 [yn0, yd0, yn1, yd1, yn2, yd2, yn3, yd3]) :
  Calls Tryz.prog 27 #[.agg (cr.extract 4 8), .agg (ct.extract 4 8)] W (PostW (VR (xn1 * yd1 + yn1 * xd1) (xd1 * yd1)) W) := by
 obtain ⟨XA0, xa0, XB0, xb0, XA1, xa1, XB1, xb1, XA2, xa2, XB2, xb2, XA3, xa3, XB3, xb3, hv, ⟨h0, h1⟩, ⟨h2, h3⟩, ⟨h4, h5⟩, ⟨h6, h7⟩⟩ := h
 obtain ⟨YA0, ya0, YB0, yb0, YA1, ya1, YB1, yb1, YA2, ya2, YB2, yb2, YA3, ya3, YB3, yb3, hu, ⟨k0, k1⟩, ⟨k2, k3⟩, ⟨k4, k5⟩, ⟨k6, k7⟩⟩ := k
 injection hv with hv; injection hu with hu
 subst hv hu
 exact qplus h2 h3 k2 k3 (gX _ (by simp)) (gX _ (by simp)) (gY _ (by simp)) (gY _ (by simp)) (by omega)
theorem t_plus2 {xn0 xd0 xn1 xd1 xn2 xd2 xn3 xd3 yn0 yd0 yn1 yd1 yn2 yd2 yn3 yd3 : Int} {cr ct : Array Value} {W : World} (h : VM xn0 xd0 xn1 xd1 xn2 xd2 xn3 xd3 (.agg cr) W) (k : VM yn0 yd0 yn1 yd1 yn2 yd2 yn3 yd3 (.agg ct) W) (gX : WN 5 [xn0, xd0, xn1, xd1, xn2, xd2, xn3, xd3]) (gY : WN 5 [yn0, yd0, yn1, yd1, yn2, yd2, yn3, yd3]) :
  Calls Tryz.prog 27 #[.agg (cr.extract 8 12), .agg (ct.extract 8 12)] W (PostW (VR (xn2 * yd2 + yn2 * xd2) (xd2 * yd2)) W) := by
 obtain ⟨XA0, xa0, XB0, xb0, XA1, xa1, XB1, xb1, XA2, xa2, XB2, xb2, XA3, xa3, XB3, xb3, hv, ⟨h0, h1⟩, ⟨h2, h3⟩, ⟨h4, h5⟩, ⟨h6, h7⟩⟩ := h
 obtain ⟨YA0, ya0, YB0, yb0, YA1, ya1, YB1, yb1, YA2, ya2, YB2, yb2, YA3, ya3, YB3, yb3, hu, ⟨k0, k1⟩, ⟨k2, k3⟩, ⟨k4, k5⟩, ⟨k6, k7⟩⟩ := k
 injection hv with hv; injection hu with hu
 subst hv hu
 exact qplus h4 h5 k4 k5 (gX _ (by simp)) (gX _ (by simp)) (gY _ (by simp)) (gY _ (by simp)) (by omega)
theorem t_plus3 {xn0 xd0 xn1 xd1 xn2 xd2 xn3 xd3 yn0 yd0 yn1 yd1 yn2 yd2 yn3 yd3 : Int} {cr ct : Array Value} {W : World} (h : VM xn0 xd0 xn1 xd1 xn2 xd2 xn3 xd3 (.agg cr) W) (k : VM yn0 yd0 yn1 yd1 yn2 yd2 yn3 yd3 (.agg ct) W) (gX : WN 5 [xn0, xd0, xn1, xd1, xn2, xd2, xn3, xd3]) (gY : WN 5 [yn0, yd0, yn1, yd1, yn2, yd2, yn3, yd3]) :
  Calls Tryz.prog 27 #[.agg (cr.extract 12 16), .agg (ct.extract 12 16)] W (PostW (VR (xn3 * yd3 + yn3 * xd3) (xd3 * yd3)) W) := by
 obtain ⟨XA0, xa0, XB0, xb0, XA1, xa1, XB1, xb1, XA2, xa2, XB2, xb2, XA3, xa3, XB3, xb3, hv, ⟨h0, h1⟩, ⟨h2, h3⟩, ⟨h4, h5⟩, ⟨h6, h7⟩⟩ := h
 obtain ⟨YA0, ya0, YB0, yb0, YA1, ya1, YB1, yb1, YA2, ya2, YB2, yb2, YA3, ya3, YB3, yb3, hu, ⟨k0, k1⟩, ⟨k2, k3⟩, ⟨k4, k5⟩, ⟨k6, k7⟩⟩ := k
 injection hv with hv; injection hu with hu
 subst hv hu
 exact qplus h6 h7 k6 k7 (gX _ (by simp)) (gX _ (by simp)) (gY _ (by simp)) (gY _ (by simp)) (by omega)
set_option maxHeartbeats 40000000 in
set_option maxRecDepth 100000 in
theorem qCheckSplit_walk {PX PY PP PQ PR PT PZ0 PZ1 PZ2 PZ3 : Value → World → Prop} {a b xn0 xd0 xn1 xd1 xn2 xd2 xn3 xd3 yn0 yd0 yn1 yd1 yn2 yd2 yn3 yd3 E : Int} {S1 S2 z0 z1 z2 z3 ox oy : Bool} (w : World) (hE : E = if (ox && oy) = true then (if (S1 && (S2 && (z0 && (z1 && (z2 && z3))))) = true then 0 else 18) else 3)
  (hXt : TabW PX)
  (hYt : TabW PY)
  (hRt : TabW PR)
  (hTt : TabW PT)
  (hPk : Keeps PP)
  (hQk : Keeps PQ)
  (hZ0k : Keeps PZ0)
  (hZ1k : Keeps PZ1)
  (hZ2k : Keeps PZ2)
  (hZ3k : Keeps PZ3)
  (hC : ∀ w, Calls Tryz.prog 23 #[.agg #[.int .i64 a, .int .i64 b]] w fun e w' => e = .returned (.int .i64 0) ∧ Below w.heap.size w w')
  (hFX : ∀ w, Calls Tryz.prog 24 #[.agg #[.int .i64 xn0, .int .i64 xd0, .int .i64 xn1, .int .i64 xd1, .int .i64 xn2, .int .i64 xd2, .int .i64 xn3, .int .i64 xd3]] w fun r w' => ∃ v, r = .returned (.tuple #[v, .bool ox]) ∧ PX v w' ∧ Below w.heap.size w w')
  (hFY : ∀ w, Calls Tryz.prog 24 #[.agg #[.int .i64 yn0, .int .i64 yd0, .int .i64 yn1, .int .i64 yd1, .int .i64 yn2, .int .i64 yd2, .int .i64 yn3, .int .i64 yd3]] w fun r w' => ∃ v, r = .returned (.tuple #[v, .bool oy]) ∧ PY v w' ∧ Below w.heap.size w w')
  (hP : ox = true → oy = true → (∀ (v u : Value) (W : World), PX v W → PX u W → Calls Tryz.prog 25 #[v, u] W (PostW PP W)) ∧ (∀ (v u : Value) (W : World), PY v W → PY u W → Calls Tryz.prog 25 #[v, u] W (PostW PQ W)) ∧ (∀ (v u : Value) (W : World), PX v W → PY u W → Calls Tryz.prog 25 #[v, u] W (PostW PR W)) ∧ (∀ (v u : Value) (W : World), PY v W → PX u W → Calls Tryz.prog 25 #[v, u] W (PostW PT W)) ∧ (∀ (v : Value) (W : World), PP v W → Calls Tryz.prog 26 #[v, .int .i64 a] W (PostW (VC (.bool S1)) W)) ∧ (∀ (v : Value) (W : World), PQ v W → Calls Tryz.prog 26 #[v, .int .i64 b] W (PostW (VC (.bool S2)) W)) ∧ (∀ (cr ct : Array Value) (W : World), PR (.agg cr) W → PT (.agg ct) W → Calls Tryz.prog 27 #[.agg (cr.extract 0 4), .agg (ct.extract 0 4)] W (PostW PZ0 W)) ∧ (∀ (v : Value) (W : World), PZ0 v W → Calls Tryz.prog 28 #[v, .int .i64 0] W (PostW (VC (.bool z0)) W)) ∧ (∀ (cr ct : Array Value) (W : World), PR (.agg cr) W → PT (.agg ct) W → Calls Tryz.prog 27 #[.agg (cr.extract 4 8), .agg (ct.extract 4 8)] W (PostW PZ1 W)) ∧ (∀ (v : Value) (W : World), PZ1 v W → Calls Tryz.prog 28 #[v, .int .i64 0] W (PostW (VC (.bool z1)) W)) ∧ (∀ (cr ct : Array Value) (W : World), PR (.agg cr) W → PT (.agg ct) W → Calls Tryz.prog 27 #[.agg (cr.extract 8 12), .agg (ct.extract 8 12)] W (PostW PZ2 W)) ∧ (∀ (v : Value) (W : World), PZ2 v W → Calls Tryz.prog 28 #[v, .int .i64 0] W (PostW (VC (.bool z2)) W)) ∧ (∀ (cr ct : Array Value) (W : World), PR (.agg cr) W → PT (.agg ct) W → Calls Tryz.prog 27 #[.agg (cr.extract 12 16), .agg (ct.extract 12 16)] W (PostW PZ3 W)) ∧ (∀ (v : Value) (W : World), PZ3 v W → Calls Tryz.prog 28 #[v, .int .i64 0] W (PostW (VC (.bool z3)) W))) :
  Calls Tryz.prog 7 #[.agg #[.int .i64 a, .int .i64 b], .agg #[.int .i64 xn0, .int .i64 xd0, .int .i64 xn1, .int .i64 xd1, .int .i64 xn2, .int .i64 xd2, .int .i64 xn3, .int .i64 xd3], .agg #[.int .i64 yn0, .int .i64 yd0, .int .i64 yn1, .int .i64 yd1, .int .i64 yn2, .int .i64 yd2, .int .i64 yn3, .int .i64 yd3]] w fun r w' => r = .returned (.int .i64 E) ∧ Below w.heap.size w w' := by
 have HE := lhd hE; clear hE
 have HXt := lhd hXt; clear hXt
 have HYt := lhd hYt; clear hYt
 have HRt := lhd hRt; clear hRt
 have HTt := lhd hTt; clear hTt
 have HPk := lhd hPk; clear hPk
 have HQk := lhd hQk; clear hQk
 have HZ0k := lhd hZ0k; clear hZ0k
 have HZ1k := lhd hZ1k; clear hZ1k
 have HZ2k := lhd hZ2k; clear hZ2k
 have HZ3k := lhd hZ3k; clear hZ3k
 have HC := lhd hC; clear hC
 have HFX := lhd hFX; clear hFX
 have HFY := lhd hFY; clear hFY
 have HP := lhd hP; clear hP
 go_enter Tryz.func7, Tryz.ntmps7
 go_upto_region 1 with fail
 obtain ⟨W0, hW0⟩ : ∃ W0 : World, W0 = (((w.alloc (.cells #[.int .i64 a, .int .i64 b] 23)).alloc (.cells #[.int .i64 xn0, .int .i64 xd0, .int .i64 xn1, .int .i64 xd1, .int .i64 xn2, .int .i64 xd2, .int .i64 xn3, .int .i64 xd3] 27)).alloc (.cells #[.int .i64 yn0, .int .i64 yd0, .int .i64 yn1, .int .i64 yd1, .int .i64 yn2, .int .i64 yd2, .int .i64 yn3, .int .i64 yd3] 27)) := ⟨_, rfl⟩
 rw [← hW0]
 have HB0 := lhd (show Bx w [(w.heap.size + 2, #[.int .i64 yn0, .int .i64 yd0, .int .i64 yn1, .int .i64 yd1, .int .i64 yn2, .int .i64 yd2, .int .i64 yn3, .int .i64 yd3]), (w.heap.size + 1, #[.int .i64 xn0, .int .i64 xd0, .int .i64 xn1, .int .i64 xd1, .int .i64 xn2, .int .i64 xd2, .int .i64 xn3, .int .i64 xd3]), (w.heap.size, #[.int .i64 a, .int .i64 b])] W0 by rw [hW0]; simpa using ((((Bx.nil (Below.refl w.heap.size w)).new #[.int .i64 a, .int .i64 b] 23).new #[.int .i64 xn0, .int .i64 xd0, .int .i64 xn1, .int .i64 xd1, .int .i64 xn2, .int .i64 xd2, .int .i64 xn3, .int .i64 xd3] 27).new #[.int .i64 yn0, .int .i64 yd0, .int .i64 yn1, .int .i64 yd1, .int .i64 yn2, .int .i64 yd2, .int .i64 yn3, .int .i64 yd3] 27))
 clear hW0
 have q := fun (i : Nat) hi => (HB0.out.own _ lm2).2.2.1 i hi
 have q0 := q 0 (by simp)
 have q1 := q 1 (by simp)
 clear q
 simp only [List.getElem?_toArray, List.getElem?_cons_zero, List.getElem?_cons_succ] at q0 q1
 go_wp2_with fail
 refine (HC.out _).mono ?_
 rintro _ w1 ⟨rfl, hbb⟩
 have HB1 := lhd (HB0.out.keep hbb)
 clear hbb HB0 HC
 clear q0 q1
 have q := fun (i : Nat) hi => (HB1.out.own _ lm1).2.2.1 i hi
 have q0 := q 0 (by simp)
 have q1 := q 1 (by simp)
 have q2 := q 2 (by simp)
 have q3 := q 3 (by simp)
 have q4 := q 4 (by simp)
 have q5 := q 5 (by simp)
 have q6 := q 6 (by simp)
 have q7 := q 7 (by simp)
 clear q
 simp only [List.getElem?_toArray, List.getElem?_cons_zero, List.getElem?_cons_succ] at q0 q1 q2 q3 q4 q5 q6 q7
 go_wp2_with fail
 refine (HFX.out _).mono ?_
 rintro _ w2 ⟨vx, rfl, hvX, hbb⟩
 have HB2 := lhd (HB1.out.keep hbb)
 clear hbb HB1 HFX
 clear q0 q1 q2 q3 q4 q5 q6 q7
 obtain ⟨Xs0, XA0, Xm0, Xc0, Xs1, XA1, Xm1, Xc1, Xs2, XA2, Xm2, Xc2, Xs3, XA3, Xm3, Xc3, Xs4, XA4, Xm4, Xc4, Xs5, XA5, Xm5, Xc5, Xs6, XA6, Xm6, Xc6, Xs7, XA7, Xm7, Xc7, rfl⟩ := HXt.out.tab _ _ hvX
 go_upto_region 5 with fail
 obtain ⟨V1, hV⟩ : ∃ V : World, V = w2.alloc (.cells #[.bool Xs0, .slice XA0 Xm0 Xc0, .bool Xs1, .slice XA1 Xm1 Xc1, .bool Xs2, .slice XA2 Xm2 Xc2, .bool Xs3, .slice XA3 Xm3 Xc3, .bool Xs4, .slice XA4 Xm4 Xc4, .bool Xs5, .slice XA5 Xm5 Xc5, .bool Xs6, .slice XA6 Xm6 Xc6, .bool Xs7, .slice XA7 Xm7 Xc7] 63) := ⟨_, rfl⟩
 rw [← hV]
 have hbx : Bx w [(w2.heap.size, #[.bool Xs0, .slice XA0 Xm0 Xc0, .bool Xs1, .slice XA1 Xm1 Xc1, .bool Xs2, .slice XA2 Xm2 Xc2, .bool Xs3, .slice XA3 Xm3 Xc3, .bool Xs4, .slice XA4 Xm4 Xc4, .bool Xs5, .slice XA5 Xm5 Xc5, .bool Xs6, .slice XA6 Xm6 Xc6, .bool Xs7, .slice XA7 Xm7 Xc7]), (w.heap.size + 2, #[.int .i64 yn0, .int .i64 yd0, .int .i64 yn1, .int .i64 yd1, .int .i64 yn2, .int .i64 yd2, .int .i64 yn3, .int .i64 yd3]), (w.heap.size + 1, #[.int .i64 xn0, .int .i64 xd0, .int .i64 xn1, .int .i64 xd1, .int .i64 xn2, .int .i64 xd2, .int .i64 xn3, .int .i64 xd3]), (w.heap.size, #[.int .i64 a, .int .i64 b])] V1 := hV ▸ HB2.out.new _ _
 have hbv : Below w2.heap.size w2 V1 := hV ▸ (Below.refl _ _).alloc (Nat.le_refl _) _
 replace hvX := HXt.out.firm.below _ _ _ hvX hbv
 have hsX : (#[.bool Xs0, .slice XA0 Xm0 Xc0, .bool Xs1, .slice XA1 Xm1 Xc1, .bool Xs2, .slice XA2 Xm2 Xc2, .bool Xs3, .slice XA3 Xm3 Xc3, .bool Xs4, .slice XA4 Xm4 Xc4, .bool Xs5, .slice XA5 Xm5 Xc5, .bool Xs6, .slice XA6 Xm6 Xc6, .bool Xs7, .slice XA7 Xm7 Xc7] : Array Value).size = 16 := rfl
 have hlt1 := (hbx.own _ lm0).2.1
 clear hV hbv HB2
 generalize hgX : (#[.bool Xs0, .slice XA0 Xm0 Xc0, .bool Xs1, .slice XA1 Xm1 Xc1, .bool Xs2, .slice XA2 Xm2 Xc2, .bool Xs3, .slice XA3 Xm3 Xc3, .bool Xs4, .slice XA4 Xm4 Xc4, .bool Xs5, .slice XA5 Xm5 Xc5, .bool Xs6, .slice XA6 Xm6 Xc6, .bool Xs7, .slice XA7 Xm7 Xc7] : Array Value) = cX at *
 clear hgX Xs0 XA0 Xm0 Xc0 Xs1 XA1 Xm1 Xc1 Xs2 XA2 Xm2 Xc2 Xs3 XA3 Xm3 Xc3 Xs4 XA4 Xm4 Xc4 Xs5 XA5 Xm5 Xc5 Xs6 XA6 Xm6 Xc6 Xs7 XA7 Xm7 Xc7
 generalize w2.heap.size = KX at *
 have HV1 := lhd hbx; clear hbx; have HSX := lhd hsX; clear hsX
 have q := fun (i : Nat) hi => (HV1.out.own _ lm1).2.2.1 i hi
 have q0 := q 0 (by simp)
 have q1 := q 1 (by simp)
 have q2 := q 2 (by simp)
 have q3 := q 3 (by simp)
 have q4 := q 4 (by simp)
 have q5 := q 5 (by simp)
 have q6 := q 6 (by simp)
 have q7 := q 7 (by simp)
 clear q
 simp only [List.getElem?_toArray, List.getElem?_cons_zero, List.getElem?_cons_succ] at q0 q1 q2 q3 q4 q5 q6 q7
 go_wp2_with fail
 refine (HFY.out _).mono ?_
 rintro _ w3 ⟨vy, rfl, hvY, hbb⟩
 have HB3 := lhd (HV1.out.keep hbb)
 replace hvX := HXt.out.firm.below _ _ _ hvX hbb
 clear hbb HV1 HFY
 clear q0 q1 q2 q3 q4 q5 q6 q7
 obtain ⟨Ys0, YA0, Ym0, Yc0, Ys1, YA1, Ym1, Yc1, Ys2, YA2, Ym2, Yc2, Ys3, YA3, Ym3, Yc3, Ys4, YA4, Ym4, Yc4, Ys5, YA5, Ym5, Yc5, Ys6, YA6, Ym6, Yc6, Ys7, YA7, Ym7, Yc7, rfl⟩ := HYt.out.tab _ _ hvY
 go_upto_region 6 with fail
 obtain ⟨V2, hV⟩ : ∃ V : World, V = w3.alloc (.cells #[.bool Ys0, .slice YA0 Ym0 Yc0, .bool Ys1, .slice YA1 Ym1 Yc1, .bool Ys2, .slice YA2 Ym2 Yc2, .bool Ys3, .slice YA3 Ym3 Yc3, .bool Ys4, .slice YA4 Ym4 Yc4, .bool Ys5, .slice YA5 Ym5 Yc5, .bool Ys6, .slice YA6 Ym6 Yc6, .bool Ys7, .slice YA7 Ym7 Yc7] 63) := ⟨_, rfl⟩
 rw [← hV]
 have hbx : Bx w [(w3.heap.size, #[.bool Ys0, .slice YA0 Ym0 Yc0, .bool Ys1, .slice YA1 Ym1 Yc1, .bool Ys2, .slice YA2 Ym2 Yc2, .bool Ys3, .slice YA3 Ym3 Yc3, .bool Ys4, .slice YA4 Ym4 Yc4, .bool Ys5, .slice YA5 Ym5 Yc5, .bool Ys6, .slice YA6 Ym6 Yc6, .bool Ys7, .slice YA7 Ym7 Yc7]), (KX, cX), (w.heap.size + 2, #[.int .i64 yn0, .int .i64 yd0, .int .i64 yn1, .int .i64 yd1, .int .i64 yn2, .int .i64 yd2, .int .i64 yn3, .int .i64 yd3]), (w.heap.size + 1, #[.int .i64 xn0, .int .i64 xd0, .int .i64 xn1, .int .i64 xd1, .int .i64 xn2, .int .i64 xd2, .int .i64 xn3, .int .i64 xd3]), (w.heap.size, #[.int .i64 a, .int .i64 b])] V2 := hV ▸ HB3.out.new _ _
 have hbv : Below w3.heap.size w3 V2 := hV ▸ (Below.refl _ _).alloc (Nat.le_refl _) _
 replace hvX := HXt.out.firm.below _ _ _ hvX hbv
 replace hvY := HYt.out.firm.below _ _ _ hvY hbv
 have hsY : (#[.bool Ys0, .slice YA0 Ym0 Yc0, .bool Ys1, .slice YA1 Ym1 Yc1, .bool Ys2, .slice YA2 Ym2 Yc2, .bool Ys3, .slice YA3 Ym3 Yc3, .bool Ys4, .slice YA4 Ym4 Yc4, .bool Ys5, .slice YA5 Ym5 Yc5, .bool Ys6, .slice YA6 Ym6 Yc6, .bool Ys7, .slice YA7 Ym7 Yc7] : Array Value).size = 16 := rfl
 have hlt2 := (hbx.own _ lm0).2.1
 clear hV hbv HB3
 generalize hgY : (#[.bool Ys0, .slice YA0 Ym0 Yc0, .bool Ys1, .slice YA1 Ym1 Yc1, .bool Ys2, .slice YA2 Ym2 Yc2, .bool Ys3, .slice YA3 Ym3 Yc3, .bool Ys4, .slice YA4 Ym4 Yc4, .bool Ys5, .slice YA5 Ym5 Yc5, .bool Ys6, .slice YA6 Ym6 Yc6, .bool Ys7, .slice YA7 Ym7 Yc7] : Array Value) = cY at *
 clear hgY Ys0 YA0 Ym0 Yc0 Ys1 YA1 Ym1 Yc1 Ys2 YA2 Ym2 Yc2 Ys3 YA3 Ym3 Yc3 Ys4 YA4 Ym4 Yc4 Ys5 YA5 Ym5 Yc5 Ys6 YA6 Ym6 Yc6 Ys7 YA7 Ym7 Yc7
 generalize w3.heap.size = KY at *
 have HV2 := lhd hbx; clear hbx; have HSY := lhd hsY; clear hsY
 have HVX := lhd hvX; have HVY := lhd hvY; clear hvX hvY
 cases ox
 ·go_wp2_with fail
  go_ret
  exact ⟨ret_int (by rw [HE.out]; rfl), HV2.out.below⟩
 cases oy
 ·go_wp2_with fail
  go_ret
  exact ⟨ret_int (by rw [HE.out]; rfl), HV2.out.below⟩
 obtain ⟨qXX, qYY, qXY, qYX, qS1, qS2, qPL0, qZ0, qPL1, qZ1, qPL2, qZ2, qPL3, qZ3⟩ := HP.out (by first | rfl | trivial) (by first | rfl | trivial)
 have HXX := lhd qXX; clear qXX
 have HYY := lhd qYY; clear qYY
 have HXY := lhd qXY; clear qXY
 have HYX := lhd qYX; clear qYX
 have HS1 := lhd qS1; clear qS1
 have HS2 := lhd qS2; clear qS2
 have HPL0 := lhd qPL0; clear qPL0
 have HZ0 := lhd qZ0; clear qZ0
 have HPL1 := lhd qPL1; clear qPL1
 have HZ1 := lhd qZ1; clear qZ1
 have HPL2 := lhd qPL2; clear qPL2
 have HZ2 := lhd qZ2; clear qZ2
 have HPL3 := lhd qPL3; clear qPL3
 have HZ3 := lhd qZ3; clear qZ3
 clear HP
 have HB6 := lhd (HV2.out.sub (L' := [(KY, cY), (KX, cX), (w.heap.size, #[.int .i64 a, .int .i64 b])]) (fun x hx => by simp only [List.mem_cons, List.not_mem_nil, or_false] at hx ⊢; rcases hx with rfl | rfl | rfl <;> simp))
 clear HV2
 go_upto_region 8 with fail
 cases S1
 ·skip
  refine wp_region_val [(0, 37, PX), (1, 38, PX), (2, 39, PP), (3, 40, VC (.pointer (some ⟨w.heap.size, 0, none⟩))), (4, 41, VC (.int .i64 a)), (5, 42, VC (.bool false)), (6, 43, VC (.bool true)), (7, 44, VC (.bool true)), (8, 45, VC undef), (9, 46, VC undef), (10, 47, VC undef), (11, 48, VC undef), (12, 49, VC undef), (13, 50, VC undef), (14, 51, VC undef), (15, 52, VC (.bool true))] (fun W => Bx w [(KY, cY), (KX, cX), (w.heap.size, #[.int .i64 a, .int .i64 b])] W) [37, 38, 39, 40, 41, 42, 43, 44, 45, 46, 47, 48, 49, 50, 51, 52] (by kernel_rfl) (by kernel_rfl) (by kernel_rfl) ⟨HXt.out.firm.keeps, HXt.out.firm.keeps, HPk.out, Keeps.vc _, Keeps.vc _, Keeps.vc _, Keeps.vc _, Keeps.vc _, Keeps.vc _, Keeps.vc _, Keeps.vc _, Keeps.vc _, Keeps.vc _, Keeps.vc _, Keeps.vc _, Keeps.vc _, trivial⟩ (fun _ _ _ h hb => h.keep hb) HB6.out (forall_ops ⟨?_, ?_, ?_, ?_, ?_, ?_, ?_, ?_, ?_, ?_, ?_, ?_, ?_, ?_, ?_, ?_, trivial⟩) ?_
  ·exact .of rfl rfl fun _ _ hB hE _ _ => .loadAll (g := KX) (vs := cX) rfl (fou (v := .pointer (some ⟨KX, 0, none⟩))) (hE.own _ lm1).2 HSX.out Tryz.underlying63 rfl (by kernel_rfl) (HXt.out.firm.below _ _ _ HVX.out hB)
  ·exact .of rfl rfl fun _ _ hB hE _ _ => .loadAll (g := KX) (vs := cX) rfl (fou (v := .pointer (some ⟨KX, 0, none⟩))) (hE.own _ lm1).2 HSX.out Tryz.underlying63 rfl (by kernel_rfl) (HXt.out.firm.below _ _ _ HVX.out hB)
  ·exact .of rfl rfl fun _ W _ _ hV _ => .call Tryz.func25 (by kernel_rfl) rfl rfl rfl (map_two (fr_in (by kernel_rfl)) (fr_in (by kernel_rfl))) (HXX.out _ _ W (hget hV 0 rfl (by kernel_rfl)) (hget hV 1 rfl (by kernel_rfl)))
  ·exact .of rfl rfl fun _ _ _ _ _ _ => .fieldAddr (p := .pointer (some ⟨w.heap.size, 0, none⟩)) rfl (fou (v := .pointer (some ⟨w.heap.size, 0, none⟩))) (by kernel_rfl) rfl
  ·exact .of rfl rfl fun _ _ _ hE hV _ => .load1 (p := .pointer (some ⟨w.heap.size, 0, none⟩)) rfl (fgt hV 3 rfl) (run_load_one Tryz.underlying3 rfl ((hE.own _ lm2).2.2.1 0 (by simp))) rfl
  ·exact .of rfl rfl fun _ W _ _ hV _ => .call Tryz.func26 (by kernel_rfl) rfl rfl rfl (map_two (fr_in (by kernel_rfl)) (fgt hV 4 rfl)) (HS1.out _ W (hget hV 2 rfl (by kernel_rfl)))
  ·exact .of rfl rfl fun _ _ _ _ hV _ => .unOp (p := .bool false) rfl (fgt hV 5 rfl) (by kernel_rfl) rfl
  ·exact .of rfl rfl fun _ _ _ _ hV _ => .move rfl (fgt hV 6 rfl) rfl
  ·exact .off (b := true) rfl (by kernel_rfl) rfl rfl
  ·exact .off (b := true) rfl (by kernel_rfl) rfl rfl
  ·exact .off (b := true) rfl (by kernel_rfl) rfl rfl
  ·exact .off (b := true) rfl (by kernel_rfl) rfl rfl
  ·exact .off (b := true) rfl (by kernel_rfl) rfl rfl
  ·exact .off (b := true) rfl (by kernel_rfl) rfl rfl
  ·exact .off (b := true) rfl (by kernel_rfl) rfl rfl
  ·exact .of rfl rfl fun _ _ _ _ hV _ => .pick (b := true) rfl (fgt hV 7 rfl) rfl rfl
  intro y W7 hB hE hV
  have y1 : y 52 = .bool true := hend hV 15 rfl
  have HB7 := lhd hE; have HW7 := lhd hB; clear hE hV hB HB6
  generalize hact : fr _ _ y = act
  simp only [fr, putAll, List.foldl_cons, List.foldl_nil, List.setIfInBounds_toArray, List.set_cons_zero, List.set_cons_succ] at hact
  simp only [y1] at hact; subst hact
  clear y1
  go_wp2_with fail
  go_ret
  exact ⟨ret_int (by rw [HE.out]; rfl), HB7.out.below⟩
 cases S2
 ·skip
  refine wp_region_val [(0, 37, PX), (1, 38, PX), (2, 39, PP), (3, 40, VC (.pointer (some ⟨w.heap.size, 0, none⟩))), (4, 41, VC (.int .i64 a)), (5, 42, VC (.bool true)), (6, 43, VC (.bool false)), (7, 44, VC (.bool false)), (8, 45, PY), (9, 46, PY), (10, 47, PQ), (11, 48, VC (.pointer (some ⟨w.heap.size, 1, none⟩))), (12, 49, VC (.int .i64 b)), (13, 50, VC (.bool false)), (14, 51, VC (.bool true)), (15, 52, VC (.bool true))] (fun W => Bx w [(KY, cY), (KX, cX), (w.heap.size, #[.int .i64 a, .int .i64 b])] W) [37, 38, 39, 40, 41, 42, 43, 44, 45, 46, 47, 48, 49, 50, 51, 52] (by kernel_rfl) (by kernel_rfl) (by kernel_rfl) ⟨HXt.out.firm.keeps, HXt.out.firm.keeps, HPk.out, Keeps.vc _, Keeps.vc _, Keeps.vc _, Keeps.vc _, Keeps.vc _, HYt.out.firm.keeps, HYt.out.firm.keeps, HQk.out, Keeps.vc _, Keeps.vc _, Keeps.vc _, Keeps.vc _, Keeps.vc _, trivial⟩ (fun _ _ _ h hb => h.keep hb) HB6.out (forall_ops ⟨?_, ?_, ?_, ?_, ?_, ?_, ?_, ?_, ?_, ?_, ?_, ?_, ?_, ?_, ?_, ?_, trivial⟩) ?_
  ·exact .of rfl rfl fun _ _ hB hE _ _ => .loadAll (g := KX) (vs := cX) rfl (fou (v := .pointer (some ⟨KX, 0, none⟩))) (hE.own _ lm1).2 HSX.out Tryz.underlying63 rfl (by kernel_rfl) (HXt.out.firm.below _ _ _ HVX.out hB)
  ·exact .of rfl rfl fun _ _ hB hE _ _ => .loadAll (g := KX) (vs := cX) rfl (fou (v := .pointer (some ⟨KX, 0, none⟩))) (hE.own _ lm1).2 HSX.out Tryz.underlying63 rfl (by kernel_rfl) (HXt.out.firm.below _ _ _ HVX.out hB)
  ·exact .of rfl rfl fun _ W _ _ hV _ => .call Tryz.func25 (by kernel_rfl) rfl rfl rfl (map_two (fr_in (by kernel_rfl)) (fr_in (by kernel_rfl))) (HXX.out _ _ W (hget hV 0 rfl (by kernel_rfl)) (hget hV 1 rfl (by kernel_rfl)))
  ·exact .of rfl rfl fun _ _ _ _ _ _ => .fieldAddr (p := .pointer (some ⟨w.heap.size, 0, none⟩)) rfl (fou (v := .pointer (some ⟨w.heap.size, 0, none⟩))) (by kernel_rfl) rfl
  ·exact .of rfl rfl fun _ _ _ hE hV _ => .load1 (p := .pointer (some ⟨w.heap.size, 0, none⟩)) rfl (fgt hV 3 rfl) (run_load_one Tryz.underlying3 rfl ((hE.own _ lm2).2.2.1 0 (by simp))) rfl
  ·exact .of rfl rfl fun _ W _ _ hV _ => .call Tryz.func26 (by kernel_rfl) rfl rfl rfl (map_two (fr_in (by kernel_rfl)) (fgt hV 4 rfl)) (HS1.out _ W (hget hV 2 rfl (by kernel_rfl)))
  ·exact .of rfl rfl fun _ _ _ _ hV _ => .unOp (p := .bool true) rfl (fgt hV 5 rfl) (by kernel_rfl) rfl
  ·exact .of rfl rfl fun _ _ _ _ hV _ => .move rfl (fgt hV 6 rfl) rfl
  ·exact .on (b := false) rfl (by kernel_rfl) rfl rfl fun _ _ hB hE _ _ => .loadAll (g := KY) (vs := cY) rfl (fou (v := .pointer (some ⟨KY, 0, none⟩))) (hE.own _ lm0).2 HSY.out Tryz.underlying63 rfl (by kernel_rfl) (HYt.out.firm.below _ _ _ HVY.out hB)
  ·exact .on (b := false) rfl (by kernel_rfl) rfl rfl fun _ _ hB hE _ _ => .loadAll (g := KY) (vs := cY) rfl (fou (v := .pointer (some ⟨KY, 0, none⟩))) (hE.own _ lm0).2 HSY.out Tryz.underlying63 rfl (by kernel_rfl) (HYt.out.firm.below _ _ _ HVY.out hB)
  ·exact .on (b := false) rfl (by kernel_rfl) rfl rfl fun _ W _ _ hV _ => .call Tryz.func25 (by kernel_rfl) rfl rfl rfl (map_two (fr_in (by kernel_rfl)) (fr_in (by kernel_rfl))) (HYY.out _ _ W (hget hV 8 rfl (by kernel_rfl)) (hget hV 9 rfl (by kernel_rfl)))
  ·exact .on (b := false) rfl (by kernel_rfl) rfl rfl fun _ _ _ _ _ _ => .fieldAddr (p := .pointer (some ⟨w.heap.size, 0, none⟩)) rfl (fou (v := .pointer (some ⟨w.heap.size, 0, none⟩))) (by kernel_rfl) rfl
  ·exact .on (b := false) rfl (by kernel_rfl) rfl rfl fun _ _ _ hE hV _ => .load1 (p := .pointer (some ⟨w.heap.size, 1, none⟩)) rfl (fgt hV 11 rfl) (run_load_one Tryz.underlying3 rfl ((hE.own _ lm2).2.2.1 1 (by simp))) rfl
  ·exact .on (b := false) rfl (by kernel_rfl) rfl rfl fun _ W _ _ hV _ => .call Tryz.func26 (by kernel_rfl) rfl rfl rfl (map_two (fr_in (by kernel_rfl)) (fgt hV 12 rfl)) (HS2.out _ W (hget hV 10 rfl (by kernel_rfl)))
  ·exact .on (b := false) rfl (by kernel_rfl) rfl rfl fun _ _ _ _ hV _ => .unOp (p := .bool false) rfl (fgt hV 13 rfl) (by kernel_rfl) rfl
  ·exact .of rfl rfl fun _ _ _ _ hV _ => .pick (b := false) rfl (fgt hV 7 rfl) (fgt hV 14 rfl) rfl
  intro y W7 hB hE hV
  have y1 : y 52 = .bool true := hend hV 15 rfl
  have HB7 := lhd hE; have HW7 := lhd hB; clear hE hV hB HB6
  generalize hact : fr _ _ y = act
  simp only [fr, putAll, List.foldl_cons, List.foldl_nil, List.setIfInBounds_toArray, List.set_cons_zero, List.set_cons_succ] at hact
  simp only [y1] at hact; subst hact
  clear y1
  go_wp2_with fail
  go_ret
  exact ⟨ret_int (by rw [HE.out]; rfl), HB7.out.below⟩
 refine wp_region_val [(0, 37, PX), (1, 38, PX), (2, 39, PP), (3, 40, VC (.pointer (some ⟨w.heap.size, 0, none⟩))), (4, 41, VC (.int .i64 a)), (5, 42, VC (.bool true)), (6, 43, VC (.bool false)), (7, 44, VC (.bool false)), (8, 45, PY), (9, 46, PY), (10, 47, PQ), (11, 48, VC (.pointer (some ⟨w.heap.size, 1, none⟩))), (12, 49, VC (.int .i64 b)), (13, 50, VC (.bool true)), (14, 51, VC (.bool false)), (15, 52, VC (.bool false))] (fun W => Bx w [(KY, cY), (KX, cX), (w.heap.size, #[.int .i64 a, .int .i64 b])] W) [37, 38, 39, 40, 41, 42, 43, 44, 45, 46, 47, 48, 49, 50, 51, 52] (by kernel_rfl) (by kernel_rfl) (by kernel_rfl) ⟨HXt.out.firm.keeps, HXt.out.firm.keeps, HPk.out, Keeps.vc _, Keeps.vc _, Keeps.vc _, Keeps.vc _, Keeps.vc _, HYt.out.firm.keeps, HYt.out.firm.keeps, HQk.out, Keeps.vc _, Keeps.vc _, Keeps.vc _, Keeps.vc _, Keeps.vc _, trivial⟩ (fun _ _ _ h hb => h.keep hb) HB6.out (forall_ops ⟨?_, ?_, ?_, ?_, ?_, ?_, ?_, ?_, ?_, ?_, ?_, ?_, ?_, ?_, ?_, ?_, trivial⟩) ?_
 ·exact .of rfl rfl fun _ _ hB hE _ _ => .loadAll (g := KX) (vs := cX) rfl (fou (v := .pointer (some ⟨KX, 0, none⟩))) (hE.own _ lm1).2 HSX.out Tryz.underlying63 rfl (by kernel_rfl) (HXt.out.firm.below _ _ _ HVX.out hB)
 ·exact .of rfl rfl fun _ _ hB hE _ _ => .loadAll (g := KX) (vs := cX) rfl (fou (v := .pointer (some ⟨KX, 0, none⟩))) (hE.own _ lm1).2 HSX.out Tryz.underlying63 rfl (by kernel_rfl) (HXt.out.firm.below _ _ _ HVX.out hB)
 ·exact .of rfl rfl fun _ W _ _ hV _ => .call Tryz.func25 (by kernel_rfl) rfl rfl rfl (map_two (fr_in (by kernel_rfl)) (fr_in (by kernel_rfl))) (HXX.out _ _ W (hget hV 0 rfl (by kernel_rfl)) (hget hV 1 rfl (by kernel_rfl)))
 ·exact .of rfl rfl fun _ _ _ _ _ _ => .fieldAddr (p := .pointer (some ⟨w.heap.size, 0, none⟩)) rfl (fou (v := .pointer (some ⟨w.heap.size, 0, none⟩))) (by kernel_rfl) rfl
 ·exact .of rfl rfl fun _ _ _ hE hV _ => .load1 (p := .pointer (some ⟨w.heap.size, 0, none⟩)) rfl (fgt hV 3 rfl) (run_load_one Tryz.underlying3 rfl ((hE.own _ lm2).2.2.1 0 (by simp))) rfl
 ·exact .of rfl rfl fun _ W _ _ hV _ => .call Tryz.func26 (by kernel_rfl) rfl rfl rfl (map_two (fr_in (by kernel_rfl)) (fgt hV 4 rfl)) (HS1.out _ W (hget hV 2 rfl (by kernel_rfl)))
 ·exact .of rfl rfl fun _ _ _ _ hV _ => .unOp (p := .bool true) rfl (fgt hV 5 rfl) (by kernel_rfl) rfl
 ·exact .of rfl rfl fun _ _ _ _ hV _ => .move rfl (fgt hV 6 rfl) rfl
 ·exact .on (b := false) rfl (by kernel_rfl) rfl rfl fun _ _ hB hE _ _ => .loadAll (g := KY) (vs := cY) rfl (fou (v := .pointer (some ⟨KY, 0, none⟩))) (hE.own _ lm0).2 HSY.out Tryz.underlying63 rfl (by kernel_rfl) (HYt.out.firm.below _ _ _ HVY.out hB)
 ·exact .on (b := false) rfl (by kernel_rfl) rfl rfl fun _ _ hB hE _ _ => .loadAll (g := KY) (vs := cY) rfl (fou (v := .pointer (some ⟨KY, 0, none⟩))) (hE.own _ lm0).2 HSY.out Tryz.underlying63 rfl (by kernel_rfl) (HYt.out.firm.below _ _ _ HVY.out hB)
 ·exact .on (b := false) rfl (by kernel_rfl) rfl rfl fun _ W _ _ hV _ => .call Tryz.func25 (by kernel_rfl) rfl rfl rfl (map_two (fr_in (by kernel_rfl)) (fr_in (by kernel_rfl))) (HYY.out _ _ W (hget hV 8 rfl (by kernel_rfl)) (hget hV 9 rfl (by kernel_rfl)))
 ·exact .on (b := false) rfl (by kernel_rfl) rfl rfl fun _ _ _ _ _ _ => .fieldAddr (p := .pointer (some ⟨w.heap.size, 0, none⟩)) rfl (fou (v := .pointer (some ⟨w.heap.size, 0, none⟩))) (by kernel_rfl) rfl
 ·exact .on (b := false) rfl (by kernel_rfl) rfl rfl fun _ _ _ hE hV _ => .load1 (p := .pointer (some ⟨w.heap.size, 1, none⟩)) rfl (fgt hV 11 rfl) (run_load_one Tryz.underlying3 rfl ((hE.own _ lm2).2.2.1 1 (by simp))) rfl
 ·exact .on (b := false) rfl (by kernel_rfl) rfl rfl fun _ W _ _ hV _ => .call Tryz.func26 (by kernel_rfl) rfl rfl rfl (map_two (fr_in (by kernel_rfl)) (fgt hV 12 rfl)) (HS2.out _ W (hget hV 10 rfl (by kernel_rfl)))
 ·exact .on (b := false) rfl (by kernel_rfl) rfl rfl fun _ _ _ _ hV _ => .unOp (p := .bool true) rfl (fgt hV 13 rfl) (by kernel_rfl) rfl
 ·exact .of rfl rfl fun _ _ _ _ hV _ => .pick (b := false) rfl (fgt hV 7 rfl) (fgt hV 14 rfl) rfl
 intro y W7 hB hE hV
 have y1 : y 52 = .bool false := hend hV 15 rfl
 have HB7 := lhd hE; have HW7 := lhd hB; clear hE hV hB HB6
 generalize hact : fr _ _ y = act
 simp only [fr, putAll, List.foldl_cons, List.foldl_nil, List.setIfInBounds_toArray, List.set_cons_zero, List.set_cons_succ] at hact
 simp only [y1] at hact; subst hact
 clear y1
 have HX7 := lhd (HXt.out.firm.below _ _ _ HVX.out HW7.out); have HY7 := lhd (HYt.out.firm.below _ _ _ HVY.out HW7.out)
 clear HW7 HVX HVY HXX HYY HS1 HS2
 go_upto_region 10 with fail
 refine wp_region_full (W7.heap.size) [(0, 53, PX), (1, 54, PY), (2, 55, PR), (3, 56, PY), (4, 57, PX), (5, 58, PT)] [⟨6, 12, 8, 2, 55, zz8⟩, ⟨7, 13, 9, 5, 58, zz8⟩] [⟨KY, 999, 999, 999, cY, fun v vs => v = .agg vs⟩, ⟨KX, 999, 999, 999, cX, fun v vs => v = .agg vs⟩, ⟨w.heap.size, 999, 999, 999, #[.int .i64 a, .int .i64 b], fun v vs => v = .agg vs⟩] (fun _ => True) [53, 54, 55, 56, 57, 58, 12, 13] (Nat.le_refl _) (by kernel_rfl) (by kernel_rfl) (by kernel_rfl) (Firms.all (l := [(0, 53, PX), (1, 54, PY), (2, 55, PR), (3, 56, PY), (4, 57, PX), (5, 58, PT)]) ⟨HXt.out.firm, HYt.out.firm, HRt.out.firm, HYt.out.firm, HXt.out.firm, HTt.out.firm, trivial⟩) ⟨fun _ _ _ _ _ => trivial, fun _ _ _ _ _ _ _ => trivial⟩ trivial ?_ (forall_ops ⟨?_, ?_, ?_, ?_, ?_, ?_, ?_, ?_, ?_, ?_, trivial⟩) ?_
 ·intro c hc
  simp only [List.mem_cons, List.not_mem_nil, or_false] at hc
  rcases hc with rfl | rfl | rfl
  ·exact ⟨(HB7.out.own _ lm0).2, fun h => absurd rfl h⟩
  ·exact ⟨(HB7.out.own _ lm1).2, fun h => absurd rfl h⟩
  ·exact ⟨(HB7.out.own _ lm2).2, fun h => absurd rfl h⟩
 ·exact FOk.val rfl rfl rfl rfl fun y W hB hE hO hV => .loadAll (g := KX) (vs := cX) rfl (fou (v := .pointer (some ⟨KX, 0, none⟩))) (hO _ lm1 rfl) HSX.out Tryz.underlying63 rfl (by kernel_rfl) (HXt.out.firm.below _ _ _ HX7.out hB)
 ·exact FOk.val rfl rfl rfl rfl fun y W hB hE hO hV => .loadAll (g := KY) (vs := cY) rfl (fou (v := .pointer (some ⟨KY, 0, none⟩))) (hO _ lm0 rfl) HSY.out Tryz.underlying63 rfl (by kernel_rfl) (HYt.out.firm.below _ _ _ HY7.out hB)
 ·exact FOk.val rfl rfl rfl rfl fun y W hB hE hO hV => .call Tryz.func25 (by kernel_rfl) rfl rfl rfl (map_two (fr_in (by kernel_rfl)) (fr_in (by kernel_rfl))) (HXY.out _ _ W (hget hV 0 rfl (by kernel_rfl)) (hget hV 1 rfl (by kernel_rfl)))
 ·exact FOk.val rfl rfl rfl rfl fun y W hB hE hO hV => .loadAll (g := KY) (vs := cY) rfl (fou (v := .pointer (some ⟨KY, 0, none⟩))) (hO _ lm0 rfl) HSY.out Tryz.underlying63 rfl (by kernel_rfl) (HYt.out.firm.below _ _ _ HY7.out hB)
 ·exact FOk.val rfl rfl rfl rfl fun y W hB hE hO hV => .loadAll (g := KX) (vs := cX) rfl (fou (v := .pointer (some ⟨KX, 0, none⟩))) (hO _ lm1 rfl) HSX.out Tryz.underlying63 rfl (by kernel_rfl) (HXt.out.firm.below _ _ _ HX7.out hB)
 ·exact FOk.val rfl rfl rfl rfl fun y W hB hE hO hV => .call Tryz.func25 (by kernel_rfl) rfl rfl rfl (map_two (fr_in (by kernel_rfl)) (fr_in (by kernel_rfl))) (HYX.out _ _ W (hget hV 3 rfl (by kernel_rfl)) (hget hV 4 rfl (by kernel_rfl)))
 ·refine .inl ⟨.inl rfl, .inr (.inl ⟨word_none (by kernel_rfl), by simp, _, lm0, rfl, by simp, by simp, 63, noint_list (by kernel_rfl), fun y W K Q' hK => ?_⟩)⟩
  simp only [fr, putAll, List.foldl_cons, List.foldl_nil, List.setIfInBounds_toArray, List.set_cons_zero, List.set_cons_succ] at hK ⊢
  go_simp
  exact hK
 ·refine .inl ⟨.inl rfl, .inr (.inl ⟨word_none (by kernel_rfl), by simp, _, lm1, rfl, by simp, by simp, 63, noint_list (by kernel_rfl), fun y W K Q' hK => ?_⟩)⟩
  simp only [fr, putAll, List.foldl_cons, List.foldl_nil, List.setIfInBounds_toArray, List.set_cons_zero, List.set_cons_succ] at hK ⊢
  go_simp
  exact hK
 ·exact .inl ⟨.inl rfl, .inr (.inr (.inl ⟨rfl, word_none (by kernel_rfl), by simp, _, lm0, rfl, by simp, by simp, (by kernel_rfl), (by kernel_rfl), fun y W g hB hV hg hgw hc K Q' hK => WpS.sto (n := 16) rfl ((fr_in (by kernel_rfl)).trans hg) (fr_in (by kernel_rfl)) (HRt.out.isTab (hget hV 2 rfl (by kernel_rfl))) hc rfl (by kernel_rfl) hK⟩))⟩
 ·exact .inl ⟨.inl rfl, .inr (.inr (.inl ⟨rfl, word_none (by kernel_rfl), by simp, _, lm1, rfl, by simp, by simp, (by kernel_rfl), (by kernel_rfl), fun y W g hB hV hg hgw hc K Q' hK => WpS.sto (n := 16) rfl ((fr_in (by kernel_rfl)).trans hg) (fr_in (by kernel_rfl)) (HTt.out.isTab (hget hV 5 rfl (by kernel_rfl))) hc rfl (by kernel_rfl) hK⟩))⟩
 intro y W8 hB hE hO hV hBo hA
 obtain ⟨KR, zR, lR, cR, eR, hR⟩ := hBo _ lm0
 dsimp only at zR eR
 have pR := hend hV 2 rfl
 rw [eR] at pR
 obtain ⟨KT, zT, lT, cT, eT, hT⟩ := hBo _ lm1
 dsimp only at zT eT
 have pT := hend hV 5 rfl
 rw [eT] at pT
 have o0 := (hO _ lm0).1 rfl
 dsimp only at o0
 have o1 := (hO _ lm1).1 rfl
 dsimp only at o1
 have o2 := (hO _ lm2).1 rfl
 dsimp only at o2
 have HB8 := lhd (show Bx w [(KT, cT), (KR, cR), (KY, cY), (KX, cX), (w.heap.size, #[.int .i64 a, .int .i64 b])] W8 from ((((((Bx.nil (HB7.out.below.trans (hB.mono HB7.out.below.size))).cons (HB7.out.own _ lm2).1 o2).cons (HB7.out.own _ lm1).1 o1).cons (HB7.out.own _ lm0).1 o0).cons (Nat.le_trans HB7.out.below.size lR) hR).cons (Nat.le_trans HB7.out.below.size lT) hT))
 generalize hact : fr _ _ y = act
 simp only [fr, putAll, List.foldl_cons, List.foldl_nil, List.setIfInBounds_toArray, List.set_cons_zero, List.set_cons_succ] at hact
 simp only [zR, zT, eR, eT] at hact; subst hact
 have HR := lhd pR; have HT := lhd pT
 have HSR := lhd (size_of_tab (HRt.out.isTab pR)); have HST := lhd (size_of_tab (HTt.out.isTab pT))
 clear hB hE hO hV hBo hA o0 o1 o2 zR zT eR eT pR pT lR lT hR hT HB7 HX7 HY7 HXY HYX HSX HSY
 have HB9 := lhd (HB8.out.sub (L' := [(KT, cT), (KR, cR)]) (fun x hx => by simp only [List.mem_cons, List.not_mem_nil, or_false] at hx ⊢; rcases hx with rfl | rfl <;> simp)); clear HB8
 obtain ⟨Zt, y0, y1, y2, y3, y4⟩ : ∃ Zt : Nat → Prop, Zt 0 = True ∧ Zt 1 = (z0 = true) ∧ Zt 2 = (z0 = true ∧ z1 = true) ∧ Zt 3 = (z0 = true ∧ z1 = true ∧ z2 = true) ∧ Zt 4 = (z0 = true ∧ z1 = true ∧ z2 = true ∧ z3 = true) := ⟨fun k => match k with | 0 => True | 1 => z0 = true | 2 => z0 = true ∧ z1 = true | 3 => z0 = true ∧ z1 = true ∧ z2 = true | _ => z0 = true ∧ z1 = true ∧ z2 = true ∧ z3 = true, rfl, rfl, rfl, rfl, rfl⟩
 have Y0 := lhd y0; clear y0
 have Y1 := lhd y1; clear y1
 have Y2 := lhd y2; clear y2
 have Y3 := lhd y3; clear y3
 have Y4 := lhd y4; clear y4
 go_wp2_with fail
 go_loopw [59] (fun s59 wr => ∃ k : Nat, s59 = .int .i64 k ∧ k ≤ 2 ∧ Zt (2 * k) ∧ Bx w [(KT, cT), (KR, cR)] wr ∧ Below W8.heap.size W8 wr) (fun s _ => 2 - (intOf s).toNat)
 case atStart => exact ⟨0, rfl, by omega, by rw [Y0.out]; trivial, HB9.out, Below.refl _ _⟩
 case round =>
  obtain ⟨k, rfl, hk, hz0, hb, hw⟩ := hrel
  clear HB9
  by_cases k0 : k = 0
  ·subst k0
   clear hk
   obtain ⟨wo, hwo⟩ : ∃ wo : World, wo = wr := ⟨_, rfl⟩; subst hwo
   go_wp2_with fail
   go_loopw [62] (fun s62 wr => ∃ m : Nat, s62 = .int .i64 m ∧ m ≤ 2 ∧ Zt (0 + m) ∧ Bx w [(KT, cT), (KR, cR)] wr ∧ Below W8.heap.size W8 wr) (fun s _ => 2 - (intOf s).toNat)
   case atStart => exact ⟨0, rfl, by omega, hz0, hb, hw⟩
   case round =>
    clear hz0 hb hw
    obtain ⟨m, rfl, hm, hz0, hb, hw⟩ := hrel
    by_cases m0 : m = 0
    ·subst m0
     have HZt := lhd (show Zt 0 from hz0); have HB := lhd hb; have HW := lhd hw; clear hz0 hb hw hm
     go_upto_region 17 with fail
     have HR9 := lhd (HRt.out.firm.below _ _ _ HR.out HW.out); have HT9 := lhd (HTt.out.firm.below _ _ _ HT.out HW.out)
     refine wp_region_val [(0, 65, VC (.int .i64 0)), (1, 66, VC (.int .i64 0)), (2, 67, VC (.pointer (some ⟨KR, 0, none⟩))), (3, 68, VC (.pointer (some ⟨KR, 0, none⟩))), (4, 69, VC (.agg (cR.extract 0 4))), (5, 70, VC (.int .i64 0)), (6, 71, VC (.int .i64 0)), (7, 72, VC (.pointer (some ⟨KT, 0, none⟩))), (8, 73, VC (.pointer (some ⟨KT, 0, none⟩))), (9, 74, VC (.agg (cT.extract 0 4))), (10, 75, PZ0), (11, 76, VC (.bool z0)), (12, 77, VC (.bool (!z0)))] (fun W => Bx w [(KT, cT), (KR, cR)] W) [65, 66, 67, 68, 69, 70, 71, 72, 73, 74, 75, 76, 77] (by kernel_rfl) (by kernel_rfl) (by kernel_rfl) ⟨Keeps.vc _, Keeps.vc _, Keeps.vc _, Keeps.vc _, Keeps.vc _, Keeps.vc _, Keeps.vc _, Keeps.vc _, Keeps.vc _, Keeps.vc _, HZ0k.out, Keeps.vc _, Keeps.vc _, trivial⟩ (fun _ _ _ h hb => h.keep hb) HB.out (forall_ops ⟨?_, ?_, ?_, ?_, ?_, ?_, ?_, ?_, ?_, ?_, ?_, ?_, ?_, trivial⟩) ?_
     ·exact .of rfl rfl fun _ _ _ _ _ _ => .move rfl (fou (v := .int .i64 0)) rfl
     ·exact .of rfl rfl fun _ _ _ _ _ _ => .move rfl (fou (v := .int .i64 0)) rfl
     ·exact .of rfl rfl fun _ _ _ _ hV _ => .indexAddr (p := .pointer (some ⟨KR, 0, none⟩)) (k := .int .i64 0) rfl (fou (v := .pointer (some ⟨KR, 0, none⟩))) (fgt hV 0 rfl) (by kernel_rfl) rfl
     ·exact .of rfl rfl fun _ _ _ _ hV _ => .indexAddr (p := .pointer (some ⟨KR, 0, none⟩)) (k := .int .i64 0) rfl (fgt hV 2 rfl) (fgt hV 1 rfl) (by kernel_rfl) rfl
     ·exact .of rfl rfl fun _ _ _ hE hV _ => .load (g := KR) (k := 0) (n := 4) (vs := cR) rfl (fgt hV 3 rfl) (hE.own _ lm1).2 (by rw [HSR.out]; decide) Tryz.underlying60 rfl (by kernel_rfl) rfl
     ·exact .of rfl rfl fun _ _ _ _ _ _ => .move rfl (fou (v := .int .i64 0)) rfl
     ·exact .of rfl rfl fun _ _ _ _ _ _ => .move rfl (fou (v := .int .i64 0)) rfl
     ·exact .of rfl rfl fun _ _ _ _ hV _ => .indexAddr (p := .pointer (some ⟨KT, 0, none⟩)) (k := .int .i64 0) rfl (fou (v := .pointer (some ⟨KT, 0, none⟩))) (fgt hV 5 rfl) (by kernel_rfl) rfl
     ·exact .of rfl rfl fun _ _ _ _ hV _ => .indexAddr (p := .pointer (some ⟨KT, 0, none⟩)) (k := .int .i64 0) rfl (fgt hV 7 rfl) (fgt hV 6 rfl) (by kernel_rfl) rfl
     ·exact .of rfl rfl fun _ _ _ hE hV _ => .load (g := KT) (k := 0) (n := 4) (vs := cT) rfl (fgt hV 8 rfl) (hE.own _ lm0).2 (by rw [HST.out]; decide) Tryz.underlying60 rfl (by kernel_rfl) rfl
     ·exact .of rfl rfl fun _ W hB _ hV _ => .call Tryz.func27 (by kernel_rfl) rfl rfl rfl (map_two (fgt hV 4 rfl) (fgt hV 9 rfl)) (HPL0.out _ _ W (HRt.out.firm.below _ _ _ HR9.out hB) (HTt.out.firm.below _ _ _ HT9.out hB))
     ·exact .of rfl rfl fun _ W _ _ hV _ => .call Tryz.func28 (by kernel_rfl) rfl rfl rfl (map_two (fr_in (by kernel_rfl)) rfl) (HZ0.out _ W (hget hV 10 rfl (by kernel_rfl)))
     ·exact .of rfl rfl fun _ _ _ _ hV _ => .unOp (p := .bool z0) rfl (fgt hV 11 rfl) (by kernel_rfl) rfl
     intro y W9 hB hE hV
     have y1 : y 77 = .bool (!z0) := hend hV 12 rfl
     have HBn := lhd hE; have HWn := lhd (HW.out.trans (hB.mono HW.out.size)); clear hE hV hB HB HW HR9 HT9
     generalize hact : fr _ _ y = act
     simp only [fr, putAll, List.foldl_cons, List.foldl_nil, List.setIfInBounds_toArray, List.set_cons_zero, List.set_cons_succ] at hact
     simp only [y1] at hact; subst hact
     clear y1
     cases hz : z0
     ·have HEe := lhd (show (18 : Int) = E from by rw [HE.out, hz]; simp)
      subst hz
      go_wp2_with fail
      go_ret
      exact ⟨ret_int HEe.out, HBn.out.below⟩
     have HZn := lhd (show Zt 1 from by have := HZt.out; rw [Y0.out] at this; rw [Y1.out]; exact hz)
     subst hz
     go_wp2_with fail
     exact ⟨⟨1, by first | rfl | go_num, by omega, HZn.out, HBn.out, HWn.out⟩, by simp [intOf]⟩
    by_cases m1 : m = 1
    ·subst m1
     have HZt := lhd (show Zt 1 from hz0); have HB := lhd hb; have HW := lhd hw; clear hz0 hb hw hm
     go_upto_region 17 with fail
     have HR9 := lhd (HRt.out.firm.below _ _ _ HR.out HW.out); have HT9 := lhd (HTt.out.firm.below _ _ _ HT.out HW.out)
     refine wp_region_val [(0, 65, VC (.int .i64 0)), (1, 66, VC (.int .i64 1)), (2, 67, VC (.pointer (some ⟨KR, 0, none⟩))), (3, 68, VC (.pointer (some ⟨KR, 4, none⟩))), (4, 69, VC (.agg (cR.extract 4 8))), (5, 70, VC (.int .i64 0)), (6, 71, VC (.int .i64 1)), (7, 72, VC (.pointer (some ⟨KT, 0, none⟩))), (8, 73, VC (.pointer (some ⟨KT, 4, none⟩))), (9, 74, VC (.agg (cT.extract 4 8))), (10, 75, PZ1), (11, 76, VC (.bool z1)), (12, 77, VC (.bool (!z1)))] (fun W => Bx w [(KT, cT), (KR, cR)] W) [65, 66, 67, 68, 69, 70, 71, 72, 73, 74, 75, 76, 77] (by kernel_rfl) (by kernel_rfl) (by kernel_rfl) ⟨Keeps.vc _, Keeps.vc _, Keeps.vc _, Keeps.vc _, Keeps.vc _, Keeps.vc _, Keeps.vc _, Keeps.vc _, Keeps.vc _, Keeps.vc _, HZ1k.out, Keeps.vc _, Keeps.vc _, trivial⟩ (fun _ _ _ h hb => h.keep hb) HB.out (forall_ops ⟨?_, ?_, ?_, ?_, ?_, ?_, ?_, ?_, ?_, ?_, ?_, ?_, ?_, trivial⟩) ?_
     ·exact .of rfl rfl fun _ _ _ _ _ _ => .move rfl (fou (v := .int .i64 0)) rfl
     ·exact .of rfl rfl fun _ _ _ _ _ _ => .move rfl (fou (v := .int .i64 1)) rfl
     ·exact .of rfl rfl fun _ _ _ _ hV _ => .indexAddr (p := .pointer (some ⟨KR, 0, none⟩)) (k := .int .i64 0) rfl (fou (v := .pointer (some ⟨KR, 0, none⟩))) (fgt hV 0 rfl) (by kernel_rfl) rfl
     ·exact .of rfl rfl fun _ _ _ _ hV _ => .indexAddr (p := .pointer (some ⟨KR, 0, none⟩)) (k := .int .i64 1) rfl (fgt hV 2 rfl) (fgt hV 1 rfl) (by kernel_rfl) rfl
     ·exact .of rfl rfl fun _ _ _ hE hV _ => .load (g := KR) (k := 4) (n := 4) (vs := cR) rfl (fgt hV 3 rfl) (hE.own _ lm1).2 (by rw [HSR.out]; decide) Tryz.underlying60 rfl (by kernel_rfl) rfl
     ·exact .of rfl rfl fun _ _ _ _ _ _ => .move rfl (fou (v := .int .i64 0)) rfl
     ·exact .of rfl rfl fun _ _ _ _ _ _ => .move rfl (fou (v := .int .i64 1)) rfl
     ·exact .of rfl rfl fun _ _ _ _ hV _ => .indexAddr (p := .pointer (some ⟨KT, 0, none⟩)) (k := .int .i64 0) rfl (fou (v := .pointer (some ⟨KT, 0, none⟩))) (fgt hV 5 rfl) (by kernel_rfl) rfl
     ·exact .of rfl rfl fun _ _ _ _ hV _ => .indexAddr (p := .pointer (some ⟨KT, 0, none⟩)) (k := .int .i64 1) rfl (fgt hV 7 rfl) (fgt hV 6 rfl) (by kernel_rfl) rfl
     ·exact .of rfl rfl fun _ _ _ hE hV _ => .load (g := KT) (k := 4) (n := 4) (vs := cT) rfl (fgt hV 8 rfl) (hE.own _ lm0).2 (by rw [HST.out]; decide) Tryz.underlying60 rfl (by kernel_rfl) rfl
     ·exact .of rfl rfl fun _ W hB _ hV _ => .call Tryz.func27 (by kernel_rfl) rfl rfl rfl (map_two (fgt hV 4 rfl) (fgt hV 9 rfl)) (HPL1.out _ _ W (HRt.out.firm.below _ _ _ HR9.out hB) (HTt.out.firm.below _ _ _ HT9.out hB))
     ·exact .of rfl rfl fun _ W _ _ hV _ => .call Tryz.func28 (by kernel_rfl) rfl rfl rfl (map_two (fr_in (by kernel_rfl)) rfl) (HZ1.out _ W (hget hV 10 rfl (by kernel_rfl)))
     ·exact .of rfl rfl fun _ _ _ _ hV _ => .unOp (p := .bool z1) rfl (fgt hV 11 rfl) (by kernel_rfl) rfl
     intro y W9 hB hE hV
     have y1 : y 77 = .bool (!z1) := hend hV 12 rfl
     have HBn := lhd hE; have HWn := lhd (HW.out.trans (hB.mono HW.out.size)); clear hE hV hB HB HW HR9 HT9
     generalize hact : fr _ _ y = act
     simp only [fr, putAll, List.foldl_cons, List.foldl_nil, List.setIfInBounds_toArray, List.set_cons_zero, List.set_cons_succ] at hact
     simp only [y1] at hact; subst hact
     clear y1
     cases hz : z1
     ·have HEe := lhd (show (18 : Int) = E from by rw [HE.out, hz]; simp)
      subst hz
      go_wp2_with fail
      go_ret
      exact ⟨ret_int HEe.out, HBn.out.below⟩
     have HZn := lhd (show Zt 2 from by have := HZt.out; rw [Y1.out] at this; rw [Y2.out]; simp only [this, hz, and_self])
     subst hz
     go_wp2_with fail
     exact ⟨⟨2, by first | rfl | go_num, by omega, HZn.out, HBn.out, HWn.out⟩, by simp [intOf]⟩
    obtain rfl : m = 2 := by omega
    clear m0 m1 hm
    have HZt := lhd hz0; have HB := lhd hb; have HW := lhd hw; clear hz0 hb hw
    go_wp2_with fail
    exact ⟨⟨1, by first | rfl | go_num, by omega, HZt.out, HB.out, HW.out⟩, by simp [intOf]⟩
  by_cases k1 : k = 1
  ·subst k1
   clear hk
   obtain ⟨wo, hwo⟩ : ∃ wo : World, wo = wr := ⟨_, rfl⟩; subst hwo
   go_wp2_with fail
   go_loopw [62] (fun s62 wr => ∃ m : Nat, s62 = .int .i64 m ∧ m ≤ 2 ∧ Zt (2 + m) ∧ Bx w [(KT, cT), (KR, cR)] wr ∧ Below W8.heap.size W8 wr) (fun s _ => 2 - (intOf s).toNat)
   case atStart => exact ⟨0, rfl, by omega, hz0, hb, hw⟩
   case round =>
    clear hz0 hb hw
    obtain ⟨m, rfl, hm, hz0, hb, hw⟩ := hrel
    by_cases m0 : m = 0
    ·subst m0
     have HZt := lhd (show Zt 2 from hz0); have HB := lhd hb; have HW := lhd hw; clear hz0 hb hw hm
     go_upto_region 17 with fail
     have HR9 := lhd (HRt.out.firm.below _ _ _ HR.out HW.out); have HT9 := lhd (HTt.out.firm.below _ _ _ HT.out HW.out)
     refine wp_region_val [(0, 65, VC (.int .i64 1)), (1, 66, VC (.int .i64 0)), (2, 67, VC (.pointer (some ⟨KR, 8, none⟩))), (3, 68, VC (.pointer (some ⟨KR, 8, none⟩))), (4, 69, VC (.agg (cR.extract 8 12))), (5, 70, VC (.int .i64 1)), (6, 71, VC (.int .i64 0)), (7, 72, VC (.pointer (some ⟨KT, 8, none⟩))), (8, 73, VC (.pointer (some ⟨KT, 8, none⟩))), (9, 74, VC (.agg (cT.extract 8 12))), (10, 75, PZ2), (11, 76, VC (.bool z2)), (12, 77, VC (.bool (!z2)))] (fun W => Bx w [(KT, cT), (KR, cR)] W) [65, 66, 67, 68, 69, 70, 71, 72, 73, 74, 75, 76, 77] (by kernel_rfl) (by kernel_rfl) (by kernel_rfl) ⟨Keeps.vc _, Keeps.vc _, Keeps.vc _, Keeps.vc _, Keeps.vc _, Keeps.vc _, Keeps.vc _, Keeps.vc _, Keeps.vc _, Keeps.vc _, HZ2k.out, Keeps.vc _, Keeps.vc _, trivial⟩ (fun _ _ _ h hb => h.keep hb) HB.out (forall_ops ⟨?_, ?_, ?_, ?_, ?_, ?_, ?_, ?_, ?_, ?_, ?_, ?_, ?_, trivial⟩) ?_
     ·exact .of rfl rfl fun _ _ _ _ _ _ => .move rfl (fou (v := .int .i64 1)) rfl
     ·exact .of rfl rfl fun _ _ _ _ _ _ => .move rfl (fou (v := .int .i64 0)) rfl
     ·exact .of rfl rfl fun _ _ _ _ hV _ => .indexAddr (p := .pointer (some ⟨KR, 0, none⟩)) (k := .int .i64 1) rfl (fou (v := .pointer (some ⟨KR, 0, none⟩))) (fgt hV 0 rfl) (by kernel_rfl) rfl
     ·exact .of rfl rfl fun _ _ _ _ hV _ => .indexAddr (p := .pointer (some ⟨KR, 8, none⟩)) (k := .int .i64 0) rfl (fgt hV 2 rfl) (fgt hV 1 rfl) (by kernel_rfl) rfl
     ·exact .of rfl rfl fun _ _ _ hE hV _ => .load (g := KR) (k := 8) (n := 4) (vs := cR) rfl (fgt hV 3 rfl) (hE.own _ lm1).2 (by rw [HSR.out]; decide) Tryz.underlying60 rfl (by kernel_rfl) rfl
     ·exact .of rfl rfl fun _ _ _ _ _ _ => .move rfl (fou (v := .int .i64 1)) rfl
     ·exact .of rfl rfl fun _ _ _ _ _ _ => .move rfl (fou (v := .int .i64 0)) rfl
     ·exact .of rfl rfl fun _ _ _ _ hV _ => .indexAddr (p := .pointer (some ⟨KT, 0, none⟩)) (k := .int .i64 1) rfl (fou (v := .pointer (some ⟨KT, 0, none⟩))) (fgt hV 5 rfl) (by kernel_rfl) rfl
     ·exact .of rfl rfl fun _ _ _ _ hV _ => .indexAddr (p := .pointer (some ⟨KT, 8, none⟩)) (k := .int .i64 0) rfl (fgt hV 7 rfl) (fgt hV 6 rfl) (by kernel_rfl) rfl
     ·exact .of rfl rfl fun _ _ _ hE hV _ => .load (g := KT) (k := 8) (n := 4) (vs := cT) rfl (fgt hV 8 rfl) (hE.own _ lm0).2 (by rw [HST.out]; decide) Tryz.underlying60 rfl (by kernel_rfl) rfl
     ·exact .of rfl rfl fun _ W hB _ hV _ => .call Tryz.func27 (by kernel_rfl) rfl rfl rfl (map_two (fgt hV 4 rfl) (fgt hV 9 rfl)) (HPL2.out _ _ W (HRt.out.firm.below _ _ _ HR9.out hB) (HTt.out.firm.below _ _ _ HT9.out hB))
     ·exact .of rfl rfl fun _ W _ _ hV _ => .call Tryz.func28 (by kernel_rfl) rfl rfl rfl (map_two (fr_in (by kernel_rfl)) rfl) (HZ2.out _ W (hget hV 10 rfl (by kernel_rfl)))
     ·exact .of rfl rfl fun _ _ _ _ hV _ => .unOp (p := .bool z2) rfl (fgt hV 11 rfl) (by kernel_rfl) rfl
     intro y W9 hB hE hV
     have y1 : y 77 = .bool (!z2) := hend hV 12 rfl
     have HBn := lhd hE; have HWn := lhd (HW.out.trans (hB.mono HW.out.size)); clear hE hV hB HB HW HR9 HT9
     generalize hact : fr _ _ y = act
     simp only [fr, putAll, List.foldl_cons, List.foldl_nil, List.setIfInBounds_toArray, List.set_cons_zero, List.set_cons_succ] at hact
     simp only [y1] at hact; subst hact
     clear y1
     cases hz : z2
     ·have HEe := lhd (show (18 : Int) = E from by rw [HE.out, hz]; simp)
      subst hz
      go_wp2_with fail
      go_ret
      exact ⟨ret_int HEe.out, HBn.out.below⟩
     have HZn := lhd (show Zt 3 from by have := HZt.out; rw [Y2.out] at this; rw [Y3.out]; simp only [this, hz, and_self])
     subst hz
     go_wp2_with fail
     exact ⟨⟨1, by first | rfl | go_num, by omega, HZn.out, HBn.out, HWn.out⟩, by simp [intOf]⟩
    by_cases m1 : m = 1
    ·subst m1
     have HZt := lhd (show Zt 3 from hz0); have HB := lhd hb; have HW := lhd hw; clear hz0 hb hw hm
     go_upto_region 17 with fail
     have HR9 := lhd (HRt.out.firm.below _ _ _ HR.out HW.out); have HT9 := lhd (HTt.out.firm.below _ _ _ HT.out HW.out)
     refine wp_region_val [(0, 65, VC (.int .i64 1)), (1, 66, VC (.int .i64 1)), (2, 67, VC (.pointer (some ⟨KR, 8, none⟩))), (3, 68, VC (.pointer (some ⟨KR, 12, none⟩))), (4, 69, VC (.agg (cR.extract 12 16))), (5, 70, VC (.int .i64 1)), (6, 71, VC (.int .i64 1)), (7, 72, VC (.pointer (some ⟨KT, 8, none⟩))), (8, 73, VC (.pointer (some ⟨KT, 12, none⟩))), (9, 74, VC (.agg (cT.extract 12 16))), (10, 75, PZ3), (11, 76, VC (.bool z3)), (12, 77, VC (.bool (!z3)))] (fun W => Bx w [(KT, cT), (KR, cR)] W) [65, 66, 67, 68, 69, 70, 71, 72, 73, 74, 75, 76, 77] (by kernel_rfl) (by kernel_rfl) (by kernel_rfl) ⟨Keeps.vc _, Keeps.vc _, Keeps.vc _, Keeps.vc _, Keeps.vc _, Keeps.vc _, Keeps.vc _, Keeps.vc _, Keeps.vc _, Keeps.vc _, HZ3k.out, Keeps.vc _, Keeps.vc _, trivial⟩ (fun _ _ _ h hb => h.keep hb) HB.out (forall_ops ⟨?_, ?_, ?_, ?_, ?_, ?_, ?_, ?_, ?_, ?_, ?_, ?_, ?_, trivial⟩) ?_
     ·exact .of rfl rfl fun _ _ _ _ _ _ => .move rfl (fou (v := .int .i64 1)) rfl
     ·exact .of rfl rfl fun _ _ _ _ _ _ => .move rfl (fou (v := .int .i64 1)) rfl
     ·exact .of rfl rfl fun _ _ _ _ hV _ => .indexAddr (p := .pointer (some ⟨KR, 0, none⟩)) (k := .int .i64 1) rfl (fou (v := .pointer (some ⟨KR, 0, none⟩))) (fgt hV 0 rfl) (by kernel_rfl) rfl
     ·exact .of rfl rfl fun _ _ _ _ hV _ => .indexAddr (p := .pointer (some ⟨KR, 8, none⟩)) (k := .int .i64 1) rfl (fgt hV 2 rfl) (fgt hV 1 rfl) (by kernel_rfl) rfl
     ·exact .of rfl rfl fun _ _ _ hE hV _ => .load (g := KR) (k := 12) (n := 4) (vs := cR) rfl (fgt hV 3 rfl) (hE.own _ lm1).2 (by rw [HSR.out]; decide) Tryz.underlying60 rfl (by kernel_rfl) rfl
     ·exact .of rfl rfl fun _ _ _ _ _ _ => .move rfl (fou (v := .int .i64 1)) rfl
     ·exact .of rfl rfl fun _ _ _ _ _ _ => .move rfl (fou (v := .int .i64 1)) rfl
     ·exact .of rfl rfl fun _ _ _ _ hV _ => .indexAddr (p := .pointer (some ⟨KT, 0, none⟩)) (k := .int .i64 1) rfl (fou (v := .pointer (some ⟨KT, 0, none⟩))) (fgt hV 5 rfl) (by kernel_rfl) rfl
     ·exact .of rfl rfl fun _ _ _ _ hV _ => .indexAddr (p := .pointer (some ⟨KT, 8, none⟩)) (k := .int .i64 1) rfl (fgt hV 7 rfl) (fgt hV 6 rfl) (by kernel_rfl) rfl
     ·exact .of rfl rfl fun _ _ _ hE hV _ => .load (g := KT) (k := 12) (n := 4) (vs := cT) rfl (fgt hV 8 rfl) (hE.own _ lm0).2 (by rw [HST.out]; decide) Tryz.underlying60 rfl (by kernel_rfl) rfl
     ·exact .of rfl rfl fun _ W hB _ hV _ => .call Tryz.func27 (by kernel_rfl) rfl rfl rfl (map_two (fgt hV 4 rfl) (fgt hV 9 rfl)) (HPL3.out _ _ W (HRt.out.firm.below _ _ _ HR9.out hB) (HTt.out.firm.below _ _ _ HT9.out hB))
     ·exact .of rfl rfl fun _ W _ _ hV _ => .call Tryz.func28 (by kernel_rfl) rfl rfl rfl (map_two (fr_in (by kernel_rfl)) rfl) (HZ3.out _ W (hget hV 10 rfl (by kernel_rfl)))
     ·exact .of rfl rfl fun _ _ _ _ hV _ => .unOp (p := .bool z3) rfl (fgt hV 11 rfl) (by kernel_rfl) rfl
     intro y W9 hB hE hV
     have y1 : y 77 = .bool (!z3) := hend hV 12 rfl
     have HBn := lhd hE; have HWn := lhd (HW.out.trans (hB.mono HW.out.size)); clear hE hV hB HB HW HR9 HT9
     generalize hact : fr _ _ y = act
     simp only [fr, putAll, List.foldl_cons, List.foldl_nil, List.setIfInBounds_toArray, List.set_cons_zero, List.set_cons_succ] at hact
     simp only [y1] at hact; subst hact
     clear y1
     cases hz : z3
     ·have HEe := lhd (show (18 : Int) = E from by rw [HE.out, hz]; simp)
      subst hz
      go_wp2_with fail
      go_ret
      exact ⟨ret_int HEe.out, HBn.out.below⟩
     have HZn := lhd (show Zt 4 from by have := HZt.out; rw [Y3.out] at this; rw [Y4.out]; simp only [this, hz, and_self])
     subst hz
     go_wp2_with fail
     exact ⟨⟨2, by first | rfl | go_num, by omega, HZn.out, HBn.out, HWn.out⟩, by simp [intOf]⟩
    obtain rfl : m = 2 := by omega
    clear m0 m1 hm
    have HZt := lhd hz0; have HB := lhd hb; have HW := lhd hw; clear hz0 hb hw
    go_wp2_with fail
    exact ⟨⟨2, by first | rfl | go_num, by omega, HZt.out, HB.out, HW.out⟩, by simp [intOf]⟩
  obtain rfl : k = 2 := by omega
  have hz4 : Zt 4 := hz0
  rw [Y4.out] at hz4
  obtain ⟨b0, b1, b2, b3⟩ := hz4
  have HEe := lhd (show (0 : Int) = E from by rw [HE.out, b0, b1, b2, b3]; rfl)
  have HB := lhd hb; clear hb hw hz0 hk b0 b1 b2 b3
  go_wp2_with fail
  go_ret
  exact ⟨ret_int HEe.out, HB.out.below⟩
set_option maxRecDepth 100000 in
theorem qCheckSplit (a b xn0 xd0 xn1 xd1 xn2 xd2 xn3 xd3 yn0 yd0 yn1 yd1 yn2 yd2 yn3 yd3 : Int) (w : World) (hab : aE a b = 0) (hxn0 : I64 xn0) (hxd0 : I64 xd0) (hxn1 : I64 xn1) (hxd1 : I64 xd1) (hxn2 : I64 xn2) (hxd2 : I64 xd2) (hxn3 : I64 xn3) (hxd3 : I64 xd3) (hyn0 : I64 yn0) (hyd0 : I64 yd0) (hyn1 : I64 yn1) (hyd1 : I64 yd1) (hyn2 : I64 yn2) (hyd2 : I64 yd2) (hyn3 : I64 yn3) (hyd3 : I64 yd3) :
  Calls Tryz.prog 7 #[.agg #[.int .i64 a, .int .i64 b], .agg #[.int .i64 xn0, .int .i64 xd0, .int .i64 xn1, .int .i64 xd1, .int .i64 xn2, .int .i64 xd2, .int .i64 xn3, .int .i64 xd3], .agg #[.int .i64 yn0, .int .i64 yd0, .int .i64 yn1, .int .i64 yd1, .int .i64 yn2, .int .i64 yd2, .int .i64 yn3, .int .i64 yd3]] w fun r w' => r = .returned (.int .i64 (splF a b xn0 xd0 xn1 xd1 xn2 xd2 xn3 xd3 yn0 yd0 yn1 yd1 yn2 yd2 yn3 yd3)) ∧ Below w.heap.size w w' := by
 refine qCheckSplit_walk (PX := VM xn0 xd0 xn1 xd1 xn2 xd2 xn3 xd3) (PY := VM yn0 yd0 yn1 yd1 yn2 yd2 yn3 yd3) (PP := VM (pN xn0 xd0 xn1 xd1 xn0 xd0 xn2 xd2) (pD xd0 xd1 xd0 xd2) (pN xn0 xd0 xn1 xd1 xn1 xd1 xn3 xd3) (pD xd0 xd1 xd1 xd3) (pN xn2 xd2 xn3 xd3 xn0 xd0 xn2 xd2) (pD xd2 xd3 xd0 xd2) (pN xn2 xd2 xn3 xd3 xn1 xd1 xn3 xd3) (pD xd2 xd3 xd1 xd3)) (PQ := VM (pN yn0 yd0 yn1 yd1 yn0 yd0 yn2 yd2) (pD yd0 yd1 yd0 yd2) (pN yn0 yd0 yn1 yd1 yn1 yd1 yn3 yd3) (pD yd0 yd1 yd1 yd3) (pN yn2 yd2 yn3 yd3 yn0 yd0 yn2 yd2) (pD yd2 yd3 yd0 yd2) (pN yn2 yd2 yn3 yd3 yn1 yd1 yn3 yd3) (pD yd2 yd3 yd1 yd3)) (PR := VM (pN xn0 xd0 xn1 xd1 yn0 yd0 yn2 yd2) (pD xd0 xd1 yd0 yd2) (pN xn0 xd0 xn1 xd1 yn1 yd1 yn3 yd3) (pD xd0 xd1 yd1 yd3) (pN xn2 xd2 xn3 xd3 yn0 yd0 yn2 yd2) (pD xd2 xd3 yd0 yd2) (pN xn2 xd2 xn3 xd3 yn1 yd1 yn3 yd3) (pD xd2 xd3 yd1 yd3)) (PT := VM (pN yn0 yd0 yn1 yd1 xn0 xd0 xn2 xd2) (pD yd0 yd1 xd0 xd2) (pN yn0 yd0 yn1 yd1 xn1 xd1 xn3 xd3) (pD yd0 yd1 xd1 xd3) (pN yn2 yd2 yn3 yd3 xn0 xd0 xn2 xd2) (pD yd2 yd3 xd0 xd2) (pN yn2 yd2 yn3 yd3 xn1 xd1 xn3 xd3) (pD yd2 yd3 xd1 xd3)) (PZ0 := VR ((pN xn0 xd0 xn1 xd1 yn0 yd0 yn2 yd2) * (pD yd0 yd1 xd0 xd2) + (pN yn0 yd0 yn1 yd1 xn0 xd0 xn2 xd2) * (pD xd0 xd1 yd0 yd2)) ((pD xd0 xd1 yd0 yd2) * (pD yd0 yd1 xd0 xd2))) (PZ1 := VR ((pN xn0 xd0 xn1 xd1 yn1 yd1 yn3 yd3) * (pD yd0 yd1 xd1 xd3) + (pN yn0 yd0 yn1 yd1 xn1 xd1 xn3 xd3) * (pD xd0 xd1 yd1 yd3)) ((pD xd0 xd1 yd1 yd3) * (pD yd0 yd1 xd1 xd3))) (PZ2 := VR ((pN xn2 xd2 xn3 xd3 yn0 yd0 yn2 yd2) * (pD yd2 yd3 xd0 xd2) + (pN yn2 yd2 yn3 yd3 xn0 xd0 xn2 xd2) * (pD xd2 xd3 yd0 yd2)) ((pD xd2 xd3 yd0 yd2) * (pD yd2 yd3 xd0 xd2))) (PZ3 := VR ((pN xn2 xd2 xn3 xd3 yn1 yd1 yn3 yd3) * (pD yd2 yd3 xd1 xd3) + (pN yn2 yd2 yn3 yd3 xn1 xd1 xn3 xd3) * (pD xd2 xd3 yd1 yd3)) ((pD xd2 xd3 yd1 yd3) * (pD yd2 yd3 xd1 xd3))) w rfl (.of rfl) (.of rfl) (.of rfl) (.of rfl) (Firm.vm _ _ _ _ _ _ _ _).keeps (Firm.vm _ _ _ _ _ _ _ _).keeps (Firm.vr _ _).keeps (Firm.vr _ _).keeps (Firm.vr _ _).keeps (Firm.vr _ _).keeps (fun w => hab ▸ qCheck_any a b w) (fun w => qtableOf xn0 xd0 xn1 xd1 xn2 xd2 xn3 xd3 w hxn0 hxd0 hxn1 hxd1 hxn2 hxd2 hxn3 hxd3) (fun w => qtableOf yn0 yd0 yn1 yd1 yn2 yd2 yn3 yd3 w hyn0 hyd0 hyn1 hyd1 hyn2 hyd2 hyn3 hyd3) (fun hx hy => ?_)
 have gX := okF_wn hx
 have gY := okF_wn hy
 have gP : WN 5 [(pN xn0 xd0 xn1 xd1 xn0 xd0 xn2 xd2), (pD xd0 xd1 xd0 xd2), (pN xn0 xd0 xn1 xd1 xn1 xd1 xn3 xd3), (pD xd0 xd1 xd1 xd3), (pN xn2 xd2 xn3 xd3 xn0 xd0 xn2 xd2), (pD xd2 xd3 xd0 xd2), (pN xn2 xd2 xn3 xd3 xn1 xd1 xn3 xd3), (pD xd2 xd3 xd1 xd3)] := wn8 (pN_b (j := 1) (gX (xn0) (by simp)) (gX (xd0) (by simp)) (gX (xn1) (by simp)) (gX (xd1) (by simp)) (gX (xn0) (by simp)) (gX (xd0) (by simp)) (gX (xn2) (by simp)) (gX (xd2) (by simp))) (pD_b (j := 1) (gX (xd0) (by simp)) (gX (xd1) (by simp)) (gX (xd0) (by simp)) (gX (xd2) (by simp))) (pN_b (j := 1) (gX (xn0) (by simp)) (gX (xd0) (by simp)) (gX (xn1) (by simp)) (gX (xd1) (by simp)) (gX (xn1) (by simp)) (gX (xd1) (by simp)) (gX (xn3) (by simp)) (gX (xd3) (by simp))) (pD_b (j := 1) (gX (xd0) (by simp)) (gX (xd1) (by simp)) (gX (xd1) (by simp)) (gX (xd3) (by simp))) (pN_b (j := 1) (gX (xn2) (by simp)) (gX (xd2) (by simp)) (gX (xn3) (by simp)) (gX (xd3) (by simp)) (gX (xn0) (by simp)) (gX (xd0) (by simp)) (gX (xn2) (by simp)) (gX (xd2) (by simp))) (pD_b (j := 1) (gX (xd2) (by simp)) (gX (xd3) (by simp)) (gX (xd0) (by simp)) (gX (xd2) (by simp))) (pN_b (j := 1) (gX (xn2) (by simp)) (gX (xd2) (by simp)) (gX (xn3) (by simp)) (gX (xd3) (by simp)) (gX (xn1) (by simp)) (gX (xd1) (by simp)) (gX (xn3) (by simp)) (gX (xd3) (by simp))) (pD_b (j := 1) (gX (xd2) (by simp)) (gX (xd3) (by simp)) (gX (xd1) (by simp)) (gX (xd3) (by simp)))
 have gQ : WN 5 [(pN yn0 yd0 yn1 yd1 yn0 yd0 yn2 yd2), (pD yd0 yd1 yd0 yd2), (pN yn0 yd0 yn1 yd1 yn1 yd1 yn3 yd3), (pD yd0 yd1 yd1 yd3), (pN yn2 yd2 yn3 yd3 yn0 yd0 yn2 yd2), (pD yd2 yd3 yd0 yd2), (pN yn2 yd2 yn3 yd3 yn1 yd1 yn3 yd3), (pD yd2 yd3 yd1 yd3)] := wn8 (pN_b (j := 1) (gY (yn0) (by simp)) (gY (yd0) (by simp)) (gY (yn1) (by simp)) (gY (yd1) (by simp)) (gY (yn0) (by simp)) (gY (yd0) (by simp)) (gY (yn2) (by simp)) (gY (yd2) (by simp))) (pD_b (j := 1) (gY (yd0) (by simp)) (gY (yd1) (by simp)) (gY (yd0) (by simp)) (gY (yd2) (by simp))) (pN_b (j := 1) (gY (yn0) (by simp)) (gY (yd0) (by simp)) (gY (yn1) (by simp)) (gY (yd1) (by simp)) (gY (yn1) (by simp)) (gY (yd1) (by simp)) (gY (yn3) (by simp)) (gY (yd3) (by simp))) (pD_b (j := 1) (gY (yd0) (by simp)) (gY (yd1) (by simp)) (gY (yd1) (by simp)) (gY (yd3) (by simp))) (pN_b (j := 1) (gY (yn2) (by simp)) (gY (yd2) (by simp)) (gY (yn3) (by simp)) (gY (yd3) (by simp)) (gY (yn0) (by simp)) (gY (yd0) (by simp)) (gY (yn2) (by simp)) (gY (yd2) (by simp))) (pD_b (j := 1) (gY (yd2) (by simp)) (gY (yd3) (by simp)) (gY (yd0) (by simp)) (gY (yd2) (by simp))) (pN_b (j := 1) (gY (yn2) (by simp)) (gY (yd2) (by simp)) (gY (yn3) (by simp)) (gY (yd3) (by simp)) (gY (yn1) (by simp)) (gY (yd1) (by simp)) (gY (yn3) (by simp)) (gY (yd3) (by simp))) (pD_b (j := 1) (gY (yd2) (by simp)) (gY (yd3) (by simp)) (gY (yd1) (by simp)) (gY (yd3) (by simp)))
 have gR : WN 5 [(pN xn0 xd0 xn1 xd1 yn0 yd0 yn2 yd2), (pD xd0 xd1 yd0 yd2), (pN xn0 xd0 xn1 xd1 yn1 yd1 yn3 yd3), (pD xd0 xd1 yd1 yd3), (pN xn2 xd2 xn3 xd3 yn0 yd0 yn2 yd2), (pD xd2 xd3 yd0 yd2), (pN xn2 xd2 xn3 xd3 yn1 yd1 yn3 yd3), (pD xd2 xd3 yd1 yd3)] := wn8 (pN_b (j := 1) (gX (xn0) (by simp)) (gX (xd0) (by simp)) (gX (xn1) (by simp)) (gX (xd1) (by simp)) (gY (yn0) (by simp)) (gY (yd0) (by simp)) (gY (yn2) (by simp)) (gY (yd2) (by simp))) (pD_b (j := 1) (gX (xd0) (by simp)) (gX (xd1) (by simp)) (gY (yd0) (by simp)) (gY (yd2) (by simp))) (pN_b (j := 1) (gX (xn0) (by simp)) (gX (xd0) (by simp)) (gX (xn1) (by simp)) (gX (xd1) (by simp)) (gY (yn1) (by simp)) (gY (yd1) (by simp)) (gY (yn3) (by simp)) (gY (yd3) (by simp))) (pD_b (j := 1) (gX (xd0) (by simp)) (gX (xd1) (by simp)) (gY (yd1) (by simp)) (gY (yd3) (by simp))) (pN_b (j := 1) (gX (xn2) (by simp)) (gX (xd2) (by simp)) (gX (xn3) (by simp)) (gX (xd3) (by simp)) (gY (yn0) (by simp)) (gY (yd0) (by simp)) (gY (yn2) (by simp)) (gY (yd2) (by simp))) (pD_b (j := 1) (gX (xd2) (by simp)) (gX (xd3) (by simp)) (gY (yd0) (by simp)) (gY (yd2) (by simp))) (pN_b (j := 1) (gX (xn2) (by simp)) (gX (xd2) (by simp)) (gX (xn3) (by simp)) (gX (xd3) (by simp)) (gY (yn1) (by simp)) (gY (yd1) (by simp)) (gY (yn3) (by simp)) (gY (yd3) (by simp))) (pD_b (j := 1) (gX (xd2) (by simp)) (gX (xd3) (by simp)) (gY (yd1) (by simp)) (gY (yd3) (by simp)))
 have gT : WN 5 [(pN yn0 yd0 yn1 yd1 xn0 xd0 xn2 xd2), (pD yd0 yd1 xd0 xd2), (pN yn0 yd0 yn1 yd1 xn1 xd1 xn3 xd3), (pD yd0 yd1 xd1 xd3), (pN yn2 yd2 yn3 yd3 xn0 xd0 xn2 xd2), (pD yd2 yd3 xd0 xd2), (pN yn2 yd2 yn3 yd3 xn1 xd1 xn3 xd3), (pD yd2 yd3 xd1 xd3)] := wn8 (pN_b (j := 1) (gY (yn0) (by simp)) (gY (yd0) (by simp)) (gY (yn1) (by simp)) (gY (yd1) (by simp)) (gX (xn0) (by simp)) (gX (xd0) (by simp)) (gX (xn2) (by simp)) (gX (xd2) (by simp))) (pD_b (j := 1) (gY (yd0) (by simp)) (gY (yd1) (by simp)) (gX (xd0) (by simp)) (gX (xd2) (by simp))) (pN_b (j := 1) (gY (yn0) (by simp)) (gY (yd0) (by simp)) (gY (yn1) (by simp)) (gY (yd1) (by simp)) (gX (xn1) (by simp)) (gX (xd1) (by simp)) (gX (xn3) (by simp)) (gX (xd3) (by simp))) (pD_b (j := 1) (gY (yd0) (by simp)) (gY (yd1) (by simp)) (gX (xd1) (by simp)) (gX (xd3) (by simp))) (pN_b (j := 1) (gY (yn2) (by simp)) (gY (yd2) (by simp)) (gY (yn3) (by simp)) (gY (yd3) (by simp)) (gX (xn0) (by simp)) (gX (xd0) (by simp)) (gX (xn2) (by simp)) (gX (xd2) (by simp))) (pD_b (j := 1) (gY (yd2) (by simp)) (gY (yd3) (by simp)) (gX (xd0) (by simp)) (gX (xd2) (by simp))) (pN_b (j := 1) (gY (yn2) (by simp)) (gY (yd2) (by simp)) (gY (yn3) (by simp)) (gY (yd3) (by simp)) (gX (xn1) (by simp)) (gX (xd1) (by simp)) (gX (xn3) (by simp)) (gX (xd3) (by simp))) (pD_b (j := 1) (gY (yd2) (by simp)) (gY (yd3) (by simp)) (gX (xd1) (by simp)) (gX (xd3) (by simp)))
 exact ⟨fun v u W h k => t_times h k gX gX, fun v u W h k => t_times h k gY gY, fun v u W h k => t_times h k gX gY, fun v u W h k => t_times h k gY gX, fun v W h => t_is (n := a) h gP (by have := aE_zero.1 hab; exact ⟨by omega, by omega⟩) (by have := aE_zero.1 hab; omega) (by omega), fun v W h => t_is (n := b) h gQ (by have := aE_zero.1 hab; exact ⟨by omega, by omega⟩) (by have := aE_zero.1 hab; omega) (by omega), fun cr ct W h k => t_plus0 h k gR gT, fun v W h => z_is h (gR _ (by simp)) (gR _ (by simp)) (gT _ (by simp)) (gT _ (by simp)), fun cr ct W h k => t_plus1 h k gR gT, fun v W h => z_is h (gR _ (by simp)) (gR _ (by simp)) (gT _ (by simp)) (gT _ (by simp)), fun cr ct W h k => t_plus2 h k gR gT, fun v W h => z_is h (gR _ (by simp)) (gR _ (by simp)) (gT _ (by simp)) (gT _ (by simp)), fun cr ct W h k => t_plus3 h k gR gT, fun v W h => z_is h (gR _ (by simp)) (gR _ (by simp)) (gT _ (by simp)) (gT _ (by simp))⟩
end Go.Proofs.YtimdkjbmeogpoaaGreatDoor
