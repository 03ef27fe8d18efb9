/- Which matrices the reference accepts. -/
import Derived.Test.YtimdkjbmeogpoaaGreatDoorURpg
import Derived.Test.YtimdkjbmeogpoaaGreatDoorUScl
import Derived.Test.YtimdkjbmeogpoaaGreatDoorUSps
import Derived.Test.YtimdkjbmeogpoaaGreatDoorUSpn
namespace Go.Proofs.YtimdkjbmeogpoaaGreatDoor.Ref
open Go.RowKit FF
theorem t_times {xn0 xd0 xn1 xd1 xn2 xd2 xn3 xd3 yn0 yd0 yn1 yd1 yn2 yd2 yn3 yd3 : Int} {v u : Value} {W : World} (h : VM xn0 xd0 xn1 xd1 xn2 xd2 xn3 xd3 v W) (k : VM yn0 yd0 yn1 yd1 yn2 yd2 yn3 yd3 u W) (gX : WN 1 [xn0, xd0, xn1, xd1, xn2, xd2, xn3, xd3]) (gY : WN 1 [yn0, yd0, yn1, yd1, yn2, yd2, yn3, yd3]) :
  Calls Tryz.prog 33 #[v, u] W (PostW (VM (pN xn0 xd0 xn1 xd1 yn0 yd0 yn2 yd2) (pD xd0 xd1 yd0 yd2) (pN xn0 xd0 xn1 xd1 yn1 yd1 yn3 yd3) (pD xd0 xd1 yd1 yd3) (pN xn2 xd2 xn3 xd3 yn0 yd0 yn2 yd2) (pD xd2 xd3 yd0 yd2) (pN xn2 xd2 xn3 xd3 yn1 yd1 yn3 yd3) (pD xd2 xd3 yd1 yd3)) W) := by
 obtain ⟨XA0, xa0, XB0, xb0, XA1, xa1, XB1, xb1, XA2, xa2, XB2, xb2, XA3, xa3, XB3, xb3, rfl, ⟨h0, h1⟩, ⟨h2, h3⟩, ⟨h4, h5⟩, ⟨h6, h7⟩⟩ := h
 obtain ⟨YA0, ya0, YB0, yb0, YA1, ya1, YB1, yb1, YA2, ya2, YB2, yb2, YA3, ya3, YB3, yb3, rfl, ⟨k0, k1⟩, ⟨k2, k3⟩, ⟨k4, k5⟩, ⟨k6, k7⟩⟩ := k
 exact rproduct_any ⟨h0, h1, h2, h3, h4, h5, h6, h7, trivial⟩ ⟨k0, k1, k2, k3, k4, k5, k6, k7, trivial⟩ gX gY
theorem t_is {xn0 xd0 xn1 xd1 xn2 xd2 xn3 xd3 n : Int} {v : Value} {W : World} {j : Nat} (h : VM xn0 xd0 xn1 xd1 xn2 xd2 xn3 xd3 v W) (gX : WN j [xn0, xd0, xn1, xd1, xn2, xd2, xn3, xd3]) (hn : I64 n) (hnn : -4294967295 ≤ n ∧ n ≤ 4294967295) (hj : 2 * j + 2 ≤ 400) :
  Calls Tryz.prog 32 #[v, .int .i64 n] W (PostW (VC (.bool (scB xn0 xd0 xn1 xd1 xn2 xd2 xn3 xd3 n))) W) := by
 obtain ⟨XA0, xa0, XB0, xb0, XA1, xa1, XB1, xb1, XA2, xa2, XB2, xb2, XA3, xa3, XB3, xb3, rfl, ⟨h0, h1⟩, ⟨h2, h3⟩, ⟨h4, h5⟩, ⟨h6, h7⟩⟩ := h
 exact rscalar_any ⟨h0, h1, h2, h3, h4, h5, h6, h7, trivial⟩ gX hn hnn hj
theorem z_is {n d m e : Int} {v : Value} {W : World} (h : VR (n * e + m * d) (d * e) v W) (gn : Wn 5 n) (gd : Wn 5 d) (gm : Wn 5 m) (ge : Wn 5 e) :
  Calls Tryz.prog 34 #[v, .int .i64 0] W (PostW (VC (.bool (zE n d m e))) W) := by
 obtain ⟨A, c, A', c', rfl, h0, h1⟩ := h
 exact ris (j := 11) h0 h1 ((gn.mul ge).add (gm.mul gd)) ((gd.mul ge).mono (by omega)) ⟨by omega, by omega⟩ ⟨by omega, by omega⟩ (by omega)
theorem t_plus0 {xn0 xd0 xn1 xd1 xn2 xd2 xn3 xd3 yn0 yd0 yn1 yd1 yn2 yd2 yn3 yd3 : Int} {cr ct : Array Value} {W : World} (h : VM xn0 xd0 xn1 xd1 xn2 xd2 xn3 xd3 (.agg cr) W) (k : VM yn0 yd0 yn1 yd1 yn2 yd2 yn3 yd3 (.agg ct) W) (gX : WN 5 [xn0, xd0, xn1, xd1, xn2, xd2, xn3, xd3]) (gY : WN 5 [yn0, yd0, yn1, yd1, yn2, yd2, yn3, yd3]) :
  Calls Tryz.prog 35 #[.agg (cr.extract 0 4), .agg (ct.extract 0 4)] W (PostW (VR (xn0 * yd0 + yn0 * xd0) (xd0 * yd0)) W) := by
 obtain ⟨XA0, xa0, XB0, xb0, XA1, xa1, XB1, xb1, XA2, xa2, XB2, xb2, XA3, xa3, XB3, xb3, hv, ⟨h0, h1⟩, ⟨h2, h3⟩, ⟨h4, h5⟩, ⟨h6, h7⟩⟩ := h
 obtain ⟨YA0, ya0, YB0, yb0, YA1, ya1, YB1, yb1, YA2, ya2, YB2, yb2, YA3, ya3, YB3, yb3, hu, ⟨k0, k1⟩, ⟨k2, k3⟩, ⟨k4, k5⟩, ⟨k6, k7⟩⟩ := k
 injection hv with hv; injection hu with hu
 subst hv hu
 exact rplus h0 h1 k0 k1 (gX _ (by simp)) (gX _ (by simp)) (gY _ (by simp)) (gY _ (by simp)) (by omega)
theorem t_plus1 {xn0 xd0 xn1 xd1 xn2 xd2 xn3 xd3 yn0 yd0 yn1 yd1 yn2 yd2 yn3 yd3 : Int} {cr ct : Array Value} {W : World} (h : VM xn0 xd0 xn1 xd1 xn2 xd2 xn3 xd3 (.agg cr) W) (k : VM yn0 yd0 yn1 yd1 yn2 yd2 yn3 yd3 (.agg ct) W) (gX : WN 5 [xn0, xd0, xn1, xd1, xn2, xd2, xn3, xd3]) (gY : WN 5 [yn0, yd0, yn1, yd1, yn2, yd2, yn3, yd3]) :
  Calls Tryz.prog 35 #[.agg (cr.extract 4 8), .agg (ct.extract 4 8)] W (PostW (VR (xn1 * yd1 + yn1 * xd1) (xd1 * yd1)) W) := by
 obtain ⟨XA0, xa0, XB0, xb0, XA1, xa1, XB1, xb1, XA2, xa2, XB2, xb2, XA3, xa3, XB3, xb3, hv, ⟨h0, h1⟩, ⟨h2, h3⟩, ⟨h4, h5⟩, ⟨h6, h7⟩⟩ := h
 obtain ⟨YA0, ya0, YB0, yb0, YA1, ya1, YB1, yb1, YA2, ya2, YB2, yb2, YA3, ya3, YB3, yb3, hu, ⟨k0, k1⟩, ⟨k2, k3⟩, ⟨k4, k5⟩, ⟨k6, k7⟩⟩ := k
 injection hv with hv; injection hu with hu
 subst hv hu
 exact rplus h2 h3 k2 k3 (gX _ (by simp)) (gX _ (by simp)) (gY _ (by simp)) (gY _ (by simp)) (by omega)
theorem t_plus2 {xn0 xd0 xn1 xd1 xn2 xd2 xn3 xd3 yn0 yd0 yn1 yd1 yn2 yd2 yn3 yd3 : Int} {cr ct : Array Value} {W : World} (h : VM xn0 xd0 xn1 xd1 xn2 xd2 xn3 xd3 (.agg cr) W) (k : VM yn0 yd0 yn1 yd1 yn2 yd2 yn3 yd3 (.agg ct) W) (gX : WN 5 [xn0, xd0, xn1, xd1, xn2, xd2, xn3, xd3]) (gY : WN 5 [yn0, yd0, yn1, yd1, yn2, yd2, yn3, yd3]) :
  Calls Tryz.prog 35 #[.agg (cr.extract 8 12), .agg (ct.extract 8 12)] W (PostW (VR (xn2 * yd2 + yn2 * xd2) (xd2 * yd2)) W) := by
 obtain ⟨XA0, xa0, XB0, xb0, XA1, xa1, XB1, xb1, XA2, xa2, XB2, xb2, XA3, xa3, XB3, xb3, hv, ⟨h0, h1⟩, ⟨h2, h3⟩, ⟨h4, h5⟩, ⟨h6, h7⟩⟩ := h
 obtain ⟨YA0, ya0, YB0, yb0, YA1, ya1, YB1, yb1, YA2, ya2, YB2, yb2, YA3, ya3, YB3, yb3, hu, ⟨k0, k1⟩, ⟨k2, k3⟩, ⟨k4, k5⟩, ⟨k6, k7⟩⟩ := k
 injection hv with hv; injection hu with hu
 subst hv hu
 exact rplus h4 h5 k4 k5 (gX _ (by simp)) (gX _ (by simp)) (gY _ (by simp)) (gY _ (by simp)) (by omega)
theorem t_plus3 {xn0 xd0 xn1 xd1 xn2 xd2 xn3 xd3 yn0 yd0 yn1 yd1 yn2 yd2 yn3 yd3 : Int} {cr ct : Array Value} {W : World} (h : VM xn0 xd0 xn1 xd1 xn2 xd2 xn3 xd3 (.agg cr) W) (k : VM yn0 yd0 yn1 yd1 yn2 yd2 yn3 yd3 (.agg ct) W) (gX : WN 5 [xn0, xd0, xn1, xd1, xn2, xd2, xn3, xd3]) (gY : WN 5 [yn0, yd0, yn1, yd1, yn2, yd2, yn3, yd3]) :
  Calls Tryz.prog 35 #[.agg (cr.extract 12 16), .agg (ct.extract 12 16)] W (PostW (VR (xn3 * yd3 + yn3 * xd3) (xd3 * yd3)) W) := by
 obtain ⟨XA0, xa0, XB0, xb0, XA1, xa1, XB1, xb1, XA2, xa2, XB2, xb2, XA3, xa3, XB3, xb3, hv, ⟨h0, h1⟩, ⟨h2, h3⟩, ⟨h4, h5⟩, ⟨h6, h7⟩⟩ := h
 obtain ⟨YA0, ya0, YB0, yb0, YA1, ya1, YB1, yb1, YA2, ya2, YB2, yb2, YA3, ya3, YB3, yb3, hu, ⟨k0, k1⟩, ⟨k2, k3⟩, ⟨k4, k5⟩, ⟨k6, k7⟩⟩ := k
 injection hv with hv; injection hu with hu
 subst hv hu
 exact rplus h6 h7 k6 k7 (gX _ (by simp)) (gX _ (by simp)) (gY _ (by simp)) (gY _ (by simp)) (by omega)
set_option maxHeartbeats 40000000 in
set_option maxRecDepth 100000 in
theorem rCheckSplit_walk {PX PY PP PQ PR PT PZ0 PZ1 PZ2 PZ3 : Value → World → Prop} {a b xn0 xd0 xn1 xd1 xn2 xd2 xn3 xd3 yn0 yd0 yn1 yd1 yn2 yd2 yn3 yd3 E c0 c1 c2 c3 c4 c5 c6 c7 : Int} {S1 S2 z0 z1 z2 z3 ox oy f0 f1 f2 f3 f4 f5 f6 f7 : Bool} (w : World) (hE : E = if (ox && oy) = true then (if (S1 && (S2 && (z0 && (z1 && (z2 && z3))))) = true then 0 else 18) else 3)
  (hXt : TabW PX)
  (hYt : TabW PY)
  (hRt : TabW PR)
  (hTt : TabW PT)
  (hPk : Keeps PP)
  (hQk : Keeps PQ)
  (hZ0k : Keeps PZ0)
  (hZ1k : Keeps PZ1)
  (hZ2k : Keeps PZ2)
  (hZ3k : Keeps PZ3)
  (hF0 : ∀ w, Calls Tryz.prog 30 #[.agg #[.int .i64 xn0, .int .i64 xd0]] w fun r w' => r = .returned (.int .i64 c0) ∧ Below w.heap.size w w')
  (hG0 : (f0 = true ∧ c0 = 0) ∨ (f0 = false ∧ c0 = 3))
  (hF1 : ∀ w, Calls Tryz.prog 30 #[.agg #[.int .i64 xn1, .int .i64 xd1]] w fun r w' => r = .returned (.int .i64 c1) ∧ Below w.heap.size w w')
  (hG1 : (f1 = true ∧ c1 = 0) ∨ (f1 = false ∧ c1 = 3))
  (hF2 : ∀ w, Calls Tryz.prog 30 #[.agg #[.int .i64 xn2, .int .i64 xd2]] w fun r w' => r = .returned (.int .i64 c2) ∧ Below w.heap.size w w')
  (hG2 : (f2 = true ∧ c2 = 0) ∨ (f2 = false ∧ c2 = 3))
  (hF3 : ∀ w, Calls Tryz.prog 30 #[.agg #[.int .i64 xn3, .int .i64 xd3]] w fun r w' => r = .returned (.int .i64 c3) ∧ Below w.heap.size w w')
  (hG3 : (f3 = true ∧ c3 = 0) ∨ (f3 = false ∧ c3 = 3))
  (hF4 : ∀ w, Calls Tryz.prog 30 #[.agg #[.int .i64 yn0, .int .i64 yd0]] w fun r w' => r = .returned (.int .i64 c4) ∧ Below w.heap.size w w')
  (hG4 : (f4 = true ∧ c4 = 0) ∨ (f4 = false ∧ c4 = 3))
  (hF5 : ∀ w, Calls Tryz.prog 30 #[.agg #[.int .i64 yn1, .int .i64 yd1]] w fun r w' => r = .returned (.int .i64 c5) ∧ Below w.heap.size w w')
  (hG5 : (f5 = true ∧ c5 = 0) ∨ (f5 = false ∧ c5 = 3))
  (hF6 : ∀ w, Calls Tryz.prog 30 #[.agg #[.int .i64 yn2, .int .i64 yd2]] w fun r w' => r = .returned (.int .i64 c6) ∧ Below w.heap.size w w')
  (hG6 : (f6 = true ∧ c6 = 0) ∨ (f6 = false ∧ c6 = 3))
  (hF7 : ∀ w, Calls Tryz.prog 30 #[.agg #[.int .i64 yn3, .int .i64 yd3]] w fun r w' => r = .returned (.int .i64 c7) ∧ Below w.heap.size w w')
  (hG7 : (f7 = true ∧ c7 = 0) ∨ (f7 = false ∧ c7 = 3))
  (hOx : ox = (((f0 && f1) && f2) && f3))
  (hOy : oy = (((f4 && f5) && f6) && f7))
  (hMX : ∀ w, Calls Tryz.prog 31 #[.agg #[.int .i64 xn0, .int .i64 xd0, .int .i64 xn1, .int .i64 xd1, .int .i64 xn2, .int .i64 xd2, .int .i64 xn3, .int .i64 xd3]] w (PostW PX w))
  (hMY : ∀ w, Calls Tryz.prog 31 #[.agg #[.int .i64 yn0, .int .i64 yd0, .int .i64 yn1, .int .i64 yd1, .int .i64 yn2, .int .i64 yd2, .int .i64 yn3, .int .i64 yd3]] w (PostW PY w))
  (hP : ox = true → oy = true → (∀ (v u : Value) (W : World), PX v W → PX u W → Calls Tryz.prog 33 #[v, u] W (PostW PP W)) ∧ (∀ (v u : Value) (W : World), PY v W → PY u W → Calls Tryz.prog 33 #[v, u] W (PostW PQ W)) ∧ (∀ (v u : Value) (W : World), PX v W → PY u W → Calls Tryz.prog 33 #[v, u] W (PostW PR W)) ∧ (∀ (v u : Value) (W : World), PY v W → PX u W → Calls Tryz.prog 33 #[v, u] W (PostW PT W)) ∧ (∀ (v : Value) (W : World), PP v W → Calls Tryz.prog 32 #[v, .int .i64 a] W (PostW (VC (.bool S1)) W)) ∧ (∀ (v : Value) (W : World), PQ v W → Calls Tryz.prog 32 #[v, .int .i64 b] W (PostW (VC (.bool S2)) W)) ∧ (∀ (cr ct : Array Value) (W : World), PR (.agg cr) W → PT (.agg ct) W → Calls Tryz.prog 35 #[.agg (cr.extract 0 4), .agg (ct.extract 0 4)] W (PostW PZ0 W)) ∧ (∀ (v : Value) (W : World), PZ0 v W → Calls Tryz.prog 34 #[v, .int .i64 0] W (PostW (VC (.bool z0)) W)) ∧ (∀ (cr ct : Array Value) (W : World), PR (.agg cr) W → PT (.agg ct) W → Calls Tryz.prog 35 #[.agg (cr.extract 4 8), .agg (ct.extract 4 8)] W (PostW PZ1 W)) ∧ (∀ (v : Value) (W : World), PZ1 v W → Calls Tryz.prog 34 #[v, .int .i64 0] W (PostW (VC (.bool z1)) W)) ∧ (∀ (cr ct : Array Value) (W : World), PR (.agg cr) W → PT (.agg ct) W → Calls Tryz.prog 35 #[.agg (cr.extract 8 12), .agg (ct.extract 8 12)] W (PostW PZ2 W)) ∧ (∀ (v : Value) (W : World), PZ2 v W → Calls Tryz.prog 34 #[v, .int .i64 0] W (PostW (VC (.bool z2)) W)) ∧ (∀ (cr ct : Array Value) (W : World), PR (.agg cr) W → PT (.agg ct) W → Calls Tryz.prog 35 #[.agg (cr.extract 12 16), .agg (ct.extract 12 16)] W (PostW PZ3 W)) ∧ (∀ (v : Value) (W : World), PZ3 v W → Calls Tryz.prog 34 #[v, .int .i64 0] W (PostW (VC (.bool z3)) W))) :
  Calls Tryz.prog 9 #[.agg #[.int .i64 a, .int .i64 b], .agg #[.int .i64 xn0, .int .i64 xd0, .int .i64 xn1, .int .i64 xd1, .int .i64 xn2, .int .i64 xd2, .int .i64 xn3, .int .i64 xd3], .agg #[.int .i64 yn0, .int .i64 yd0, .int .i64 yn1, .int .i64 yd1, .int .i64 yn2, .int .i64 yd2, .int .i64 yn3, .int .i64 yd3]] w fun r w' => r = .returned (.int .i64 E) ∧ Below w.heap.size w w' := by
 have HE := lhd hE; clear hE
 have HXt := lhd hXt; clear hXt
 have HYt := lhd hYt; clear hYt
 have HRt := lhd hRt; clear hRt
 have HTt := lhd hTt; clear hTt
 have HPk := lhd hPk; clear hPk
 have HQk := lhd hQk; clear hQk
 have HZ0k := lhd hZ0k; clear hZ0k
 have HZ1k := lhd hZ1k; clear hZ1k
 have HZ2k := lhd hZ2k; clear hZ2k
 have HZ3k := lhd hZ3k; clear hZ3k
 have HF0 := lhd hF0; clear hF0
 have HG0 := lhd hG0; clear hG0
 have HF1 := lhd hF1; clear hF1
 have HG1 := lhd hG1; clear hG1
 have HF2 := lhd hF2; clear hF2
 have HG2 := lhd hG2; clear hG2
 have HF3 := lhd hF3; clear hF3
 have HG3 := lhd hG3; clear hG3
 have HF4 := lhd hF4; clear hF4
 have HG4 := lhd hG4; clear hG4
 have HF5 := lhd hF5; clear hF5
 have HG5 := lhd hG5; clear hG5
 have HF6 := lhd hF6; clear hF6
 have HG6 := lhd hG6; clear hG6
 have HF7 := lhd hF7; clear hF7
 have HG7 := lhd hG7; clear hG7
 have HOx := lhd hOx; clear hOx
 have HOy := lhd hOy; clear hOy
 have HMX := lhd hMX; clear hMX
 have HMY := lhd hMY; clear hMY
 have HP := lhd hP; clear hP
 go_enter Tryz.func9, Tryz.ntmps9
 go_upto_region 1 with fail
 obtain ⟨W0, hW0⟩ : ∃ W0 : World, W0 = (((w.alloc (.cells #[.int .i64 a, .int .i64 b] 23)).alloc (.cells #[.int .i64 xn0, .int .i64 xd0, .int .i64 xn1, .int .i64 xd1, .int .i64 xn2, .int .i64 xd2, .int .i64 xn3, .int .i64 xd3] 27)).alloc (.cells #[.int .i64 yn0, .int .i64 yd0, .int .i64 yn1, .int .i64 yd1, .int .i64 yn2, .int .i64 yd2, .int .i64 yn3, .int .i64 yd3] 27)) := ⟨_, rfl⟩
 rw [← hW0]
 have HB0 := lhd (show Bx w [(w.heap.size + 2, #[.int .i64 yn0, .int .i64 yd0, .int .i64 yn1, .int .i64 yd1, .int .i64 yn2, .int .i64 yd2, .int .i64 yn3, .int .i64 yd3]), (w.heap.size + 1, #[.int .i64 xn0, .int .i64 xd0, .int .i64 xn1, .int .i64 xd1, .int .i64 xn2, .int .i64 xd2, .int .i64 xn3, .int .i64 xd3]), (w.heap.size, #[.int .i64 a, .int .i64 b])] W0 by rw [hW0]; simpa using ((((Bx.nil (Below.refl w.heap.size w)).new #[.int .i64 a, .int .i64 b] 23).new #[.int .i64 xn0, .int .i64 xd0, .int .i64 xn1, .int .i64 xd1, .int .i64 xn2, .int .i64 xd2, .int .i64 xn3, .int .i64 xd3] 27).new #[.int .i64 yn0, .int .i64 yd0, .int .i64 yn1, .int .i64 yd1, .int .i64 yn2, .int .i64 yd2, .int .i64 yn3, .int .i64 yd3] 27))
 clear hW0
 have q := fun (i : Nat) hi => (HB0.out.own _ lm0).2.2.1 i hi
 have q0 := q 0 (by simp)
 have q1 := q 1 (by simp)
 have q2 := q 2 (by simp)
 have q3 := q 3 (by simp)
 have q4 := q 4 (by simp)
 have q5 := q 5 (by simp)
 have q6 := q 6 (by simp)
 have q7 := q 7 (by simp)
 clear q
 simp only [List.getElem?_toArray, List.getElem?_cons_zero, List.getElem?_cons_succ] at q0 q1 q2 q3 q4 q5 q6 q7
 have q := fun (i : Nat) hi => (HB0.out.own _ lm1).2.2.1 i hi
 have k0 := q 0 (by simp)
 have k1 := q 1 (by simp)
 have k2 := q 2 (by simp)
 have k3 := q 3 (by simp)
 have k4 := q 4 (by simp)
 have k5 := q 5 (by simp)
 have k6 := q 6 (by simp)
 have k7 := q 7 (by simp)
 clear q
 simp only [List.getElem?_toArray, List.getElem?_cons_zero, List.getElem?_cons_succ] at k0 k1 k2 k3 k4 k5 k6 k7
 go_upto_region 2 with fail
 obtain ⟨V0, hV⟩ : ∃ V : World, V = W0.alloc (.cells #[.int .i64 xn0, .int .i64 xd0, .int .i64 xn1, .int .i64 xd1, .int .i64 xn2, .int .i64 xd2, .int .i64 xn3, .int .i64 xd3, .int .i64 yn0, .int .i64 yd0, .int .i64 yn1, .int .i64 yd1, .int .i64 yn2, .int .i64 yd2, .int .i64 yn3, .int .i64 yd3] 70) := ⟨_, rfl⟩
 rw [← hV]
 have HV0 := lhd (show Bx w [(W0.heap.size, #[.int .i64 xn0, .int .i64 xd0, .int .i64 xn1, .int .i64 xd1, .int .i64 xn2, .int .i64 xd2, .int .i64 xn3, .int .i64 xd3, .int .i64 yn0, .int .i64 yd0, .int .i64 yn1, .int .i64 yd1, .int .i64 yn2, .int .i64 yd2, .int .i64 yn3, .int .i64 yd3]), (w.heap.size + 2, #[.int .i64 yn0, .int .i64 yd0, .int .i64 yn1, .int .i64 yd1, .int .i64 yn2, .int .i64 yd2, .int .i64 yn3, .int .i64 yd3]), (w.heap.size + 1, #[.int .i64 xn0, .int .i64 xd0, .int .i64 xn1, .int .i64 xd1, .int .i64 xn2, .int .i64 xd2, .int .i64 xn3, .int .i64 xd3]), (w.heap.size, #[.int .i64 a, .int .i64 b])] V0 from hV ▸ HB0.out.new _ _)
 have hlt0 := (HV0.out.own _ lm0).2.1
 clear hV HB0
 clear q0 q1 q2 q3 q4 q5 q6 q7
 clear k0 k1 k2 k3 k4 k5 k6 k7
 generalize W0.heap.size = KF at *
 go_wp2_with fail
 obtain ⟨Ft, y0, y1, y2, y3, y4, y5, y6, y7, y8⟩ : ∃ Ft : Nat → Prop, Ft 0 = True ∧ Ft 1 = (f0 = true) ∧ Ft 2 = (f0 = true ∧ f1 = true) ∧ Ft 3 = (f0 = true ∧ f1 = true ∧ f2 = true) ∧ Ft 4 = (f0 = true ∧ f1 = true ∧ f2 = true ∧ f3 = true) ∧ Ft 5 = (f0 = true ∧ f1 = true ∧ f2 = true ∧ f3 = true ∧ f4 = true) ∧ Ft 6 = (f0 = true ∧ f1 = true ∧ f2 = true ∧ f3 = true ∧ f4 = true ∧ f5 = true) ∧ Ft 7 = (f0 = true ∧ f1 = true ∧ f2 = true ∧ f3 = true ∧ f4 = true ∧ f5 = true ∧ f6 = true) ∧ Ft 8 = (f0 = true ∧ f1 = true ∧ f2 = true ∧ f3 = true ∧ f4 = true ∧ f5 = true ∧ f6 = true ∧ f7 = true) := ⟨fun k => match k with | 0 => True | 1 => f0 = true | 2 => f0 = true ∧ f1 = true | 3 => f0 = true ∧ f1 = true ∧ f2 = true | 4 => f0 = true ∧ f1 = true ∧ f2 = true ∧ f3 = true | 5 => f0 = true ∧ f1 = true ∧ f2 = true ∧ f3 = true ∧ f4 = true | 6 => f0 = true ∧ f1 = true ∧ f2 = true ∧ f3 = true ∧ f4 = true ∧ f5 = true | 7 => f0 = true ∧ f1 = true ∧ f2 = true ∧ f3 = true ∧ f4 = true ∧ f5 = true ∧ f6 = true | _ => f0 = true ∧ f1 = true ∧ f2 = true ∧ f3 = true ∧ f4 = true ∧ f5 = true ∧ f6 = true ∧ f7 = true, rfl, rfl, rfl, rfl, rfl, rfl, rfl, rfl, rfl⟩
 have YF0 := lhd y0; clear y0
 have YF1 := lhd y1; clear y1
 have YF2 := lhd y2; clear y2
 have YF3 := lhd y3; clear y3
 have YF4 := lhd y4; clear y4
 have YF5 := lhd y5; clear y5
 have YF6 := lhd y6; clear y6
 have YF7 := lhd y7; clear y7
 have YF8 := lhd y8; clear y8
 go_loopw [8] (fun s8 wr => ∃ k : Nat, s8 = .int .i64 k ∧ k ≤ 8 ∧ Ft k ∧ Bx w [(KF, #[.int .i64 xn0, .int .i64 xd0, .int .i64 xn1, .int .i64 xd1, .int .i64 xn2, .int .i64 xd2, .int .i64 xn3, .int .i64 xd3, .int .i64 yn0, .int .i64 yd0, .int .i64 yn1, .int .i64 yd1, .int .i64 yn2, .int .i64 yd2, .int .i64 yn3, .int .i64 yd3]), (w.heap.size + 2, #[.int .i64 yn0, .int .i64 yd0, .int .i64 yn1, .int .i64 yd1, .int .i64 yn2, .int .i64 yd2, .int .i64 yn3, .int .i64 yd3]), (w.heap.size + 1, #[.int .i64 xn0, .int .i64 xd0, .int .i64 xn1, .int .i64 xd1, .int .i64 xn2, .int .i64 xd2, .int .i64 xn3, .int .i64 xd3]), (w.heap.size, #[.int .i64 a, .int .i64 b])] wr) (fun s _ => 8 - (intOf s).toNat)
 case atStart => exact ⟨0, rfl, by omega, by rw [YF0.out]; trivial, HV0.out⟩
 case round =>
  obtain ⟨k, rfl, hk, hft, hb⟩ := hrel
  have HB := lhd hb; have HFt := lhd hft; clear hb hft HV0
  by_cases k0 : k = 0
  ·subst k0
   clear hk
   have x0 := (HB.out.own _ lm0).2.2.1 0 (by simp); have x1 := (HB.out.own _ lm0).2.2.1 1 (by simp)
   simp only [List.getElem?_toArray, List.getElem?_cons_zero, List.getElem?_cons_succ] at x0 x1
   go_wp2_with fail
   refine (HF0.out _).mono ?_
   rintro _ w5 ⟨rfl, hbb⟩
   have HB5 := lhd (HB.out.keep hbb)
   clear hbb HB x0 x1
   rcases HG0.out with ⟨hf, hc⟩ | ⟨hf, hc⟩
   ·have d1 : (c0 != 0) = false := by rw [hc]; rfl
    have HFn := lhd (show Ft 1 from by have := HFt.out; rw [YF0.out] at this; rw [YF1.out]; exact hf)
    clear hf hc
    go_wp2_with fail
    exact ⟨⟨1, by first | rfl | go_num, by omega, HFn.out, HB5.out⟩, by simp [intOf]⟩
   ·have d1 : (c0 != 0) = true := by rw [hc]; rfl
    have HEe := lhd (show c0 = E from by rw [HE.out, HOx.out, HOy.out, hf, hc]; simp)
    clear hf hc
    go_wp2_with fail
    go_ret
    exact ⟨ret_int HEe.out, HB5.out.below⟩
  by_cases k1 : k = 1
  ·subst k1
   clear hk
   have x0 := (HB.out.own _ lm0).2.2.1 2 (by simp); have x1 := (HB.out.own _ lm0).2.2.1 3 (by simp)
   simp only [List.getElem?_toArray, List.getElem?_cons_zero, List.getElem?_cons_succ] at x0 x1
   go_wp2_with fail
   refine (HF1.out _).mono ?_
   rintro _ w5 ⟨rfl, hbb⟩
   have HB5 := lhd (HB.out.keep hbb)
   clear hbb HB x0 x1
   rcases HG1.out with ⟨hf, hc⟩ | ⟨hf, hc⟩
   ·have d1 : (c1 != 0) = false := by rw [hc]; rfl
    have HFn := lhd (show Ft 2 from by have := HFt.out; rw [YF1.out] at this; rw [YF2.out]; simp only [this, hf, and_self])
    clear hf hc
    go_wp2_with fail
    exact ⟨⟨2, by first | rfl | go_num, by omega, HFn.out, HB5.out⟩, by simp [intOf]⟩
   ·have d1 : (c1 != 0) = true := by rw [hc]; rfl
    have HEe := lhd (show c1 = E from by rw [HE.out, HOx.out, HOy.out, hf, hc]; simp)
    clear hf hc
    go_wp2_with fail
    go_ret
    exact ⟨ret_int HEe.out, HB5.out.below⟩
  by_cases k2 : k = 2
  ·subst k2
   clear hk
   have x0 := (HB.out.own _ lm0).2.2.1 4 (by simp); have x1 := (HB.out.own _ lm0).2.2.1 5 (by simp)
   simp only [List.getElem?_toArray, List.getElem?_cons_zero, List.getElem?_cons_succ] at x0 x1
   go_wp2_with fail
   refine (HF2.out _).mono ?_
   rintro _ w5 ⟨rfl, hbb⟩
   have HB5 := lhd (HB.out.keep hbb)
   clear hbb HB x0 x1
   rcases HG2.out with ⟨hf, hc⟩ | ⟨hf, hc⟩
   ·have d1 : (c2 != 0) = false := by rw [hc]; rfl
    have HFn := lhd (show Ft 3 from by have := HFt.out; rw [YF2.out] at this; rw [YF3.out]; simp only [this, hf, and_self])
    clear hf hc
    go_wp2_with fail
    exact ⟨⟨3, by first | rfl | go_num, by omega, HFn.out, HB5.out⟩, by simp [intOf]⟩
   ·have d1 : (c2 != 0) = true := by rw [hc]; rfl
    have HEe := lhd (show c2 = E from by rw [HE.out, HOx.out, HOy.out, hf, hc]; simp)
    clear hf hc
    go_wp2_with fail
    go_ret
    exact ⟨ret_int HEe.out, HB5.out.below⟩
  by_cases k3 : k = 3
  ·subst k3
   clear hk
   have x0 := (HB.out.own _ lm0).2.2.1 6 (by simp); have x1 := (HB.out.own _ lm0).2.2.1 7 (by simp)
   simp only [List.getElem?_toArray, List.getElem?_cons_zero, List.getElem?_cons_succ] at x0 x1
   go_wp2_with fail
   refine (HF3.out _).mono ?_
   rintro _ w5 ⟨rfl, hbb⟩
   have HB5 := lhd (HB.out.keep hbb)
   clear hbb HB x0 x1
   rcases HG3.out with ⟨hf, hc⟩ | ⟨hf, hc⟩
   ·have d1 : (c3 != 0) = false := by rw [hc]; rfl
    have HFn := lhd (show Ft 4 from by have := HFt.out; rw [YF3.out] at this; rw [YF4.out]; simp only [this, hf, and_self])
    clear hf hc
    go_wp2_with fail
    exact ⟨⟨4, by first | rfl | go_num, by omega, HFn.out, HB5.out⟩, by simp [intOf]⟩
   ·have d1 : (c3 != 0) = true := by rw [hc]; rfl
    have HEe := lhd (show c3 = E from by rw [HE.out, HOx.out, HOy.out, hf, hc]; simp)
    clear hf hc
    go_wp2_with fail
    go_ret
    exact ⟨ret_int HEe.out, HB5.out.below⟩
  by_cases k4 : k = 4
  ·subst k4
   clear hk
   have x0 := (HB.out.own _ lm0).2.2.1 8 (by simp); have x1 := (HB.out.own _ lm0).2.2.1 9 (by simp)
   simp only [List.getElem?_toArray, List.getElem?_cons_zero, List.getElem?_cons_succ] at x0 x1
   go_wp2_with fail
   refine (HF4.out _).mono ?_
   rintro _ w5 ⟨rfl, hbb⟩
   have HB5 := lhd (HB.out.keep hbb)
   clear hbb HB x0 x1
   rcases HG4.out with ⟨hf, hc⟩ | ⟨hf, hc⟩
   ·have d1 : (c4 != 0) = false := by rw [hc]; rfl
    have HFn := lhd (show Ft 5 from by have := HFt.out; rw [YF4.out] at this; rw [YF5.out]; simp only [this, hf, and_self])
    clear hf hc
    go_wp2_with fail
    exact ⟨⟨5, by first | rfl | go_num, by omega, HFn.out, HB5.out⟩, by simp [intOf]⟩
   ·have d1 : (c4 != 0) = true := by rw [hc]; rfl
    have HEe := lhd (show c4 = E from by rw [HE.out, HOx.out, HOy.out, hf, hc]; simp)
    clear hf hc
    go_wp2_with fail
    go_ret
    exact ⟨ret_int HEe.out, HB5.out.below⟩
  by_cases k5 : k = 5
  ·subst k5
   clear hk
   have x0 := (HB.out.own _ lm0).2.2.1 10 (by simp); have x1 := (HB.out.own _ lm0).2.2.1 11 (by simp)
   simp only [List.getElem?_toArray, List.getElem?_cons_zero, List.getElem?_cons_succ] at x0 x1
   go_wp2_with fail
   refine (HF5.out _).mono ?_
   rintro _ w5 ⟨rfl, hbb⟩
   have HB5 := lhd (HB.out.keep hbb)
   clear hbb HB x0 x1
   rcases HG5.out with ⟨hf, hc⟩ | ⟨hf, hc⟩
   ·have d1 : (c5 != 0) = false := by rw [hc]; rfl
    have HFn := lhd (show Ft 6 from by have := HFt.out; rw [YF5.out] at this; rw [YF6.out]; simp only [this, hf, and_self])
    clear hf hc
    go_wp2_with fail
    exact ⟨⟨6, by first | rfl | go_num, by omega, HFn.out, HB5.out⟩, by simp [intOf]⟩
   ·have d1 : (c5 != 0) = true := by rw [hc]; rfl
    have HEe := lhd (show c5 = E from by rw [HE.out, HOx.out, HOy.out, hf, hc]; simp)
    clear hf hc
    go_wp2_with fail
    go_ret
    exact ⟨ret_int HEe.out, HB5.out.below⟩
  by_cases k6 : k = 6
  ·subst k6
   clear hk
   have x0 := (HB.out.own _ lm0).2.2.1 12 (by simp); have x1 := (HB.out.own _ lm0).2.2.1 13 (by simp)
   simp only [List.getElem?_toArray, List.getElem?_cons_zero, List.getElem?_cons_succ] at x0 x1
   go_wp2_with fail
   refine (HF6.out _).mono ?_
   rintro _ w5 ⟨rfl, hbb⟩
   have HB5 := lhd (HB.out.keep hbb)
   clear hbb HB x0 x1
   rcases HG6.out with ⟨hf, hc⟩ | ⟨hf, hc⟩
   ·have d1 : (c6 != 0) = false := by rw [hc]; rfl
    have HFn := lhd (show Ft 7 from by have := HFt.out; rw [YF6.out] at this; rw [YF7.out]; simp only [this, hf, and_self])
    clear hf hc
    go_wp2_with fail
    exact ⟨⟨7, by first | rfl | go_num, by omega, HFn.out, HB5.out⟩, by simp [intOf]⟩
   ·have d1 : (c6 != 0) = true := by rw [hc]; rfl
    have HEe := lhd (show c6 = E from by rw [HE.out, HOx.out, HOy.out, hf, hc]; simp)
    clear hf hc
    go_wp2_with fail
    go_ret
    exact ⟨ret_int HEe.out, HB5.out.below⟩
  by_cases k7 : k = 7
  ·subst k7
   clear hk
   have x0 := (HB.out.own _ lm0).2.2.1 14 (by simp); have x1 := (HB.out.own _ lm0).2.2.1 15 (by simp)
   simp only [List.getElem?_toArray, List.getElem?_cons_zero, List.getElem?_cons_succ] at x0 x1
   go_wp2_with fail
   refine (HF7.out _).mono ?_
   rintro _ w5 ⟨rfl, hbb⟩
   have HB5 := lhd (HB.out.keep hbb)
   clear hbb HB x0 x1
   rcases HG7.out with ⟨hf, hc⟩ | ⟨hf, hc⟩
   ·have d1 : (c7 != 0) = false := by rw [hc]; rfl
    have HFn := lhd (show Ft 8 from by have := HFt.out; rw [YF7.out] at this; rw [YF8.out]; simp only [this, hf, and_self])
    clear hf hc
    go_wp2_with fail
    exact ⟨⟨8, by first | rfl | go_num, by omega, HFn.out, HB5.out⟩, by simp [intOf]⟩
   ·have d1 : (c7 != 0) = true := by rw [hc]; rfl
    have HEe := lhd (show c7 = E from by rw [HE.out, HOx.out, HOy.out, hf, hc]; simp)
    clear hf hc
    go_wp2_with fail
    go_ret
    exact ⟨ret_int HEe.out, HB5.out.below⟩
  obtain rfl : k = 8 := by omega
  have hft := HFt.out; rw [YF8.out] at hft
  obtain ⟨t0, t1, t2, t3, t4, t5, t6, t7⟩ := hft
  have hox : ox = true := by rw [HOx.out, t0, t1, t2, t3]; rfl
  have hoy : oy = true := by rw [HOy.out, t4, t5, t6, t7]; rfl
  subst hox hoy
  obtain ⟨qXX, qYY, qXY, qYX, qS1, qS2, qPL0, qZ0, qPL1, qZ1, qPL2, qZ2, qPL3, qZ3⟩ := HP.out (by first | rfl | trivial) (by first | rfl | trivial)
  have HXX := lhd qXX; clear qXX
  have HYY := lhd qYY; clear qYY
  have HXY := lhd qXY; clear qXY
  have HYX := lhd qYX; clear qYX
  have HS1 := lhd qS1; clear qS1
  have HS2 := lhd qS2; clear qS2
  have HPL0 := lhd qPL0; clear qPL0
  have HZ0 := lhd qZ0; clear qZ0
  have HPL1 := lhd qPL1; clear qPL1
  have HZ1 := lhd qZ1; clear qZ1
  have HPL2 := lhd qPL2; clear qPL2
  have HZ2 := lhd qZ2; clear qZ2
  have HPL3 := lhd qPL3; clear qPL3
  have HZ3 := lhd qZ3; clear qZ3
  clear HP
  clear hk t0 k0 t1 k1 t2 k2 t3 k3 t4 k4 t5 k5 t6 k6 t7 k7 HFt HF0 HG0 HF1 HG1 HF2 HG2 HF3 HG3 HF4 HG4 HF5 HG5 HF6 HG6 HF7 HG7 YF0 YF1 YF2 YF3 YF4 YF5 YF6 YF7 YF8
  have HB3 := lhd (HB.out.sub (L' := [(w.heap.size + 2, #[.int .i64 yn0, .int .i64 yd0, .int .i64 yn1, .int .i64 yd1, .int .i64 yn2, .int .i64 yd2, .int .i64 yn3, .int .i64 yd3]), (w.heap.size + 1, #[.int .i64 xn0, .int .i64 xd0, .int .i64 xn1, .int .i64 xd1, .int .i64 xn2, .int .i64 xd2, .int .i64 xn3, .int .i64 xd3]), (w.heap.size, #[.int .i64 a, .int .i64 b])]) (fun x hx => by simp only [List.mem_cons, List.not_mem_nil, or_false] at hx ⊢; rcases hx with rfl | rfl | rfl <;> simp))
  clear HB
  go_upto_region 8 with fail
  refine wp_region_full (wr.heap.size) [(0, 43, VC (.agg #[.int .i64 xn0, .int .i64 xd0, .int .i64 xn1, .int .i64 xd1, .int .i64 xn2, .int .i64 xd2, .int .i64 xn3, .int .i64 xd3])), (1, 44, PX), (2, 45, VC (.agg #[.int .i64 yn0, .int .i64 yd0, .int .i64 yn1, .int .i64 yd1, .int .i64 yn2, .int .i64 yd2, .int .i64 yn3, .int .i64 yd3])), (3, 46, PY)] [⟨4, 10, 6, 1, 44, zz8⟩, ⟨5, 11, 7, 3, 46, zz8⟩] [⟨w.heap.size + 2, 999, 999, 999, #[.int .i64 yn0, .int .i64 yd0, .int .i64 yn1, .int .i64 yd1, .int .i64 yn2, .int .i64 yd2, .int .i64 yn3, .int .i64 yd3], fun v vs => v = .agg vs⟩, ⟨w.heap.size + 1, 999, 999, 999, #[.int .i64 xn0, .int .i64 xd0, .int .i64 xn1, .int .i64 xd1, .int .i64 xn2, .int .i64 xd2, .int .i64 xn3, .int .i64 xd3], fun v vs => v = .agg vs⟩, ⟨w.heap.size, 999, 999, 999, #[.int .i64 a, .int .i64 b], fun v vs => v = .agg vs⟩] (fun _ => True) [43, 44, 45, 46, 10, 11] (Nat.le_refl _) (by kernel_rfl) (by kernel_rfl) (by kernel_rfl) (Firms.all (l := [(0, 43, VC (.agg #[.int .i64 xn0, .int .i64 xd0, .int .i64 xn1, .int .i64 xd1, .int .i64 xn2, .int .i64 xd2, .int .i64 xn3, .int .i64 xd3])), (1, 44, PX), (2, 45, VC (.agg #[.int .i64 yn0, .int .i64 yd0, .int .i64 yn1, .int .i64 yd1, .int .i64 yn2, .int .i64 yd2, .int .i64 yn3, .int .i64 yd3])), (3, 46, PY)]) ⟨Firm.vc _, HXt.out.firm, Firm.vc _, HYt.out.firm, trivial⟩) ⟨fun _ _ _ _ _ => trivial, fun _ _ _ _ _ _ _ => trivial⟩ trivial ?_ (forall_ops ⟨?_, ?_, ?_, ?_, ?_, ?_, ?_, ?_, trivial⟩) ?_
  ·intro c hc
   simp only [List.mem_cons, List.not_mem_nil, or_false] at hc
   rcases hc with rfl | rfl | rfl
   ·exact ⟨(HB3.out.own _ lm0).2, fun h => absurd rfl h⟩
   ·exact ⟨(HB3.out.own _ lm1).2, fun h => absurd rfl h⟩
   ·exact ⟨(HB3.out.own _ lm2).2, fun h => absurd rfl h⟩
  ·exact FOk.val rfl rfl rfl rfl fun y W hB hE hO hV => .loadAll (g := w.heap.size + 1) (vs := #[.int .i64 xn0, .int .i64 xd0, .int .i64 xn1, .int .i64 xd1, .int .i64 xn2, .int .i64 xd2, .int .i64 xn3, .int .i64 xd3]) rfl (fou (v := .pointer (some ⟨w.heap.size + 1, 0, none⟩))) (hO _ lm1 rfl) rfl Tryz.underlying27 rfl (by kernel_rfl) rfl
  ·exact FOk.val rfl rfl rfl rfl fun y W hB hE hO hV => .call Tryz.func31 (by kernel_rfl) rfl rfl rfl (map_one (fgt hV 0 rfl)) (HMX.out W)
  ·exact FOk.val rfl rfl rfl rfl fun y W hB hE hO hV => .loadAll (g := w.heap.size + 2) (vs := #[.int .i64 yn0, .int .i64 yd0, .int .i64 yn1, .int .i64 yd1, .int .i64 yn2, .int .i64 yd2, .int .i64 yn3, .int .i64 yd3]) rfl (fou (v := .pointer (some ⟨w.heap.size + 2, 0, none⟩))) (hO _ lm0 rfl) rfl Tryz.underlying27 rfl (by kernel_rfl) rfl
  ·exact FOk.val rfl rfl rfl rfl fun y W hB hE hO hV => .call Tryz.func31 (by kernel_rfl) rfl rfl rfl (map_one (fgt hV 2 rfl)) (HMY.out W)
  ·refine .inl ⟨.inl rfl, .inr (.inl ⟨word_none (by kernel_rfl), by simp, _, lm0, rfl, by simp, by simp, 75, noint_list (by kernel_rfl), fun y W K Q' hK => ?_⟩)⟩
   simp only [fr, putAll, List.foldl_cons, List.foldl_nil, List.setIfInBounds_toArray, List.set_cons_zero, List.set_cons_succ] at hK ⊢
   go_simp
   exact hK
  ·refine .inl ⟨.inl rfl, .inr (.inl ⟨word_none (by kernel_rfl), by simp, _, lm1, rfl, by simp, by simp, 75, noint_list (by kernel_rfl), fun y W K Q' hK => ?_⟩)⟩
   simp only [fr, putAll, List.foldl_cons, List.foldl_nil, List.setIfInBounds_toArray, List.set_cons_zero, List.set_cons_succ] at hK ⊢
   go_simp
   exact hK
  ·exact .inl ⟨.inl rfl, .inr (.inr (.inl ⟨rfl, word_none (by kernel_rfl), by simp, _, lm0, rfl, by simp, by simp, (by kernel_rfl), (by kernel_rfl), fun y W g hB hV hg hgw hc K Q' hK => WpS.sto (n := 16) rfl ((fr_in (by kernel_rfl)).trans hg) (fr_in (by kernel_rfl)) (HXt.out.isTab (hget hV 1 rfl (by kernel_rfl))) hc rfl (by kernel_rfl) hK⟩))⟩
  ·exact .inl ⟨.inl rfl, .inr (.inr (.inl ⟨rfl, word_none (by kernel_rfl), by simp, _, lm1, rfl, by simp, by simp, (by kernel_rfl), (by kernel_rfl), fun y W g hB hV hg hgw hc K Q' hK => WpS.sto (n := 16) rfl ((fr_in (by kernel_rfl)).trans hg) (fr_in (by kernel_rfl)) (HYt.out.isTab (hget hV 3 rfl (by kernel_rfl))) hc rfl (by kernel_rfl) hK⟩))⟩
  intro y W8 hB hE hO hV hBo hA
  obtain ⟨KX, zX, lX, cX, eX, hX⟩ := hBo _ lm0
  dsimp only at zX eX
  have pX := hend hV 1 rfl
  rw [eX] at pX
  obtain ⟨KY, zY, lY, cY, eY, hY⟩ := hBo _ lm1
  dsimp only at zY eY
  have pY := hend hV 3 rfl
  rw [eY] at pY
  have o0 := (hO _ lm0).1 rfl
  dsimp only at o0
  have o1 := (hO _ lm1).1 rfl
  dsimp only at o1
  have o2 := (hO _ lm2).1 rfl
  dsimp only at o2
  have HB8 := lhd (show Bx w [(KY, cY), (KX, cX), (w.heap.size + 2, #[.int .i64 yn0, .int .i64 yd0, .int .i64 yn1, .int .i64 yd1, .int .i64 yn2, .int .i64 yd2, .int .i64 yn3, .int .i64 yd3]), (w.heap.size + 1, #[.int .i64 xn0, .int .i64 xd0, .int .i64 xn1, .int .i64 xd1, .int .i64 xn2, .int .i64 xd2, .int .i64 xn3, .int .i64 xd3]), (w.heap.size, #[.int .i64 a, .int .i64 b])] W8 from ((((((Bx.nil (HB3.out.below.trans (hB.mono HB3.out.below.size))).cons (HB3.out.own _ lm2).1 o2).cons (HB3.out.own _ lm1).1 o1).cons (HB3.out.own _ lm0).1 o0).cons (Nat.le_trans HB3.out.below.size lX) hX).cons (Nat.le_trans HB3.out.below.size lY) hY))
  generalize hact : fr _ _ y = act
  simp only [fr, putAll, List.foldl_cons, List.foldl_nil, List.setIfInBounds_toArray, List.set_cons_zero, List.set_cons_succ] at hact
  simp only [zX, zY, eX, eY] at hact; subst hact
  have HVX := lhd pX; have HVY := lhd pY
  have HSX := lhd (size_of_tab (HXt.out.isTab pX)); have HSY := lhd (size_of_tab (HYt.out.isTab pY))
  clear hB hE hO hV hBo hA o0 o1 o2 zX zY eX eY pX pY lX lY hX hY HB3 HMX HMY
  obtain ⟨V2, hV2⟩ : ∃ V2 : World, V2 = W8 := ⟨_, rfl⟩; subst hV2
  have HB6 := lhd (HB8.out.sub (L' := [(KY, cY), (KX, cX), (w.heap.size, #[.int .i64 a, .int .i64 b])]) (fun x hx => by simp only [List.mem_cons, List.not_mem_nil, or_false] at hx ⊢; rcases hx with rfl | rfl | rfl <;> simp))
  clear HB8
  go_upto_region 9 with fail
  cases S1
  ·skip
   refine wp_region_val [(0, 47, PX), (1, 48, PX), (2, 49, PP), (3, 50, VC (.pointer (some ⟨w.heap.size, 0, none⟩))), (4, 51, VC (.int .i64 a)), (5, 52, VC (.bool false)), (6, 53, VC (.bool true)), (7, 54, VC (.bool true)), (8, 55, VC undef), (9, 56, VC undef), (10, 57, VC undef), (11, 58, VC undef), (12, 59, VC undef), (13, 60, VC undef), (14, 61, VC undef), (15, 62, VC (.bool true))] (fun W => Bx w [(KY, cY), (KX, cX), (w.heap.size, #[.int .i64 a, .int .i64 b])] W) [47, 48, 49, 50, 51, 52, 53, 54, 55, 56, 57, 58, 59, 60, 61, 62] (by kernel_rfl) (by kernel_rfl) (by kernel_rfl) ⟨HXt.out.firm.keeps, HXt.out.firm.keeps, HPk.out, Keeps.vc _, Keeps.vc _, Keeps.vc _, Keeps.vc _, Keeps.vc _, Keeps.vc _, Keeps.vc _, Keeps.vc _, Keeps.vc _, Keeps.vc _, Keeps.vc _, Keeps.vc _, Keeps.vc _, trivial⟩ (fun _ _ _ h hb => h.keep hb) HB6.out (forall_ops ⟨?_, ?_, ?_, ?_, ?_, ?_, ?_, ?_, ?_, ?_, ?_, ?_, ?_, ?_, ?_, ?_, trivial⟩) ?_
   ·exact .of rfl rfl fun _ _ hB hE _ _ => .loadAll (g := KX) (vs := cX) rfl (fou (v := .pointer (some ⟨KX, 0, none⟩))) (hE.own _ lm1).2 HSX.out Tryz.underlying75 rfl (by kernel_rfl) (HXt.out.firm.below _ _ _ HVX.out hB)
   ·exact .of rfl rfl fun _ _ hB hE _ _ => .loadAll (g := KX) (vs := cX) rfl (fou (v := .pointer (some ⟨KX, 0, none⟩))) (hE.own _ lm1).2 HSX.out Tryz.underlying75 rfl (by kernel_rfl) (HXt.out.firm.below _ _ _ HVX.out hB)
   ·exact .of rfl rfl fun _ W _ _ hV _ => .call Tryz.func33 (by kernel_rfl) rfl rfl rfl (map_two (fr_in (by kernel_rfl)) (fr_in (by kernel_rfl))) (HXX.out _ _ W (hget hV 0 rfl (by kernel_rfl)) (hget hV 1 rfl (by kernel_rfl)))
   ·exact .of rfl rfl fun _ _ _ _ _ _ => .fieldAddr (p := .pointer (some ⟨w.heap.size, 0, none⟩)) rfl (fou (v := .pointer (some ⟨w.heap.size, 0, none⟩))) (by kernel_rfl) rfl
   ·exact .of rfl rfl fun _ _ _ hE hV _ => .load1 (p := .pointer (some ⟨w.heap.size, 0, none⟩)) rfl (fgt hV 3 rfl) (run_load_one Tryz.underlying3 rfl ((hE.own _ lm2).2.2.1 0 (by simp))) rfl
   ·exact .of rfl rfl fun _ W _ _ hV _ => .call Tryz.func32 (by kernel_rfl) rfl rfl rfl (map_two (fr_in (by kernel_rfl)) (fgt hV 4 rfl)) (HS1.out _ W (hget hV 2 rfl (by kernel_rfl)))
   ·exact .of rfl rfl fun _ _ _ _ hV _ => .unOp (p := .bool false) rfl (fgt hV 5 rfl) (by kernel_rfl) rfl
   ·exact .of rfl rfl fun _ _ _ _ hV _ => .move rfl (fgt hV 6 rfl) rfl
   ·exact .off (b := true) rfl (by kernel_rfl) rfl rfl
   ·exact .off (b := true) rfl (by kernel_rfl) rfl rfl
   ·exact .off (b := true) rfl (by kernel_rfl) rfl rfl
   ·exact .off (b := true) rfl (by kernel_rfl) rfl rfl
   ·exact .off (b := true) rfl (by kernel_rfl) rfl rfl
   ·exact .off (b := true) rfl (by kernel_rfl) rfl rfl
   ·exact .off (b := true) rfl (by kernel_rfl) rfl rfl
   ·exact .of rfl rfl fun _ _ _ _ hV _ => .pick (b := true) rfl (fgt hV 7 rfl) rfl rfl
   intro y W7 hB hE hV
   have y1 : y 62 = .bool true := hend hV 15 rfl
   have HB7 := lhd hE; have HW7 := lhd hB; clear hE hV hB HB6
   generalize hact : fr _ _ y = act
   simp only [fr, putAll, List.foldl_cons, List.foldl_nil, List.setIfInBounds_toArray, List.set_cons_zero, List.set_cons_succ] at hact
   simp only [y1] at hact; subst hact
   clear y1
   go_wp2_with fail
   go_ret
   exact ⟨ret_int (by rw [HE.out]; rfl), HB7.out.below⟩
  cases S2
  ·skip
   refine wp_region_val [(0, 47, PX), (1, 48, PX), (2, 49, PP), (3, 50, VC (.pointer (some ⟨w.heap.size, 0, none⟩))), (4, 51, VC (.int .i64 a)), (5, 52, VC (.bool true)), (6, 53, VC (.bool false)), (7, 54, VC (.bool false)), (8, 55, PY), (9, 56, PY), (10, 57, PQ), (11, 58, VC (.pointer (some ⟨w.heap.size, 1, none⟩))), (12, 59, VC (.int .i64 b)), (13, 60, VC (.bool false)), (14, 61, VC (.bool true)), (15, 62, VC (.bool true))] (fun W => Bx w [(KY, cY), (KX, cX), (w.heap.size, #[.int .i64 a, .int .i64 b])] W) [47, 48, 49, 50, 51, 52, 53, 54, 55, 56, 57, 58, 59, 60, 61, 62] (by kernel_rfl) (by kernel_rfl) (by kernel_rfl) ⟨HXt.out.firm.keeps, HXt.out.firm.keeps, HPk.out, Keeps.vc _, Keeps.vc _, Keeps.vc _, Keeps.vc _, Keeps.vc _, HYt.out.firm.keeps, HYt.out.firm.keeps, HQk.out, Keeps.vc _, Keeps.vc _, Keeps.vc _, Keeps.vc _, Keeps.vc _, trivial⟩ (fun _ _ _ h hb => h.keep hb) HB6.out (forall_ops ⟨?_, ?_, ?_, ?_, ?_, ?_, ?_, ?_, ?_, ?_, ?_, ?_, ?_, ?_, ?_, ?_, trivial⟩) ?_
   ·exact .of rfl rfl fun _ _ hB hE _ _ => .loadAll (g := KX) (vs := cX) rfl (fou (v := .pointer (some ⟨KX, 0, none⟩))) (hE.own _ lm1).2 HSX.out Tryz.underlying75 rfl (by kernel_rfl) (HXt.out.firm.below _ _ _ HVX.out hB)
   ·exact .of rfl rfl fun _ _ hB hE _ _ => .loadAll (g := KX) (vs := cX) rfl (fou (v := .pointer (some ⟨KX, 0, none⟩))) (hE.own _ lm1).2 HSX.out Tryz.underlying75 rfl (by kernel_rfl) (HXt.out.firm.below _ _ _ HVX.out hB)
   ·exact .of rfl rfl fun _ W _ _ hV _ => .call Tryz.func33 (by kernel_rfl) rfl rfl rfl (map_two (fr_in (by kernel_rfl)) (fr_in (by kernel_rfl))) (HXX.out _ _ W (hget hV 0 rfl (by kernel_rfl)) (hget hV 1 rfl (by kernel_rfl)))
   ·exact .of rfl rfl fun _ _ _ _ _ _ => .fieldAddr (p := .pointer (some ⟨w.heap.size, 0, none⟩)) rfl (fou (v := .pointer (some ⟨w.heap.size, 0, none⟩))) (by kernel_rfl) rfl
   ·exact .of rfl rfl fun _ _ _ hE hV _ => .load1 (p := .pointer (some ⟨w.heap.size, 0, none⟩)) rfl (fgt hV 3 rfl) (run_load_one Tryz.underlying3 rfl ((hE.own _ lm2).2.2.1 0 (by simp))) rfl
   ·exact .of rfl rfl fun _ W _ _ hV _ => .call Tryz.func32 (by kernel_rfl) rfl rfl rfl (map_two (fr_in (by kernel_rfl)) (fgt hV 4 rfl)) (HS1.out _ W (hget hV 2 rfl (by kernel_rfl)))
   ·exact .of rfl rfl fun _ _ _ _ hV _ => .unOp (p := .bool true) rfl (fgt hV 5 rfl) (by kernel_rfl) rfl
   ·exact .of rfl rfl fun _ _ _ _ hV _ => .move rfl (fgt hV 6 rfl) rfl
   ·exact .on (b := false) rfl (by kernel_rfl) rfl rfl fun _ _ hB hE _ _ => .loadAll (g := KY) (vs := cY) rfl (fou (v := .pointer (some ⟨KY, 0, none⟩))) (hE.own _ lm0).2 HSY.out Tryz.underlying75 rfl (by kernel_rfl) (HYt.out.firm.below _ _ _ HVY.out hB)
   ·exact .on (b := false) rfl (by kernel_rfl) rfl rfl fun _ _ hB hE _ _ => .loadAll (g := KY) (vs := cY) rfl (fou (v := .pointer (some ⟨KY, 0, none⟩))) (hE.own _ lm0).2 HSY.out Tryz.underlying75 rfl (by kernel_rfl) (HYt.out.firm.below _ _ _ HVY.out hB)
   ·exact .on (b := false) rfl (by kernel_rfl) rfl rfl fun _ W _ _ hV _ => .call Tryz.func33 (by kernel_rfl) rfl rfl rfl (map_two (fr_in (by kernel_rfl)) (fr_in (by kernel_rfl))) (HYY.out _ _ W (hget hV 8 rfl (by kernel_rfl)) (hget hV 9 rfl (by kernel_rfl)))
   ·exact .on (b := false) rfl (by kernel_rfl) rfl rfl fun _ _ _ _ _ _ => .fieldAddr (p := .pointer (some ⟨w.heap.size, 0, none⟩)) rfl (fou (v := .pointer (some ⟨w.heap.size, 0, none⟩))) (by kernel_rfl) rfl
   ·exact .on (b := false) rfl (by kernel_rfl) rfl rfl fun _ _ _ hE hV _ => .load1 (p := .pointer (some ⟨w.heap.size, 1, none⟩)) rfl (fgt hV 11 rfl) (run_load_one Tryz.underlying3 rfl ((hE.own _ lm2).2.2.1 1 (by simp))) rfl
   ·exact .on (b := false) rfl (by kernel_rfl) rfl rfl fun _ W _ _ hV _ => .call Tryz.func32 (by kernel_rfl) rfl rfl rfl (map_two (fr_in (by kernel_rfl)) (fgt hV 12 rfl)) (HS2.out _ W (hget hV 10 rfl (by kernel_rfl)))
   ·exact .on (b := false) rfl (by kernel_rfl) rfl rfl fun _ _ _ _ hV _ => .unOp (p := .bool false) rfl (fgt hV 13 rfl) (by kernel_rfl) rfl
   ·exact .of rfl rfl fun _ _ _ _ hV _ => .pick (b := false) rfl (fgt hV 7 rfl) (fgt hV 14 rfl) rfl
   intro y W7 hB hE hV
   have y1 : y 62 = .bool true := hend hV 15 rfl
   have HB7 := lhd hE; have HW7 := lhd hB; clear hE hV hB HB6
   generalize hact : fr _ _ y = act
   simp only [fr, putAll, List.foldl_cons, List.foldl_nil, List.setIfInBounds_toArray, List.set_cons_zero, List.set_cons_succ] at hact
   simp only [y1] at hact; subst hact
   clear y1
   go_wp2_with fail
   go_ret
   exact ⟨ret_int (by rw [HE.out]; rfl), HB7.out.below⟩
  refine wp_region_val [(0, 47, PX), (1, 48, PX), (2, 49, PP), (3, 50, VC (.pointer (some ⟨w.heap.size, 0, none⟩))), (4, 51, VC (.int .i64 a)), (5, 52, VC (.bool true)), (6, 53, VC (.bool false)), (7, 54, VC (.bool false)), (8, 55, PY), (9, 56, PY), (10, 57, PQ), (11, 58, VC (.pointer (some ⟨w.heap.size, 1, none⟩))), (12, 59, VC (.int .i64 b)), (13, 60, VC (.bool true)), (14, 61, VC (.bool false)), (15, 62, VC (.bool false))] (fun W => Bx w [(KY, cY), (KX, cX), (w.heap.size, #[.int .i64 a, .int .i64 b])] W) [47, 48, 49, 50, 51, 52, 53, 54, 55, 56, 57, 58, 59, 60, 61, 62] (by kernel_rfl) (by kernel_rfl) (by kernel_rfl) ⟨HXt.out.firm.keeps, HXt.out.firm.keeps, HPk.out, Keeps.vc _, Keeps.vc _, Keeps.vc _, Keeps.vc _, Keeps.vc _, HYt.out.firm.keeps, HYt.out.firm.keeps, HQk.out, Keeps.vc _, Keeps.vc _, Keeps.vc _, Keeps.vc _, Keeps.vc _, trivial⟩ (fun _ _ _ h hb => h.keep hb) HB6.out (forall_ops ⟨?_, ?_, ?_, ?_, ?_, ?_, ?_, ?_, ?_, ?_, ?_, ?_, ?_, ?_, ?_, ?_, trivial⟩) ?_
  ·exact .of rfl rfl fun _ _ hB hE _ _ => .loadAll (g := KX) (vs := cX) rfl (fou (v := .pointer (some ⟨KX, 0, none⟩))) (hE.own _ lm1).2 HSX.out Tryz.underlying75 rfl (by kernel_rfl) (HXt.out.firm.below _ _ _ HVX.out hB)
  ·exact .of rfl rfl fun _ _ hB hE _ _ => .loadAll (g := KX) (vs := cX) rfl (fou (v := .pointer (some ⟨KX, 0, none⟩))) (hE.own _ lm1).2 HSX.out Tryz.underlying75 rfl (by kernel_rfl) (HXt.out.firm.below _ _ _ HVX.out hB)
  ·exact .of rfl rfl fun _ W _ _ hV _ => .call Tryz.func33 (by kernel_rfl) rfl rfl rfl (map_two (fr_in (by kernel_rfl)) (fr_in (by kernel_rfl))) (HXX.out _ _ W (hget hV 0 rfl (by kernel_rfl)) (hget hV 1 rfl (by kernel_rfl)))
  ·exact .of rfl rfl fun _ _ _ _ _ _ => .fieldAddr (p := .pointer (some ⟨w.heap.size, 0, none⟩)) rfl (fou (v := .pointer (some ⟨w.heap.size, 0, none⟩))) (by kernel_rfl) rfl
  ·exact .of rfl rfl fun _ _ _ hE hV _ => .load1 (p := .pointer (some ⟨w.heap.size, 0, none⟩)) rfl (fgt hV 3 rfl) (run_load_one Tryz.underlying3 rfl ((hE.own _ lm2).2.2.1 0 (by simp))) rfl
  ·exact .of rfl rfl fun _ W _ _ hV _ => .call Tryz.func32 (by kernel_rfl) rfl rfl rfl (map_two (fr_in (by kernel_rfl)) (fgt hV 4 rfl)) (HS1.out _ W (hget hV 2 rfl (by kernel_rfl)))
  ·exact .of rfl rfl fun _ _ _ _ hV _ => .unOp (p := .bool true) rfl (fgt hV 5 rfl) (by kernel_rfl) rfl
  ·exact .of rfl rfl fun _ _ _ _ hV _ => .move rfl (fgt hV 6 rfl) rfl
  ·exact .on (b := false) rfl (by kernel_rfl) rfl rfl fun _ _ hB hE _ _ => .loadAll (g := KY) (vs := cY) rfl (fou (v := .pointer (some ⟨KY, 0, none⟩))) (hE.own _ lm0).2 HSY.out Tryz.underlying75 rfl (by kernel_rfl) (HYt.out.firm.below _ _ _ HVY.out hB)
  ·exact .on (b := false) rfl (by kernel_rfl) rfl rfl fun _ _ hB hE _ _ => .loadAll (g := KY) (vs := cY) rfl (fou (v := .pointer (some ⟨KY, 0, none⟩))) (hE.own _ lm0).2 HSY.out Tryz.underlying75 rfl (by kernel_rfl) (HYt.out.firm.below _ _ _ HVY.out hB)
  ·exact .on (b := false) rfl (by kernel_rfl) rfl rfl fun _ W _ _ hV _ => .call Tryz.func33 (by kernel_rfl) rfl rfl rfl (map_two (fr_in (by kernel_rfl)) (fr_in (by kernel_rfl))) (HYY.out _ _ W (hget hV 8 rfl (by kernel_rfl)) (hget hV 9 rfl (by kernel_rfl)))
  ·exact .on (b := false) rfl (by kernel_rfl) rfl rfl fun _ _ _ _ _ _ => .fieldAddr (p := .pointer (some ⟨w.heap.size, 0, none⟩)) rfl (fou (v := .pointer (some ⟨w.heap.size, 0, none⟩))) (by kernel_rfl) rfl
  ·exact .on (b := false) rfl (by kernel_rfl) rfl rfl fun _ _ _ hE hV _ => .load1 (p := .pointer (some ⟨w.heap.size, 1, none⟩)) rfl (fgt hV 11 rfl) (run_load_one Tryz.underlying3 rfl ((hE.own _ lm2).2.2.1 1 (by simp))) rfl
  ·exact .on (b := false) rfl (by kernel_rfl) rfl rfl fun _ W _ _ hV _ => .call Tryz.func32 (by kernel_rfl) rfl rfl rfl (map_two (fr_in (by kernel_rfl)) (fgt hV 12 rfl)) (HS2.out _ W (hget hV 10 rfl (by kernel_rfl)))
  ·exact .on (b := false) rfl (by kernel_rfl) rfl rfl fun _ _ _ _ hV _ => .unOp (p := .bool true) rfl (fgt hV 13 rfl) (by kernel_rfl) rfl
  ·exact .of rfl rfl fun _ _ _ _ hV _ => .pick (b := false) rfl (fgt hV 7 rfl) (fgt hV 14 rfl) rfl
  intro y W7 hB hE hV
  have y1 : y 62 = .bool false := hend hV 15 rfl
  have HB7 := lhd hE; have HW7 := lhd hB; clear hE hV hB HB6
  generalize hact : fr _ _ y = act
  simp only [fr, putAll, List.foldl_cons, List.foldl_nil, List.setIfInBounds_toArray, List.set_cons_zero, List.set_cons_succ] at hact
  simp only [y1] at hact; subst hact
  clear y1
  have HX7 := lhd (HXt.out.firm.below _ _ _ HVX.out HW7.out); have HY7 := lhd (HYt.out.firm.below _ _ _ HVY.out HW7.out)
  clear HW7 HVX HVY HXX HYY HS1 HS2
  go_upto_region 11 with fail
  refine wp_region_full (W7.heap.size) [(0, 63, PX), (1, 64, PY), (2, 65, PR), (3, 66, PY), (4, 67, PX), (5, 68, PT)] [⟨6, 12, 8, 2, 65, zz8⟩, ⟨7, 13, 9, 5, 68, zz8⟩] [⟨KY, 999, 999, 999, cY, fun v vs => v = .agg vs⟩, ⟨KX, 999, 999, 999, cX, fun v vs => v = .agg vs⟩, ⟨w.heap.size, 999, 999, 999, #[.int .i64 a, .int .i64 b], fun v vs => v = .agg vs⟩] (fun _ => True) [63, 64, 65, 66, 67, 68, 12, 13] (Nat.le_refl _) (by kernel_rfl) (by kernel_rfl) (by kernel_rfl) (Firms.all (l := [(0, 63, PX), (1, 64, PY), (2, 65, PR), (3, 66, PY), (4, 67, PX), (5, 68, PT)]) ⟨HXt.out.firm, HYt.out.firm, HRt.out.firm, HYt.out.firm, HXt.out.firm, HTt.out.firm, trivial⟩) ⟨fun _ _ _ _ _ => trivial, fun _ _ _ _ _ _ _ => trivial⟩ trivial ?_ (forall_ops ⟨?_, ?_, ?_, ?_, ?_, ?_, ?_, ?_, ?_, ?_, trivial⟩) ?_
  ·intro c hc
   simp only [List.mem_cons, List.not_mem_nil, or_false] at hc
   rcases hc with rfl | rfl | rfl
   ·exact ⟨(HB7.out.own _ lm0).2, fun h => absurd rfl h⟩
   ·exact ⟨(HB7.out.own _ lm1).2, fun h => absurd rfl h⟩
   ·exact ⟨(HB7.out.own _ lm2).2, fun h => absurd rfl h⟩
  ·exact FOk.val rfl rfl rfl rfl fun y W hB hE hO hV => .loadAll (g := KX) (vs := cX) rfl (fou (v := .pointer (some ⟨KX, 0, none⟩))) (hO _ lm1 rfl) HSX.out Tryz.underlying75 rfl (by kernel_rfl) (HXt.out.firm.below _ _ _ HX7.out hB)
  ·exact FOk.val rfl rfl rfl rfl fun y W hB hE hO hV => .loadAll (g := KY) (vs := cY) rfl (fou (v := .pointer (some ⟨KY, 0, none⟩))) (hO _ lm0 rfl) HSY.out Tryz.underlying75 rfl (by kernel_rfl) (HYt.out.firm.below _ _ _ HY7.out hB)
  ·exact FOk.val rfl rfl rfl rfl fun y W hB hE hO hV => .call Tryz.func33 (by kernel_rfl) rfl rfl rfl (map_two (fr_in (by kernel_rfl)) (fr_in (by kernel_rfl))) (HXY.out _ _ W (hget hV 0 rfl (by kernel_rfl)) (hget hV 1 rfl (by kernel_rfl)))
  ·exact FOk.val rfl rfl rfl rfl fun y W hB hE hO hV => .loadAll (g := KY) (vs := cY) rfl (fou (v := .pointer (some ⟨KY, 0, none⟩))) (hO _ lm0 rfl) HSY.out Tryz.underlying75 rfl (by kernel_rfl) (HYt.out.firm.below _ _ _ HY7.out hB)
  ·exact FOk.val rfl rfl rfl rfl fun y W hB hE hO hV => .loadAll (g := KX) (vs := cX) rfl (fou (v := .pointer (some ⟨KX, 0, none⟩))) (hO _ lm1 rfl) HSX.out Tryz.underlying75 rfl (by kernel_rfl) (HXt.out.firm.below _ _ _ HX7.out hB)
  ·exact FOk.val rfl rfl rfl rfl fun y W hB hE hO hV => .call Tryz.func33 (by kernel_rfl) rfl rfl rfl (map_two (fr_in (by kernel_rfl)) (fr_in (by kernel_rfl))) (HYX.out _ _ W (hget hV 3 rfl (by kernel_rfl)) (hget hV 4 rfl (by kernel_rfl)))
  ·refine .inl ⟨.inl rfl, .inr (.inl ⟨word_none (by kernel_rfl), by simp, _, lm0, rfl, by simp, by simp, 75, noint_list (by kernel_rfl), fun y W K Q' hK => ?_⟩)⟩
   simp only [fr, putAll, List.foldl_cons, List.foldl_nil, List.setIfInBounds_toArray, List.set_cons_zero, List.set_cons_succ] at hK ⊢
   go_simp
   exact hK
  ·refine .inl ⟨.inl rfl, .inr (.inl ⟨word_none (by kernel_rfl), by simp, _, lm1, rfl, by simp, by simp, 75, noint_list (by kernel_rfl), fun y W K Q' hK => ?_⟩)⟩
   simp only [fr, putAll, List.foldl_cons, List.foldl_nil, List.setIfInBounds_toArray, List.set_cons_zero, List.set_cons_succ] at hK ⊢
   go_simp
   exact hK
  ·exact .inl ⟨.inl rfl, .inr (.inr (.inl ⟨rfl, word_none (by kernel_rfl), by simp, _, lm0, rfl, by simp, by simp, (by kernel_rfl), (by kernel_rfl), fun y W g hB hV hg hgw hc K Q' hK => WpS.sto (n := 16) rfl ((fr_in (by kernel_rfl)).trans hg) (fr_in (by kernel_rfl)) (HRt.out.isTab (hget hV 2 rfl (by kernel_rfl))) hc rfl (by kernel_rfl) hK⟩))⟩
  ·exact .inl ⟨.inl rfl, .inr (.inr (.inl ⟨rfl, word_none (by kernel_rfl), by simp, _, lm1, rfl, by simp, by simp, (by kernel_rfl), (by kernel_rfl), fun y W g hB hV hg hgw hc K Q' hK => WpS.sto (n := 16) rfl ((fr_in (by kernel_rfl)).trans hg) (fr_in (by kernel_rfl)) (HTt.out.isTab (hget hV 5 rfl (by kernel_rfl))) hc rfl (by kernel_rfl) hK⟩))⟩
  intro y W8 hB hE hO hV hBo hA
  obtain ⟨KR, zR, lR, cR, eR, hR⟩ := hBo _ lm0
  dsimp only at zR eR
  have pR := hend hV 2 rfl
  rw [eR] at pR
  obtain ⟨KT, zT, lT, cT, eT, hT⟩ := hBo _ lm1
  dsimp only at zT eT
  have pT := hend hV 5 rfl
  rw [eT] at pT
  have o0 := (hO _ lm0).1 rfl
  dsimp only at o0
  have o1 := (hO _ lm1).1 rfl
  dsimp only at o1
  have o2 := (hO _ lm2).1 rfl
  dsimp only at o2
  have HB8 := lhd (show Bx w [(KT, cT), (KR, cR), (KY, cY), (KX, cX), (w.heap.size, #[.int .i64 a, .int .i64 b])] W8 from ((((((Bx.nil (HB7.out.below.trans (hB.mono HB7.out.below.size))).cons (HB7.out.own _ lm2).1 o2).cons (HB7.out.own _ lm1).1 o1).cons (HB7.out.own _ lm0).1 o0).cons (Nat.le_trans HB7.out.below.size lR) hR).cons (Nat.le_trans HB7.out.below.size lT) hT))
  generalize hact : fr _ _ y = act
  simp only [fr, putAll, List.foldl_cons, List.foldl_nil, List.setIfInBounds_toArray, List.set_cons_zero, List.set_cons_succ] at hact
  simp only [zR, zT, eR, eT] at hact; subst hact
  have HR := lhd pR; have HT := lhd pT
  have HSR := lhd (size_of_tab (HRt.out.isTab pR)); have HST := lhd (size_of_tab (HTt.out.isTab pT))
  clear hB hE hO hV hBo hA o0 o1 o2 zR zT eR eT pR pT lR lT hR hT HB7 HX7 HY7 HXY HYX HSX HSY
  have HB9 := lhd (HB8.out.sub (L' := [(KT, cT), (KR, cR)]) (fun x hx => by simp only [List.mem_cons, List.not_mem_nil, or_false] at hx ⊢; rcases hx with rfl | rfl <;> simp)); clear HB8
  obtain ⟨Zt, y0, y1, y2, y3, y4⟩ : ∃ Zt : Nat → Prop, Zt 0 = True ∧ Zt 1 = (z0 = true) ∧ Zt 2 = (z0 = true ∧ z1 = true) ∧ Zt 3 = (z0 = true ∧ z1 = true ∧ z2 = true) ∧ Zt 4 = (z0 = true ∧ z1 = true ∧ z2 = true ∧ z3 = true) := ⟨fun k => match k with | 0 => True | 1 => z0 = true | 2 => z0 = true ∧ z1 = true | 3 => z0 = true ∧ z1 = true ∧ z2 = true | _ => z0 = true ∧ z1 = true ∧ z2 = true ∧ z3 = true, rfl, rfl, rfl, rfl, rfl⟩
  have Y0 := lhd y0; clear y0
  have Y1 := lhd y1; clear y1
  have Y2 := lhd y2; clear y2
  have Y3 := lhd y3; clear y3
  have Y4 := lhd y4; clear y4
  go_wp2_with fail
  go_loopw [14] (fun s14 wr => ∃ k : Nat, s14 = .int .i64 k ∧ k ≤ 4 ∧ Zt k ∧ Bx w [(KT, cT), (KR, cR)] wr ∧ Below W8.heap.size W8 wr) (fun s _ => 4 - (intOf s).toNat)
  case atStart => exact ⟨0, rfl, by omega, by rw [Y0.out]; trivial, HB9.out, Below.refl _ _⟩
  case round =>
   obtain ⟨k, rfl, hk, hz0, hb, hw⟩ := hrel
   clear HB9
   by_cases k0 : k = 0
   ·subst k0
    have HZt := lhd hz0; have HB := lhd hb; have HW := lhd hw; clear hz0 hb hw hk
    go_upto_region 15 with fail
    have HR9 := lhd (HRt.out.firm.below _ _ _ HR.out HW.out); have HT9 := lhd (HTt.out.firm.below _ _ _ HT.out HW.out)
    refine wp_region_val [(0, 73, VC (.int .i64 0)), (1, 74, VC (.pointer (some ⟨KR, 0, none⟩))), (2, 75, VC (.agg (cR.extract 0 4))), (3, 76, VC (.int .i64 0)), (4, 77, VC (.pointer (some ⟨KT, 0, none⟩))), (5, 78, VC (.agg (cT.extract 0 4))), (6, 79, PZ0), (7, 80, VC (.bool z0)), (8, 81, VC (.bool (!z0)))] (fun W => Bx w [(KT, cT), (KR, cR)] W) [73, 74, 75, 76, 77, 78, 79, 80, 81] (by kernel_rfl) (by kernel_rfl) (by kernel_rfl) ⟨Keeps.vc _, Keeps.vc _, Keeps.vc _, Keeps.vc _, Keeps.vc _, Keeps.vc _, HZ0k.out, Keeps.vc _, Keeps.vc _, trivial⟩ (fun _ _ _ h hb => h.keep hb) HB.out (forall_ops ⟨?_, ?_, ?_, ?_, ?_, ?_, ?_, ?_, ?_, trivial⟩) ?_
    ·exact .of rfl rfl fun _ _ _ _ _ _ => .move rfl (fou (v := .int .i64 0)) rfl
    ·exact .of rfl rfl fun _ _ _ _ hV _ => .indexAddr (p := .pointer (some ⟨KR, 0, none⟩)) (k := .int .i64 0) rfl (fou (v := .pointer (some ⟨KR, 0, none⟩))) (fgt hV 0 rfl) (by kernel_rfl) rfl
    ·exact .of rfl rfl fun _ _ _ hE hV _ => .load (g := KR) (k := 0) (n := 4) (vs := cR) rfl (fgt hV 1 rfl) (hE.own _ lm1).2 (by rw [HSR.out]; decide) Tryz.underlying73 rfl (by kernel_rfl) rfl
    ·exact .of rfl rfl fun _ _ _ _ _ _ => .move rfl (fou (v := .int .i64 0)) rfl
    ·exact .of rfl rfl fun _ _ _ _ hV _ => .indexAddr (p := .pointer (some ⟨KT, 0, none⟩)) (k := .int .i64 0) rfl (fou (v := .pointer (some ⟨KT, 0, none⟩))) (fgt hV 3 rfl) (by kernel_rfl) rfl
    ·exact .of rfl rfl fun _ _ _ hE hV _ => .load (g := KT) (k := 0) (n := 4) (vs := cT) rfl (fgt hV 4 rfl) (hE.own _ lm0).2 (by rw [HST.out]; decide) Tryz.underlying73 rfl (by kernel_rfl) rfl
    ·exact .of rfl rfl fun _ W hB _ hV _ => .call Tryz.func35 (by kernel_rfl) rfl rfl rfl (map_two (fgt hV 2 rfl) (fgt hV 5 rfl)) (HPL0.out _ _ W (HRt.out.firm.below _ _ _ HR9.out hB) (HTt.out.firm.below _ _ _ HT9.out hB))
    ·exact .of rfl rfl fun _ W _ _ hV _ => .call Tryz.func34 (by kernel_rfl) rfl rfl rfl (map_two (fr_in (by kernel_rfl)) rfl) (HZ0.out _ W (hget hV 6 rfl (by kernel_rfl)))
    ·exact .of rfl rfl fun _ _ _ _ hV _ => .unOp (p := .bool z0) rfl (fgt hV 7 rfl) (by kernel_rfl) rfl
    intro y W9 hB hE hV
    have y1 : y 81 = .bool (!z0) := hend hV 8 rfl
    have HBn := lhd hE; have HWn := lhd (HW.out.trans (hB.mono HW.out.size)); clear hE hV hB HB HW HR9 HT9
    generalize hact : fr _ _ y = act
    simp only [fr, putAll, List.foldl_cons, List.foldl_nil, List.setIfInBounds_toArray, List.set_cons_zero, List.set_cons_succ] at hact
    simp only [y1] at hact; subst hact
    clear y1
    cases hz : z0
    ·have HEe := lhd (show (18 : Int) = E from by rw [HE.out, hz]; simp)
     subst hz
     go_wp2_with fail
     go_ret
     exact ⟨ret_int HEe.out, HBn.out.below⟩
    have HZn := lhd (show Zt 1 from by have := HZt.out; rw [Y0.out] at this; rw [Y1.out]; exact hz)
    subst hz
    go_wp2_with fail
    exact ⟨⟨1, by first | rfl | go_num, by omega, HZn.out, HBn.out, HWn.out⟩, by simp [intOf]⟩
   by_cases k1 : k = 1
   ·subst k1
    have HZt := lhd hz0; have HB := lhd hb; have HW := lhd hw; clear hz0 hb hw hk
    go_upto_region 15 with fail
    have HR9 := lhd (HRt.out.firm.below _ _ _ HR.out HW.out); have HT9 := lhd (HTt.out.firm.below _ _ _ HT.out HW.out)
    refine wp_region_val [(0, 73, VC (.int .i64 1)), (1, 74, VC (.pointer (some ⟨KR, 4, none⟩))), (2, 75, VC (.agg (cR.extract 4 8))), (3, 76, VC (.int .i64 1)), (4, 77, VC (.pointer (some ⟨KT, 4, none⟩))), (5, 78, VC (.agg (cT.extract 4 8))), (6, 79, PZ1), (7, 80, VC (.bool z1)), (8, 81, VC (.bool (!z1)))] (fun W => Bx w [(KT, cT), (KR, cR)] W) [73, 74, 75, 76, 77, 78, 79, 80, 81] (by kernel_rfl) (by kernel_rfl) (by kernel_rfl) ⟨Keeps.vc _, Keeps.vc _, Keeps.vc _, Keeps.vc _, Keeps.vc _, Keeps.vc _, HZ1k.out, Keeps.vc _, Keeps.vc _, trivial⟩ (fun _ _ _ h hb => h.keep hb) HB.out (forall_ops ⟨?_, ?_, ?_, ?_, ?_, ?_, ?_, ?_, ?_, trivial⟩) ?_
    ·exact .of rfl rfl fun _ _ _ _ _ _ => .move rfl (fou (v := .int .i64 1)) rfl
    ·exact .of rfl rfl fun _ _ _ _ hV _ => .indexAddr (p := .pointer (some ⟨KR, 0, none⟩)) (k := .int .i64 1) rfl (fou (v := .pointer (some ⟨KR, 0, none⟩))) (fgt hV 0 rfl) (by kernel_rfl) rfl
    ·exact .of rfl rfl fun _ _ _ hE hV _ => .load (g := KR) (k := 4) (n := 4) (vs := cR) rfl (fgt hV 1 rfl) (hE.own _ lm1).2 (by rw [HSR.out]; decide) Tryz.underlying73 rfl (by kernel_rfl) rfl
    ·exact .of rfl rfl fun _ _ _ _ _ _ => .move rfl (fou (v := .int .i64 1)) rfl
    ·exact .of rfl rfl fun _ _ _ _ hV _ => .indexAddr (p := .pointer (some ⟨KT, 0, none⟩)) (k := .int .i64 1) rfl (fou (v := .pointer (some ⟨KT, 0, none⟩))) (fgt hV 3 rfl) (by kernel_rfl) rfl
    ·exact .of rfl rfl fun _ _ _ hE hV _ => .load (g := KT) (k := 4) (n := 4) (vs := cT) rfl (fgt hV 4 rfl) (hE.own _ lm0).2 (by rw [HST.out]; decide) Tryz.underlying73 rfl (by kernel_rfl) rfl
    ·exact .of rfl rfl fun _ W hB _ hV _ => .call Tryz.func35 (by kernel_rfl) rfl rfl rfl (map_two (fgt hV 2 rfl) (fgt hV 5 rfl)) (HPL1.out _ _ W (HRt.out.firm.below _ _ _ HR9.out hB) (HTt.out.firm.below _ _ _ HT9.out hB))
    ·exact .of rfl rfl fun _ W _ _ hV _ => .call Tryz.func34 (by kernel_rfl) rfl rfl rfl (map_two (fr_in (by kernel_rfl)) rfl) (HZ1.out _ W (hget hV 6 rfl (by kernel_rfl)))
    ·exact .of rfl rfl fun _ _ _ _ hV _ => .unOp (p := .bool z1) rfl (fgt hV 7 rfl) (by kernel_rfl) rfl
    intro y W9 hB hE hV
    have y1 : y 81 = .bool (!z1) := hend hV 8 rfl
    have HBn := lhd hE; have HWn := lhd (HW.out.trans (hB.mono HW.out.size)); clear hE hV hB HB HW HR9 HT9
    generalize hact : fr _ _ y = act
    simp only [fr, putAll, List.foldl_cons, List.foldl_nil, List.setIfInBounds_toArray, List.set_cons_zero, List.set_cons_succ] at hact
    simp only [y1] at hact; subst hact
    clear y1
    cases hz : z1
    ·have HEe := lhd (show (18 : Int) = E from by rw [HE.out, hz]; simp)
     subst hz
     go_wp2_with fail
     go_ret
     exact ⟨ret_int HEe.out, HBn.out.below⟩
    have HZn := lhd (show Zt 2 from by have := HZt.out; rw [Y1.out] at this; rw [Y2.out]; simp only [this, hz, and_self])
    subst hz
    go_wp2_with fail
    exact ⟨⟨2, by first | rfl | go_num, by omega, HZn.out, HBn.out, HWn.out⟩, by simp [intOf]⟩
   by_cases k2 : k = 2
   ·subst k2
    have HZt := lhd hz0; have HB := lhd hb; have HW := lhd hw; clear hz0 hb hw hk
    go_upto_region 15 with fail
    have HR9 := lhd (HRt.out.firm.below _ _ _ HR.out HW.out); have HT9 := lhd (HTt.out.firm.below _ _ _ HT.out HW.out)
    refine wp_region_val [(0, 73, VC (.int .i64 2)), (1, 74, VC (.pointer (some ⟨KR, 8, none⟩))), (2, 75, VC (.agg (cR.extract 8 12))), (3, 76, VC (.int .i64 2)), (4, 77, VC (.pointer (some ⟨KT, 8, none⟩))), (5, 78, VC (.agg (cT.extract 8 12))), (6, 79, PZ2), (7, 80, VC (.bool z2)), (8, 81, VC (.bool (!z2)))] (fun W => Bx w [(KT, cT), (KR, cR)] W) [73, 74, 75, 76, 77, 78, 79, 80, 81] (by kernel_rfl) (by kernel_rfl) (by kernel_rfl) ⟨Keeps.vc _, Keeps.vc _, Keeps.vc _, Keeps.vc _, Keeps.vc _, Keeps.vc _, HZ2k.out, Keeps.vc _, Keeps.vc _, trivial⟩ (fun _ _ _ h hb => h.keep hb) HB.out (forall_ops ⟨?_, ?_, ?_, ?_, ?_, ?_, ?_, ?_, ?_, trivial⟩) ?_
    ·exact .of rfl rfl fun _ _ _ _ _ _ => .move rfl (fou (v := .int .i64 2)) rfl
    ·exact .of rfl rfl fun _ _ _ _ hV _ => .indexAddr (p := .pointer (some ⟨KR, 0, none⟩)) (k := .int .i64 2) rfl (fou (v := .pointer (some ⟨KR, 0, none⟩))) (fgt hV 0 rfl) (by kernel_rfl) rfl
    ·exact .of rfl rfl fun _ _ _ hE hV _ => .load (g := KR) (k := 8) (n := 4) (vs := cR) rfl (fgt hV 1 rfl) (hE.own _ lm1).2 (by rw [HSR.out]; decide) Tryz.underlying73 rfl (by kernel_rfl) rfl
    ·exact .of rfl rfl fun _ _ _ _ _ _ => .move rfl (fou (v := .int .i64 2)) rfl
    ·exact .of rfl rfl fun _ _ _ _ hV _ => .indexAddr (p := .pointer (some ⟨KT, 0, none⟩)) (k := .int .i64 2) rfl (fou (v := .pointer (some ⟨KT, 0, none⟩))) (fgt hV 3 rfl) (by kernel_rfl) rfl
    ·exact .of rfl rfl fun _ _ _ hE hV _ => .load (g := KT) (k := 8) (n := 4) (vs := cT) rfl (fgt hV 4 rfl) (hE.own _ lm0).2 (by rw [HST.out]; decide) Tryz.underlying73 rfl (by kernel_rfl) rfl
    ·exact .of rfl rfl fun _ W hB _ hV _ => .call Tryz.func35 (by kernel_rfl) rfl rfl rfl (map_two (fgt hV 2 rfl) (fgt hV 5 rfl)) (HPL2.out _ _ W (HRt.out.firm.below _ _ _ HR9.out hB) (HTt.out.firm.below _ _ _ HT9.out hB))
    ·exact .of rfl rfl fun _ W _ _ hV _ => .call Tryz.func34 (by kernel_rfl) rfl rfl rfl (map_two (fr_in (by kernel_rfl)) rfl) (HZ2.out _ W (hget hV 6 rfl (by kernel_rfl)))
    ·exact .of rfl rfl fun _ _ _ _ hV _ => .unOp (p := .bool z2) rfl (fgt hV 7 rfl) (by kernel_rfl) rfl
    intro y W9 hB hE hV
    have y1 : y 81 = .bool (!z2) := hend hV 8 rfl
    have HBn := lhd hE; have HWn := lhd (HW.out.trans (hB.mono HW.out.size)); clear hE hV hB HB HW HR9 HT9
    generalize hact : fr _ _ y = act
    simp only [fr, putAll, List.foldl_cons, List.foldl_nil, List.setIfInBounds_toArray, List.set_cons_zero, List.set_cons_succ] at hact
    simp only [y1] at hact; subst hact
    clear y1
    cases hz : z2
    ·have HEe := lhd (show (18 : Int) = E from by rw [HE.out, hz]; simp)
     subst hz
     go_wp2_with fail
     go_ret
     exact ⟨ret_int HEe.out, HBn.out.below⟩
    have HZn := lhd (show Zt 3 from by have := HZt.out; rw [Y2.out] at this; rw [Y3.out]; simp only [this, hz, and_self])
    subst hz
    go_wp2_with fail
    exact ⟨⟨3, by first | rfl | go_num, by omega, HZn.out, HBn.out, HWn.out⟩, by simp [intOf]⟩
   by_cases k3 : k = 3
   ·subst k3
    have HZt := lhd hz0; have HB := lhd hb; have HW := lhd hw; clear hz0 hb hw hk
    go_upto_region 15 with fail
    have HR9 := lhd (HRt.out.firm.below _ _ _ HR.out HW.out); have HT9 := lhd (HTt.out.firm.below _ _ _ HT.out HW.out)
    refine wp_region_val [(0, 73, VC (.int .i64 3)), (1, 74, VC (.pointer (some ⟨KR, 12, none⟩))), (2, 75, VC (.agg (cR.extract 12 16))), (3, 76, VC (.int .i64 3)), (4, 77, VC (.pointer (some ⟨KT, 12, none⟩))), (5, 78, VC (.agg (cT.extract 12 16))), (6, 79, PZ3), (7, 80, VC (.bool z3)), (8, 81, VC (.bool (!z3)))] (fun W => Bx w [(KT, cT), (KR, cR)] W) [73, 74, 75, 76, 77, 78, 79, 80, 81] (by kernel_rfl) (by kernel_rfl) (by kernel_rfl) ⟨Keeps.vc _, Keeps.vc _, Keeps.vc _, Keeps.vc _, Keeps.vc _, Keeps.vc _, HZ3k.out, Keeps.vc _, Keeps.vc _, trivial⟩ (fun _ _ _ h hb => h.keep hb) HB.out (forall_ops ⟨?_, ?_, ?_, ?_, ?_, ?_, ?_, ?_, ?_, trivial⟩) ?_
    ·exact .of rfl rfl fun _ _ _ _ _ _ => .move rfl (fou (v := .int .i64 3)) rfl
    ·exact .of rfl rfl fun _ _ _ _ hV _ => .indexAddr (p := .pointer (some ⟨KR, 0, none⟩)) (k := .int .i64 3) rfl (fou (v := .pointer (some ⟨KR, 0, none⟩))) (fgt hV 0 rfl) (by kernel_rfl) rfl
    ·exact .of rfl rfl fun _ _ _ hE hV _ => .load (g := KR) (k := 12) (n := 4) (vs := cR) rfl (fgt hV 1 rfl) (hE.own _ lm1).2 (by rw [HSR.out]; decide) Tryz.underlying73 rfl (by kernel_rfl) rfl
    ·exact .of rfl rfl fun _ _ _ _ _ _ => .move rfl (fou (v := .int .i64 3)) rfl
    ·exact .of rfl rfl fun _ _ _ _ hV _ => .indexAddr (p := .pointer (some ⟨KT, 0, none⟩)) (k := .int .i64 3) rfl (fou (v := .pointer (some ⟨KT, 0, none⟩))) (fgt hV 3 rfl) (by kernel_rfl) rfl
    ·exact .of rfl rfl fun _ _ _ hE hV _ => .load (g := KT) (k := 12) (n := 4) (vs := cT) rfl (fgt hV 4 rfl) (hE.own _ lm0).2 (by rw [HST.out]; decide) Tryz.underlying73 rfl (by kernel_rfl) rfl
    ·exact .of rfl rfl fun _ W hB _ hV _ => .call Tryz.func35 (by kernel_rfl) rfl rfl rfl (map_two (fgt hV 2 rfl) (fgt hV 5 rfl)) (HPL3.out _ _ W (HRt.out.firm.below _ _ _ HR9.out hB) (HTt.out.firm.below _ _ _ HT9.out hB))
    ·exact .of rfl rfl fun _ W _ _ hV _ => .call Tryz.func34 (by kernel_rfl) rfl rfl rfl (map_two (fr_in (by kernel_rfl)) rfl) (HZ3.out _ W (hget hV 6 rfl (by kernel_rfl)))
    ·exact .of rfl rfl fun _ _ _ _ hV _ => .unOp (p := .bool z3) rfl (fgt hV 7 rfl) (by kernel_rfl) rfl
    intro y W9 hB hE hV
    have y1 : y 81 = .bool (!z3) := hend hV 8 rfl
    have HBn := lhd hE; have HWn := lhd (HW.out.trans (hB.mono HW.out.size)); clear hE hV hB HB HW HR9 HT9
    generalize hact : fr _ _ y = act
    simp only [fr, putAll, List.foldl_cons, List.foldl_nil, List.setIfInBounds_toArray, List.set_cons_zero, List.set_cons_succ] at hact
    simp only [y1] at hact; subst hact
    clear y1
    cases hz : z3
    ·have HEe := lhd (show (18 : Int) = E from by rw [HE.out, hz]; simp)
     subst hz
     go_wp2_with fail
     go_ret
     exact ⟨ret_int HEe.out, HBn.out.below⟩
    have HZn := lhd (show Zt 4 from by have := HZt.out; rw [Y3.out] at this; rw [Y4.out]; simp only [this, hz, and_self])
    subst hz
    go_wp2_with fail
    exact ⟨⟨4, by first | rfl | go_num, by omega, HZn.out, HBn.out, HWn.out⟩, by simp [intOf]⟩
   obtain rfl : k = 4 := by omega
   have hz4 : Zt 4 := hz0
   rw [Y4.out] at hz4
   obtain ⟨b0, b1, b2, b3⟩ := hz4
   have HEe := lhd (show (0 : Int) = E from by rw [HE.out, b0, b1, b2, b3]; rfl)
   have HB := lhd hb; clear hb hw hz0 hk b0 b1 b2 b3
   go_wp2_with fail
   go_ret
   exact ⟨ret_int HEe.out, HB.out.below⟩
set_option maxRecDepth 100000 in
theorem rCheckSplit (a b xn0 xd0 xn1 xd1 xn2 xd2 xn3 xd3 yn0 yd0 yn1 yd1 yn2 yd2 yn3 yd3 : Int) (w : World) (hab : aE a b = 0) (hxn0 : I64 xn0) (hxd0 : I64 xd0) (hxn1 : I64 xn1) (hxd1 : I64 xd1) (hxn2 : I64 xn2) (hxd2 : I64 xd2) (hxn3 : I64 xn3) (hxd3 : I64 xd3) (hyn0 : I64 yn0) (hyd0 : I64 yd0) (hyn1 : I64 yn1) (hyd1 : I64 yd1) (hyn2 : I64 yn2) (hyd2 : I64 yd2) (hyn3 : I64 yn3) (hyd3 : I64 yd3) :
  Calls Tryz.prog 9 #[.agg #[.int .i64 a, .int .i64 b], .agg #[.int .i64 xn0, .int .i64 xd0, .int .i64 xn1, .int .i64 xd1, .int .i64 xn2, .int .i64 xd2, .int .i64 xn3, .int .i64 xd3], .agg #[.int .i64 yn0, .int .i64 yd0, .int .i64 yn1, .int .i64 yd1, .int .i64 yn2, .int .i64 yd2, .int .i64 yn3, .int .i64 yd3]] w fun r w' => r = .returned (.int .i64 (splF a b xn0 xd0 xn1 xd1 xn2 xd2 xn3 xd3 yn0 yd0 yn1 yd1 yn2 yd2 yn3 yd3)) ∧ Below w.heap.size w w' := by
 refine rCheckSplit_walk (PX := VM xn0 xd0 xn1 xd1 xn2 xd2 xn3 xd3) (PY := VM yn0 yd0 yn1 yd1 yn2 yd2 yn3 yd3) (PP := VM (pN xn0 xd0 xn1 xd1 xn0 xd0 xn2 xd2) (pD xd0 xd1 xd0 xd2) (pN xn0 xd0 xn1 xd1 xn1 xd1 xn3 xd3) (pD xd0 xd1 xd1 xd3) (pN xn2 xd2 xn3 xd3 xn0 xd0 xn2 xd2) (pD xd2 xd3 xd0 xd2) (pN xn2 xd2 xn3 xd3 xn1 xd1 xn3 xd3) (pD xd2 xd3 xd1 xd3)) (PQ := VM (pN yn0 yd0 yn1 yd1 yn0 yd0 yn2 yd2) (pD yd0 yd1 yd0 yd2) (pN yn0 yd0 yn1 yd1 yn1 yd1 yn3 yd3) (pD yd0 yd1 yd1 yd3) (pN yn2 yd2 yn3 yd3 yn0 yd0 yn2 yd2) (pD yd2 yd3 yd0 yd2) (pN yn2 yd2 yn3 yd3 yn1 yd1 yn3 yd3) (pD yd2 yd3 yd1 yd3)) (PR := VM (pN xn0 xd0 xn1 xd1 yn0 yd0 yn2 yd2) (pD xd0 xd1 yd0 yd2) (pN xn0 xd0 xn1 xd1 yn1 yd1 yn3 yd3) (pD xd0 xd1 yd1 yd3) (pN xn2 xd2 xn3 xd3 yn0 yd0 yn2 yd2) (pD xd2 xd3 yd0 yd2) (pN xn2 xd2 xn3 xd3 yn1 yd1 yn3 yd3) (pD xd2 xd3 yd1 yd3)) (PT := VM (pN yn0 yd0 yn1 yd1 xn0 xd0 xn2 xd2) (pD yd0 yd1 xd0 xd2) (pN yn0 yd0 yn1 yd1 xn1 xd1 xn3 xd3) (pD yd0 yd1 xd1 xd3) (pN yn2 yd2 yn3 yd3 xn0 xd0 xn2 xd2) (pD yd2 yd3 xd0 xd2) (pN yn2 yd2 yn3 yd3 xn1 xd1 xn3 xd3) (pD yd2 yd3 xd1 xd3)) (PZ0 := VR ((pN xn0 xd0 xn1 xd1 yn0 yd0 yn2 yd2) * (pD yd0 yd1 xd0 xd2) + (pN yn0 yd0 yn1 yd1 xn0 xd0 xn2 xd2) * (pD xd0 xd1 yd0 yd2)) ((pD xd0 xd1 yd0 yd2) * (pD yd0 yd1 xd0 xd2))) (PZ1 := VR ((pN xn0 xd0 xn1 xd1 yn1 yd1 yn3 yd3) * (pD yd0 yd1 xd1 xd3) + (pN yn0 yd0 yn1 yd1 xn1 xd1 xn3 xd3) * (pD xd0 xd1 yd1 yd3)) ((pD xd0 xd1 yd1 yd3) * (pD yd0 yd1 xd1 xd3))) (PZ2 := VR ((pN xn2 xd2 xn3 xd3 yn0 yd0 yn2 yd2) * (pD yd2 yd3 xd0 xd2) + (pN yn2 yd2 yn3 yd3 xn0 xd0 xn2 xd2) * (pD xd2 xd3 yd0 yd2)) ((pD xd2 xd3 yd0 yd2) * (pD yd2 yd3 xd0 xd2))) (PZ3 := VR ((pN xn2 xd2 xn3 xd3 yn1 yd1 yn3 yd3) * (pD yd2 yd3 xd1 xd3) + (pN yn2 yd2 yn3 yd3 xn1 xd1 xn3 xd3) * (pD xd2 xd3 yd1 yd3)) ((pD xd2 xd3 yd1 yd3) * (pD yd2 yd3 xd1 xd3))) w rfl (.of rfl) (.of rfl) (.of rfl) (.of rfl) (Firm.vm _ _ _ _ _ _ _ _).keeps (Firm.vm _ _ _ _ _ _ _ _).keeps (Firm.vr _ _).keeps (Firm.vr _ _).keeps (Firm.vr _ _).keeps (Firm.vr _ _).keeps (fun w => rCheckFrac_any xn0 xd0 w) (frE_cases xn0 xd0) (fun w => rCheckFrac_any xn1 xd1 w) (frE_cases xn1 xd1) (fun w => rCheckFrac_any xn2 xd2 w) (frE_cases xn2 xd2) (fun w => rCheckFrac_any xn3 xd3 w) (frE_cases xn3 xd3) (fun w => rCheckFrac_any yn0 yd0 w) (frE_cases yn0 yd0) (fun w => rCheckFrac_any yn1 yd1 w) (frE_cases yn1 yd1) (fun w => rCheckFrac_any yn2 yd2 w) (frE_cases yn2 yd2) (fun w => rCheckFrac_any yn3 yd3 w) (frE_cases yn3 yd3) rfl rfl (fun w => rmatrix_any xn0 xd0 xn1 xd1 xn2 xd2 xn3 xd3 w hxn0 hxd0 hxn1 hxd1 hxn2 hxd2 hxn3 hxd3) (fun w => rmatrix_any yn0 yd0 yn1 yd1 yn2 yd2 yn3 yd3 w hyn0 hyd0 hyn1 hyd1 hyn2 hyd2 hyn3 hyd3) (fun hx hy => ?_)
 have gX := okF_wn hx
 have gY := okF_wn hy
 have gP : WN 5 [(pN xn0 xd0 xn1 xd1 xn0 xd0 xn2 xd2), (pD xd0 xd1 xd0 xd2), (pN xn0 xd0 xn1 xd1 xn1 xd1 xn3 xd3), (pD xd0 xd1 xd1 xd3), (pN xn2 xd2 xn3 xd3 xn0 xd0 xn2 xd2), (pD xd2 xd3 xd0 xd2), (pN xn2 xd2 xn3 xd3 xn1 xd1 xn3 xd3), (pD xd2 xd3 xd1 xd3)] := wn8 (pN_b (j := 1) (gX (xn0) (by simp)) (gX (xd0) (by simp)) (gX (xn1) (by simp)) (gX (xd1) (by simp)) (gX (xn0) (by simp)) (gX (xd0) (by simp)) (gX (xn2) (by simp)) (gX (xd2) (by simp))) (pD_b (j := 1) (gX (xd0) (by simp)) (gX (xd1) (by simp)) (gX (xd0) (by simp)) (gX (xd2) (by simp))) (pN_b (j := 1) (gX (xn0) (by simp)) (gX (xd0) (by simp)) (gX (xn1) (by simp)) (gX (xd1) (by simp)) (gX (xn1) (by simp)) (gX (xd1) (by simp)) (gX (xn3) (by simp)) (gX (xd3) (by simp))) (pD_b (j := 1) (gX (xd0) (by simp)) (gX (xd1) (by simp)) (gX (xd1) (by simp)) (gX (xd3) (by simp))) (pN_b (j := 1) (gX (xn2) (by simp)) (gX (xd2) (by simp)) (gX (xn3) (by simp)) (gX (xd3) (by simp)) (gX (xn0) (by simp)) (gX (xd0) (by simp)) (gX (xn2) (by simp)) (gX (xd2) (by simp))) (pD_b (j := 1) (gX (xd2) (by simp)) (gX (xd3) (by simp)) (gX (xd0) (by simp)) (gX (xd2) (by simp))) (pN_b (j := 1) (gX (xn2) (by simp)) (gX (xd2) (by simp)) (gX (xn3) (by simp)) (gX (xd3) (by simp)) (gX (xn1) (by simp)) (gX (xd1) (by simp)) (gX (xn3) (by simp)) (gX (xd3) (by simp))) (pD_b (j := 1) (gX (xd2) (by simp)) (gX (xd3) (by simp)) (gX (xd1) (by simp)) (gX (xd3) (by simp)))
 have gQ : WN 5 [(pN yn0 yd0 yn1 yd1 yn0 yd0 yn2 yd2), (pD yd0 yd1 yd0 yd2), (pN yn0 yd0 yn1 yd1 yn1 yd1 yn3 yd3), (pD yd0 yd1 yd1 yd3), (pN yn2 yd2 yn3 yd3 yn0 yd0 yn2 yd2), (pD yd2 yd3 yd0 yd2), (pN yn2 yd2 yn3 yd3 yn1 yd1 yn3 yd3), (pD yd2 yd3 yd1 yd3)] := wn8 (pN_b (j := 1) (gY (yn0) (by simp)) (gY (yd0) (by simp)) (gY (yn1) (by simp)) (gY (yd1) (by simp)) (gY (yn0) (by simp)) (gY (yd0) (by simp)) (gY (yn2) (by simp)) (gY (yd2) (by simp))) (pD_b (j := 1) (gY (yd0) (by simp)) (gY (yd1) (by simp)) (gY (yd0) (by simp)) (gY (yd2) (by simp))) (pN_b (j := 1) (gY (yn0) (by simp)) (gY (yd0) (by simp)) (gY (yn1) (by simp)) (gY (yd1) (by simp)) (gY (yn1) (by simp)) (gY (yd1) (by simp)) (gY (yn3) (by simp)) (gY (yd3) (by simp))) (pD_b (j := 1) (gY (yd0) (by simp)) (gY (yd1) (by simp)) (gY (yd1) (by simp)) (gY (yd3) (by simp))) (pN_b (j := 1) (gY (yn2) (by simp)) (gY (yd2) (by simp)) (gY (yn3) (by simp)) (gY (yd3) (by simp)) (gY (yn0) (by simp)) (gY (yd0) (by simp)) (gY (yn2) (by simp)) (gY (yd2) (by simp))) (pD_b (j := 1) (gY (yd2) (by simp)) (gY (yd3) (by simp)) (gY (yd0) (by simp)) (gY (yd2) (by simp))) (pN_b (j := 1) (gY (yn2) (by simp)) (gY (yd2) (by simp)) (gY (yn3) (by simp)) (gY (yd3) (by simp)) (gY (yn1) (by simp)) (gY (yd1) (by simp)) (gY (yn3) (by simp)) (gY (yd3) (by simp))) (pD_b (j := 1) (gY (yd2) (by simp)) (gY (yd3) (by simp)) (gY (yd1) (by simp)) (gY (yd3) (by simp)))
 have gR : WN 5 [(pN xn0 xd0 xn1 xd1 yn0 yd0 yn2 yd2), (pD xd0 xd1 yd0 yd2), (pN xn0 xd0 xn1 xd1 yn1 yd1 yn3 yd3), (pD xd0 xd1 yd1 yd3), (pN xn2 xd2 xn3 xd3 yn0 yd0 yn2 yd2), (pD xd2 xd3 yd0 yd2), (pN xn2 xd2 xn3 xd3 yn1 yd1 yn3 yd3), (pD xd2 xd3 yd1 yd3)] := wn8 (pN_b (j := 1) (gX (xn0) (by simp)) (gX (xd0) (by simp)) (gX (xn1) (by simp)) (gX (xd1) (by simp)) (gY (yn0) (by simp)) (gY (yd0) (by simp)) (gY (yn2) (by simp)) (gY (yd2) (by simp))) (pD_b (j := 1) (gX (xd0) (by simp)) (gX (xd1) (by simp)) (gY (yd0) (by simp)) (gY (yd2) (by simp))) (pN_b (j := 1) (gX (xn0) (by simp)) (gX (xd0) (by simp)) (gX (xn1) (by simp)) (gX (xd1) (by simp)) (gY (yn1) (by simp)) (gY (yd1) (by simp)) (gY (yn3) (by simp)) (gY (yd3) (by simp))) (pD_b (j := 1) (gX (xd0) (by simp)) (gX (xd1) (by simp)) (gY (yd1) (by simp)) (gY (yd3) (by simp))) (pN_b (j := 1) (gX (xn2) (by simp)) (gX (xd2) (by simp)) (gX (xn3) (by simp)) (gX (xd3) (by simp)) (gY (yn0) (by simp)) (gY (yd0) (by simp)) (gY (yn2) (by simp)) (gY (yd2) (by simp))) (pD_b (j := 1) (gX (xd2) (by simp)) (gX (xd3) (by simp)) (gY (yd0) (by simp)) (gY (yd2) (by simp))) (pN_b (j := 1) (gX (xn2) (by simp)) (gX (xd2) (by simp)) (gX (xn3) (by simp)) (gX (xd3) (by simp)) (gY (yn1) (by simp)) (gY (yd1) (by simp)) (gY (yn3) (by simp)) (gY (yd3) (by simp))) (pD_b (j := 1) (gX (xd2) (by simp)) (gX (xd3) (by simp)) (gY (yd1) (by simp)) (gY (yd3) (by simp)))
 have gT : WN 5 [(pN yn0 yd0 yn1 yd1 xn0 xd0 xn2 xd2), (pD yd0 yd1 xd0 xd2), (pN yn0 yd0 yn1 yd1 xn1 xd1 xn3 xd3), (pD yd0 yd1 xd1 xd3), (pN yn2 yd2 yn3 yd3 xn0 xd0 xn2 xd2), (pD yd2 yd3 xd0 xd2), (pN yn2 yd2 yn3 yd3 xn1 xd1 xn3 xd3), (pD yd2 yd3 xd1 xd3)] := wn8 (pN_b (j := 1) (gY (yn0) (by simp)) (gY (yd0) (by simp)) (gY (yn1) (by simp)) (gY (yd1) (by simp)) (gX (xn0) (by simp)) (gX (xd0) (by simp)) (gX (xn2) (by simp)) (gX (xd2) (by simp))) (pD_b (j := 1) (gY (yd0) (by simp)) (gY (yd1) (by simp)) (gX (xd0) (by simp)) (gX (xd2) (by simp))) (pN_b (j := 1) (gY (yn0) (by simp)) (gY (yd0) (by simp)) (gY (yn1) (by simp)) (gY (yd1) (by simp)) (gX (xn1) (by simp)) (gX (xd1) (by simp)) (gX (xn3) (by simp)) (gX (xd3) (by simp))) (pD_b (j := 1) (gY (yd0) (by simp)) (gY (yd1) (by simp)) (gX (xd1) (by simp)) (gX (xd3) (by simp))) (pN_b (j := 1) (gY (yn2) (by simp)) (gY (yd2) (by simp)) (gY (yn3) (by simp)) (gY (yd3) (by simp)) (gX (xn0) (by simp)) (gX (xd0) (by simp)) (gX (xn2) (by simp)) (gX (xd2) (by simp))) (pD_b (j := 1) (gY (yd2) (by simp)) (gY (yd3) (by simp)) (gX (xd0) (by simp)) (gX (xd2) (by simp))) (pN_b (j := 1) (gY (yn2) (by simp)) (gY (yd2) (by simp)) (gY (yn3) (by simp)) (gY (yd3) (by simp)) (gX (xn1) (by simp)) (gX (xd1) (by simp)) (gX (xn3) (by simp)) (gX (xd3) (by simp))) (pD_b (j := 1) (gY (yd2) (by simp)) (gY (yd3) (by simp)) (gX (xd1) (by simp)) (gX (xd3) (by simp)))
 exact ⟨fun v u W h k => t_times h k gX gX, fun v u W h k => t_times h k gY gY, fun v u W h k => t_times h k gX gY, fun v u W h k => t_times h k gY gX, fun v W h => t_is (n := a) h gP (by have := aE_zero.1 hab; exact ⟨by omega, by omega⟩) (by have := aE_zero.1 hab; omega) (by omega), fun v W h => t_is (n := b) h gQ (by have := aE_zero.1 hab; exact ⟨by omega, by omega⟩) (by have := aE_zero.1 hab; omega) (by omega), fun cr ct W h k => t_plus0 h k gR gT, fun v W h => z_is h (gR _ (by simp)) (gR _ (by simp)) (gT _ (by simp)) (gT _ (by simp)), fun cr ct W h k => t_plus1 h k gR gT, fun v W h => z_is h (gR _ (by simp)) (gR _ (by simp)) (gT _ (by simp)) (gT _ (by simp)), fun cr ct W h k => t_plus2 h k gR gT, fun v W h => z_is h (gR _ (by simp)) (gR _ (by simp)) (gT _ (by simp)) (gT _ (by simp)), fun cr ct W h k => t_plus3 h k gR gT, fun v W h => z_is h (gR _ (by simp)) (gR _ (by simp)) (gT _ (by simp)) (gT _ (by simp))⟩
end Go.Proofs.YtimdkjbmeogpoaaGreatDoor.Ref
