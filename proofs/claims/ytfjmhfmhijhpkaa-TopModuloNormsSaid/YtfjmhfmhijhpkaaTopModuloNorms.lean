/- The law TopModuloNorms answers true at all inputs. -/
import Derived.Test.YtfjmhfmhijhpkaaMno
import Derived.Test.YtfjmhfmhijhpkaaRfy
namespace Go.Proofs.Ytfjmhfmhijhpkaa
open Go.RowKit FF

theorem low_one (n : Int) : lowN n 1 = n := by unfold lowN; simp
theorem modulo_mats {a b p u v x y m n : Int} (hm : Mats a b p u v x y m n) (W X Y Z : Int) (hW : -3 ≤ W ∧ W ≤ 3) (hX : -3 ≤ X ∧ X ≤ 3) (hY : -3 ≤ Y ∧ Y ≤ 3) (hZ : -3 ≤ Z ∧ Z ≤ 3) :
    ∃ e0 e1 e2 e3 : Int, (0 ≤ e0 ∧ e0 ≤ 10000) ∧ (0 ≤ e1 ∧ e1 ≤ 10000) ∧ (0 ≤ e2 ∧ e2 ≤ 10000) ∧ (0 ≤ e3 ∧ e3 ≤ 10000) ∧ (e0 * e3 - e1 * e2 - (W * W - a * X * X - b * Y * Y + a * b * Z * Z)) % p = 0 ∧ (e0 + e3 - 2 * W) % p = 0 ∧
      ∀ w, Calls Try.prog 16 #[.agg #[.int .i64 W, .int .i64 X, .int .i64 Y, .int .i64 Z, .int .i64 1], .agg #[.int .i64 0, .int .i64 x, .int .i64 1, .int .i64 0], .agg #[.int .i64 u, .int .i64 m, .int .i64 v, .int .i64 n], .int .i64 p] w
        fun r w' => r = .returned (.agg #[.int .i64 e0, .int .i64 e1, .int .i64 e2, .int .i64 e3]) ∧ Below w.heap.size w w' := by
  have hp := hm.pp; have hp9 := hm.p9
  have := hm.u0; have := hm.v0; have := hm.x0; have := hm.m0; have := hm.n0
  have hI : ∀ t : Int, 0 ≤ t % p ∧ t % p ≤ 10000 := fun t => ⟨Int.emod_nonneg _ (by omega), by have := Int.emod_lt_of_pos t (show 0 < p by omega); omega⟩
  refine ⟨en0 p u v x W X Y Z, en1 p m n x X Y Z, en2 p u v X Y Z, en3 p m n W X Y Z, hI _, hI _, hI _, hI _, det_mod hm, tr_mod hm, fun w => ?_⟩
  have h := modulo_any W X Y Z 1 0 x 1 0 u m v n p w (by omega) (by omega) (by omega) (by omega) (by omega) (by omega) (by omega) (by omega) hW hX hY hZ hp hp9
  rw [show (0 : Int) * u + x * v = x * v by omega, show (0 : Int) * m + x * n = x * n by omega, show (1 : Int) * u + 0 * v = u by omega, show (1 : Int) * m + 0 * n = m by omega] at h
  exact h

set_option maxHeartbeats 4000000 in
set_option maxRecDepth 100000 in
theorem TopModuloNorms_law (a b p W X Y Z D : Int) (w : World) :
    Calls Try.prog 3 #[.agg #[.int .i64 a, .int .i64 b], .int .i64 p, .agg #[.int .i64 W, .int .i64 X, .int .i64 Y, .int .i64 Z, .int .i64 D]] w fun e w' => e = .returned (.bool true) ∧ Below w.heap.size w w' := by
  have HR := Lib.hid ramifies_any
  have hC := fun w => rCheck_any a b w
  by_cases hE : aE a b = 0
  · rw [hE] at hC
    have HC := Lib.hid hC
    have hME := fun w => rCheckModulus_any a b p w
    cases hp : modP a b p
    · rw [show modE a b p = 11 by unfold modE; rw [hp]; rfl] at hME
      have HE := Lib.hid hME
      clear hE hC hME hp
      go_enter Try.func3, Try.ntmps3
      go_upto_region 1 with fail
      obtain ⟨W0, hW0⟩ : ∃ W0 : World, W0 = ((w.alloc (.cells #[.int .i64 a, .int .i64 b] 23)).alloc (.cells #[.int .i64 W, .int .i64 X, .int .i64 Y, .int .i64 Z, .int .i64 D] 25)) := ⟨_, rfl⟩
      rw [← hW0]
      have HB0 := Lib.hid (show Bx w [(w.heap.size + 1, #[.int .i64 W, .int .i64 X, .int .i64 Y, .int .i64 Z, .int .i64 D]), (w.heap.size, #[.int .i64 a, .int .i64 b])] W0 by rw [hW0]; simpa using (((Bx.nil (Below.refl w.heap.size w)).new #[.int .i64 a, .int .i64 b] 23).new #[.int .i64 W, .int .i64 X, .int .i64 Y, .int .i64 Z, .int .i64 D] 25))
      clear hW0
      go_wp2_with fail
      refine (HR.out _).mono ?_
      rintro e1 w1 ⟨rfl, hbb⟩
      have HB1 := Lib.hid (HB0.out.keep hbb)
      clear hbb HB0
      obtain ⟨c1_0, c1_1⟩ := HB1.out.two (List.mem_cons_of_mem _ (List.mem_cons_self ..))
      go_wp2_with fail
      refine (HC.out _).mono ?_
      rintro e2 w2 ⟨rfl, hbb⟩
      have HB2 := Lib.hid (HB1.out.keep hbb)
      clear c1_0 c1_1
      clear hbb HB1
      obtain ⟨c1_0, c1_1⟩ := HB2.out.two (List.mem_cons_of_mem _ (List.mem_cons_self ..))
      go_wp2_with fail
      refine (HE.out _).mono ?_
      rintro e3 w3 ⟨rfl, hbb⟩
      have HB3 := Lib.hid (HB2.out.keep hbb)
      clear c1_0 c1_1
      clear hbb HB2
      go_wp2_with fail
      go_ret
      exact ⟨rfl, HB3.out.below⟩

    rw [show modE a b p = 0 by unfold modE; rw [hp]; rfl] at hME
    have HE := Lib.hid hME
    have hT := fun w => tiny_any W X Y Z D w
    simp only [qv] at hT
    cases ht : tinyB ⟨W, X, Y, Z, D⟩
    · rw [ht] at hT
      have HT := Lib.hid hT
      clear hE hC hME hp hT ht
      go_enter Try.func3, Try.ntmps3
      go_upto_region 1 with fail
      obtain ⟨W0, hW0⟩ : ∃ W0 : World, W0 = ((w.alloc (.cells #[.int .i64 a, .int .i64 b] 23)).alloc (.cells #[.int .i64 W, .int .i64 X, .int .i64 Y, .int .i64 Z, .int .i64 D] 25)) := ⟨_, rfl⟩
      rw [← hW0]
      have HB0 := Lib.hid (show Bx w [(w.heap.size + 1, #[.int .i64 W, .int .i64 X, .int .i64 Y, .int .i64 Z, .int .i64 D]), (w.heap.size, #[.int .i64 a, .int .i64 b])] W0 by rw [hW0]; simpa using (((Bx.nil (Below.refl w.heap.size w)).new #[.int .i64 a, .int .i64 b] 23).new #[.int .i64 W, .int .i64 X, .int .i64 Y, .int .i64 Z, .int .i64 D] 25))
      clear hW0
      go_wp2_with fail
      refine (HR.out _).mono ?_
      rintro e1 w1 ⟨rfl, hbb⟩
      have HB1 := Lib.hid (HB0.out.keep hbb)
      clear hbb HB0
      obtain ⟨c1_0, c1_1⟩ := HB1.out.two (List.mem_cons_of_mem _ (List.mem_cons_self ..))
      go_wp2_with fail
      refine (HC.out _).mono ?_
      rintro e2 w2 ⟨rfl, hbb⟩
      have HB2 := Lib.hid (HB1.out.keep hbb)
      clear c1_0 c1_1
      clear hbb HB1
      obtain ⟨c1_0, c1_1⟩ := HB2.out.two (List.mem_cons_of_mem _ (List.mem_cons_self ..))
      go_wp2_with fail
      refine (HE.out _).mono ?_
      rintro e3 w3 ⟨rfl, hbb⟩
      have HB3 := Lib.hid (HB2.out.keep hbb)
      clear c1_0 c1_1
      clear hbb HB2
      obtain ⟨c0_0, c0_1, c0_2, c0_3, c0_4⟩ := HB3.out.five (List.mem_cons_self ..)
      go_wp2_with fail
      refine (HT.out _).mono ?_
      rintro e4 w4 ⟨rfl, hbb⟩
      have HB4 := Lib.hid (HB3.out.keep hbb)
      clear c0_0 c0_1 c0_2 c0_3 c0_4
      clear hbb HB3
      go_wp2_with fail
      go_ret
      exact ⟨rfl, HB4.out.below⟩

    rw [ht] at hT
    have HT := Lib.hid hT
    by_cases hD : D = 1
    · subst hD
      have hM := fun w => qModulo_good a b p w hE hp
      unfold ModPost at hM
      have HM := Lib.hid hM
      unfold tinyB at ht
      simp only [Bool.and_eq_true, winB_iff] at ht
      obtain ⟨t0, t1, t2, t3, -⟩ := ht
      have hq : qB ⟨W, X, Y, Z, 1⟩ = true := qB_iff.2 ⟨⟨by simp only; omega, by simp only; omega⟩, ⟨by simp only; omega, by simp only; omega⟩, ⟨by simp only; omega, by simp only; omega⟩, ⟨by simp only; omega, by simp only; omega⟩, ⟨by simp only; omega, by simp only; omega⟩⟩
      have hN := fun w => qNorm_good a b W X Y Z 1 w hq hE
      have hTr := fun w => qTrace_good W X Y Z 1 w hq
      have eN : nmN a b ⟨W, X, Y, Z, 1⟩ = W * W - a * X * X - b * Y * Y + a * b * Z * Z := by unfold nmN; rw [show ((⟨W, X, Y, Z, 1⟩ : Qt).d * (⟨W, X, Y, Z, 1⟩ : Qt).d) = 1 from rfl, low_one]; rfl
      have eT : trN ⟨W, X, Y, Z, 1⟩ = 2 * W := by unfold trN; exact low_one _
      obtain ⟨-, -, ha, hb⟩ := aE_zero.1 hE
      have hNb : -1000000000 ≤ nmN a b ⟨W, X, Y, Z, 1⟩ ∧ nmN a b ⟨W, X, Y, Z, 1⟩ ≤ 1000000000 := by
        rw [eN]
        have c1 := mulb t0 t0; have c2 := mulb (mulb ha t1) t1; have c3 := mulb (mulb hb t2) t2; have c4 := mulb (mulb (mulb ha hb) t3) t3
        simp only [Int.reduceMul, Int.reduceNeg] at c1 c2 c3 c4
        omega
      simp only [fvv, qv] at hN hTr
      have HS := Lib.hid (show (-3 ≤ W ∧ W ≤ 3) ∧ (-3 ≤ X ∧ X ≤ 3) ∧ (-3 ≤ Y ∧ Y ≤ 3) ∧ (-3 ≤ Z ∧ Z ≤ 3) ∧ W * W - a * X * X - b * Y * Y + a * b * Z * Z = nmN a b ⟨W, X, Y, Z, 1⟩ ∧ 2 * W = trN ⟨W, X, Y, Z, 1⟩ ∧ (-1000000000 ≤ nmN a b ⟨W, X, Y, Z, 1⟩ ∧ nmN a b ⟨W, X, Y, Z, 1⟩ ≤ 1000000000) ∧ (-6 ≤ trN ⟨W, X, Y, Z, 1⟩ ∧ trN ⟨W, X, Y, Z, 1⟩ ≤ 6) from ⟨t0, t1, t2, t3, eN.symm, eT.symm, hNb, by rw [eT]; omega⟩)
      have HN := Lib.hid hN; have HTr := Lib.hid hTr
      clear hE hC hME hp hT hM hq hN hTr eN eT ha hb hNb t0 t1 t2 t3
      generalize nmN a b ⟨W, X, Y, Z, 1⟩ = N at *
      generalize nmD a b ⟨W, X, Y, Z, 1⟩ = nd at *
      generalize trN ⟨W, X, Y, Z, 1⟩ = T at *
      generalize trD ⟨W, X, Y, Z, 1⟩ = td at *
      go_enter Try.func3, Try.ntmps3
      go_upto_region 1 with fail
      obtain ⟨W0, hW0⟩ : ∃ W0 : World, W0 = ((w.alloc (.cells #[.int .i64 a, .int .i64 b] 23)).alloc (.cells #[.int .i64 W, .int .i64 X, .int .i64 Y, .int .i64 Z, .int .i64 1] 25)) := ⟨_, rfl⟩
      rw [← hW0]
      have HB0 := Lib.hid (show Bx w [(w.heap.size + 1, #[.int .i64 W, .int .i64 X, .int .i64 Y, .int .i64 Z, .int .i64 1]), (w.heap.size, #[.int .i64 a, .int .i64 b])] W0 by rw [hW0]; simpa using (((Bx.nil (Below.refl w.heap.size w)).new #[.int .i64 a, .int .i64 b] 23).new #[.int .i64 W, .int .i64 X, .int .i64 Y, .int .i64 Z, .int .i64 1] 25))
      clear hW0
      go_wp2_with fail
      refine (HR.out _).mono ?_
      rintro e1 w1 ⟨rfl, hbb⟩
      have HB1 := Lib.hid (HB0.out.keep hbb)
      clear hbb HB0
      obtain ⟨c1_0, c1_1⟩ := HB1.out.two (List.mem_cons_of_mem _ (List.mem_cons_self ..))
      go_wp2_with fail
      refine (HC.out _).mono ?_
      rintro e2 w2 ⟨rfl, hbb⟩
      have HB2 := Lib.hid (HB1.out.keep hbb)
      clear c1_0 c1_1
      clear hbb HB1
      obtain ⟨c1_0, c1_1⟩ := HB2.out.two (List.mem_cons_of_mem _ (List.mem_cons_self ..))
      go_wp2_with fail
      refine (HE.out _).mono ?_
      rintro e3 w3 ⟨rfl, hbb⟩
      have HB3 := Lib.hid (HB2.out.keep hbb)
      clear c1_0 c1_1
      clear hbb HB2
      obtain ⟨c0_0, c0_1, c0_2, c0_3, c0_4⟩ := HB3.out.five (List.mem_cons_self ..)
      go_wp2_with fail
      refine (HT.out _).mono ?_
      rintro e4 w4 ⟨rfl, hbb⟩
      have HB4 := Lib.hid (HB3.out.keep hbb)
      clear c0_0 c0_1 c0_2 c0_3 c0_4
      clear hbb HB3
      obtain ⟨c0_0, c0_1, c0_2, c0_3, c0_4⟩ := HB4.out.five (List.mem_cons_self ..)
      clear c0_0 c0_1 c0_2 c0_3 c0_4
      obtain ⟨c0_0, c0_1, c0_2, c0_3, c0_4⟩ := HB4.out.five (List.mem_cons_self ..)
      obtain ⟨c1_0, c1_1⟩ := HB4.out.two (List.mem_cons_of_mem _ (List.mem_cons_self ..))
      go_wp2_with fail
      refine (HM.out _).mono ?_
      rintro e5 w5 ⟨u, v, x, y, m, n, hm, hx, hy, rfl, hbb⟩
      have HB5 := Lib.hid (HB4.out.keep hbb)
      clear c0_0 c0_1 c0_2 c0_3 c0_4 c1_0 c1_1
      clear hbb HB4
      have HMt := Lib.hid hm
      clear hx hy hm
      go_upto_region 6 with fail
      obtain ⟨V1, hV1⟩ : ∃ V1 : World, V1 = (w5.alloc (.cells #[.int .i64 0, .int .i64 x, .int .i64 1, .int .i64 0] 31)).alloc (.cells #[.int .i64 u, .int .i64 m, .int .i64 v, .int .i64 n] 31) := ⟨_, rfl⟩
      rw [← hV1]
      have HV1 := Lib.hid (show Bx w [(w5.heap.size + 1, #[.int .i64 u, .int .i64 m, .int .i64 v, .int .i64 n]), (w5.heap.size, #[.int .i64 0, .int .i64 x, .int .i64 1, .int .i64 0]), (w.heap.size + 1, #[.int .i64 W, .int .i64 X, .int .i64 Y, .int .i64 Z, .int .i64 1]), (w.heap.size, #[.int .i64 a, .int .i64 b])] V1 from hV1 ▸ (by simpa using (HB5.out.new #[.int .i64 0, .int .i64 x, .int .i64 1, .int .i64 0] 31).new #[.int .i64 u, .int .i64 m, .int .i64 v, .int .i64 n] 31))
      clear hV1 HB5
      generalize w5.heap.size = g at *
      obtain ⟨c2_0, c2_1, c2_2, c2_3, c2_4⟩ := HV1.out.five (List.mem_cons_of_mem _ (List.mem_cons_of_mem _ (List.mem_cons_self ..)))
      obtain ⟨c3_0, c3_1⟩ := HV1.out.two (List.mem_cons_of_mem _ (List.mem_cons_of_mem _ (List.mem_cons_of_mem _ (List.mem_cons_self ..))))
      go_wp2_with fail
      refine (HN.out _).mono ?_
      rintro e6 w6 ⟨rfl, hbb⟩
      have HB6 := Lib.hid (HV1.out.keep hbb)
      clear c2_0 c2_1 c2_2 c2_3 c2_4 c3_0 c3_1
      clear hbb HV1
      go_upto_region 7 with fail
      obtain ⟨V1, hV1⟩ : ∃ V1 : World, V1 = w6.alloc (.cells #[.int .i64 N, .int .i64 nd] 36) := ⟨_, rfl⟩
      rw [← hV1]
      have HV1 := Lib.hid (show Bx w [(w6.heap.size, #[.int .i64 N, .int .i64 nd]), (g + 1, #[.int .i64 u, .int .i64 m, .int .i64 v, .int .i64 n]), (g, #[.int .i64 0, .int .i64 x, .int .i64 1, .int .i64 0]), (w.heap.size + 1, #[.int .i64 W, .int .i64 X, .int .i64 Y, .int .i64 Z, .int .i64 1]), (w.heap.size, #[.int .i64 a, .int .i64 b])] V1 from hV1 ▸ HB6.out.new _ _)
      have hlt1 := HB6.out.lt (List.mem_cons_self ..)
      clear hV1 HB6
      generalize w6.heap.size = h1 at *
      obtain ⟨c3_0, c3_1, c3_2, c3_3, c3_4⟩ := HV1.out.five (List.mem_cons_of_mem _ (List.mem_cons_of_mem _ (List.mem_cons_of_mem _ (List.mem_cons_self ..))))
      go_wp2_with fail
      refine (HTr.out _).mono ?_
      rintro e7 w7 ⟨rfl, hbb⟩
      have HB7 := Lib.hid (HV1.out.keep hbb)
      clear c3_0 c3_1 c3_2 c3_3 c3_4
      clear hbb HV1
      go_upto_region 8 with fail
      obtain ⟨V2, hV2⟩ : ∃ V2 : World, V2 = w7.alloc (.cells #[.int .i64 T, .int .i64 td] 36) := ⟨_, rfl⟩
      rw [← hV2]
      have HV2 := Lib.hid (show Bx w [(w7.heap.size, #[.int .i64 T, .int .i64 td]), (h1, #[.int .i64 N, .int .i64 nd]), (g + 1, #[.int .i64 u, .int .i64 m, .int .i64 v, .int .i64 n]), (g, #[.int .i64 0, .int .i64 x, .int .i64 1, .int .i64 0]), (w.heap.size + 1, #[.int .i64 W, .int .i64 X, .int .i64 Y, .int .i64 Z, .int .i64 1]), (w.heap.size, #[.int .i64 a, .int .i64 b])] V2 from hV2 ▸ HB7.out.new _ _)
      have hlt2 := HB7.out.lt (List.mem_cons_self ..)
      clear hV2 HB7
      generalize w7.heap.size = h2 at *
      have hm := HMt.out
      have u0 := hm.u0; have v0 := hm.v0; have x0 := hm.x0; have m0 := hm.m0; have n0 := hm.n0; have hp3 := hm.pp
      have hWi := fun (t : Int) (ht : 0 ≤ t ∧ t ≤ p) (w : World) => (show winB t 0 p = true from winB_iff.2 ht) ▸ bWithin_any t 0 p w
      have HX0 := Lib.hid (hWi 0 ⟨by omega, by omega⟩)
      have HX1 := Lib.hid (hWi x ⟨by omega, by omega⟩)
      have HX2 := Lib.hid (hWi 1 ⟨by omega, by omega⟩)
      have HX3 := Lib.hid (hWi 0 ⟨by omega, by omega⟩)
      have HX4 := Lib.hid (hWi u ⟨by omega, by omega⟩)
      have HX5 := Lib.hid (hWi m ⟨by omega, by omega⟩)
      have HX6 := Lib.hid (hWi v ⟨by omega, by omega⟩)
      have HX7 := Lib.hid (hWi n ⟨by omega, by omega⟩)
      clear hWi u0 v0 x0 m0 n0 hp3 hm
      obtain ⟨c2_0, c2_1, c2_2, c2_3⟩ := HV2.out.four (List.mem_cons_of_mem _ (List.mem_cons_of_mem _ (List.mem_cons_self ..)))
      obtain ⟨c3_0, c3_1, c3_2, c3_3⟩ := HV2.out.four (List.mem_cons_of_mem _ (List.mem_cons_of_mem _ (List.mem_cons_of_mem _ (List.mem_cons_self ..))))
      go_wp2_with fail
      refine (HX0.out _).mono ?_
      rintro f0 u0 ⟨rfl, k0, rfl⟩
      obtain ⟨U0, hU0⟩ : ∃ U : World, U = V2.drewN k0 := ⟨_, rfl⟩
      rw [← hU0]
      have HU0 := Lib.hid (show Bx w [(h2, #[.int .i64 T, .int .i64 td]), (h1, #[.int .i64 N, .int .i64 nd]), (g + 1, #[.int .i64 u, .int .i64 m, .int .i64 v, .int .i64 n]), (g, #[.int .i64 0, .int .i64 x, .int .i64 1, .int .i64 0]), (w.heap.size + 1, #[.int .i64 W, .int .i64 X, .int .i64 Y, .int .i64 Z, .int .i64 1]), (w.heap.size, #[.int .i64 a, .int .i64 b])] U0 from hU0 ▸ HV2.out.drewN k0)
      clear c2_0 c2_1 c2_2 c2_3 c3_0 c3_1 c3_2 c3_3
      clear hU0 HV2
      obtain ⟨c2_0, c2_1, c2_2, c2_3⟩ := HU0.out.four (List.mem_cons_of_mem _ (List.mem_cons_of_mem _ (List.mem_cons_self ..)))
      obtain ⟨c3_0, c3_1, c3_2, c3_3⟩ := HU0.out.four (List.mem_cons_of_mem _ (List.mem_cons_of_mem _ (List.mem_cons_of_mem _ (List.mem_cons_self ..))))
      go_wp2_with fail
      refine (HX1.out _).mono ?_
      rintro f1 u1 ⟨rfl, k1, rfl⟩
      obtain ⟨U1, hU1⟩ : ∃ U : World, U = U0.drewN k1 := ⟨_, rfl⟩
      rw [← hU1]
      have HU1 := Lib.hid (show Bx w [(h2, #[.int .i64 T, .int .i64 td]), (h1, #[.int .i64 N, .int .i64 nd]), (g + 1, #[.int .i64 u, .int .i64 m, .int .i64 v, .int .i64 n]), (g, #[.int .i64 0, .int .i64 x, .int .i64 1, .int .i64 0]), (w.heap.size + 1, #[.int .i64 W, .int .i64 X, .int .i64 Y, .int .i64 Z, .int .i64 1]), (w.heap.size, #[.int .i64 a, .int .i64 b])] U1 from hU1 ▸ HU0.out.drewN k1)
      clear c2_0 c2_1 c2_2 c2_3 c3_0 c3_1 c3_2 c3_3
      clear hU1 HU0
      obtain ⟨c2_0, c2_1, c2_2, c2_3⟩ := HU1.out.four (List.mem_cons_of_mem _ (List.mem_cons_of_mem _ (List.mem_cons_self ..)))
      obtain ⟨c3_0, c3_1, c3_2, c3_3⟩ := HU1.out.four (List.mem_cons_of_mem _ (List.mem_cons_of_mem _ (List.mem_cons_of_mem _ (List.mem_cons_self ..))))
      go_wp2_with fail
      refine (HX2.out _).mono ?_
      rintro f2 u2 ⟨rfl, k2, rfl⟩
      obtain ⟨U2, hU2⟩ : ∃ U : World, U = U1.drewN k2 := ⟨_, rfl⟩
      rw [← hU2]
      have HU2 := Lib.hid (show Bx w [(h2, #[.int .i64 T, .int .i64 td]), (h1, #[.int .i64 N, .int .i64 nd]), (g + 1, #[.int .i64 u, .int .i64 m, .int .i64 v, .int .i64 n]), (g, #[.int .i64 0, .int .i64 x, .int .i64 1, .int .i64 0]), (w.heap.size + 1, #[.int .i64 W, .int .i64 X, .int .i64 Y, .int .i64 Z, .int .i64 1]), (w.heap.size, #[.int .i64 a, .int .i64 b])] U2 from hU2 ▸ HU1.out.drewN k2)
      clear c2_0 c2_1 c2_2 c2_3 c3_0 c3_1 c3_2 c3_3
      clear hU2 HU1
      obtain ⟨c2_0, c2_1, c2_2, c2_3⟩ := HU2.out.four (List.mem_cons_of_mem _ (List.mem_cons_of_mem _ (List.mem_cons_self ..)))
      obtain ⟨c3_0, c3_1, c3_2, c3_3⟩ := HU2.out.four (List.mem_cons_of_mem _ (List.mem_cons_of_mem _ (List.mem_cons_of_mem _ (List.mem_cons_self ..))))
      go_wp2_with fail
      refine (HX3.out _).mono ?_
      rintro f3 u3 ⟨rfl, k3, rfl⟩
      obtain ⟨U3, hU3⟩ : ∃ U : World, U = U2.drewN k3 := ⟨_, rfl⟩
      rw [← hU3]
      have HU3 := Lib.hid (show Bx w [(h2, #[.int .i64 T, .int .i64 td]), (h1, #[.int .i64 N, .int .i64 nd]), (g + 1, #[.int .i64 u, .int .i64 m, .int .i64 v, .int .i64 n]), (g, #[.int .i64 0, .int .i64 x, .int .i64 1, .int .i64 0]), (w.heap.size + 1, #[.int .i64 W, .int .i64 X, .int .i64 Y, .int .i64 Z, .int .i64 1]), (w.heap.size, #[.int .i64 a, .int .i64 b])] U3 from hU3 ▸ HU2.out.drewN k3)
      clear c2_0 c2_1 c2_2 c2_3 c3_0 c3_1 c3_2 c3_3
      clear hU3 HU2
      obtain ⟨c2_0, c2_1, c2_2, c2_3⟩ := HU3.out.four (List.mem_cons_of_mem _ (List.mem_cons_of_mem _ (List.mem_cons_self ..)))
      obtain ⟨c3_0, c3_1, c3_2, c3_3⟩ := HU3.out.four (List.mem_cons_of_mem _ (List.mem_cons_of_mem _ (List.mem_cons_of_mem _ (List.mem_cons_self ..))))
      go_wp2_with fail
      refine (HX4.out _).mono ?_
      rintro f4 u4 ⟨rfl, k4, rfl⟩
      obtain ⟨U4, hU4⟩ : ∃ U : World, U = U3.drewN k4 := ⟨_, rfl⟩
      rw [← hU4]
      have HU4 := Lib.hid (show Bx w [(h2, #[.int .i64 T, .int .i64 td]), (h1, #[.int .i64 N, .int .i64 nd]), (g + 1, #[.int .i64 u, .int .i64 m, .int .i64 v, .int .i64 n]), (g, #[.int .i64 0, .int .i64 x, .int .i64 1, .int .i64 0]), (w.heap.size + 1, #[.int .i64 W, .int .i64 X, .int .i64 Y, .int .i64 Z, .int .i64 1]), (w.heap.size, #[.int .i64 a, .int .i64 b])] U4 from hU4 ▸ HU3.out.drewN k4)
      clear c2_0 c2_1 c2_2 c2_3 c3_0 c3_1 c3_2 c3_3
      clear hU4 HU3
      obtain ⟨c2_0, c2_1, c2_2, c2_3⟩ := HU4.out.four (List.mem_cons_of_mem _ (List.mem_cons_of_mem _ (List.mem_cons_self ..)))
      obtain ⟨c3_0, c3_1, c3_2, c3_3⟩ := HU4.out.four (List.mem_cons_of_mem _ (List.mem_cons_of_mem _ (List.mem_cons_of_mem _ (List.mem_cons_self ..))))
      go_wp2_with fail
      refine (HX5.out _).mono ?_
      rintro f5 u5 ⟨rfl, k5, rfl⟩
      obtain ⟨U5, hU5⟩ : ∃ U : World, U = U4.drewN k5 := ⟨_, rfl⟩
      rw [← hU5]
      have HU5 := Lib.hid (show Bx w [(h2, #[.int .i64 T, .int .i64 td]), (h1, #[.int .i64 N, .int .i64 nd]), (g + 1, #[.int .i64 u, .int .i64 m, .int .i64 v, .int .i64 n]), (g, #[.int .i64 0, .int .i64 x, .int .i64 1, .int .i64 0]), (w.heap.size + 1, #[.int .i64 W, .int .i64 X, .int .i64 Y, .int .i64 Z, .int .i64 1]), (w.heap.size, #[.int .i64 a, .int .i64 b])] U5 from hU5 ▸ HU4.out.drewN k5)
      clear c2_0 c2_1 c2_2 c2_3 c3_0 c3_1 c3_2 c3_3
      clear hU5 HU4
      obtain ⟨c2_0, c2_1, c2_2, c2_3⟩ := HU5.out.four (List.mem_cons_of_mem _ (List.mem_cons_of_mem _ (List.mem_cons_self ..)))
      obtain ⟨c3_0, c3_1, c3_2, c3_3⟩ := HU5.out.four (List.mem_cons_of_mem _ (List.mem_cons_of_mem _ (List.mem_cons_of_mem _ (List.mem_cons_self ..))))
      go_wp2_with fail
      refine (HX6.out _).mono ?_
      rintro f6 u6 ⟨rfl, k6, rfl⟩
      obtain ⟨U6, hU6⟩ : ∃ U : World, U = U5.drewN k6 := ⟨_, rfl⟩
      rw [← hU6]
      have HU6 := Lib.hid (show Bx w [(h2, #[.int .i64 T, .int .i64 td]), (h1, #[.int .i64 N, .int .i64 nd]), (g + 1, #[.int .i64 u, .int .i64 m, .int .i64 v, .int .i64 n]), (g, #[.int .i64 0, .int .i64 x, .int .i64 1, .int .i64 0]), (w.heap.size + 1, #[.int .i64 W, .int .i64 X, .int .i64 Y, .int .i64 Z, .int .i64 1]), (w.heap.size, #[.int .i64 a, .int .i64 b])] U6 from hU6 ▸ HU5.out.drewN k6)
      clear c2_0 c2_1 c2_2 c2_3 c3_0 c3_1 c3_2 c3_3
      clear hU6 HU5
      obtain ⟨c2_0, c2_1, c2_2, c2_3⟩ := HU6.out.four (List.mem_cons_of_mem _ (List.mem_cons_of_mem _ (List.mem_cons_self ..)))
      obtain ⟨c3_0, c3_1, c3_2, c3_3⟩ := HU6.out.four (List.mem_cons_of_mem _ (List.mem_cons_of_mem _ (List.mem_cons_of_mem _ (List.mem_cons_self ..))))
      go_wp2_with fail
      refine (HX7.out _).mono ?_
      rintro f7 u7 ⟨rfl, k7, rfl⟩
      obtain ⟨U7, hU7⟩ : ∃ U : World, U = U6.drewN k7 := ⟨_, rfl⟩
      rw [← hU7]
      have HU7 := Lib.hid (show Bx w [(h2, #[.int .i64 T, .int .i64 td]), (h1, #[.int .i64 N, .int .i64 nd]), (g + 1, #[.int .i64 u, .int .i64 m, .int .i64 v, .int .i64 n]), (g, #[.int .i64 0, .int .i64 x, .int .i64 1, .int .i64 0]), (w.heap.size + 1, #[.int .i64 W, .int .i64 X, .int .i64 Y, .int .i64 Z, .int .i64 1]), (w.heap.size, #[.int .i64 a, .int .i64 b])] U7 from hU7 ▸ HU6.out.drewN k7)
      clear c2_0 c2_1 c2_2 c2_3 c3_0 c3_1 c3_2 c3_3
      clear hU7 HU6
      obtain ⟨e0, e1, e2, e3, b0, b1, b2, b3, d1, d2, hMo⟩ := modulo_mats HMt.out W X Y Z HS.out.1 HS.out.2.1 HS.out.2.2.1 HS.out.2.2.2.1
      rw [HS.out.2.2.2.2.1] at d1
      rw [HS.out.2.2.2.2.2.1] at d2
      have HMo := Lib.hid hMo
      have hb1 := HS.out.2.2.2.2.2.2.1; have hb2 := HS.out.2.2.2.2.2.2.2; have hp3 := HMt.out.pp; have hp9 := HMt.out.p9
      obtain ⟨m1, m2⟩ := mulb (x := e0) (y := e3) (m := 10000) (n := 10000) (by omega) (by omega)
      obtain ⟨m3, m4⟩ := mulb (x := e1) (y := e2) (m := 10000) (n := 10000) (by omega) (by omega)
      simp only [Int.reduceMul] at m1 m2 m3 m4
      have w1 : IntKind.i64.wrap (e0 * e3) = e0 * e3 := wrap_id _ (by omega) (by omega)
      have w2 : IntKind.i64.wrap (e1 * e2) = e1 * e2 := wrap_id _ (by omega) (by omega)
      have w3 : IntKind.i64.wrap (e0 * e3 - e1 * e2) = e0 * e3 - e1 * e2 := wrap_id _ (by omega) (by omega)
      have w4 : IntKind.i64.wrap (e0 * e3 - e1 * e2 - N) = e0 * e3 - e1 * e2 - N := wrap_id _ (by omega) (by omega)
      have w5 : IntKind.i64.wrap (e0 + e3) = e0 + e3 := wrap_id _ (by omega) (by omega)
      have w6 : IntKind.i64.wrap (e0 + e3 - T) = e0 + e3 - T := wrap_id _ (by omega) (by omega)
      have hD1 := fun w => bMod_b (e0 * e3 - e1 * e2 - N) p w ⟨by omega, by omega⟩ (by omega) ⟨by omega, by omega⟩
      have hD2 := fun w => bMod_b (e0 + e3 - T) p w ⟨by omega, by omega⟩ (by omega) ⟨by omega, by omega⟩
      rw [d1] at hD1; rw [d2] at hD2
      have HD1 := Lib.hid hD1; have HD2 := Lib.hid hD2
      clear hMo hD1 hD2 d1 d2 m1 m2 m3 m4 b0 b1 b2 b3 hb1 hb2 hp3 hp9
      obtain ⟨c2_0, c2_1, c2_2, c2_3⟩ := HU7.out.four (List.mem_cons_of_mem _ (List.mem_cons_of_mem _ (List.mem_cons_self ..)))
      obtain ⟨c3_0, c3_1, c3_2, c3_3⟩ := HU7.out.four (List.mem_cons_of_mem _ (List.mem_cons_of_mem _ (List.mem_cons_of_mem _ (List.mem_cons_self ..))))
      obtain ⟨c4_0, c4_1, c4_2, c4_3, c4_4⟩ := HU7.out.five (List.mem_cons_of_mem _ (List.mem_cons_of_mem _ (List.mem_cons_of_mem _ (List.mem_cons_of_mem _ (List.mem_cons_self ..)))))
      go_wp2_with fail
      refine (HMo.out _).mono ?_
      rintro e8 w8 ⟨rfl, hbb⟩
      have HB8 := Lib.hid (HU7.out.keep hbb)
      clear c2_0 c2_1 c2_2 c2_3 c3_0 c3_1 c3_2 c3_3 c4_0 c4_1 c4_2 c4_3 c4_4
      clear hbb HU7
      go_upto_region 11 with fail
      obtain ⟨V3, hV3⟩ : ∃ V3 : World, V3 = w8.alloc (.cells #[.int .i64 e0, .int .i64 e1, .int .i64 e2, .int .i64 e3] 41) := ⟨_, rfl⟩
      rw [← hV3]
      have HV3 := Lib.hid (show Bx w [(w8.heap.size, #[.int .i64 e0, .int .i64 e1, .int .i64 e2, .int .i64 e3]), (h2, #[.int .i64 T, .int .i64 td]), (h1, #[.int .i64 N, .int .i64 nd]), (g + 1, #[.int .i64 u, .int .i64 m, .int .i64 v, .int .i64 n]), (g, #[.int .i64 0, .int .i64 x, .int .i64 1, .int .i64 0]), (w.heap.size + 1, #[.int .i64 W, .int .i64 X, .int .i64 Y, .int .i64 Z, .int .i64 1]), (w.heap.size, #[.int .i64 a, .int .i64 b])] V3 from hV3 ▸ HB8.out.new _ _)
      have hlt3 := HB8.out.lt (List.mem_cons_self ..)
      clear hV3 HB8
      generalize w8.heap.size = h3 at *
      obtain ⟨c0_0, c0_1, c0_2, c0_3⟩ := HV3.out.four (List.mem_cons_self ..)
      obtain ⟨c2_0, c2_1⟩ := HV3.out.two (List.mem_cons_of_mem _ (List.mem_cons_of_mem _ (List.mem_cons_self ..)))
      go_wp2_with fail
      refine (HD1.out _).mono ?_
      rintro e9 w9 ⟨rfl, hbb⟩
      have HB9 := Lib.hid (HV3.out.keep hbb)
      clear c0_0 c0_1 c0_2 c0_3 c2_0 c2_1
      clear hbb HV3
      obtain ⟨c0_0, c0_1, c0_2, c0_3⟩ := HB9.out.four (List.mem_cons_self ..)
      obtain ⟨c1_0, c1_1⟩ := HB9.out.two (List.mem_cons_of_mem _ (List.mem_cons_self ..))
      go_wp2_with fail
      refine (HD2.out _).mono ?_
      rintro e10 w10 ⟨rfl, hbb⟩
      have HB10 := Lib.hid (HB9.out.keep hbb)
      clear c0_0 c0_1 c0_2 c0_3 c1_0 c1_1
      clear hbb HB9
      go_wp2_with fail
      go_ret
      exact ⟨rfl, HB10.out.below⟩

    · have dD : (D != 1) = true := bne_iff_ne.2 hD
      clear hE hC hME hp hT ht hD
      go_enter Try.func3, Try.ntmps3
      go_upto_region 1 with fail
      obtain ⟨W0, hW0⟩ : ∃ W0 : World, W0 = ((w.alloc (.cells #[.int .i64 a, .int .i64 b] 23)).alloc (.cells #[.int .i64 W, .int .i64 X, .int .i64 Y, .int .i64 Z, .int .i64 D] 25)) := ⟨_, rfl⟩
      rw [← hW0]
      have HB0 := Lib.hid (show Bx w [(w.heap.size + 1, #[.int .i64 W, .int .i64 X, .int .i64 Y, .int .i64 Z, .int .i64 D]), (w.heap.size, #[.int .i64 a, .int .i64 b])] W0 by rw [hW0]; simpa using (((Bx.nil (Below.refl w.heap.size w)).new #[.int .i64 a, .int .i64 b] 23).new #[.int .i64 W, .int .i64 X, .int .i64 Y, .int .i64 Z, .int .i64 D] 25))
      clear hW0
      go_wp2_with fail
      refine (HR.out _).mono ?_
      rintro e1 w1 ⟨rfl, hbb⟩
      have HB1 := Lib.hid (HB0.out.keep hbb)
      clear hbb HB0
      obtain ⟨c1_0, c1_1⟩ := HB1.out.two (List.mem_cons_of_mem _ (List.mem_cons_self ..))
      go_wp2_with fail
      refine (HC.out _).mono ?_
      rintro e2 w2 ⟨rfl, hbb⟩
      have HB2 := Lib.hid (HB1.out.keep hbb)
      clear c1_0 c1_1
      clear hbb HB1
      obtain ⟨c1_0, c1_1⟩ := HB2.out.two (List.mem_cons_of_mem _ (List.mem_cons_self ..))
      go_wp2_with fail
      refine (HE.out _).mono ?_
      rintro e3 w3 ⟨rfl, hbb⟩
      have HB3 := Lib.hid (HB2.out.keep hbb)
      clear c1_0 c1_1
      clear hbb HB2
      obtain ⟨c0_0, c0_1, c0_2, c0_3, c0_4⟩ := HB3.out.five (List.mem_cons_self ..)
      go_wp2_with fail
      refine (HT.out _).mono ?_
      rintro e4 w4 ⟨rfl, hbb⟩
      have HB4 := Lib.hid (HB3.out.keep hbb)
      clear c0_0 c0_1 c0_2 c0_3 c0_4
      clear hbb HB3
      obtain ⟨c0_0, c0_1, c0_2, c0_3, c0_4⟩ := HB4.out.five (List.mem_cons_self ..)
      go_wp2_with fail
      go_ret
      exact ⟨rfl, HB4.out.below⟩

  · generalize aE a b = E at *
    have HC := Lib.hid hC
    have d2 : (E != 0) = true := bne_iff_ne.2 hE
    clear hC hE
    go_enter Try.func3, Try.ntmps3
    go_upto_region 1 with fail
    obtain ⟨W0, hW0⟩ : ∃ W0 : World, W0 = ((w.alloc (.cells #[.int .i64 a, .int .i64 b] 23)).alloc (.cells #[.int .i64 W, .int .i64 X, .int .i64 Y, .int .i64 Z, .int .i64 D] 25)) := ⟨_, rfl⟩
    rw [← hW0]
    have HB0 := Lib.hid (show Bx w [(w.heap.size + 1, #[.int .i64 W, .int .i64 X, .int .i64 Y, .int .i64 Z, .int .i64 D]), (w.heap.size, #[.int .i64 a, .int .i64 b])] W0 by rw [hW0]; simpa using (((Bx.nil (Below.refl w.heap.size w)).new #[.int .i64 a, .int .i64 b] 23).new #[.int .i64 W, .int .i64 X, .int .i64 Y, .int .i64 Z, .int .i64 D] 25))
    clear hW0
    go_wp2_with fail
    refine (HR.out _).mono ?_
    rintro e1 w1 ⟨rfl, hbb⟩
    have HB1 := Lib.hid (HB0.out.keep hbb)
    clear hbb HB0
    obtain ⟨c1_0, c1_1⟩ := HB1.out.two (List.mem_cons_of_mem _ (List.mem_cons_self ..))
    go_wp2_with fail
    refine (HC.out _).mono ?_
    rintro e2 w2 ⟨rfl, hbb⟩
    have HB2 := Lib.hid (HB1.out.keep hbb)
    clear c1_0 c1_1
    clear hbb HB1
    go_wp2_with fail
    go_ret
    exact ⟨rfl, HB2.out.below⟩


end Go.Proofs.Ytfjmhfmhijhpkaa
