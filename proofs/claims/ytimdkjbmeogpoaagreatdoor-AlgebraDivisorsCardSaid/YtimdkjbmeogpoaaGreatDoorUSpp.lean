/- Split: the matrices of an algebra that splits. -/
import Derived.Test.YtimdkjbmeogpoaaGreatDoorUDsp
import Derived.Test.YtimdkjbmeogpoaaGreatDoorURam0
import Derived.Test.YtimdkjbmeogpoaaGreatDoorURin
namespace Go.Proofs.YtimdkjbmeogpoaaGreatDoor
open Go.RowKit FF
theorem low_eq {a b : Int} (h0 : b ≠ 0) (ha : -4611686018427387904 ≤ a ∧ a ≤ 4611686018427387904) (hb : -4611686018427387904 ≤ b ∧ b ≤ 4611686018427387904) : ∃ g : Int, a = g * lowN a b ∧ b = g * lowD a b := by
 obtain ⟨g, G, e1, e2, e3, hg, k1, k2, -⟩ := low_facts ha hb h0
 have d1 : G ∣ a := e3 ▸ Int.gcd_dvd_left ..
 have d2 : G ∣ b := e3 ▸ Int.gcd_dvd_right ..
 have h : g ∣ a ∧ g ∣ b := by
  by_cases hn : b < 0
  ·rw [k1 hn]; exact ⟨Int.neg_dvd.2 d1, Int.neg_dvd.2 d2⟩
  ·rw [k2 hn]; exact ⟨d1, d2⟩
 exact ⟨g, by rw [e1]; exact (Int.mul_tdiv_cancel' h.1).symm, by rw [e2]; exact (Int.mul_tdiv_cancel' h.2).symm⟩
theorem low_bnd {a b M : Int} (h0 : b ≠ 0) (ha : -M ≤ a ∧ a ≤ M) (hb : -M ≤ b ∧ b ≤ M) (hM : M ≤ 1000000) : frB (lowN a b) (lowD a b) = true := by
 obtain ⟨g, e1, e2⟩ := low_eq (a := a) (b := b) h0 ⟨by omega, by omega⟩ ⟨by omega, by omega⟩
 generalize lowN a b = n at *
 generalize lowD a b = d at *
 have hg : g ≠ 0 := fun e => h0 (by rw [e2, e, Int.zero_mul])
 have hd : d ≠ 0 := fun e => h0 (by rw [e2, e, Int.mul_zero])
 have key : ∀ m c : Int, c = g * m → (-M ≤ c ∧ c ≤ M) → -M ≤ m ∧ m ≤ M := by
  intro m c e hc
  have h1 : c.natAbs = g.natAbs * m.natAbs := by rw [e, Int.natAbs_mul]
  have h2 : 1 * m.natAbs ≤ g.natAbs * m.natAbs := Nat.mul_le_mul_right _ (by omega)
  omega
 have h1 := key n a e1 ha
 have h2 := key d b e2 hb
 exact frB_iff.2 ⟨hd, ⟨by omega, by omega⟩, ⟨by omega, by omega⟩⟩
theorem frB_64 {n d : Int} (h : frB n d = true) : I64 n ∧ I64 d := by
 have := frB_iff.1 h
 exact ⟨⟨by omega, by omega⟩, ⟨by omega, by omega⟩⟩
def SplitPost (a b : Int) (w : World) (e : Ending) (w' : World) : Prop :=
 ∃ x0 x1 x2 x3 x4 x5 x6 x7 y0 y1 y2 y3 y4 y5 y6 y7 : Int, (frB x0 x1 = true ∧ frB x2 x3 = true ∧ frB x4 x5 = true ∧ frB x6 x7 = true) ∧ (frB y0 y1 = true ∧ frB y2 y3 = true ∧ frB y4 y5 = true ∧ frB y6 y7 = true) ∧
  splF a b x0 x1 x2 x3 x4 x5 x6 x7 y0 y1 y2 y3 y4 y5 y6 y7 = 0 ∧
  e = .returned (.tuple #[.agg #[.int .i64 x0, .int .i64 x1, .int .i64 x2, .int .i64 x3, .int .i64 x4, .int .i64 x5, .int .i64 x6, .int .i64 x7], .agg #[.int .i64 y0, .int .i64 y1, .int .i64 y2, .int .i64 y3, .int .i64 y4, .int .i64 y5, .int .i64 y6, .int .i64 y7], .int .i64 0]) ∧ Below w.heap.size w w'
theorem zd_root {a b x z : Int} (h : Zd a b x 0 z) : ∃ s : Int, z = s * x ∧ z.tdiv x = s ∧ s * s = a ∧ 0 < x := by
 have hx : 0 < x := by
  rcases Int.lt_or_eq_of_le h.x0 with g | g
  ·exact g
  ·exact absurd ⟨g.symm, rfl⟩ h.nz
 have e : a * (x * x) = z * z := by have := h.eq; simpa using this
 have hd : x ∣ z := by
  have : x ^ 2 ∣ z ^ 2 := ⟨a, by rw [Int.pow_succ, Int.pow_succ, Int.pow_succ, Int.pow_succ]; simp only [Int.pow_zero, Int.one_mul]; rw [← e, Int.mul_comm]⟩
  exact (Int.pow_dvd_pow_iff (by decide)).1 this
 obtain ⟨s, rfl⟩ := hd
 refine ⟨s, Int.mul_comm .., Int.mul_tdiv_cancel_left _ (by omega), ?_, hx⟩
 have h2 : (x * x) * (s * s) = (x * x) * a := by rw [Int.mul_comm (x * x) a, e]; grind
 exact Int.eq_of_mul_eq_mul_left (by have := Int.mul_pos hx hx; omega) h2
theorem below_set2 {w W : World} {b : Nat} (h : Below w.heap.size w W) (hb : w.heap.size ≤ b) (u v : Value) : Below w.heap.size w ((W.setCell ⟨b, 0, none⟩ u).setCell ⟨b, 1, none⟩ v) :=
 (h.setCell hb ..).setCell hb ..
set_option maxHeartbeats 4000000 in
set_option maxRecDepth 100000 in
theorem whole_any (n : Int) (w : World) :
  Calls Tryz.prog 39 #[.int .i64 n] w fun r w' => r = .returned (.agg #[.int .i64 n, .int .i64 1]) ∧ Below w.heap.size w w' := by
 go_enter Tryz.func39, Tryz.ntmps39
 go_upto_region 1 with fail
 obtain ⟨W0, hW0⟩ : ∃ W0 : World, W0 = (w.alloc (.cells #[.int .i64 0, .int .i64 0] 25)) := ⟨_, rfl⟩
 rw [← hW0]
 have HB0 := lhd (show Bx w [(w.heap.size, #[.int .i64 0, .int .i64 0])] W0 by rw [hW0]; simpa using ((Bx.nil (Below.refl w.heap.size w)).new #[.int .i64 0, .int .i64 0] 25))
 clear hW0
 obtain ⟨c0_0, c0_1⟩ := HB0.out.two lm0
 have hcr := (HB0.out.own _ lm0).2
 obtain ⟨f0, f1, f2, f3, f4⟩ := hcr.fr
 obtain ⟨W9, hW9⟩ : ∃ W9, ((W0.setCell ⟨w.heap.size, 0, none⟩ (.int .i64 n)).setCell ⟨w.heap.size, 1, none⟩ (.int .i64 1)) = W9 := ⟨_, rfl⟩
 have hP := hcr.put2 (.int .i64 n) (.int .i64 1)
 have hB9 : Below w.heap.size w ((W0.setCell ⟨w.heap.size, 0, none⟩ (.int .i64 n)).setCell ⟨w.heap.size, 1, none⟩ (.int .i64 1)) := below_set2 HB0.out.below (Nat.le_refl _) _ _
 obtain ⟨q0, q1⟩ := hP.two
 rw [hW9] at q0 q1 hB9
 go_wp2_with fail
 try rw [hW9]
 refine bodyPost_ret (v := .agg #[.int .i64 n, .int .i64 1]) (by simp [results, Tryz.results39, go_sem, q0, q1]) rfl ?_
 exact ⟨rfl, hB9⟩
theorem root_bnd {a b s z x : Int} (h : s * s = a) (hab : a ≠ 0 ∧ b ≠ 0 ∧ (-1000 ≤ a ∧ a ≤ 1000) ∧ (-1000 ≤ b ∧ b ≤ 1000)) (hz : z = s * x) (hx : 0 < x) (z0 : 0 ≤ z) : 0 ≤ s ∧ s ≤ 1000 := by
 have s0 : 0 ≤ s := by
  apply Classical.byContradiction; intro hn
  have := Int.mul_le_mul_of_nonneg_right (show s ≤ -1 by omega) (show (0 : Int) ≤ x by omega)
  omega
 refine ⟨s0, ?_⟩
 apply Classical.byContradiction; intro hn
 have := Int.mul_le_mul (show (1001 : Int) ≤ s by omega) (show (1001 : Int) ≤ s by omega) (by omega) (by omega)
 omega
theorem split_post0 {a b s : Int} (hE : aE a b = 0) (hs : s * s = a) (hb : 0 ≤ s ∧ s ≤ 1000) (w : World) : ∀ w', Below w.heap.size w w' → SplitPost a b w (.returned (.tuple #[.agg #[.int .i64 s, .int .i64 1, .int .i64 0, .int .i64 1, .int .i64 0, .int .i64 1, .int .i64 (-s), .int .i64 1], .agg #[.int .i64 0, .int .i64 1, .int .i64 b, .int .i64 1, .int .i64 1, .int .i64 1, .int .i64 0, .int .i64 1], .int .i64 0])) w' := by
 intro w' h
 obtain ⟨-, -, ha, hbb⟩ := aE_zero.1 hE
 have fb : ∀ n : Int, (-1000 ≤ n ∧ n ≤ 1000) → frB n 1 = true := fun n hn => frB_iff.2 ⟨by omega, ⟨by omega, by omega⟩, ⟨by omega, by omega⟩⟩
 refine ⟨s, 1, 0, 1, 0, 1, -s, 1, 0, 1, b, 1, 1, 1, 0, 1, ⟨fb _ (by omega), fb _ (by omega), fb _ (by omega), fb _ (by omega)⟩, ⟨fb _ (by omega), fb _ (by omega), fb _ (by omega), fb _ (by omega)⟩, ?_, rfl, h⟩
 refine splits_0 hs ?_ ?_
 ·unfold okF; rw [fb s (by omega), fb 0 (by omega), fb (-s) (by omega)]; rfl
 ·unfold okF; rw [fb b (by omega), fb 0 (by omega), fb 1 (by omega)]; rfl
theorem Cells.eight {W : World} {b : Nat} {v0 v1 v2 v3 v4 v5 v6 v7 : Value} (h : Cells W b #[v0, v1, v2, v3, v4, v5, v6, v7]) : W.cell? ⟨b, 0, none⟩ = some v0 ∧ W.cell? ⟨b, 1, none⟩ = some v1 ∧ W.cell? ⟨b, 2, none⟩ = some v2 ∧ W.cell? ⟨b, 3, none⟩ = some v3 ∧ W.cell? ⟨b, 4, none⟩ = some v4 ∧ W.cell? ⟨b, 5, none⟩ = some v5 ∧ W.cell? ⟨b, 6, none⟩ = some v6 ∧ W.cell? ⟨b, 7, none⟩ = some v7 :=
 ⟨h.2.1 0 (by simp), h.2.1 1 (by simp), h.2.1 2 (by simp), h.2.1 3 (by simp), h.2.1 4 (by simp), h.2.1 5 (by simp), h.2.1 6 (by simp), h.2.1 7 (by simp)⟩
theorem Cells.fr8 {W : World} {b : Nat} {vs : Array Value} (h : Cells W b vs) : W.frozen? ⟨b, 0, none⟩ = false ∧ W.frozen? ⟨b, 1, none⟩ = false ∧ W.frozen? ⟨b, 2, none⟩ = false ∧ W.frozen? ⟨b, 3, none⟩ = false ∧ W.frozen? ⟨b, 4, none⟩ = false ∧ W.frozen? ⟨b, 5, none⟩ = false ∧ W.frozen? ⟨b, 6, none⟩ = false ∧ W.frozen? ⟨b, 7, none⟩ = false := ⟨h.2.2 0, h.2.2 1, h.2.2 2, h.2.2 3, h.2.2 4, h.2.2 5, h.2.2 6, h.2.2 7⟩
theorem Only.put8 (W : World) (g : Nat) (v0 v1 v2 v3 v4 v5 v6 v7 : Value) : Only g W (((((((((W.setCell ⟨g, 0, none⟩ v0).setCell ⟨g, 1, none⟩ v1).setCell ⟨g, 2, none⟩ v2).setCell ⟨g, 3, none⟩ v3).setCell ⟨g, 4, none⟩ v4).setCell ⟨g, 5, none⟩ v5).setCell ⟨g, 6, none⟩ v6).setCell ⟨g, 7, none⟩ v7)) :=
 ((((((((Only.setCell W g 0 v0).trans (Only.setCell _ g 1 v1)).trans (Only.setCell _ g 2 v2)).trans (Only.setCell _ g 3 v3)).trans (Only.setCell _ g 4 v4)).trans (Only.setCell _ g 5 v5)).trans (Only.setCell _ g 6 v6)).trans (Only.setCell _ g 7 v7))
theorem Cells.put8 {W : World} {b : Nat} {v0 v1 v2 v3 v4 v5 v6 v7 : Value} (hc : Cells W b #[v0, v1, v2, v3, v4, v5, v6, v7]) (u0 u1 u2 u3 u4 u5 u6 u7 : Value) : Cells (((((((((W.setCell ⟨b, 0, none⟩ u0).setCell ⟨b, 1, none⟩ u1).setCell ⟨b, 2, none⟩ u2).setCell ⟨b, 3, none⟩ u3).setCell ⟨b, 4, none⟩ u4).setCell ⟨b, 5, none⟩ u5).setCell ⟨b, 6, none⟩ u6).setCell ⟨b, 7, none⟩ u7)) b #[u0, u1, u2, u3, u4, u5, u6, u7] := by
 obtain ⟨h0, h1, h2, h3, h4, h5, h6, h7⟩ := hc.eight
 refine ⟨by simpa [World.setCell] using hc.1, fun i hi => ?_, fun i => by simp [go_sem, hc.2.2 i]⟩
 match i, hi with
 | 0, _ => simp [go_sem, h0]
 | 1, _ => simp [go_sem, h1]
 | 2, _ => simp [go_sem, h2]
 | 3, _ => simp [go_sem, h3]
 | 4, _ => simp [go_sem, h4]
 | 5, _ => simp [go_sem, h5]
 | 6, _ => simp [go_sem, h6]
 | 7, _ => simp [go_sem, h7]
theorem split_post1 {a b x y z : Int} (h : Zd a b x y z) (hE : aE a b = 0) (hy : y ≠ 0) (w : World) :
  ∀ w', Below w.heap.size w w' → SplitPost a b w (.returned (.tuple #[.agg #[.int .i64 0, .int .i64 1, .int .i64 a, .int .i64 1, .int .i64 1, .int .i64 1, .int .i64 0, .int .i64 1], .agg #[.int .i64 (lowN z y), .int .i64 (lowD z y), .int .i64 (lowN (-a * x) y), .int .i64 (lowD (-a * x) y), .int .i64 (lowN x y), .int .i64 (lowD x y), .int .i64 (lowN (-z) y), .int .i64 (lowD (-z) y)], .int .i64 0])) w' := by
 intro w' hw
 obtain ⟨-, -, ha, hbb⟩ := aE_zero.1 hE
 obtain ⟨b1, b2, b3⟩ := h.bounds hE
 have hx0 := h.x0; have hy0 := h.y0; have hz0 := h.z0
 have hm := Int.mul_le_mul_of_nonneg_right ha.2 hx0; have hm2 := Int.mul_le_mul_of_nonneg_right ha.1 hx0
 have u2 : -(a * x) = -a * x := (Int.neg_mul a x).symm
 have hM : -31000 ≤ -a * x ∧ -a * x ≤ 31000 := by omega
 have fb : ∀ n : Int, (-1000 ≤ n ∧ n ≤ 1000) → frB n 1 = true := fun n hn => frB_iff.2 ⟨by omega, ⟨by omega, by omega⟩, ⟨by omega, by omega⟩⟩
 have g1 := low_bnd (a := z) (M := 31000) hy (by omega) (by omega) (by omega)
 have g2 := low_bnd (a := -a * x) (M := 31000) hy (by omega) (by omega) (by omega)
 have g3 := low_bnd (a := x) (M := 31000) hy (by omega) (by omega) (by omega)
 have g4 := low_bnd (a := -z) (M := 31000) hy (by omega) (by omega) (by omega)
 obtain ⟨q1, e1, f1⟩ := low_eq (a := z) hy (by omega) (by omega)
 obtain ⟨q2, e2, f2⟩ := low_eq (a := -a * x) hy (by omega) (by omega)
 obtain ⟨q3, e3, f3⟩ := low_eq (a := x) hy (by omega) (by omega)
 obtain ⟨q4, e4, f4⟩ := low_eq (a := -z) hy (by omega) (by omega)
 refine ⟨0, 1, a, 1, 1, 1, 0, 1, _, _, _, _, _, _, _, _, ⟨fb _ (by omega), fb _ (by omega), fb _ (by omega), fb _ (by omega)⟩, ⟨g1, g2, g3, g4⟩, ?_, rfl, hw⟩
 refine splits_y h.eq hy e1 f1 (u2.trans e2) f2 e3 f3 e4 f4 ?_ ?_
 ·unfold okF; rw [fb a (by omega), fb 0 (by omega), fb 1 (by omega)]; rfl
 ·unfold okF; rw [g1, g2, g3, g4]; rfl
set_option maxHeartbeats 4000000 in
set_option maxRecDepth 100000 in
theorem split_good (a b : Int) (w : World) (hE : spE a b = 0) :
  Calls Tryz.prog 11 #[.agg #[.int .i64 a, .int .i64 b]] w (SplitPost a b w) := by
 obtain ⟨hE1, hR⟩ := spE_zero.1 hE
 have hS := fun w => solve_any a b w hE1 hR
 have hC := fun w => splits_any a b w
 unfold SolvePost at hS
 rw [hE] at hC
 have HC := lhd hC; have HS := lhd hS; have HE := lhd hE1; have HW := lhd whole_any
 clear hC hS hE hE1 hR
 go_enter Tryz.func11, Tryz.ntmps11
 go_upto_region 1 with fail
 obtain ⟨W0, hW0⟩ : ∃ W0 : World, W0 = (((w.alloc (.cells #[.int .i64 a, .int .i64 b] 23)).alloc (.cells #[.int .i64 0, .int .i64 0, .int .i64 0, .int .i64 0, .int .i64 0, .int .i64 0, .int .i64 0, .int .i64 0] 27)).alloc (.cells #[.int .i64 0, .int .i64 0, .int .i64 0, .int .i64 0, .int .i64 0, .int .i64 0, .int .i64 0, .int .i64 0] 27)) := ⟨_, rfl⟩
 rw [← hW0]
 have HB0 := lhd (show Bx w [(w.heap.size + 2, #[.int .i64 0, .int .i64 0, .int .i64 0, .int .i64 0, .int .i64 0, .int .i64 0, .int .i64 0, .int .i64 0]), (w.heap.size + 1, #[.int .i64 0, .int .i64 0, .int .i64 0, .int .i64 0, .int .i64 0, .int .i64 0, .int .i64 0, .int .i64 0]), (w.heap.size, #[.int .i64 a, .int .i64 b])] W0 by rw [hW0]; simpa using ((((Bx.nil (Below.refl w.heap.size w)).new #[.int .i64 a, .int .i64 b] 23).new #[.int .i64 0, .int .i64 0, .int .i64 0, .int .i64 0, .int .i64 0, .int .i64 0, .int .i64 0, .int .i64 0] 27).new #[.int .i64 0, .int .i64 0, .int .i64 0, .int .i64 0, .int .i64 0, .int .i64 0, .int .i64 0, .int .i64 0] 27))
 clear hW0
 obtain ⟨c2_0, c2_1⟩ := HB0.out.two lm2
 go_wp2_with fail
 refine (HC.out _).mono ?_
 rintro e1 w1 ⟨rfl, hbb⟩
 have HB1 := lhd (HB0.out.keep hbb)
 clear c2_0 c2_1
 clear hbb HB0
 obtain ⟨c2_0, c2_1⟩ := HB1.out.two lm2
 go_wp2_with fail
 refine (HS.out _).mono ?_
 rintro e2 w2 ⟨x, yb, z, hzd, rfl, hbb⟩
 have HB2 := lhd (HB1.out.keep hbb)
 clear c2_0 c2_1
 clear hbb HB1
 by_cases hy : yb = 0
 ·subst hy
  obtain ⟨s, z1, hs, s2, x1⟩ := zd_root hzd
  have hbs := hzd.bounds HE.out
  have hab := aE_zero.1 HE.out
  have hsb : 0 ≤ s ∧ s ≤ 1000 := root_bnd s2 hab z1 x1 hzd.z0
  have HPo := lhd (split_post0 (b := b) HE.out s2 hsb w)
  have d1 : (x == 0) = false := beq_false_of_ne (by omega)
  have hz0 := hzd.z0
  clear hzd hab s2 z1 HE
  obtain ⟨c2_0, c2_1⟩ := HB2.out.two lm2
  go_upto_region 8 with fail
  clear c2_0 c2_1
  have u1 : IntKind.i64.wrap (-s) = -s := wrap_id _ (by omega) (by omega)
  refine wp_region_inv (w.heap.size) [(0, 33, .func (.func 39) #[] #[]), (1, 34, .int .i64 s), (2, 35, .agg #[.int .i64 s, .int .i64 1]), (3, 36, .func (.func 39) #[] #[]), (4, 37, .agg #[.int .i64 0, .int .i64 1]), (5, 38, .func (.func 39) #[] #[]), (6, 39, .agg #[.int .i64 0, .int .i64 1]), (7, 40, .func (.func 39) #[] #[]), (8, 41, .int .i64 s), (9, 42, .int .i64 (-s)), (10, 43, .agg #[.int .i64 (-s), .int .i64 1]), (11, 44, .agg #[.int .i64 s, .int .i64 1, .int .i64 0, .int .i64 1, .int .i64 0, .int .i64 1, .int .i64 (-s), .int .i64 1]), (12, 45, .func (.func 39) #[] #[]), (13, 46, .agg #[.int .i64 0, .int .i64 1]), (14, 47, .func (.func 39) #[] #[]), (15, 48, .pointer (some ⟨w.heap.size, 1, none⟩)), (16, 49, .int .i64 b), (17, 50, .agg #[.int .i64 b, .int .i64 1]), (18, 51, .func (.func 39) #[] #[]), (19, 52, .agg #[.int .i64 1, .int .i64 1]), (20, 53, .func (.func 39) #[] #[]), (21, 54, .agg #[.int .i64 0, .int .i64 1]), (22, 55, .agg #[.int .i64 0, .int .i64 1, .int .i64 b, .int .i64 1, .int .i64 1, .int .i64 1, .int .i64 0, .int .i64 1]), (25, 4, .int .i64 0)] [] [⟨w.heap.size + 2, 24, #[.int .i64 0, .int .i64 0, .int .i64 0, .int .i64 0, .int .i64 0, .int .i64 0, .int .i64 0, .int .i64 0], #[.int .i64 0, .int .i64 1, .int .i64 b, .int .i64 1, .int .i64 1, .int .i64 1, .int .i64 0, .int .i64 1]⟩, ⟨w.heap.size + 1, 23, #[.int .i64 0, .int .i64 0, .int .i64 0, .int .i64 0, .int .i64 0, .int .i64 0, .int .i64 0, .int .i64 0], #[.int .i64 s, .int .i64 1, .int .i64 0, .int .i64 1, .int .i64 0, .int .i64 1, .int .i64 (-s), .int .i64 1]⟩, ⟨w.heap.size, 999, #[.int .i64 a, .int .i64 b], #[.int .i64 a, .int .i64 b]⟩] [33, 34, 35, 36, 37, 38, 39, 40, 41, 42, 43, 44, 45, 46, 47, 48, 49, 50, 51, 52, 53, 54, 55, 4] ?_ (by kernel_rfl) (by kernel_rfl) (by kernel_rfl) ?_ (forall_ops ⟨?_, ?_, ?_, ?_, ?_, ?_, ?_, ?_, ?_, ?_, ?_, ?_, ?_, ?_, ?_, ?_, ?_, ?_, ?_, ?_, ?_, ?_, ?_, ?_, ?_, ?_, trivial⟩) ?_
  ·exact HB2.out.below.size
  ·intro c hc
   simp only [List.mem_cons, List.not_mem_nil, or_false] at hc
   rcases hc with rfl | rfl | rfl
   ·exact ⟨(HB2.out.own _ lm0).2, .inl (by simp)⟩
   ·exact ⟨(HB2.out.own _ lm1).2, .inl (by simp)⟩
   ·exact ⟨(HB2.out.own _ lm2).2, .inr rfl⟩
  ·refine .inl ⟨.inl rfl, .inl ⟨.func (.func 39) #[] #[], val_only (d := 33) (by kernel_rfl), by simp, by simp, fun y W hB hO hV K Q' hK => ?_⟩⟩
   simp only [fr, putAll, List.foldl_cons, List.foldl_nil, List.setIfInBounds_toArray, List.set_cons_zero, List.set_cons_succ] at hK ⊢
   go_simp
   exact hK W (Below.refl _ _)
  ·refine .inl ⟨.inl rfl, .inl ⟨.int .i64 s, val_only (d := 34) (by kernel_rfl), by simp, by simp, fun y W hB hO hV K Q' hK => ?_⟩⟩
   simp only [fr, putAll, List.foldl_cons, List.foldl_nil, List.setIfInBounds_toArray, List.set_cons_zero, List.set_cons_succ] at hK ⊢
   go_simp
   exact hK W (Below.refl _ _)
  ·refine .inl ⟨.inl rfl, .inl ⟨.agg #[.int .i64 s, .int .i64 1], val_only (d := 35) (by kernel_rfl), by simp, by simp, fun y W hB hO hV K Q' hK => ?_⟩⟩
   have y33 : y 33 = .func (.func 39) #[] #[] := hV (0, 33, .func (.func 39) #[] #[]) (val_get (by kernel_rfl)) (by kernel_rfl)
   have y34 : y 34 = .int .i64 s := hV (1, 34, .int .i64 s) (val_get (by kernel_rfl)) (by kernel_rfl)
   simp only [fr, putAll, List.foldl_cons, List.foldl_nil, List.setIfInBounds_toArray, List.set_cons_zero, List.set_cons_succ] at hK ⊢
   simp only [y33, y34] at hK ⊢
   go_simp
   refine (HW.out s W).mono ?_
   intro e w' h
   rw [h.1]
   exact hK w' h.2
  ·refine .inl ⟨.inl rfl, .inl ⟨.func (.func 39) #[] #[], val_only (d := 36) (by kernel_rfl), by simp, by simp, fun y W hB hO hV K Q' hK => ?_⟩⟩
   simp only [fr, putAll, List.foldl_cons, List.foldl_nil, List.setIfInBounds_toArray, List.set_cons_zero, List.set_cons_succ] at hK ⊢
   go_simp
   exact hK W (Below.refl _ _)
  ·refine .inl ⟨.inl rfl, .inl ⟨.agg #[.int .i64 0, .int .i64 1], val_only (d := 37) (by kernel_rfl), by simp, by simp, fun y W hB hO hV K Q' hK => ?_⟩⟩
   have y36 : y 36 = .func (.func 39) #[] #[] := hV (3, 36, .func (.func 39) #[] #[]) (val_get (by kernel_rfl)) (by kernel_rfl)
   simp only [fr, putAll, List.foldl_cons, List.foldl_nil, List.setIfInBounds_toArray, List.set_cons_zero, List.set_cons_succ] at hK ⊢
   simp only [y36] at hK ⊢
   go_simp
   refine (HW.out 0 W).mono ?_
   intro e w' h
   rw [h.1]
   exact hK w' h.2
  ·refine .inl ⟨.inl rfl, .inl ⟨.func (.func 39) #[] #[], val_only (d := 38) (by kernel_rfl), by simp, by simp, fun y W hB hO hV K Q' hK => ?_⟩⟩
   simp only [fr, putAll, List.foldl_cons, List.foldl_nil, List.setIfInBounds_toArray, List.set_cons_zero, List.set_cons_succ] at hK ⊢
   go_simp
   exact hK W (Below.refl _ _)
  ·refine .inl ⟨.inl rfl, .inl ⟨.agg #[.int .i64 0, .int .i64 1], val_only (d := 39) (by kernel_rfl), by simp, by simp, fun y W hB hO hV K Q' hK => ?_⟩⟩
   have y38 : y 38 = .func (.func 39) #[] #[] := hV (5, 38, .func (.func 39) #[] #[]) (val_get (by kernel_rfl)) (by kernel_rfl)
   simp only [fr, putAll, List.foldl_cons, List.foldl_nil, List.setIfInBounds_toArray, List.set_cons_zero, List.set_cons_succ] at hK ⊢
   simp only [y38] at hK ⊢
   go_simp
   refine (HW.out 0 W).mono ?_
   intro e w' h
   rw [h.1]
   exact hK w' h.2
  ·refine .inl ⟨.inl rfl, .inl ⟨.func (.func 39) #[] #[], val_only (d := 40) (by kernel_rfl), by simp, by simp, fun y W hB hO hV K Q' hK => ?_⟩⟩
   simp only [fr, putAll, List.foldl_cons, List.foldl_nil, List.setIfInBounds_toArray, List.set_cons_zero, List.set_cons_succ] at hK ⊢
   go_simp
   exact hK W (Below.refl _ _)
  ·refine .inl ⟨.inl rfl, .inl ⟨.int .i64 s, val_only (d := 41) (by kernel_rfl), by simp, by simp, fun y W hB hO hV K Q' hK => ?_⟩⟩
   simp only [fr, putAll, List.foldl_cons, List.foldl_nil, List.setIfInBounds_toArray, List.set_cons_zero, List.set_cons_succ] at hK ⊢
   go_simp
   exact hK W (Below.refl _ _)
  ·refine .inl ⟨.inl rfl, .inl ⟨.int .i64 (-s), val_only (d := 42) (by kernel_rfl), by simp, by simp, fun y W hB hO hV K Q' hK => ?_⟩⟩
   have y41 : y 41 = .int .i64 s := hV (8, 41, .int .i64 s) (val_get (by kernel_rfl)) (by kernel_rfl)
   simp only [fr, putAll, List.foldl_cons, List.foldl_nil, List.setIfInBounds_toArray, List.set_cons_zero, List.set_cons_succ] at hK ⊢
   simp only [y41] at hK ⊢
   go_simp
   exact hK W (Below.refl _ _)
  ·refine .inl ⟨.inl rfl, .inl ⟨.agg #[.int .i64 (-s), .int .i64 1], val_only (d := 43) (by kernel_rfl), by simp, by simp, fun y W hB hO hV K Q' hK => ?_⟩⟩
   have y40 : y 40 = .func (.func 39) #[] #[] := hV (7, 40, .func (.func 39) #[] #[]) (val_get (by kernel_rfl)) (by kernel_rfl)
   have y42 : y 42 = .int .i64 (-s) := hV (9, 42, .int .i64 (-s)) (val_get (by kernel_rfl)) (by kernel_rfl)
   simp only [fr, putAll, List.foldl_cons, List.foldl_nil, List.setIfInBounds_toArray, List.set_cons_zero, List.set_cons_succ] at hK ⊢
   simp only [y40, y42] at hK ⊢
   go_simp
   refine (HW.out (-s) W).mono ?_
   intro e w' h
   rw [h.1]
   exact hK w' h.2
  ·refine .inl ⟨.inl rfl, .inl ⟨.agg #[.int .i64 s, .int .i64 1, .int .i64 0, .int .i64 1, .int .i64 0, .int .i64 1, .int .i64 (-s), .int .i64 1], val_only (d := 44) (by kernel_rfl), by simp, by simp, fun y W hB hO hV K Q' hK => ?_⟩⟩
   have y35 : y 35 = .agg #[.int .i64 s, .int .i64 1] := hV (2, 35, .agg #[.int .i64 s, .int .i64 1]) (val_get (by kernel_rfl)) (by kernel_rfl)
   have y37 : y 37 = .agg #[.int .i64 0, .int .i64 1] := hV (4, 37, .agg #[.int .i64 0, .int .i64 1]) (val_get (by kernel_rfl)) (by kernel_rfl)
   have y39 : y 39 = .agg #[.int .i64 0, .int .i64 1] := hV (6, 39, .agg #[.int .i64 0, .int .i64 1]) (val_get (by kernel_rfl)) (by kernel_rfl)
   have y43 : y 43 = .agg #[.int .i64 (-s), .int .i64 1] := hV (10, 43, .agg #[.int .i64 (-s), .int .i64 1]) (val_get (by kernel_rfl)) (by kernel_rfl)
   simp only [fr, putAll, List.foldl_cons, List.foldl_nil, List.setIfInBounds_toArray, List.set_cons_zero, List.set_cons_succ] at hK ⊢
   simp only [y35, y37, y39, y43] at hK ⊢
   go_simp
   exact hK W (Below.refl _ _)
  ·refine .inl ⟨.inl rfl, .inl ⟨.func (.func 39) #[] #[], val_only (d := 45) (by kernel_rfl), by simp, by simp, fun y W hB hO hV K Q' hK => ?_⟩⟩
   simp only [fr, putAll, List.foldl_cons, List.foldl_nil, List.setIfInBounds_toArray, List.set_cons_zero, List.set_cons_succ] at hK ⊢
   go_simp
   exact hK W (Below.refl _ _)
  ·refine .inl ⟨.inl rfl, .inl ⟨.agg #[.int .i64 0, .int .i64 1], val_only (d := 46) (by kernel_rfl), by simp, by simp, fun y W hB hO hV K Q' hK => ?_⟩⟩
   have y45 : y 45 = .func (.func 39) #[] #[] := hV (12, 45, .func (.func 39) #[] #[]) (val_get (by kernel_rfl)) (by kernel_rfl)
   simp only [fr, putAll, List.foldl_cons, List.foldl_nil, List.setIfInBounds_toArray, List.set_cons_zero, List.set_cons_succ] at hK ⊢
   simp only [y45] at hK ⊢
   go_simp
   refine (HW.out 0 W).mono ?_
   intro e w' h
   rw [h.1]
   exact hK w' h.2
  ·refine .inl ⟨.inl rfl, .inl ⟨.func (.func 39) #[] #[], val_only (d := 47) (by kernel_rfl), by simp, by simp, fun y W hB hO hV K Q' hK => ?_⟩⟩
   simp only [fr, putAll, List.foldl_cons, List.foldl_nil, List.setIfInBounds_toArray, List.set_cons_zero, List.set_cons_succ] at hK ⊢
   go_simp
   exact hK W (Below.refl _ _)
  ·refine .inl ⟨.inl rfl, .inl ⟨.pointer (some ⟨w.heap.size, 1, none⟩), val_only (d := 48) (by kernel_rfl), by simp, by simp, fun y W hB hO hV K Q' hK => ?_⟩⟩
   simp only [fr, putAll, List.foldl_cons, List.foldl_nil, List.setIfInBounds_toArray, List.set_cons_zero, List.set_cons_succ] at hK ⊢
   go_simp
   exact hK W (Below.refl _ _)
  ·refine .inl ⟨.inl rfl, .inl ⟨.int .i64 b, val_only (d := 49) (by kernel_rfl), by simp, by simp, fun y W hB hO hV K Q' hK => ?_⟩⟩
   have y48 : y 48 = .pointer (some ⟨w.heap.size, 1, none⟩) := hV (15, 48, .pointer (some ⟨w.heap.size, 1, none⟩)) (val_get (by kernel_rfl)) (by kernel_rfl)
   have hc : Cells W (w.heap.size) #[.int .i64 a, .int .i64 b] := hO _ lm2 rfl
   have kk := hc.two
   have k0 := kk.1
   have k1 := kk.2
   clear kk
   simp only [fr, putAll, List.foldl_cons, List.foldl_nil, List.setIfInBounds_toArray, List.set_cons_zero, List.set_cons_succ] at hK ⊢
   simp only [y48] at hK ⊢
   go_simp
   exact hK W (Below.refl _ _)
  ·refine .inl ⟨.inl rfl, .inl ⟨.agg #[.int .i64 b, .int .i64 1], val_only (d := 50) (by kernel_rfl), by simp, by simp, fun y W hB hO hV K Q' hK => ?_⟩⟩
   have y47 : y 47 = .func (.func 39) #[] #[] := hV (14, 47, .func (.func 39) #[] #[]) (val_get (by kernel_rfl)) (by kernel_rfl)
   have y49 : y 49 = .int .i64 b := hV (16, 49, .int .i64 b) (val_get (by kernel_rfl)) (by kernel_rfl)
   simp only [fr, putAll, List.foldl_cons, List.foldl_nil, List.setIfInBounds_toArray, List.set_cons_zero, List.set_cons_succ] at hK ⊢
   simp only [y47, y49] at hK ⊢
   go_simp
   refine (HW.out b W).mono ?_
   intro e w' h
   rw [h.1]
   exact hK w' h.2
  ·refine .inl ⟨.inl rfl, .inl ⟨.func (.func 39) #[] #[], val_only (d := 51) (by kernel_rfl), by simp, by simp, fun y W hB hO hV K Q' hK => ?_⟩⟩
   simp only [fr, putAll, List.foldl_cons, List.foldl_nil, List.setIfInBounds_toArray, List.set_cons_zero, List.set_cons_succ] at hK ⊢
   go_simp
   exact hK W (Below.refl _ _)
  ·refine .inl ⟨.inl rfl, .inl ⟨.agg #[.int .i64 1, .int .i64 1], val_only (d := 52) (by kernel_rfl), by simp, by simp, fun y W hB hO hV K Q' hK => ?_⟩⟩
   have y51 : y 51 = .func (.func 39) #[] #[] := hV (18, 51, .func (.func 39) #[] #[]) (val_get (by kernel_rfl)) (by kernel_rfl)
   simp only [fr, putAll, List.foldl_cons, List.foldl_nil, List.setIfInBounds_toArray, List.set_cons_zero, List.set_cons_succ] at hK ⊢
   simp only [y51] at hK ⊢
   go_simp
   refine (HW.out 1 W).mono ?_
   intro e w' h
   rw [h.1]
   exact hK w' h.2
  ·refine .inl ⟨.inl rfl, .inl ⟨.func (.func 39) #[] #[], val_only (d := 53) (by kernel_rfl), by simp, by simp, fun y W hB hO hV K Q' hK => ?_⟩⟩
   simp only [fr, putAll, List.foldl_cons, List.foldl_nil, List.setIfInBounds_toArray, List.set_cons_zero, List.set_cons_succ] at hK ⊢
   go_simp
   exact hK W (Below.refl _ _)
  ·refine .inl ⟨.inl rfl, .inl ⟨.agg #[.int .i64 0, .int .i64 1], val_only (d := 54) (by kernel_rfl), by simp, by simp, fun y W hB hO hV K Q' hK => ?_⟩⟩
   have y53 : y 53 = .func (.func 39) #[] #[] := hV (20, 53, .func (.func 39) #[] #[]) (val_get (by kernel_rfl)) (by kernel_rfl)
   simp only [fr, putAll, List.foldl_cons, List.foldl_nil, List.setIfInBounds_toArray, List.set_cons_zero, List.set_cons_succ] at hK ⊢
   simp only [y53] at hK ⊢
   go_simp
   refine (HW.out 0 W).mono ?_
   intro e w' h
   rw [h.1]
   exact hK w' h.2
  ·refine .inl ⟨.inl rfl, .inl ⟨.agg #[.int .i64 0, .int .i64 1, .int .i64 b, .int .i64 1, .int .i64 1, .int .i64 1, .int .i64 0, .int .i64 1], val_only (d := 55) (by kernel_rfl), by simp, by simp, fun y W hB hO hV K Q' hK => ?_⟩⟩
   have y46 : y 46 = .agg #[.int .i64 0, .int .i64 1] := hV (13, 46, .agg #[.int .i64 0, .int .i64 1]) (val_get (by kernel_rfl)) (by kernel_rfl)
   have y50 : y 50 = .agg #[.int .i64 b, .int .i64 1] := hV (17, 50, .agg #[.int .i64 b, .int .i64 1]) (val_get (by kernel_rfl)) (by kernel_rfl)
   have y52 : y 52 = .agg #[.int .i64 1, .int .i64 1] := hV (19, 52, .agg #[.int .i64 1, .int .i64 1]) (val_get (by kernel_rfl)) (by kernel_rfl)
   have y54 : y 54 = .agg #[.int .i64 0, .int .i64 1] := hV (21, 54, .agg #[.int .i64 0, .int .i64 1]) (val_get (by kernel_rfl)) (by kernel_rfl)
   simp only [fr, putAll, List.foldl_cons, List.foldl_nil, List.setIfInBounds_toArray, List.set_cons_zero, List.set_cons_succ] at hK ⊢
   simp only [y46, y50, y52, y54] at hK ⊢
   go_simp
   exact hK W (Below.refl _ _)
  ·refine .inl ⟨.inl rfl, .inr (.inr (.inr ⟨val_none (by kernel_rfl), by simp, _, lm1, rfl, ?_, by simp, fun y W hB hV hc K Q' hK => ?_⟩))⟩
   ·first | exact Nat.le_refl _ | assumption | omega | (simp; done)
   have y44 : y 44 = .agg #[.int .i64 s, .int .i64 1, .int .i64 0, .int .i64 1, .int .i64 0, .int .i64 1, .int .i64 (-s), .int .i64 1] := hV (11, 44, .agg #[.int .i64 s, .int .i64 1, .int .i64 0, .int .i64 1, .int .i64 0, .int .i64 1, .int .i64 (-s), .int .i64 1]) (val_get (by kernel_rfl)) (by kernel_rfl)
   have kk := hc.eight
   have k0 := kk.1
   have k1 := kk.2.1
   have k2 := kk.2.2.1
   have k3 := kk.2.2.2.1
   have k4 := kk.2.2.2.2.1
   have k5 := kk.2.2.2.2.2.1
   have k6 := kk.2.2.2.2.2.2.1
   have k7 := kk.2.2.2.2.2.2.2
   clear kk
   have kk := hc.fr8
   have f0 := kk.1
   have f1 := kk.2.1
   have f2 := kk.2.2.1
   have f3 := kk.2.2.2.1
   have f4 := kk.2.2.2.2.1
   have f5 := kk.2.2.2.2.2.1
   have f6 := kk.2.2.2.2.2.2.1
   have f7 := kk.2.2.2.2.2.2.2
   clear kk
   dsimp only at k0
   simp only [fr, putAll, List.foldl_cons, List.foldl_nil, List.setIfInBounds_toArray, List.set_cons_zero, List.set_cons_succ] at hK ⊢
   simp only [y44] at hK ⊢
   go_simp
   exact hK _ (hc.put8 (.int .i64 s) (.int .i64 1) (.int .i64 0) (.int .i64 1) (.int .i64 0) (.int .i64 1) (.int .i64 (-s)) (.int .i64 1)) (Only.put8 ..)
  ·refine .inl ⟨.inl rfl, .inr (.inr (.inr ⟨val_none (by kernel_rfl), by simp, _, lm0, rfl, ?_, by simp, fun y W hB hV hc K Q' hK => ?_⟩))⟩
   ·first | exact Nat.le_refl _ | assumption | omega | (simp; done)
   have y55 : y 55 = .agg #[.int .i64 0, .int .i64 1, .int .i64 b, .int .i64 1, .int .i64 1, .int .i64 1, .int .i64 0, .int .i64 1] := hV (22, 55, .agg #[.int .i64 0, .int .i64 1, .int .i64 b, .int .i64 1, .int .i64 1, .int .i64 1, .int .i64 0, .int .i64 1]) (val_get (by kernel_rfl)) (by kernel_rfl)
   have kk := hc.eight
   have k0 := kk.1
   have k1 := kk.2.1
   have k2 := kk.2.2.1
   have k3 := kk.2.2.2.1
   have k4 := kk.2.2.2.2.1
   have k5 := kk.2.2.2.2.2.1
   have k6 := kk.2.2.2.2.2.2.1
   have k7 := kk.2.2.2.2.2.2.2
   clear kk
   have kk := hc.fr8
   have f0 := kk.1
   have f1 := kk.2.1
   have f2 := kk.2.2.1
   have f3 := kk.2.2.2.1
   have f4 := kk.2.2.2.2.1
   have f5 := kk.2.2.2.2.2.1
   have f6 := kk.2.2.2.2.2.2.1
   have f7 := kk.2.2.2.2.2.2.2
   clear kk
   dsimp only at k0
   simp only [fr, putAll, List.foldl_cons, List.foldl_nil, List.setIfInBounds_toArray, List.set_cons_zero, List.set_cons_succ] at hK ⊢
   simp only [y55] at hK ⊢
   go_simp
   exact hK _ (hc.put8 (.int .i64 0) (.int .i64 1) (.int .i64 b) (.int .i64 1) (.int .i64 1) (.int .i64 1) (.int .i64 0) (.int .i64 1)) (Only.put8 ..)
  ·refine .inl ⟨.inl rfl, .inl ⟨.int .i64 0, val_only (d := 4) (by kernel_rfl), by simp, by simp, fun y W hB hO hV K Q' hK => ?_⟩⟩
   simp only [fr, putAll, List.foldl_cons, List.foldl_nil, List.setIfInBounds_toArray, List.set_cons_zero, List.set_cons_succ] at hK ⊢
   go_simp
   exact hK W (Below.refl _ _)
  intro y W8 hB hO hV hX hA
  have y33 : y 33 = .func (.func 39) #[] #[] := hV (0, 33, .func (.func 39) #[] #[]) (val_get (by kernel_rfl))
  have y34 : y 34 = .int .i64 s := hV (1, 34, .int .i64 s) (val_get (by kernel_rfl))
  have y35 : y 35 = .agg #[.int .i64 s, .int .i64 1] := hV (2, 35, .agg #[.int .i64 s, .int .i64 1]) (val_get (by kernel_rfl))
  have y36 : y 36 = .func (.func 39) #[] #[] := hV (3, 36, .func (.func 39) #[] #[]) (val_get (by kernel_rfl))
  have y37 : y 37 = .agg #[.int .i64 0, .int .i64 1] := hV (4, 37, .agg #[.int .i64 0, .int .i64 1]) (val_get (by kernel_rfl))
  have y38 : y 38 = .func (.func 39) #[] #[] := hV (5, 38, .func (.func 39) #[] #[]) (val_get (by kernel_rfl))
  have y39 : y 39 = .agg #[.int .i64 0, .int .i64 1] := hV (6, 39, .agg #[.int .i64 0, .int .i64 1]) (val_get (by kernel_rfl))
  have y40 : y 40 = .func (.func 39) #[] #[] := hV (7, 40, .func (.func 39) #[] #[]) (val_get (by kernel_rfl))
  have y41 : y 41 = .int .i64 s := hV (8, 41, .int .i64 s) (val_get (by kernel_rfl))
  have y42 : y 42 = .int .i64 (-s) := hV (9, 42, .int .i64 (-s)) (val_get (by kernel_rfl))
  have y43 : y 43 = .agg #[.int .i64 (-s), .int .i64 1] := hV (10, 43, .agg #[.int .i64 (-s), .int .i64 1]) (val_get (by kernel_rfl))
  have y44 : y 44 = .agg #[.int .i64 s, .int .i64 1, .int .i64 0, .int .i64 1, .int .i64 0, .int .i64 1, .int .i64 (-s), .int .i64 1] := hV (11, 44, .agg #[.int .i64 s, .int .i64 1, .int .i64 0, .int .i64 1, .int .i64 0, .int .i64 1, .int .i64 (-s), .int .i64 1]) (val_get (by kernel_rfl))
  have y45 : y 45 = .func (.func 39) #[] #[] := hV (12, 45, .func (.func 39) #[] #[]) (val_get (by kernel_rfl))
  have y46 : y 46 = .agg #[.int .i64 0, .int .i64 1] := hV (13, 46, .agg #[.int .i64 0, .int .i64 1]) (val_get (by kernel_rfl))
  have y47 : y 47 = .func (.func 39) #[] #[] := hV (14, 47, .func (.func 39) #[] #[]) (val_get (by kernel_rfl))
  have y48 : y 48 = .pointer (some ⟨w.heap.size, 1, none⟩) := hV (15, 48, .pointer (some ⟨w.heap.size, 1, none⟩)) (val_get (by kernel_rfl))
  have y49 : y 49 = .int .i64 b := hV (16, 49, .int .i64 b) (val_get (by kernel_rfl))
  have y50 : y 50 = .agg #[.int .i64 b, .int .i64 1] := hV (17, 50, .agg #[.int .i64 b, .int .i64 1]) (val_get (by kernel_rfl))
  have y51 : y 51 = .func (.func 39) #[] #[] := hV (18, 51, .func (.func 39) #[] #[]) (val_get (by kernel_rfl))
  have y52 : y 52 = .agg #[.int .i64 1, .int .i64 1] := hV (19, 52, .agg #[.int .i64 1, .int .i64 1]) (val_get (by kernel_rfl))
  have y53 : y 53 = .func (.func 39) #[] #[] := hV (20, 53, .func (.func 39) #[] #[]) (val_get (by kernel_rfl))
  have y54 : y 54 = .agg #[.int .i64 0, .int .i64 1] := hV (21, 54, .agg #[.int .i64 0, .int .i64 1]) (val_get (by kernel_rfl))
  have y55 : y 55 = .agg #[.int .i64 0, .int .i64 1, .int .i64 b, .int .i64 1, .int .i64 1, .int .i64 1, .int .i64 0, .int .i64 1] := hV (22, 55, .agg #[.int .i64 0, .int .i64 1, .int .i64 b, .int .i64 1, .int .i64 1, .int .i64 1, .int .i64 0, .int .i64 1]) (val_get (by kernel_rfl))
  have y4 : y 4 = .int .i64 0 := hV (25, 4, .int .i64 0) (val_get (by kernel_rfl))
  have ho0 := hO _ lm0
  have ho1 := hO _ lm1
  have ho2 := hO _ lm2
  dsimp only at ho0 ho1 ho2
  have HB8 := lhd (show Bx w [(w.heap.size + 2, #[.int .i64 0, .int .i64 1, .int .i64 b, .int .i64 1, .int .i64 1, .int .i64 1, .int .i64 0, .int .i64 1]), (w.heap.size + 1, #[.int .i64 s, .int .i64 1, .int .i64 0, .int .i64 1, .int .i64 0, .int .i64 1, .int .i64 (-s), .int .i64 1]), (w.heap.size, #[.int .i64 a, .int .i64 b])] W8 from ((((Bx.nil (HB2.out.below.trans hB)).cons (HB2.out.own _ lm2).1 ho2).cons (HB2.out.own _ lm1).1 ho1).cons (HB2.out.own _ lm0).1 ho0))
  simp only [fr, putAll, List.foldl_cons, List.foldl_nil, List.setIfInBounds_toArray, List.set_cons_zero, List.set_cons_succ]
  simp only [y33, y34, y35, y36, y37, y38, y39, y40, y41, y42, y43, y44, y45, y46, y47, y48, y49, y50, y51, y52, y53, y54, y55, y4]
  clear y33 y34 y35 y36 y37 y38 y39 y40 y41 y42 y43 y44 y45 y46 y47 y48 y49 y50 y51 y52 y53 y54 y55 y4  hB hO hV hX hA ho0 ho1 ho2
  obtain ⟨g0, g1, g2, g3, g4, g5, g6, g7⟩ := (HB8.out.own _ lm0).2.eight
  obtain ⟨k0, k1, k2, k3, k4, k5, k6, k7⟩ := (HB8.out.own _ lm1).2.eight
  go_wp2_with fail
  refine bodyPost_ret (v := .tuple #[.agg #[.int .i64 s, .int .i64 1, .int .i64 0, .int .i64 1, .int .i64 0, .int .i64 1, .int .i64 (-s), .int .i64 1], .agg #[.int .i64 0, .int .i64 1, .int .i64 b, .int .i64 1, .int .i64 1, .int .i64 1, .int .i64 0, .int .i64 1], .int .i64 0]) (by simp [results, Tryz.results11, go_sem, g0, g1, g2, g3, g4, g5, g6, g7, k0, k1, k2, k3, k4, k5, k6, k7]) rfl ?_
  exact HPo.out _ HB8.out.below
 have hbs := hzd.bounds HE.out; have hx0 := hzd.x0; have hy0 := hzd.y0; have hz0 := hzd.z0
 have HPo := lhd (split_post1 hzd HE.out hy w)
 obtain ⟨-, -, ha, -⟩ := aE_zero.1 HE.out
 have hm := Int.mul_le_mul_of_nonneg_right ha.2 hx0; have hm2 := Int.mul_le_mul_of_nonneg_right ha.1 hx0
 have u2 : -(a * x) = -a * x := (Int.neg_mul a x).symm
 have hM : -31000 ≤ -a * x ∧ -a * x ≤ 31000 := by omega
 have hF1 := fun w => qfraction_any (z) yb w ⟨by omega, by omega⟩ ⟨by omega, by omega⟩ hy
 have hF2 := fun w => qfraction_any (x) yb w ⟨by omega, by omega⟩ ⟨by omega, by omega⟩ hy
 have hF3 := fun w => qfraction_any (-a * x) yb w ⟨by omega, by omega⟩ ⟨by omega, by omega⟩ hy
 have hF4 := fun w => qfraction_any (-z) yb w ⟨by omega, by omega⟩ ⟨by omega, by omega⟩ hy
 unfold fvv at hF1 hF2 hF3 hF4
 generalize lowN (z) yb = zn at *; generalize lowD (z) yb = zd at *
 generalize lowN (x) yb = xn at *; generalize lowD (x) yb = xd at *
 generalize lowN (-a * x) yb = wn at *; generalize lowD (-a * x) yb = wd at *
 generalize lowN (-z) yb = mn at *; generalize lowD (-z) yb = md at *
 have HF1 := lhd hF1; clear hF1
 have HF2 := lhd hF2; clear hF2
 have HF3 := lhd hF3; clear hF3
 have HF4 := lhd hF4; clear hF4
 have d1 : (yb == 0) = false := beq_false_of_ne hy
 have u1 : IntKind.i64.wrap (-a) = -a := wrap_id _ (by omega) (by omega)
 have u3 : IntKind.i64.wrap (-a * x) = -a * x := wrap_id _ (by omega) (by omega)
 have u4 : IntKind.i64.wrap (-z) = -z := wrap_id _ (by omega) (by omega)
 clear hzd hbs hx0 hy0 hz0 ha hm hm2 u2 hM HE HC HS hy
 obtain ⟨c2_0, c2_1⟩ := HB2.out.two lm2
 go_wp2_with fail
 refine (HF1.out _).mono ?_
 rintro e3 w3 ⟨rfl, hbb⟩
 have HB3 := lhd (HB2.out.keep hbb)
 clear c2_0 c2_1
 clear hbb HB2
 go_wp2_with fail
 refine (HF2.out _).mono ?_
 rintro e4 w4 ⟨rfl, hbb⟩
 have HB4 := lhd (HB3.out.keep hbb)
 clear hbb HB3
 go_upto_region 10 with fail
 obtain ⟨V1, hV1⟩ : ∃ V1 : World, V1 = ((w4.alloc (.cells #[.int .i64 zn, .int .i64 zd] 25)).alloc (.cells #[.int .i64 xn, .int .i64 xd] 25)) := ⟨_, rfl⟩
 rw [← hV1]
 have HV1 := lhd (show Bx w [(w4.heap.size + 1, #[.int .i64 xn, .int .i64 xd]), (w4.heap.size, #[.int .i64 zn, .int .i64 zd]), (w.heap.size + 2, #[.int .i64 0, .int .i64 0, .int .i64 0, .int .i64 0, .int .i64 0, .int .i64 0, .int .i64 0, .int .i64 0]), (w.heap.size + 1, #[.int .i64 0, .int .i64 0, .int .i64 0, .int .i64 0, .int .i64 0, .int .i64 0, .int .i64 0, .int .i64 0]), (w.heap.size, #[.int .i64 a, .int .i64 b])] V1 by rw [hV1]; simpa using ((HB4.out.new #[.int .i64 zn, .int .i64 zd] 25).new #[.int .i64 xn, .int .i64 xd] 25))
 have hlt := (HB4.out.own _ lm0).2.1
 clear hV1 HB4
 generalize w4.heap.size = BF at *
 have n0 : ¬ BF = w.heap.size := by omega
 have n1 : ¬ BF = w.heap.size + 1 := by omega
 have n2 : ¬ BF = w.heap.size + 2 := by omega
 refine wp_region_inv (w.heap.size) [(0, 62, .func (.func 39) #[] #[]), (1, 63, .agg #[.int .i64 0, .int .i64 1]), (2, 64, .func (.func 39) #[] #[]), (3, 65, .pointer (some ⟨w.heap.size, 0, none⟩)), (4, 66, .int .i64 a), (5, 67, .agg #[.int .i64 a, .int .i64 1]), (6, 68, .func (.func 39) #[] #[]), (7, 69, .agg #[.int .i64 1, .int .i64 1]), (8, 70, .func (.func 39) #[] #[]), (9, 71, .agg #[.int .i64 0, .int .i64 1]), (10, 72, .agg #[.int .i64 0, .int .i64 1, .int .i64 a, .int .i64 1, .int .i64 1, .int .i64 1, .int .i64 0, .int .i64 1]), (11, 73, .agg #[.int .i64 zn, .int .i64 zd]), (12, 74, .pointer (some ⟨w.heap.size, 0, none⟩)), (13, 75, .int .i64 a), (14, 76, .int .i64 (-a)), (15, 77, .int .i64 x), (16, 78, .int .i64 (-a * x)), (17, 79, .int .i64 yb), (18, 80, .agg #[.int .i64 wn, .int .i64 wd]), (19, 81, .agg #[.int .i64 xn, .int .i64 xd]), (20, 82, .int .i64 z), (21, 83, .int .i64 (-z)), (22, 84, .int .i64 yb), (23, 85, .agg #[.int .i64 mn, .int .i64 md]), (24, 86, .agg #[.int .i64 zn, .int .i64 zd, .int .i64 wn, .int .i64 wd, .int .i64 xn, .int .i64 xd, .int .i64 mn, .int .i64 md]), (27, 4, .int .i64 0)] [] [⟨BF + 1, 999, #[.int .i64 xn, .int .i64 xd], #[.int .i64 xn, .int .i64 xd]⟩, ⟨BF, 999, #[.int .i64 zn, .int .i64 zd], #[.int .i64 zn, .int .i64 zd]⟩, ⟨w.heap.size + 2, 26, #[.int .i64 0, .int .i64 0, .int .i64 0, .int .i64 0, .int .i64 0, .int .i64 0, .int .i64 0, .int .i64 0], #[.int .i64 zn, .int .i64 zd, .int .i64 wn, .int .i64 wd, .int .i64 xn, .int .i64 xd, .int .i64 mn, .int .i64 md]⟩, ⟨w.heap.size + 1, 25, #[.int .i64 0, .int .i64 0, .int .i64 0, .int .i64 0, .int .i64 0, .int .i64 0, .int .i64 0, .int .i64 0], #[.int .i64 0, .int .i64 1, .int .i64 a, .int .i64 1, .int .i64 1, .int .i64 1, .int .i64 0, .int .i64 1]⟩, ⟨w.heap.size, 999, #[.int .i64 a, .int .i64 b], #[.int .i64 a, .int .i64 b]⟩] [62, 63, 64, 65, 66, 67, 68, 69, 70, 71, 72, 73, 74, 75, 76, 77, 78, 79, 80, 81, 82, 83, 84, 85, 86, 4] ?_ (by kernel_rfl) (by kernel_rfl) (by kernel_rfl) ?_ (forall_ops ⟨?_, ?_, ?_, ?_, ?_, ?_, ?_, ?_, ?_, ?_, ?_, ?_, ?_, ?_, ?_, ?_, ?_, ?_, ?_, ?_, ?_, ?_, ?_, ?_, ?_, ?_, ?_, ?_, trivial⟩) ?_
 ·exact HV1.out.below.size
 ·intro c hc
  simp only [List.mem_cons, List.not_mem_nil, or_false] at hc
  rcases hc with rfl | rfl | rfl | rfl | rfl
  ·exact ⟨(HV1.out.own _ lm0).2, .inr rfl⟩
  ·exact ⟨(HV1.out.own _ lm1).2, .inr rfl⟩
  ·exact ⟨(HV1.out.own _ lm2).2, .inl (by simp)⟩
  ·exact ⟨(HV1.out.own _ lm3).2, .inl (by simp)⟩
  ·exact ⟨(HV1.out.own _ lm4).2, .inr rfl⟩
 ·refine .inl ⟨.inl rfl, .inl ⟨.func (.func 39) #[] #[], val_only (d := 62) (by kernel_rfl), by simp, by simp, fun y W hB hO hV K Q' hK => ?_⟩⟩
  simp only [fr, putAll, List.foldl_cons, List.foldl_nil, List.setIfInBounds_toArray, List.set_cons_zero, List.set_cons_succ] at hK ⊢
  go_simp
  exact hK W (Below.refl _ _)
 ·refine .inl ⟨.inl rfl, .inl ⟨.agg #[.int .i64 0, .int .i64 1], val_only (d := 63) (by kernel_rfl), by simp, by simp, fun y W hB hO hV K Q' hK => ?_⟩⟩
  have y62 : y 62 = .func (.func 39) #[] #[] := hV (0, 62, .func (.func 39) #[] #[]) (val_get (by kernel_rfl)) (by kernel_rfl)
  simp only [fr, putAll, List.foldl_cons, List.foldl_nil, List.setIfInBounds_toArray, List.set_cons_zero, List.set_cons_succ] at hK ⊢
  simp only [y62] at hK ⊢
  go_simp
  refine (HW.out 0 W).mono ?_
  intro e w' h
  rw [h.1]
  exact hK w' h.2
 ·refine .inl ⟨.inl rfl, .inl ⟨.func (.func 39) #[] #[], val_only (d := 64) (by kernel_rfl), by simp, by simp, fun y W hB hO hV K Q' hK => ?_⟩⟩
  simp only [fr, putAll, List.foldl_cons, List.foldl_nil, List.setIfInBounds_toArray, List.set_cons_zero, List.set_cons_succ] at hK ⊢
  go_simp
  exact hK W (Below.refl _ _)
 ·refine .inl ⟨.inl rfl, .inl ⟨.pointer (some ⟨w.heap.size, 0, none⟩), val_only (d := 65) (by kernel_rfl), by simp, by simp, fun y W hB hO hV K Q' hK => ?_⟩⟩
  simp only [fr, putAll, List.foldl_cons, List.foldl_nil, List.setIfInBounds_toArray, List.set_cons_zero, List.set_cons_succ] at hK ⊢
  go_simp
  exact hK W (Below.refl _ _)
 ·refine .inl ⟨.inl rfl, .inl ⟨.int .i64 a, val_only (d := 66) (by kernel_rfl), by simp, by simp, fun y W hB hO hV K Q' hK => ?_⟩⟩
  have y65 : y 65 = .pointer (some ⟨w.heap.size, 0, none⟩) := hV (3, 65, .pointer (some ⟨w.heap.size, 0, none⟩)) (val_get (by kernel_rfl)) (by kernel_rfl)
  have hc : Cells W (w.heap.size) #[.int .i64 a, .int .i64 b] := hO _ lm4 rfl
  have kk := hc.two
  have k0 := kk.1
  have k1 := kk.2
  clear kk
  simp only [fr, putAll, List.foldl_cons, List.foldl_nil, List.setIfInBounds_toArray, List.set_cons_zero, List.set_cons_succ] at hK ⊢
  simp only [y65] at hK ⊢
  go_simp
  exact hK W (Below.refl _ _)
 ·refine .inl ⟨.inl rfl, .inl ⟨.agg #[.int .i64 a, .int .i64 1], val_only (d := 67) (by kernel_rfl), by simp, by simp, fun y W hB hO hV K Q' hK => ?_⟩⟩
  have y64 : y 64 = .func (.func 39) #[] #[] := hV (2, 64, .func (.func 39) #[] #[]) (val_get (by kernel_rfl)) (by kernel_rfl)
  have y66 : y 66 = .int .i64 a := hV (4, 66, .int .i64 a) (val_get (by kernel_rfl)) (by kernel_rfl)
  simp only [fr, putAll, List.foldl_cons, List.foldl_nil, List.setIfInBounds_toArray, List.set_cons_zero, List.set_cons_succ] at hK ⊢
  simp only [y64, y66] at hK ⊢
  go_simp
  refine (HW.out a W).mono ?_
  intro e w' h
  rw [h.1]
  exact hK w' h.2
 ·refine .inl ⟨.inl rfl, .inl ⟨.func (.func 39) #[] #[], val_only (d := 68) (by kernel_rfl), by simp, by simp, fun y W hB hO hV K Q' hK => ?_⟩⟩
  simp only [fr, putAll, List.foldl_cons, List.foldl_nil, List.setIfInBounds_toArray, List.set_cons_zero, List.set_cons_succ] at hK ⊢
  go_simp
  exact hK W (Below.refl _ _)
 ·refine .inl ⟨.inl rfl, .inl ⟨.agg #[.int .i64 1, .int .i64 1], val_only (d := 69) (by kernel_rfl), by simp, by simp, fun y W hB hO hV K Q' hK => ?_⟩⟩
  have y68 : y 68 = .func (.func 39) #[] #[] := hV (6, 68, .func (.func 39) #[] #[]) (val_get (by kernel_rfl)) (by kernel_rfl)
  simp only [fr, putAll, List.foldl_cons, List.foldl_nil, List.setIfInBounds_toArray, List.set_cons_zero, List.set_cons_succ] at hK ⊢
  simp only [y68] at hK ⊢
  go_simp
  refine (HW.out 1 W).mono ?_
  intro e w' h
  rw [h.1]
  exact hK w' h.2
 ·refine .inl ⟨.inl rfl, .inl ⟨.func (.func 39) #[] #[], val_only (d := 70) (by kernel_rfl), by simp, by simp, fun y W hB hO hV K Q' hK => ?_⟩⟩
  simp only [fr, putAll, List.foldl_cons, List.foldl_nil, List.setIfInBounds_toArray, List.set_cons_zero, List.set_cons_succ] at hK ⊢
  go_simp
  exact hK W (Below.refl _ _)
 ·refine .inl ⟨.inl rfl, .inl ⟨.agg #[.int .i64 0, .int .i64 1], val_only (d := 71) (by kernel_rfl), by simp, by simp, fun y W hB hO hV K Q' hK => ?_⟩⟩
  have y70 : y 70 = .func (.func 39) #[] #[] := hV (8, 70, .func (.func 39) #[] #[]) (val_get (by kernel_rfl)) (by kernel_rfl)
  simp only [fr, putAll, List.foldl_cons, List.foldl_nil, List.setIfInBounds_toArray, List.set_cons_zero, List.set_cons_succ] at hK ⊢
  simp only [y70] at hK ⊢
  go_simp
  refine (HW.out 0 W).mono ?_
  intro e w' h
  rw [h.1]
  exact hK w' h.2
 ·refine .inl ⟨.inl rfl, .inl ⟨.agg #[.int .i64 0, .int .i64 1, .int .i64 a, .int .i64 1, .int .i64 1, .int .i64 1, .int .i64 0, .int .i64 1], val_only (d := 72) (by kernel_rfl), by simp, by simp, fun y W hB hO hV K Q' hK => ?_⟩⟩
  have y63 : y 63 = .agg #[.int .i64 0, .int .i64 1] := hV (1, 63, .agg #[.int .i64 0, .int .i64 1]) (val_get (by kernel_rfl)) (by kernel_rfl)
  have y67 : y 67 = .agg #[.int .i64 a, .int .i64 1] := hV (5, 67, .agg #[.int .i64 a, .int .i64 1]) (val_get (by kernel_rfl)) (by kernel_rfl)
  have y69 : y 69 = .agg #[.int .i64 1, .int .i64 1] := hV (7, 69, .agg #[.int .i64 1, .int .i64 1]) (val_get (by kernel_rfl)) (by kernel_rfl)
  have y71 : y 71 = .agg #[.int .i64 0, .int .i64 1] := hV (9, 71, .agg #[.int .i64 0, .int .i64 1]) (val_get (by kernel_rfl)) (by kernel_rfl)
  simp only [fr, putAll, List.foldl_cons, List.foldl_nil, List.setIfInBounds_toArray, List.set_cons_zero, List.set_cons_succ] at hK ⊢
  simp only [y63, y67, y69, y71] at hK ⊢
  go_simp
  exact hK W (Below.refl _ _)
 ·refine .inl ⟨.inl rfl, .inl ⟨.agg #[.int .i64 zn, .int .i64 zd], val_only (d := 73) (by kernel_rfl), by simp, by simp, fun y W hB hO hV K Q' hK => ?_⟩⟩
  have hc : Cells W (BF) #[.int .i64 zn, .int .i64 zd] := hO _ lm1 rfl
  have kk := hc.two
  have k0 := kk.1
  have k1 := kk.2
  clear kk
  simp only [fr, putAll, List.foldl_cons, List.foldl_nil, List.setIfInBounds_toArray, List.set_cons_zero, List.set_cons_succ] at hK ⊢
  go_simp
  exact hK W (Below.refl _ _)
 ·refine .inl ⟨.inl rfl, .inl ⟨.pointer (some ⟨w.heap.size, 0, none⟩), val_only (d := 74) (by kernel_rfl), by simp, by simp, fun y W hB hO hV K Q' hK => ?_⟩⟩
  simp only [fr, putAll, List.foldl_cons, List.foldl_nil, List.setIfInBounds_toArray, List.set_cons_zero, List.set_cons_succ] at hK ⊢
  go_simp
  exact hK W (Below.refl _ _)
 ·refine .inl ⟨.inl rfl, .inl ⟨.int .i64 a, val_only (d := 75) (by kernel_rfl), by simp, by simp, fun y W hB hO hV K Q' hK => ?_⟩⟩
  have y74 : y 74 = .pointer (some ⟨w.heap.size, 0, none⟩) := hV (12, 74, .pointer (some ⟨w.heap.size, 0, none⟩)) (val_get (by kernel_rfl)) (by kernel_rfl)
  have hc : Cells W (w.heap.size) #[.int .i64 a, .int .i64 b] := hO _ lm4 rfl
  have kk := hc.two
  have k0 := kk.1
  have k1 := kk.2
  clear kk
  simp only [fr, putAll, List.foldl_cons, List.foldl_nil, List.setIfInBounds_toArray, List.set_cons_zero, List.set_cons_succ] at hK ⊢
  simp only [y74] at hK ⊢
  go_simp
  exact hK W (Below.refl _ _)
 ·refine .inl ⟨.inl rfl, .inl ⟨.int .i64 (-a), val_only (d := 76) (by kernel_rfl), by simp, by simp, fun y W hB hO hV K Q' hK => ?_⟩⟩
  have y75 : y 75 = .int .i64 a := hV (13, 75, .int .i64 a) (val_get (by kernel_rfl)) (by kernel_rfl)
  simp only [fr, putAll, List.foldl_cons, List.foldl_nil, List.setIfInBounds_toArray, List.set_cons_zero, List.set_cons_succ] at hK ⊢
  simp only [y75] at hK ⊢
  go_simp
  exact hK W (Below.refl _ _)
 ·refine .inl ⟨.inl rfl, .inl ⟨.int .i64 x, val_only (d := 77) (by kernel_rfl), by simp, by simp, fun y W hB hO hV K Q' hK => ?_⟩⟩
  simp only [fr, putAll, List.foldl_cons, List.foldl_nil, List.setIfInBounds_toArray, List.set_cons_zero, List.set_cons_succ] at hK ⊢
  go_simp
  exact hK W (Below.refl _ _)
 ·refine .inl ⟨.inl rfl, .inl ⟨.int .i64 (-a * x), val_only (d := 78) (by kernel_rfl), by simp, by simp, fun y W hB hO hV K Q' hK => ?_⟩⟩
  have y76 : y 76 = .int .i64 (-a) := hV (14, 76, .int .i64 (-a)) (val_get (by kernel_rfl)) (by kernel_rfl)
  have y77 : y 77 = .int .i64 x := hV (15, 77, .int .i64 x) (val_get (by kernel_rfl)) (by kernel_rfl)
  simp only [fr, putAll, List.foldl_cons, List.foldl_nil, List.setIfInBounds_toArray, List.set_cons_zero, List.set_cons_succ] at hK ⊢
  simp only [y76, y77] at hK ⊢
  go_simp
  exact hK W (Below.refl _ _)
 ·refine .inl ⟨.inl rfl, .inl ⟨.int .i64 yb, val_only (d := 79) (by kernel_rfl), by simp, by simp, fun y W hB hO hV K Q' hK => ?_⟩⟩
  simp only [fr, putAll, List.foldl_cons, List.foldl_nil, List.setIfInBounds_toArray, List.set_cons_zero, List.set_cons_succ] at hK ⊢
  go_simp
  exact hK W (Below.refl _ _)
 ·refine .inl ⟨.inl rfl, .inl ⟨.agg #[.int .i64 wn, .int .i64 wd], val_only (d := 80) (by kernel_rfl), by simp, by simp, fun y W hB hO hV K Q' hK => ?_⟩⟩
  have y78 : y 78 = .int .i64 (-a * x) := hV (16, 78, .int .i64 (-a * x)) (val_get (by kernel_rfl)) (by kernel_rfl)
  have y79 : y 79 = .int .i64 yb := hV (17, 79, .int .i64 yb) (val_get (by kernel_rfl)) (by kernel_rfl)
  simp only [fr, putAll, List.foldl_cons, List.foldl_nil, List.setIfInBounds_toArray, List.set_cons_zero, List.set_cons_succ] at hK ⊢
  simp only [y78, y79] at hK ⊢
  go_simp
  refine (HF3.out W).mono ?_
  intro e w' h
  rw [h.1]
  exact hK w' h.2
 ·refine .inl ⟨.inl rfl, .inl ⟨.agg #[.int .i64 xn, .int .i64 xd], val_only (d := 81) (by kernel_rfl), by simp, by simp, fun y W hB hO hV K Q' hK => ?_⟩⟩
  have hc : Cells W (BF + 1) #[.int .i64 xn, .int .i64 xd] := hO _ lm0 rfl
  have kk := hc.two
  have k0 := kk.1
  have k1 := kk.2
  clear kk
  simp only [fr, putAll, List.foldl_cons, List.foldl_nil, List.setIfInBounds_toArray, List.set_cons_zero, List.set_cons_succ] at hK ⊢
  go_simp
  exact hK W (Below.refl _ _)
 ·refine .inl ⟨.inl rfl, .inl ⟨.int .i64 z, val_only (d := 82) (by kernel_rfl), by simp, by simp, fun y W hB hO hV K Q' hK => ?_⟩⟩
  simp only [fr, putAll, List.foldl_cons, List.foldl_nil, List.setIfInBounds_toArray, List.set_cons_zero, List.set_cons_succ] at hK ⊢
  go_simp
  exact hK W (Below.refl _ _)
 ·refine .inl ⟨.inl rfl, .inl ⟨.int .i64 (-z), val_only (d := 83) (by kernel_rfl), by simp, by simp, fun y W hB hO hV K Q' hK => ?_⟩⟩
  have y82 : y 82 = .int .i64 z := hV (20, 82, .int .i64 z) (val_get (by kernel_rfl)) (by kernel_rfl)
  simp only [fr, putAll, List.foldl_cons, List.foldl_nil, List.setIfInBounds_toArray, List.set_cons_zero, List.set_cons_succ] at hK ⊢
  simp only [y82] at hK ⊢
  go_simp
  exact hK W (Below.refl _ _)
 ·refine .inl ⟨.inl rfl, .inl ⟨.int .i64 yb, val_only (d := 84) (by kernel_rfl), by simp, by simp, fun y W hB hO hV K Q' hK => ?_⟩⟩
  simp only [fr, putAll, List.foldl_cons, List.foldl_nil, List.setIfInBounds_toArray, List.set_cons_zero, List.set_cons_succ] at hK ⊢
  go_simp
  exact hK W (Below.refl _ _)
 ·refine .inl ⟨.inl rfl, .inl ⟨.agg #[.int .i64 mn, .int .i64 md], val_only (d := 85) (by kernel_rfl), by simp, by simp, fun y W hB hO hV K Q' hK => ?_⟩⟩
  have y83 : y 83 = .int .i64 (-z) := hV (21, 83, .int .i64 (-z)) (val_get (by kernel_rfl)) (by kernel_rfl)
  have y84 : y 84 = .int .i64 yb := hV (22, 84, .int .i64 yb) (val_get (by kernel_rfl)) (by kernel_rfl)
  simp only [fr, putAll, List.foldl_cons, List.foldl_nil, List.setIfInBounds_toArray, List.set_cons_zero, List.set_cons_succ] at hK ⊢
  simp only [y83, y84] at hK ⊢
  go_simp
  refine (HF4.out W).mono ?_
  intro e w' h
  rw [h.1]
  exact hK w' h.2
 ·refine .inl ⟨.inl rfl, .inl ⟨.agg #[.int .i64 zn, .int .i64 zd, .int .i64 wn, .int .i64 wd, .int .i64 xn, .int .i64 xd, .int .i64 mn, .int .i64 md], val_only (d := 86) (by kernel_rfl), by simp, by simp, fun y W hB hO hV K Q' hK => ?_⟩⟩
  have y73 : y 73 = .agg #[.int .i64 zn, .int .i64 zd] := hV (11, 73, .agg #[.int .i64 zn, .int .i64 zd]) (val_get (by kernel_rfl)) (by kernel_rfl)
  have y80 : y 80 = .agg #[.int .i64 wn, .int .i64 wd] := hV (18, 80, .agg #[.int .i64 wn, .int .i64 wd]) (val_get (by kernel_rfl)) (by kernel_rfl)
  have y81 : y 81 = .agg #[.int .i64 xn, .int .i64 xd] := hV (19, 81, .agg #[.int .i64 xn, .int .i64 xd]) (val_get (by kernel_rfl)) (by kernel_rfl)
  have y85 : y 85 = .agg #[.int .i64 mn, .int .i64 md] := hV (23, 85, .agg #[.int .i64 mn, .int .i64 md]) (val_get (by kernel_rfl)) (by kernel_rfl)
  simp only [fr, putAll, List.foldl_cons, List.foldl_nil, List.setIfInBounds_toArray, List.set_cons_zero, List.set_cons_succ] at hK ⊢
  simp only [y73, y80, y81, y85] at hK ⊢
  go_simp
  exact hK W (Below.refl _ _)
 ·refine .inl ⟨.inl rfl, .inr (.inr (.inr ⟨val_none (by kernel_rfl), by simp, _, lm3, rfl, ?_, by simp; omega, fun y W hB hV hc K Q' hK => ?_⟩))⟩
  ·first | exact Nat.le_refl _ | assumption | omega | (simp; done)
  have y72 : y 72 = .agg #[.int .i64 0, .int .i64 1, .int .i64 a, .int .i64 1, .int .i64 1, .int .i64 1, .int .i64 0, .int .i64 1] := hV (10, 72, .agg #[.int .i64 0, .int .i64 1, .int .i64 a, .int .i64 1, .int .i64 1, .int .i64 1, .int .i64 0, .int .i64 1]) (val_get (by kernel_rfl)) (by kernel_rfl)
  have kk := hc.eight
  have k0 := kk.1
  have k1 := kk.2.1
  have k2 := kk.2.2.1
  have k3 := kk.2.2.2.1
  have k4 := kk.2.2.2.2.1
  have k5 := kk.2.2.2.2.2.1
  have k6 := kk.2.2.2.2.2.2.1
  have k7 := kk.2.2.2.2.2.2.2
  clear kk
  have kk := hc.fr8
  have f0 := kk.1
  have f1 := kk.2.1
  have f2 := kk.2.2.1
  have f3 := kk.2.2.2.1
  have f4 := kk.2.2.2.2.1
  have f5 := kk.2.2.2.2.2.1
  have f6 := kk.2.2.2.2.2.2.1
  have f7 := kk.2.2.2.2.2.2.2
  clear kk
  dsimp only at k0
  simp only [fr, putAll, List.foldl_cons, List.foldl_nil, List.setIfInBounds_toArray, List.set_cons_zero, List.set_cons_succ] at hK ⊢
  simp only [y72] at hK ⊢
  go_simp
  exact hK _ (hc.put8 (.int .i64 0) (.int .i64 1) (.int .i64 a) (.int .i64 1) (.int .i64 1) (.int .i64 1) (.int .i64 0) (.int .i64 1)) (Only.put8 ..)
 ·refine .inl ⟨.inl rfl, .inr (.inr (.inr ⟨val_none (by kernel_rfl), by simp, _, lm2, rfl, ?_, by simp; omega, fun y W hB hV hc K Q' hK => ?_⟩))⟩
  ·first | exact Nat.le_refl _ | assumption | omega | (simp; done)
  have y86 : y 86 = .agg #[.int .i64 zn, .int .i64 zd, .int .i64 wn, .int .i64 wd, .int .i64 xn, .int .i64 xd, .int .i64 mn, .int .i64 md] := hV (24, 86, .agg #[.int .i64 zn, .int .i64 zd, .int .i64 wn, .int .i64 wd, .int .i64 xn, .int .i64 xd, .int .i64 mn, .int .i64 md]) (val_get (by kernel_rfl)) (by kernel_rfl)
  have kk := hc.eight
  have k0 := kk.1
  have k1 := kk.2.1
  have k2 := kk.2.2.1
  have k3 := kk.2.2.2.1
  have k4 := kk.2.2.2.2.1
  have k5 := kk.2.2.2.2.2.1
  have k6 := kk.2.2.2.2.2.2.1
  have k7 := kk.2.2.2.2.2.2.2
  clear kk
  have kk := hc.fr8
  have f0 := kk.1
  have f1 := kk.2.1
  have f2 := kk.2.2.1
  have f3 := kk.2.2.2.1
  have f4 := kk.2.2.2.2.1
  have f5 := kk.2.2.2.2.2.1
  have f6 := kk.2.2.2.2.2.2.1
  have f7 := kk.2.2.2.2.2.2.2
  clear kk
  dsimp only at k0
  simp only [fr, putAll, List.foldl_cons, List.foldl_nil, List.setIfInBounds_toArray, List.set_cons_zero, List.set_cons_succ] at hK ⊢
  simp only [y86] at hK ⊢
  go_simp
  exact hK _ (hc.put8 (.int .i64 zn) (.int .i64 zd) (.int .i64 wn) (.int .i64 wd) (.int .i64 xn) (.int .i64 xd) (.int .i64 mn) (.int .i64 md)) (Only.put8 ..)
 ·refine .inl ⟨.inl rfl, .inl ⟨.int .i64 0, val_only (d := 4) (by kernel_rfl), by simp, by simp, fun y W hB hO hV K Q' hK => ?_⟩⟩
  simp only [fr, putAll, List.foldl_cons, List.foldl_nil, List.setIfInBounds_toArray, List.set_cons_zero, List.set_cons_succ] at hK ⊢
  go_simp
  exact hK W (Below.refl _ _)
 intro y W8 hB hO hV hX hA
 have y62 : y 62 = .func (.func 39) #[] #[] := hV (0, 62, .func (.func 39) #[] #[]) (val_get (by kernel_rfl))
 have y63 : y 63 = .agg #[.int .i64 0, .int .i64 1] := hV (1, 63, .agg #[.int .i64 0, .int .i64 1]) (val_get (by kernel_rfl))
 have y64 : y 64 = .func (.func 39) #[] #[] := hV (2, 64, .func (.func 39) #[] #[]) (val_get (by kernel_rfl))
 have y65 : y 65 = .pointer (some ⟨w.heap.size, 0, none⟩) := hV (3, 65, .pointer (some ⟨w.heap.size, 0, none⟩)) (val_get (by kernel_rfl))
 have y66 : y 66 = .int .i64 a := hV (4, 66, .int .i64 a) (val_get (by kernel_rfl))
 have y67 : y 67 = .agg #[.int .i64 a, .int .i64 1] := hV (5, 67, .agg #[.int .i64 a, .int .i64 1]) (val_get (by kernel_rfl))
 have y68 : y 68 = .func (.func 39) #[] #[] := hV (6, 68, .func (.func 39) #[] #[]) (val_get (by kernel_rfl))
 have y69 : y 69 = .agg #[.int .i64 1, .int .i64 1] := hV (7, 69, .agg #[.int .i64 1, .int .i64 1]) (val_get (by kernel_rfl))
 have y70 : y 70 = .func (.func 39) #[] #[] := hV (8, 70, .func (.func 39) #[] #[]) (val_get (by kernel_rfl))
 have y71 : y 71 = .agg #[.int .i64 0, .int .i64 1] := hV (9, 71, .agg #[.int .i64 0, .int .i64 1]) (val_get (by kernel_rfl))
 have y72 : y 72 = .agg #[.int .i64 0, .int .i64 1, .int .i64 a, .int .i64 1, .int .i64 1, .int .i64 1, .int .i64 0, .int .i64 1] := hV (10, 72, .agg #[.int .i64 0, .int .i64 1, .int .i64 a, .int .i64 1, .int .i64 1, .int .i64 1, .int .i64 0, .int .i64 1]) (val_get (by kernel_rfl))
 have y73 : y 73 = .agg #[.int .i64 zn, .int .i64 zd] := hV (11, 73, .agg #[.int .i64 zn, .int .i64 zd]) (val_get (by kernel_rfl))
 have y74 : y 74 = .pointer (some ⟨w.heap.size, 0, none⟩) := hV (12, 74, .pointer (some ⟨w.heap.size, 0, none⟩)) (val_get (by kernel_rfl))
 have y75 : y 75 = .int .i64 a := hV (13, 75, .int .i64 a) (val_get (by kernel_rfl))
 have y76 : y 76 = .int .i64 (-a) := hV (14, 76, .int .i64 (-a)) (val_get (by kernel_rfl))
 have y77 : y 77 = .int .i64 x := hV (15, 77, .int .i64 x) (val_get (by kernel_rfl))
 have y78 : y 78 = .int .i64 (-a * x) := hV (16, 78, .int .i64 (-a * x)) (val_get (by kernel_rfl))
 have y79 : y 79 = .int .i64 yb := hV (17, 79, .int .i64 yb) (val_get (by kernel_rfl))
 have y80 : y 80 = .agg #[.int .i64 wn, .int .i64 wd] := hV (18, 80, .agg #[.int .i64 wn, .int .i64 wd]) (val_get (by kernel_rfl))
 have y81 : y 81 = .agg #[.int .i64 xn, .int .i64 xd] := hV (19, 81, .agg #[.int .i64 xn, .int .i64 xd]) (val_get (by kernel_rfl))
 have y82 : y 82 = .int .i64 z := hV (20, 82, .int .i64 z) (val_get (by kernel_rfl))
 have y83 : y 83 = .int .i64 (-z) := hV (21, 83, .int .i64 (-z)) (val_get (by kernel_rfl))
 have y84 : y 84 = .int .i64 yb := hV (22, 84, .int .i64 yb) (val_get (by kernel_rfl))
 have y85 : y 85 = .agg #[.int .i64 mn, .int .i64 md] := hV (23, 85, .agg #[.int .i64 mn, .int .i64 md]) (val_get (by kernel_rfl))
 have y86 : y 86 = .agg #[.int .i64 zn, .int .i64 zd, .int .i64 wn, .int .i64 wd, .int .i64 xn, .int .i64 xd, .int .i64 mn, .int .i64 md] := hV (24, 86, .agg #[.int .i64 zn, .int .i64 zd, .int .i64 wn, .int .i64 wd, .int .i64 xn, .int .i64 xd, .int .i64 mn, .int .i64 md]) (val_get (by kernel_rfl))
 have y4 : y 4 = .int .i64 0 := hV (27, 4, .int .i64 0) (val_get (by kernel_rfl))
 have ho0 := hO _ lm0
 have ho1 := hO _ lm1
 have ho2 := hO _ lm2
 have ho3 := hO _ lm3
 have ho4 := hO _ lm4
 dsimp only at ho0 ho1 ho2 ho3 ho4
 have HB8 := lhd (show Bx w [(BF + 1, #[.int .i64 xn, .int .i64 xd]), (BF, #[.int .i64 zn, .int .i64 zd]), (w.heap.size + 2, #[.int .i64 zn, .int .i64 zd, .int .i64 wn, .int .i64 wd, .int .i64 xn, .int .i64 xd, .int .i64 mn, .int .i64 md]), (w.heap.size + 1, #[.int .i64 0, .int .i64 1, .int .i64 a, .int .i64 1, .int .i64 1, .int .i64 1, .int .i64 0, .int .i64 1]), (w.heap.size, #[.int .i64 a, .int .i64 b])] W8 from ((((((Bx.nil (HV1.out.below.trans hB)).cons (HV1.out.own _ lm4).1 ho4).cons (HV1.out.own _ lm3).1 ho3).cons (HV1.out.own _ lm2).1 ho2).cons (HV1.out.own _ lm1).1 ho1).cons (HV1.out.own _ lm0).1 ho0))
 simp only [fr, putAll, List.foldl_cons, List.foldl_nil, List.setIfInBounds_toArray, List.set_cons_zero, List.set_cons_succ]
 simp only [y62, y63, y64, y65, y66, y67, y68, y69, y70, y71, y72, y73, y74, y75, y76, y77, y78, y79, y80, y81, y82, y83, y84, y85, y86, y4]
 clear y62 y63 y64 y65 y66 y67 y68 y69 y70 y71 y72 y73 y74 y75 y76 y77 y78 y79 y80 y81 y82 y83 y84 y85 y86 y4  hB hO hV hX hA ho0 ho1 ho2 ho3 ho4
 obtain ⟨g0, g1, g2, g3, g4, g5, g6, g7⟩ := (HB8.out.own _ lm2).2.eight
 obtain ⟨k0, k1, k2, k3, k4, k5, k6, k7⟩ := (HB8.out.own _ lm3).2.eight
 go_wp2_with fail
 refine bodyPost_ret (v := .tuple #[.agg #[.int .i64 0, .int .i64 1, .int .i64 a, .int .i64 1, .int .i64 1, .int .i64 1, .int .i64 0, .int .i64 1], .agg #[.int .i64 zn, .int .i64 zd, .int .i64 wn, .int .i64 wd, .int .i64 xn, .int .i64 xd, .int .i64 mn, .int .i64 md], .int .i64 0]) (by simp [results, Tryz.results11, go_sem, g0, g1, g2, g3, g4, g5, g6, g7, k0, k1, k2, k3, k4, k5, k6, k7]) rfl ?_
 exact HPo.out _ HB8.out.below
end Go.Proofs.YtimdkjbmeogpoaaGreatDoor
