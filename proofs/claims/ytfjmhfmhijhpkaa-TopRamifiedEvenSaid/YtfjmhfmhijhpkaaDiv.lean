/- splits and Divisor: an algebra that splits has an element of norm 0. -/
import Derived.Test.YtfjmhfmhijhpkaaSlv
import Derived.Test.YtfjmhfmhijhpkaaRrm
import Derived.Test.YtfjmhfmhijhpkaaSmb
namespace Go.Proofs.Ytfjmhfmhijhpkaa
open Go.RowKit FF

/-- the error of an algebra that has to split -/
def spE (a b : Int) : Int := if aE a b = 0 then (if ramL a b 999 = [] then 0 else 13) else aE a b
theorem spE_bad {a b : Int} (h : aE a b ≠ 0) : spE a b = aE a b := if_neg h
theorem spE_zero {a b : Int} : spE a b = 0 ↔ aE a b = 0 ∧ ramL a b 999 = [] := by
  unfold spE
  by_cases h : aE a b = 0
  · rw [if_pos h]
    by_cases g : ramL a b 999 = []
    · rw [if_pos g]; exact ⟨fun _ => ⟨h, g⟩, fun _ => rfl⟩
    · rw [if_neg g]; exact ⟨fun k => by omega, fun k => absurd k.2 g⟩
  · rw [if_neg h]; exact ⟨fun k => absurd k h, fun k => absurd k.1 h⟩
theorem nrm_one' (z x y : Int) : nrm ⟨z, x, y, 0, 1⟩ = ⟨z, x, y, 0, 1⟩ := by
  have e : gs ⟨z, x, y, 0, 1⟩ = 1 := by simp [gs, gq]
  unfold nrm
  rw [e]; simp

set_option maxHeartbeats 4000000 in
set_option maxRecDepth 100000 in
theorem splits_any (a b : Int) (w : World) :
    Calls Try.prog 69 #[.agg #[.int .i64 a, .int .i64 b]] w fun e w' => e = .returned (.int .i64 (spE a b)) ∧ Below w.heap.size w w' := by
  have hC := fun w => qCheck_any a b w
  by_cases hE : aE a b = 0
  · have hR := fun w => ramified_any a b w hE
    rw [hE] at hC
    have HR := Lib.hid hR; have HC := Lib.hid hC
    by_cases hL : ramL a b 999 = []
    · rw [spE_zero.2 ⟨hE, hL⟩]
      rw [hL] at HR
      clear hR hC hE hL
      simp only [List.length_nil] at HR
      go_enter Try.func69, Try.ntmps69
      go_upto_region 1 with fail
      obtain ⟨W0, hW0⟩ : ∃ W0 : World, W0 = (w.alloc (.cells #[.int .i64 a, .int .i64 b] 23)) := ⟨_, rfl⟩
      rw [← hW0]
      have HB0 := Lib.hid (show Bx w [(w.heap.size, #[.int .i64 a, .int .i64 b])] W0 by rw [hW0]; simpa using ((Bx.nil (Below.refl w.heap.size w)).new #[.int .i64 a, .int .i64 b] 23))
      clear hW0
      obtain ⟨c0_0, c0_1⟩ := HB0.out.two (List.mem_cons_self ..)
      go_wp2_with fail
      refine (HC.out _).mono ?_
      rintro e1 w1 ⟨rfl, hbb⟩
      have HB1 := Lib.hid (HB0.out.keep hbb)
      clear c0_0 c0_1
      clear hbb HB0
      obtain ⟨c0_0, c0_1⟩ := HB1.out.two (List.mem_cons_self ..)
      go_wp2_with fail
      refine (HR.out _).mono ?_
      rintro e2 w2 ⟨A, c, rfl, -, -, -, hbb⟩
      have HB2 := Lib.hid (HB1.out.keep hbb)
      clear c0_0 c0_1
      clear hbb HB1
      go_wp2_with fail
      go_ret
      exact ⟨rfl, HB2.out.below⟩

    · have e : spE a b = 13 := by unfold spE; rw [if_pos hE, if_neg hL]
      rw [e]
      have hl : 0 < (ramL a b 999).length := List.length_pos_iff.2 hL
      clear e hR hC hE hL
      generalize ramL a b 999 = L at *
      have d1 : decide (0 < L.length) = true := decide_eq_true hl
      have d2 : decide ((0 : Int) < (L.length : Int)) = true := decide_eq_true (by omega)
      go_enter Try.func69, Try.ntmps69
      go_upto_region 1 with fail
      obtain ⟨W0, hW0⟩ : ∃ W0 : World, W0 = (w.alloc (.cells #[.int .i64 a, .int .i64 b] 23)) := ⟨_, rfl⟩
      rw [← hW0]
      have HB0 := Lib.hid (show Bx w [(w.heap.size, #[.int .i64 a, .int .i64 b])] W0 by rw [hW0]; simpa using ((Bx.nil (Below.refl w.heap.size w)).new #[.int .i64 a, .int .i64 b] 23))
      clear hW0
      obtain ⟨c0_0, c0_1⟩ := HB0.out.two (List.mem_cons_self ..)
      go_wp2_with fail
      refine (HC.out _).mono ?_
      rintro e1 w1 ⟨rfl, hbb⟩
      have HB1 := Lib.hid (HB0.out.keep hbb)
      clear c0_0 c0_1
      clear hbb HB0
      obtain ⟨c0_0, c0_1⟩ := HB1.out.two (List.mem_cons_self ..)
      go_wp2_with fail
      refine (HR.out _).mono ?_
      rintro e2 w2 ⟨A, c, rfl, -, -, -, hbb⟩
      have HB2 := Lib.hid (HB1.out.keep hbb)
      clear c0_0 c0_1
      clear hbb HB1
      go_wp2_with fail
      go_ret
      exact ⟨rfl, HB2.out.below⟩

  · rw [spE_bad hE]
    generalize aE a b = E at *
    have HC := Lib.hid hC
    have d1 : (E == 0) = false := f_beq hE
    have d2 : (E != 0) = true := bne_iff_ne.2 hE
    clear hC hE
    go_enter Try.func69, Try.ntmps69
    go_upto_region 1 with fail
    obtain ⟨W0, hW0⟩ : ∃ W0 : World, W0 = (w.alloc (.cells #[.int .i64 a, .int .i64 b] 23)) := ⟨_, rfl⟩
    rw [← hW0]
    have HB0 := Lib.hid (show Bx w [(w.heap.size, #[.int .i64 a, .int .i64 b])] W0 by rw [hW0]; simpa using ((Bx.nil (Below.refl w.heap.size w)).new #[.int .i64 a, .int .i64 b] 23))
    clear hW0
    obtain ⟨c0_0, c0_1⟩ := HB0.out.two (List.mem_cons_self ..)
    go_wp2_with fail
    refine (HC.out _).mono ?_
    rintro e1 w1 ⟨rfl, hbb⟩
    have HB1 := Lib.hid (HB0.out.keep hbb)
    clear c0_0 c0_1
    clear hbb HB0
    obtain ⟨c0_0, c0_1⟩ := HB1.out.two (List.mem_cons_self ..)
    go_wp2_with fail
    go_ret
    exact ⟨rfl, HB1.out.below⟩


theorem zd_valid {a b x y z : Int} (h : Zd a b x y z) (hE : aE a b = 0) : qB ⟨z, x, y, 0, 1⟩ = true := by
  obtain ⟨h1, h2, h3⟩ := h.bounds hE
  have := h.x0; have := h.y0; have := h.z0
  exact qB_iff.2 ⟨⟨by simp only; omega, by simp only; omega⟩, ⟨by simp only; omega, by simp only; omega⟩, ⟨by simp only; omega, by simp only; omega⟩, ⟨by simp only; omega, by simp only; omega⟩, ⟨by simp only; omega, by simp only; omega⟩⟩
def DivPost (a b E : Int) (w : World) (e : Ending) (w' : World) : Prop :=
  ∃ q, e = .returned (.tuple #[qv q, .int .i64 E]) ∧ (E = 0 → qB q = true ∧ nmQ a b q = 0 ∧ nrm q = q ∧ q ≠ ⟨0, 0, 0, 0, 1⟩) ∧ (E ≠ 0 → q = Qt.zero) ∧ Below w.heap.size w w'
set_option maxHeartbeats 4000000 in
set_option maxRecDepth 100000 in
theorem Divisor_any (a b : Int) (w : World) :
    Calls Try.prog 29 #[.agg #[.int .i64 a, .int .i64 b]] w (DivPost a b (spE a b) w) := by
  have hC := fun w => splits_any a b w
  by_cases hE : spE a b = 0
  · obtain ⟨hE1, hR⟩ := spE_zero.1 hE
    have hS := fun w => solve_any a b w hE1 hR
    unfold SolvePost at hS
    rw [hE] at hC ⊢
    have HC := Lib.hid hC; have HS := Lib.hid hS; have HE := Lib.hid hE1
    clear hC hS hE hE1 hR
    go_enter Try.func29, Try.ntmps29
    go_upto_region 1 with fail
    obtain ⟨W0, hW0⟩ : ∃ W0 : World, W0 = ((w.alloc (.cells #[.int .i64 a, .int .i64 b] 23)).alloc (.cells #[.int .i64 0, .int .i64 0, .int .i64 0, .int .i64 0, .int .i64 0] 25)) := ⟨_, rfl⟩
    rw [← hW0]
    have HB0 := Lib.hid (show Bx w [(w.heap.size + 1, #[.int .i64 0, .int .i64 0, .int .i64 0, .int .i64 0, .int .i64 0]), (w.heap.size, #[.int .i64 a, .int .i64 b])] W0 by rw [hW0]; simpa using (((Bx.nil (Below.refl w.heap.size w)).new #[.int .i64 a, .int .i64 b] 23).new #[.int .i64 0, .int .i64 0, .int .i64 0, .int .i64 0, .int .i64 0] 25))
    clear hW0
    obtain ⟨c1_0, c1_1⟩ := HB0.out.two (List.mem_cons_of_mem _ (List.mem_cons_self ..))
    go_wp2_with fail
    refine (HC.out _).mono ?_
    rintro e1 w1 ⟨rfl, hbb⟩
    have HB1 := Lib.hid (HB0.out.keep hbb)
    clear c1_0 c1_1
    clear hbb HB0
    obtain ⟨c1_0, c1_1⟩ := HB1.out.two (List.mem_cons_of_mem _ (List.mem_cons_self ..))
    go_wp2_with fail
    refine (HS.out _).mono ?_
    rintro e2 w2 ⟨x, y, z, hzd, rfl, hbb⟩
    have HB2 := Lib.hid (HB1.out.keep hbb)
    clear c1_0 c1_1
    clear hbb HB1
    have HZ := Lib.hid hzd; clear hzd
    have HF := Lib.hid (fun w => (show Calls Try.prog 71 #[cv z x y 0, .int .i64 1] w fun r w' => r = .returned (.tuple #[qv ⟨z, x, y, 0, 1⟩, .int .i64 0]) ∧ Below w.heap.size w w' from by
        have hq := zd_valid HZ.out HE.out
        have h := qfit_any ⟨z, x, y, 0, 1⟩ w (fitBound_of hq) (by simp)
        rw [fitQ_of hq, fitE_of hq, nrm_one'] at h
        exact h))
    simp only [cv, qv] at HF
    go_wp2_with fail
    refine (HF.out _).mono ?_
    rintro e3 w3 ⟨rfl, hbb⟩
    have HB3 := Lib.hid (HB2.out.keep hbb)
    clear hbb HB2
    obtain ⟨c0_0, c0_1, c0_2, c0_3, c0_4⟩ := HB3.out.five (List.mem_cons_self ..)
    have hcr := (HB3.out.own _ (List.mem_cons_self ..)).2
    obtain ⟨f0, f1, f2, f3, f4⟩ := hcr.fr
    go_wp2_with fail
    obtain ⟨W9, hW9⟩ : ∃ W9, (((((w3.setCell ⟨w.heap.size + 1, 0, none⟩ (.int .i64 z)).setCell ⟨w.heap.size + 1, 1, none⟩ (.int .i64 x)).setCell ⟨w.heap.size + 1, 2, none⟩ (.int .i64 y)).setCell ⟨w.heap.size + 1, 3, none⟩ (.int .i64 0)).setCell ⟨w.heap.size + 1, 4, none⟩ (.int .i64 1)) = W9 := ⟨_, rfl⟩
    obtain ⟨q0, q1, q2, q3, q4⟩ := (hcr.put5 (.int .i64 z) (.int .i64 x) (.int .i64 y) (.int .i64 0) (.int .i64 1)).five
    have hB9 := below_set5 (b := w.heap.size + 1) HB3.out.below (by omega) (.int .i64 z) (.int .i64 x) (.int .i64 y) (.int .i64 0) (.int .i64 1)
    rw [hW9] at q0 q1 q2 q3 q4 hB9
    try rw [hW9]
    refine bodyPost_ret (v := .tuple #[.agg #[.int .i64 z, .int .i64 x, .int .i64 y, .int .i64 0, .int .i64 1], .int .i64 0]) (by simp [results, Try.results29, go_sem, q0, q1, q2, q3, q4]) rfl ?_
    exact ⟨⟨z, x, y, 0, 1⟩, rfl, fun _ => ⟨zd_valid HZ.out HE.out, HZ.out.nm, nrm_one' z x y, fun h => HZ.out.nz (by injection h with h1 h2 h3; exact ⟨h2, h3⟩)⟩, fun h => absurd rfl h, hB9⟩

  · generalize spE a b = E at *
    have HC := Lib.hid hC; have HN := Lib.hid hE
    have d1 : (E == 0) = false := f_beq hE
    have d2 : (E != 0) = true := bne_iff_ne.2 hE
    clear hC hE
    go_enter Try.func29, Try.ntmps29
    go_upto_region 1 with fail
    obtain ⟨W0, hW0⟩ : ∃ W0 : World, W0 = ((w.alloc (.cells #[.int .i64 a, .int .i64 b] 23)).alloc (.cells #[.int .i64 0, .int .i64 0, .int .i64 0, .int .i64 0, .int .i64 0] 25)) := ⟨_, rfl⟩
    rw [← hW0]
    have HB0 := Lib.hid (show Bx w [(w.heap.size + 1, #[.int .i64 0, .int .i64 0, .int .i64 0, .int .i64 0, .int .i64 0]), (w.heap.size, #[.int .i64 a, .int .i64 b])] W0 by rw [hW0]; simpa using (((Bx.nil (Below.refl w.heap.size w)).new #[.int .i64 a, .int .i64 b] 23).new #[.int .i64 0, .int .i64 0, .int .i64 0, .int .i64 0, .int .i64 0] 25))
    clear hW0
    obtain ⟨c1_0, c1_1⟩ := HB0.out.two (List.mem_cons_of_mem _ (List.mem_cons_self ..))
    go_wp2_with fail
    refine (HC.out _).mono ?_
    rintro e1 w1 ⟨rfl, hbb⟩
    have HB1 := Lib.hid (HB0.out.keep hbb)
    clear c1_0 c1_1
    clear hbb HB0
    obtain ⟨c0_0, c0_1, c0_2, c0_3, c0_4⟩ := HB1.out.five (List.mem_cons_self ..)
    have hcr := (HB1.out.own _ (List.mem_cons_self ..)).2
    obtain ⟨f0, f1, f2, f3, f4⟩ := hcr.fr
    go_wp2_with fail
    obtain ⟨W9, hW9⟩ : ∃ W9, (((((w1.setCell ⟨w.heap.size + 1, 0, none⟩ (.int .i64 0)).setCell ⟨w.heap.size + 1, 1, none⟩ (.int .i64 0)).setCell ⟨w.heap.size + 1, 2, none⟩ (.int .i64 0)).setCell ⟨w.heap.size + 1, 3, none⟩ (.int .i64 0)).setCell ⟨w.heap.size + 1, 4, none⟩ (.int .i64 0)) = W9 := ⟨_, rfl⟩
    obtain ⟨q0, q1, q2, q3, q4⟩ := (hcr.put5 (.int .i64 0) (.int .i64 0) (.int .i64 0) (.int .i64 0) (.int .i64 0)).five
    have hB9 := below_set5 (b := w.heap.size + 1) HB1.out.below (by omega) (.int .i64 0) (.int .i64 0) (.int .i64 0) (.int .i64 0) (.int .i64 0)
    rw [hW9] at q0 q1 q2 q3 q4 hB9
    try rw [hW9]
    refine bodyPost_ret (v := .tuple #[.agg #[.int .i64 0, .int .i64 0, .int .i64 0, .int .i64 0, .int .i64 0], .int .i64 E]) (by simp [results, Try.results29, go_sem, q0, q1, q2, q3, q4]) rfl ?_
    exact ⟨Qt.zero, rfl, fun h => absurd h HN.out, fun _ => rfl, hB9⟩


end Go.Proofs.Ytfjmhfmhijhpkaa
