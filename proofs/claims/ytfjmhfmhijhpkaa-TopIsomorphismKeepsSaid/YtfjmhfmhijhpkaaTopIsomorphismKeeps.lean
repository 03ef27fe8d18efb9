/- The law TopIsomorphismKeeps answers true at all algebras and elements. -/
import Derived.Test.YtfjmhfmhijhpkaaMvd
import Derived.Test.YtfjmhfmhijhpkaaIsg
import Derived.Test.YtfjmhfmhijhpkaaRfy
import Derived.Test.YtfjmhfmhijhpkaaOpen4
namespace Go.Proofs.Ytfjmhfmhijhpkaa
open Go.RowKit FF

section
open Go.WideShapes Go.ChangeShapes Go.Joins Go.Deep
variable {H : Type} {enc : TypeId × Value → H} {P : Program} {w : World} {base : Nat} {spare : Nat → Bool} {held : Bool}
theorem open_10 {n : Nat} {r : Reach} {b0 : Nat} {t : TypeId} {fs : Array Field} {v : Value} {d : DataW H} {p : List MemPlace} (hB : intCells P n t = true) (ht : P.underlying t = some (.struct fs)) (hC : P.cellsOf t = 10)
    (hv : Value.okWide P w r b0 t v) (h : DataW.Trod enc P w base spare held t v d p) :
    ∃ a0 a1 a2 a3 a4 a5 a6 a7 a8 a9 : Int, v = .agg #[.int .i64 a0, .int .i64 a1, .int .i64 a2, .int .i64 a3, .int .i64 a4, .int .i64 a5, .int .i64 a6, .int .i64 a7, .int .i64 a8, .int .i64 a9] ∧ I64 a0 ∧ I64 a1 ∧ I64 a2 ∧ I64 a3 ∧ I64 a4 ∧ I64 a5 ∧ I64 a6 ∧ I64 a7 ∧ I64 a8 ∧ I64 a9 := by
  obtain ⟨l, rfl, hl, hw⟩ := open_ints n hB ht hv h
  rw [hC] at hl
  match l, hl with
  | [a0, a1, a2, a3, a4, a5, a6, a7, a8, a9], _ => exact ⟨a0, a1, a2, a3, a4, a5, a6, a7, a8, a9, rfl, hw _ (by simp), hw _ (by simp), hw _ (by simp), hw _ (by simp), hw _ (by simp), hw _ (by simp), hw _ (by simp), hw _ (by simp), hw _ (by simp), hw _ (by simp)⟩
end

theorem found_imgs {a b c d : Int} {x y : Qt} (h : Found a b c d x y) : Imgs a b c d x y := by
  have s1 := h.sp; have s2 := h.sq; have s3 := h.op
  have x0 := h.bp.w; have y0 := h.bq.w
  unfold sqB at s1 s2
  unfold opB at s3
  rw [Bool.and_eq_true, beq_iff_eq] at s1 s2 s3
  have e1 := s1.1; have e2 := s2.1; have e3 := s3.1
  simp only [mulQ, x0, y0] at e1 e2 e3
  exact ⟨x0, y0, by have := h.bp.d; omega, by have := h.bq.d; omega, by grind, by grind, by grind⟩
theorem tiny_sm {q : Qt} (h : tinyB q = true) : smB q = true := by
  unfold tinyB at h
  simp only [Bool.and_eq_true, winB_iff] at h
  exact smB_iff.2 ⟨by omega, by omega, by omega, by omega, by omega⟩
theorem imb_of {c d : Int} {x y q : Qt} (hc : -12 ≤ c ∧ c ≤ 12) (hd : -12 ≤ d ∧ d ≤ 12) (hx : InBox x) (hy : InBox y) (hq : smB q = true) : ImB c d x y q := by
  obtain ⟨k0, k1, k2, k3, k4⟩ := smB_iff.1 hq
  exact ⟨hc, hd, hx.x, hx.y, hx.z, hx.d, hy.x, hy.y, hy.z, hy.d, by omega, by omega, by omega, by omega, by omega⟩
theorem sm_qB {q : Qt} (h : smB q = true) : qB q = true := by
  obtain ⟨k0, k1, k2, k3, k4⟩ := smB_iff.1 h
  exact qB_iff.2 ⟨by omega, by omega, by omega, by omega, by omega⟩
theorem mv_img {a b c d : Int} {x y q : Qt} (w : World) (hc : aE c d = 0) (hi : Imgs a b c d x y) (g : ImB c d x y q) (hx : InBox x) (hy : InBox y) :
    Calls Try.prog 34 #[.agg #[.int .i64 c, .int .i64 d], qv q, qv x, qv y] w fun r w' => r = .returned (.tuple #[qv (nrm (imgQ c d x y q)), .bool true]) ∧ Below w.heap.size w w' := by
  obtain ⟨q0, q1, q2, q3, q4⟩ := q
  obtain ⟨x0, x1, x2, x3, x4⟩ := x
  obtain ⟨y0, y1, y2, y3, y4⟩ := y
  have b0 := g.q0; have b1 := g.q1; have b2 := g.q2; have b3 := g.q3; have b4 := g.qd
  dsimp only at b0 b1 b2 b3 b4
  exact moved_any c d q0 q1 q2 q3 q4 x0 x1 x2 x3 x4 y0 y1 y2 y3 y4 w hc hx.qB hy.qB (moves hi g) (by omega) (by omega) (by omega) (by omega) (by omega)
/-- what the law calls behind its checks -/
structure Keeps (a b c d : Int) (P Q X Y M U V Z : Qt) (N D : Int) : Prop where
  mul : ∀ w, Calls Try.prog 33 #[.agg #[.int .i64 a, .int .i64 b], qv P, qv Q] w fun r w' => r = .returned (.tuple #[qv M, .int .i64 0]) ∧ Below w.heap.size w w'
  mv1 : ∀ w, Calls Try.prog 34 #[.agg #[.int .i64 c, .int .i64 d], qv P, qv X, qv Y] w fun r w' => r = .returned (.tuple #[qv U, .bool true]) ∧ Below w.heap.size w w'
  mv2 : ∀ w, Calls Try.prog 34 #[.agg #[.int .i64 c, .int .i64 d], qv Q, qv X, qv Y] w fun r w' => r = .returned (.tuple #[qv V, .bool true]) ∧ Below w.heap.size w w'
  mv3 : ∀ w, Calls Try.prog 34 #[.agg #[.int .i64 c, .int .i64 d], qv M, qv X, qv Y] w fun r w' => r = .returned (.tuple #[qv Z, .bool true]) ∧ Below w.heap.size w w'
  mul2 : ∀ w, Calls Try.prog 33 #[.agg #[.int .i64 c, .int .i64 d], qv U, qv V] w fun r w' => r = .returned (.tuple #[qv Z, .int .i64 0]) ∧ Below w.heap.size w w'
  nm1 : ∀ w, Calls Try.prog 13 #[.agg #[.int .i64 a, .int .i64 b], qv P] w fun r w' => r = .returned (.tuple #[fvv N D, .int .i64 0]) ∧ Below w.heap.size w w'
  nm2 : ∀ w, Calls Try.prog 13 #[.agg #[.int .i64 c, .int .i64 d], qv U] w fun r w' => r = .returned (.tuple #[fvv N D, .int .i64 0]) ∧ Below w.heap.size w w'
theorem keeps_of {a b c d : Int} {P Q X Y : Qt} (ha : aE a b = 0) (hc : aE c d = 0) (a9 : -12 ≤ a ∧ a ≤ 12) (b9 : -12 ≤ b ∧ b ≤ 12) (c9 : -12 ≤ c ∧ c ≤ 12) (d9 : -12 ≤ d ∧ d ≤ 12) (hP : smB P = true) (hQ : smB Q = true) (hf : Found a b c d X Y) :
    ∃ M U V Z N D, Keeps a b c d P Q X Y M U V Z N D := by
  have hi := found_imgs hf
  have gP := imb_of c9 d9 hf.bp hf.bq hP
  have gQ := imb_of c9 d9 hf.bp hf.bq hQ
  have gM := ImB.of_prod a9 b9 hP hQ gP
  have hPd : P.d ≠ 0 := by have := (smB_iff.1 hP).2.2.2.2; omega
  have hQd : Q.d ≠ 0 := by have := (smB_iff.1 hQ).2.2.2.2; omega
  have hM : qB (nrm (mulQ a b P Q)) = true := by
    obtain ⟨⟨h0, h1, h2, h3⟩, h4⟩ := prod_small a9 b9 hP hQ
    exact qB_nrm (qB_iff.2 ⟨by omega, by omega, by omega, by omega, by omega⟩)
  have mP := (moves hi gP).s4; have mQ := (moves hi gQ).s4; have mM := (moves hi gM).s4
  have e := img_mul (a := a) (b := b) hi hPd hQd
  refine ⟨nrm (mulQ a b P Q), nrm (imgQ c d X Y P), nrm (imgQ c d X Y Q), nrm (imgQ c d X Y (nrm (mulQ a b P Q))), nmN a b P, nmD a b P, ?_, ?_, ?_, ?_, ?_, ?_, ?_⟩
  · exact fun w => mv_mul a b P Q w (sm_qB hP) (sm_qB hQ) ha hM
  · exact fun w => mv_img w hc hi gP hf.bp hf.bq
  · exact fun w => mv_img w hc hi gQ hf.bp hf.bq
  · exact fun w => mv_img w hc hi gM hf.bp hf.bq
  · intro w
    have h := mv_mul c d _ _ w mP mQ hc (by rw [e]; exact mM)
    rw [e] at h
    exact h
  · exact fun w => mv_norm a b P w (sm_qB hP) ha
  · intro w
    have h := mv_norm c d _ w mP hc
    obtain ⟨n1, n2⟩ := img_nm hi hPd
    unfold nmN nmD at h ⊢
    rw [n1, n2] at h
    exact h


theorem keeps_all {a b c d : Int} {P Q : Qt} (ha : aE a b = 0) (hc : aE c d = 0) (z1 : ¬ (a.natAbs : Int) > 12) (z2 : ¬ (b.natAbs : Int) > 12) (z3 : ¬ (c.natAbs : Int) > 12) (z4 : ¬ (d.natAbs : Int) > 12) (t1 : tinyB P = true) (t2 : tinyB Q = true) :
    ∃ (X Y : Qt) (E : Int) (F : Bool), (∀ w, Calls Try.prog 31 #[.agg #[.int .i64 a, .int .i64 b], .agg #[.int .i64 c, .int .i64 d]] w fun r w' => r = .returned (.tuple #[qv X, qv Y, .int .i64 E]) ∧ Below w.heap.size w w') ∧
      (∀ w, Calls Try.prog 32 #[.agg #[.int .i64 a, .int .i64 b], .agg #[.int .i64 c, .int .i64 d]] w fun r w' => r = .returned (.tuple #[.bool F, .int .i64 0]) ∧ Below w.heap.size w w') ∧
      ((E = 0 ∧ F = true ∧ ∃ M U V Z N D, Keeps a b c d P Q X Y M U V Z N D) ∨ (E = 21 ∧ F = true) ∨ (E = 12 ∧ F = false)) := by
  refine ⟨isoXX a b c d, isoYY a b c d, isoErr a b c d, isoB a b c d, fun w => qIsomorphism_good a b c d w ha hc, fun w => qIsomorphic_good a b c d w ha hc, ?_⟩
  rcases iso_cases a b c d with h | h | h
  · obtain ⟨h1, h2⟩ := iso_found h
    exact .inl ⟨h, h1, keeps_of ha hc (by omega) (by omega) (by omega) (by omega) (tiny_sm t1) (tiny_sm t2) h2⟩
  · exact .inr (.inl h)
  · exact .inr (.inr h)

set_option maxHeartbeats 4000000 in
set_option maxRecDepth 100000 in
theorem TopIsomorphismKeeps_law (a b c d p0 p1 p2 p3 p4 q0 q1 q2 q3 q4 : Int) (w : World) :
    Calls Try.prog 6 #[.agg #[.int .i64 a, .int .i64 b], .agg #[.int .i64 c, .int .i64 d], .agg #[.int .i64 p0, .int .i64 p1, .int .i64 p2, .int .i64 p3, .int .i64 p4, .int .i64 q0, .int .i64 q1, .int .i64 q2, .int .i64 q3, .int .i64 q4]] w fun e w' => e = .returned (.bool true) ∧ Below w.heap.size w w' := by
  have HR := Lib.hid ramifies_any
  have HC1 := Lib.hid (fun w => rCheck_any a b w)
  have HC2 := Lib.hid (fun w => rCheck_any c d w)
  have HAb0 := Lib.hid (fun (h : aE a b = 0) (w : World) => bAbs_any a w (by have := aE_zero.1 h; omega) (by have := aE_zero.1 h; omega))
  have HAb1 := Lib.hid (fun (h : aE a b = 0) (w : World) => bAbs_any b w (by have := aE_zero.1 h; omega) (by have := aE_zero.1 h; omega))
  have HAb2 := Lib.hid (fun (h : aE c d = 0) (w : World) => bAbs_any c w (by have := aE_zero.1 h; omega) (by have := aE_zero.1 h; omega))
  have HAb3 := Lib.hid (fun (h : aE c d = 0) (w : World) => bAbs_any d w (by have := aE_zero.1 h; omega) (by have := aE_zero.1 h; omega))
  have HT1 := Lib.hid (fun w => tiny_any p0 p1 p2 p3 p4 w)
  have HT2 := Lib.hid (fun w => tiny_any q0 q1 q2 q3 q4 w)
  have HG := Lib.hid (fun (h1 : aE a b = 0) (h2 : aE c d = 0) (z1 : ¬ (a.natAbs : Int) > 12) (z2 : ¬ (b.natAbs : Int) > 12) (z3 : ¬ (c.natAbs : Int) > 12) (z4 : ¬ (d.natAbs : Int) > 12) (t1 : tinyB ⟨p0, p1, p2, p3, p4⟩ = true) (t2 : tinyB ⟨q0, q1, q2, q3, q4⟩ = true) => keeps_all (P := ⟨p0, p1, p2, p3, p4⟩) (Q := ⟨q0, q1, q2, q3, q4⟩) h1 h2 z1 z2 z3 z4 t1 t2)
  generalize aE a b = E1 at *
  generalize aE c d = E2 at *
  generalize (a.natAbs : Int) = z0 at *
  generalize (b.natAbs : Int) = z1 at *
  generalize (c.natAbs : Int) = z2 at *
  generalize (d.natAbs : Int) = z3 at *
  generalize tinyB ⟨p0, p1, p2, p3, p4⟩ = t0 at *
  generalize tinyB ⟨q0, q1, q2, q3, q4⟩ = t1 at *
  simp only [qv] at HT1 HT2
  go_enter Try.func6, Try.ntmps6
  go_upto_region 1 with fail
  obtain ⟨W0, hW0⟩ : ∃ W0 : World, W0 = (((w.alloc (.cells #[.int .i64 a, .int .i64 b] 23)).alloc (.cells #[.int .i64 c, .int .i64 d] 23)).alloc (.cells #[.int .i64 p0, .int .i64 p1, .int .i64 p2, .int .i64 p3, .int .i64 p4, .int .i64 q0, .int .i64 q1, .int .i64 q2, .int .i64 q3, .int .i64 q4] 67)) := ⟨_, rfl⟩
  rw [← hW0]
  have HB0 := Lib.hid (show Bx w [(w.heap.size + 2, #[.int .i64 p0, .int .i64 p1, .int .i64 p2, .int .i64 p3, .int .i64 p4, .int .i64 q0, .int .i64 q1, .int .i64 q2, .int .i64 q3, .int .i64 q4]), (w.heap.size + 1, #[.int .i64 c, .int .i64 d]), (w.heap.size, #[.int .i64 a, .int .i64 b])] W0 by rw [hW0]; simpa using ((((Bx.nil (Below.refl w.heap.size w)).new #[.int .i64 a, .int .i64 b] 23).new #[.int .i64 c, .int .i64 d] 23).new #[.int .i64 p0, .int .i64 p1, .int .i64 p2, .int .i64 p3, .int .i64 p4, .int .i64 q0, .int .i64 q1, .int .i64 q2, .int .i64 q3, .int .i64 q4] 67))
  clear hW0
  go_wp2_with fail
  refine (HR.out _).mono ?_
  rintro e1 w1 ⟨rfl, hbb⟩
  have HB1 := Lib.hid (HB0.out.keep hbb)
  clear hbb HB0
  have c0_0 := (HB1.out.own _ (List.mem_cons_self ..)).2.2.1 0 (by simp)
  have c0_1 := (HB1.out.own _ (List.mem_cons_self ..)).2.2.1 1 (by simp)
  have c0_2 := (HB1.out.own _ (List.mem_cons_self ..)).2.2.1 2 (by simp)
  have c0_3 := (HB1.out.own _ (List.mem_cons_self ..)).2.2.1 3 (by simp)
  have c0_4 := (HB1.out.own _ (List.mem_cons_self ..)).2.2.1 4 (by simp)
  have c0_5 := (HB1.out.own _ (List.mem_cons_self ..)).2.2.1 5 (by simp)
  have c0_6 := (HB1.out.own _ (List.mem_cons_self ..)).2.2.1 6 (by simp)
  have c0_7 := (HB1.out.own _ (List.mem_cons_self ..)).2.2.1 7 (by simp)
  have c0_8 := (HB1.out.own _ (List.mem_cons_self ..)).2.2.1 8 (by simp)
  have c0_9 := (HB1.out.own _ (List.mem_cons_self ..)).2.2.1 9 (by simp)
  simp only [List.getElem?_toArray, List.getElem?_cons_zero, List.getElem?_cons_succ] at c0_0 c0_1 c0_2 c0_3 c0_4 c0_5 c0_6 c0_7 c0_8 c0_9
  obtain ⟨c1_0, c1_1⟩ := HB1.out.two (List.mem_cons_of_mem _ (List.mem_cons_self ..))
  obtain ⟨c2_0, c2_1⟩ := HB1.out.two (List.mem_cons_of_mem _ (List.mem_cons_of_mem _ (List.mem_cons_self ..)))
  go_wp2_with fail
  refine (HC1.out _).mono ?_
  rintro e2 w2 ⟨rfl, hbb⟩
  have HB2 := Lib.hid (HB1.out.keep hbb)
  clear c0_0 c0_1 c0_2 c0_3 c0_4 c0_5 c0_6 c0_7 c0_8 c0_9 c1_0 c1_1 c2_0 c2_1
  clear hbb HB1
  by_cases h1 : E1 = 0
  rotate_left
  · have n1 : (E1 != 0) = true := bne_iff_ne.2 h1
    go_wp2_with fail
    go_ret
    exact ⟨rfl, HB2.out.below⟩
  have m1 : (E1 != 0) = false := by rw [h1]; rfl
  have K1 := Lib.hid h1; clear h1
  have c0_0 := (HB2.out.own _ (List.mem_cons_self ..)).2.2.1 0 (by simp)
  have c0_1 := (HB2.out.own _ (List.mem_cons_self ..)).2.2.1 1 (by simp)
  have c0_2 := (HB2.out.own _ (List.mem_cons_self ..)).2.2.1 2 (by simp)
  have c0_3 := (HB2.out.own _ (List.mem_cons_self ..)).2.2.1 3 (by simp)
  have c0_4 := (HB2.out.own _ (List.mem_cons_self ..)).2.2.1 4 (by simp)
  have c0_5 := (HB2.out.own _ (List.mem_cons_self ..)).2.2.1 5 (by simp)
  have c0_6 := (HB2.out.own _ (List.mem_cons_self ..)).2.2.1 6 (by simp)
  have c0_7 := (HB2.out.own _ (List.mem_cons_self ..)).2.2.1 7 (by simp)
  have c0_8 := (HB2.out.own _ (List.mem_cons_self ..)).2.2.1 8 (by simp)
  have c0_9 := (HB2.out.own _ (List.mem_cons_self ..)).2.2.1 9 (by simp)
  simp only [List.getElem?_toArray, List.getElem?_cons_zero, List.getElem?_cons_succ] at c0_0 c0_1 c0_2 c0_3 c0_4 c0_5 c0_6 c0_7 c0_8 c0_9
  obtain ⟨c1_0, c1_1⟩ := HB2.out.two (List.mem_cons_of_mem _ (List.mem_cons_self ..))
  obtain ⟨c2_0, c2_1⟩ := HB2.out.two (List.mem_cons_of_mem _ (List.mem_cons_of_mem _ (List.mem_cons_self ..)))
  go_wp2_with fail
  refine (HC2.out _).mono ?_
  rintro e3 w3 ⟨rfl, hbb⟩
  have HB3 := Lib.hid (HB2.out.keep hbb)
  clear c0_0 c0_1 c0_2 c0_3 c0_4 c0_5 c0_6 c0_7 c0_8 c0_9 c1_0 c1_1 c2_0 c2_1
  clear hbb HB2
  by_cases h2 : E2 = 0
  rotate_left
  · have n2 : (E2 != 0) = true := bne_iff_ne.2 h2
    go_wp2_with fail
    go_ret
    exact ⟨rfl, HB3.out.below⟩
  have m2 : (E2 != 0) = false := by rw [h2]; rfl
  have K2 := Lib.hid h2; clear h2
  have c0_0 := (HB3.out.own _ (List.mem_cons_self ..)).2.2.1 0 (by simp)
  have c0_1 := (HB3.out.own _ (List.mem_cons_self ..)).2.2.1 1 (by simp)
  have c0_2 := (HB3.out.own _ (List.mem_cons_self ..)).2.2.1 2 (by simp)
  have c0_3 := (HB3.out.own _ (List.mem_cons_self ..)).2.2.1 3 (by simp)
  have c0_4 := (HB3.out.own _ (List.mem_cons_self ..)).2.2.1 4 (by simp)
  have c0_5 := (HB3.out.own _ (List.mem_cons_self ..)).2.2.1 5 (by simp)
  have c0_6 := (HB3.out.own _ (List.mem_cons_self ..)).2.2.1 6 (by simp)
  have c0_7 := (HB3.out.own _ (List.mem_cons_self ..)).2.2.1 7 (by simp)
  have c0_8 := (HB3.out.own _ (List.mem_cons_self ..)).2.2.1 8 (by simp)
  have c0_9 := (HB3.out.own _ (List.mem_cons_self ..)).2.2.1 9 (by simp)
  simp only [List.getElem?_toArray, List.getElem?_cons_zero, List.getElem?_cons_succ] at c0_0 c0_1 c0_2 c0_3 c0_4 c0_5 c0_6 c0_7 c0_8 c0_9
  obtain ⟨c1_0, c1_1⟩ := HB3.out.two (List.mem_cons_of_mem _ (List.mem_cons_self ..))
  obtain ⟨c2_0, c2_1⟩ := HB3.out.two (List.mem_cons_of_mem _ (List.mem_cons_of_mem _ (List.mem_cons_self ..)))
  go_wp2_with fail
  refine (HAb0.out K1.out _).mono ?_
  rintro e4 w4 ⟨rfl, na0, rfl⟩
  obtain ⟨w4, hw⟩ : ∃ w4 : World, w4 = w3.drewN na0 := ⟨_, rfl⟩
  rw [← hw]
  have HB4 := Lib.hid (HB3.out.keep (show Below w3.heap.size w3 w4 from hw ▸ below_drewN (Below.refl _ _) _))
  clear c0_0 c0_1 c0_2 c0_3 c0_4 c0_5 c0_6 c0_7 c0_8 c0_9 c1_0 c1_1 c2_0 c2_1
  clear hw HB3
  by_cases g0 : ¬ z0 > 12
  rotate_left
  · have g0' : 12 < z0 := by omega
    go_wp2_with fail
    go_ret
    exact ⟨rfl, HB4.out.below⟩
  have G0 := Lib.hid g0
  have g0' : ¬ 12 < z0 := g0
  clear g0
  have c0_0 := (HB4.out.own _ (List.mem_cons_self ..)).2.2.1 0 (by simp)
  have c0_1 := (HB4.out.own _ (List.mem_cons_self ..)).2.2.1 1 (by simp)
  have c0_2 := (HB4.out.own _ (List.mem_cons_self ..)).2.2.1 2 (by simp)
  have c0_3 := (HB4.out.own _ (List.mem_cons_self ..)).2.2.1 3 (by simp)
  have c0_4 := (HB4.out.own _ (List.mem_cons_self ..)).2.2.1 4 (by simp)
  have c0_5 := (HB4.out.own _ (List.mem_cons_self ..)).2.2.1 5 (by simp)
  have c0_6 := (HB4.out.own _ (List.mem_cons_self ..)).2.2.1 6 (by simp)
  have c0_7 := (HB4.out.own _ (List.mem_cons_self ..)).2.2.1 7 (by simp)
  have c0_8 := (HB4.out.own _ (List.mem_cons_self ..)).2.2.1 8 (by simp)
  have c0_9 := (HB4.out.own _ (List.mem_cons_self ..)).2.2.1 9 (by simp)
  simp only [List.getElem?_toArray, List.getElem?_cons_zero, List.getElem?_cons_succ] at c0_0 c0_1 c0_2 c0_3 c0_4 c0_5 c0_6 c0_7 c0_8 c0_9
  obtain ⟨c1_0, c1_1⟩ := HB4.out.two (List.mem_cons_of_mem _ (List.mem_cons_self ..))
  obtain ⟨c2_0, c2_1⟩ := HB4.out.two (List.mem_cons_of_mem _ (List.mem_cons_of_mem _ (List.mem_cons_self ..)))
  go_wp2_with fail
  refine (HAb1.out K1.out _).mono ?_
  rintro e5 w5 ⟨rfl, na1, rfl⟩
  obtain ⟨w5, hw⟩ : ∃ w5 : World, w5 = w4.drewN na1 := ⟨_, rfl⟩
  rw [← hw]
  have HB5 := Lib.hid (HB4.out.keep (show Below w4.heap.size w4 w5 from hw ▸ below_drewN (Below.refl _ _) _))
  clear c0_0 c0_1 c0_2 c0_3 c0_4 c0_5 c0_6 c0_7 c0_8 c0_9 c1_0 c1_1 c2_0 c2_1
  clear hw HB4
  by_cases g1 : ¬ z1 > 12
  rotate_left
  · have g1' : 12 < z1 := by omega
    go_wp2_with fail
    go_ret
    exact ⟨rfl, HB5.out.below⟩
  have G1 := Lib.hid g1
  have g1' : ¬ 12 < z1 := g1
  clear g1
  have c0_0 := (HB5.out.own _ (List.mem_cons_self ..)).2.2.1 0 (by simp)
  have c0_1 := (HB5.out.own _ (List.mem_cons_self ..)).2.2.1 1 (by simp)
  have c0_2 := (HB5.out.own _ (List.mem_cons_self ..)).2.2.1 2 (by simp)
  have c0_3 := (HB5.out.own _ (List.mem_cons_self ..)).2.2.1 3 (by simp)
  have c0_4 := (HB5.out.own _ (List.mem_cons_self ..)).2.2.1 4 (by simp)
  have c0_5 := (HB5.out.own _ (List.mem_cons_self ..)).2.2.1 5 (by simp)
  have c0_6 := (HB5.out.own _ (List.mem_cons_self ..)).2.2.1 6 (by simp)
  have c0_7 := (HB5.out.own _ (List.mem_cons_self ..)).2.2.1 7 (by simp)
  have c0_8 := (HB5.out.own _ (List.mem_cons_self ..)).2.2.1 8 (by simp)
  have c0_9 := (HB5.out.own _ (List.mem_cons_self ..)).2.2.1 9 (by simp)
  simp only [List.getElem?_toArray, List.getElem?_cons_zero, List.getElem?_cons_succ] at c0_0 c0_1 c0_2 c0_3 c0_4 c0_5 c0_6 c0_7 c0_8 c0_9
  obtain ⟨c1_0, c1_1⟩ := HB5.out.two (List.mem_cons_of_mem _ (List.mem_cons_self ..))
  obtain ⟨c2_0, c2_1⟩ := HB5.out.two (List.mem_cons_of_mem _ (List.mem_cons_of_mem _ (List.mem_cons_self ..)))
  go_wp2_with fail
  refine (HAb2.out K2.out _).mono ?_
  rintro e6 w6 ⟨rfl, na2, rfl⟩
  obtain ⟨w6, hw⟩ : ∃ w6 : World, w6 = w5.drewN na2 := ⟨_, rfl⟩
  rw [← hw]
  have HB6 := Lib.hid (HB5.out.keep (show Below w5.heap.size w5 w6 from hw ▸ below_drewN (Below.refl _ _) _))
  clear c0_0 c0_1 c0_2 c0_3 c0_4 c0_5 c0_6 c0_7 c0_8 c0_9 c1_0 c1_1 c2_0 c2_1
  clear hw HB5
  by_cases g2 : ¬ z2 > 12
  rotate_left
  · have g2' : 12 < z2 := by omega
    go_wp2_with fail
    go_ret
    exact ⟨rfl, HB6.out.below⟩
  have G2 := Lib.hid g2
  have g2' : ¬ 12 < z2 := g2
  clear g2
  have c0_0 := (HB6.out.own _ (List.mem_cons_self ..)).2.2.1 0 (by simp)
  have c0_1 := (HB6.out.own _ (List.mem_cons_self ..)).2.2.1 1 (by simp)
  have c0_2 := (HB6.out.own _ (List.mem_cons_self ..)).2.2.1 2 (by simp)
  have c0_3 := (HB6.out.own _ (List.mem_cons_self ..)).2.2.1 3 (by simp)
  have c0_4 := (HB6.out.own _ (List.mem_cons_self ..)).2.2.1 4 (by simp)
  have c0_5 := (HB6.out.own _ (List.mem_cons_self ..)).2.2.1 5 (by simp)
  have c0_6 := (HB6.out.own _ (List.mem_cons_self ..)).2.2.1 6 (by simp)
  have c0_7 := (HB6.out.own _ (List.mem_cons_self ..)).2.2.1 7 (by simp)
  have c0_8 := (HB6.out.own _ (List.mem_cons_self ..)).2.2.1 8 (by simp)
  have c0_9 := (HB6.out.own _ (List.mem_cons_self ..)).2.2.1 9 (by simp)
  simp only [List.getElem?_toArray, List.getElem?_cons_zero, List.getElem?_cons_succ] at c0_0 c0_1 c0_2 c0_3 c0_4 c0_5 c0_6 c0_7 c0_8 c0_9
  obtain ⟨c1_0, c1_1⟩ := HB6.out.two (List.mem_cons_of_mem _ (List.mem_cons_self ..))
  obtain ⟨c2_0, c2_1⟩ := HB6.out.two (List.mem_cons_of_mem _ (List.mem_cons_of_mem _ (List.mem_cons_self ..)))
  go_wp2_with fail
  refine (HAb3.out K2.out _).mono ?_
  rintro e7 w7 ⟨rfl, na3, rfl⟩
  obtain ⟨w7, hw⟩ : ∃ w7 : World, w7 = w6.drewN na3 := ⟨_, rfl⟩
  rw [← hw]
  have HB7 := Lib.hid (HB6.out.keep (show Below w6.heap.size w6 w7 from hw ▸ below_drewN (Below.refl _ _) _))
  clear c0_0 c0_1 c0_2 c0_3 c0_4 c0_5 c0_6 c0_7 c0_8 c0_9 c1_0 c1_1 c2_0 c2_1
  clear hw HB6
  by_cases g3 : ¬ z3 > 12
  rotate_left
  · have g3' : 12 < z3 := by omega
    go_wp2_with fail
    go_ret
    exact ⟨rfl, HB7.out.below⟩
  have G3 := Lib.hid g3
  have g3' : ¬ 12 < z3 := g3
  clear g3
  have c0_0 := (HB7.out.own _ (List.mem_cons_self ..)).2.2.1 0 (by simp)
  have c0_1 := (HB7.out.own _ (List.mem_cons_self ..)).2.2.1 1 (by simp)
  have c0_2 := (HB7.out.own _ (List.mem_cons_self ..)).2.2.1 2 (by simp)
  have c0_3 := (HB7.out.own _ (List.mem_cons_self ..)).2.2.1 3 (by simp)
  have c0_4 := (HB7.out.own _ (List.mem_cons_self ..)).2.2.1 4 (by simp)
  have c0_5 := (HB7.out.own _ (List.mem_cons_self ..)).2.2.1 5 (by simp)
  have c0_6 := (HB7.out.own _ (List.mem_cons_self ..)).2.2.1 6 (by simp)
  have c0_7 := (HB7.out.own _ (List.mem_cons_self ..)).2.2.1 7 (by simp)
  have c0_8 := (HB7.out.own _ (List.mem_cons_self ..)).2.2.1 8 (by simp)
  have c0_9 := (HB7.out.own _ (List.mem_cons_self ..)).2.2.1 9 (by simp)
  simp only [List.getElem?_toArray, List.getElem?_cons_zero, List.getElem?_cons_succ] at c0_0 c0_1 c0_2 c0_3 c0_4 c0_5 c0_6 c0_7 c0_8 c0_9
  obtain ⟨c1_0, c1_1⟩ := HB7.out.two (List.mem_cons_of_mem _ (List.mem_cons_self ..))
  obtain ⟨c2_0, c2_1⟩ := HB7.out.two (List.mem_cons_of_mem _ (List.mem_cons_of_mem _ (List.mem_cons_self ..)))
  go_wp2_with fail
  refine (HT1.out _).mono ?_
  rintro e8 w8 ⟨rfl, hbb⟩
  have HB8 := Lib.hid (HB7.out.keep hbb)
  clear c0_0 c0_1 c0_2 c0_3 c0_4 c0_5 c0_6 c0_7 c0_8 c0_9 c1_0 c1_1 c2_0 c2_1
  clear hbb HB7
  cases t0
  · skip
    go_wp2_with fail
    go_ret
    exact ⟨rfl, HB8.out.below⟩
  have c0_0 := (HB8.out.own _ (List.mem_cons_self ..)).2.2.1 0 (by simp)
  have c0_1 := (HB8.out.own _ (List.mem_cons_self ..)).2.2.1 1 (by simp)
  have c0_2 := (HB8.out.own _ (List.mem_cons_self ..)).2.2.1 2 (by simp)
  have c0_3 := (HB8.out.own _ (List.mem_cons_self ..)).2.2.1 3 (by simp)
  have c0_4 := (HB8.out.own _ (List.mem_cons_self ..)).2.2.1 4 (by simp)
  have c0_5 := (HB8.out.own _ (List.mem_cons_self ..)).2.2.1 5 (by simp)
  have c0_6 := (HB8.out.own _ (List.mem_cons_self ..)).2.2.1 6 (by simp)
  have c0_7 := (HB8.out.own _ (List.mem_cons_self ..)).2.2.1 7 (by simp)
  have c0_8 := (HB8.out.own _ (List.mem_cons_self ..)).2.2.1 8 (by simp)
  have c0_9 := (HB8.out.own _ (List.mem_cons_self ..)).2.2.1 9 (by simp)
  simp only [List.getElem?_toArray, List.getElem?_cons_zero, List.getElem?_cons_succ] at c0_0 c0_1 c0_2 c0_3 c0_4 c0_5 c0_6 c0_7 c0_8 c0_9
  obtain ⟨c1_0, c1_1⟩ := HB8.out.two (List.mem_cons_of_mem _ (List.mem_cons_self ..))
  obtain ⟨c2_0, c2_1⟩ := HB8.out.two (List.mem_cons_of_mem _ (List.mem_cons_of_mem _ (List.mem_cons_self ..)))
  go_wp2_with fail
  refine (HT2.out _).mono ?_
  rintro e9 w9 ⟨rfl, hbb⟩
  have HB9 := Lib.hid (HB8.out.keep hbb)
  clear c0_0 c0_1 c0_2 c0_3 c0_4 c0_5 c0_6 c0_7 c0_8 c0_9 c1_0 c1_1 c2_0 c2_1
  clear hbb HB8
  cases t1
  · skip
    go_wp2_with fail
    go_ret
    exact ⟨rfl, HB9.out.below⟩
  obtain ⟨X, Y, E, F, hIm, hIs, hcs⟩ := HG.out K1.out K2.out G0.out G1.out G2.out G3.out (by first | rfl | trivial) (by first | rfl | trivial)
  obtain ⟨x0, x1, x2, x3, x4⟩ := X; obtain ⟨y0, y1, y2, y3, y4⟩ := Y
  simp only [qv] at hIm
  have HIm := Lib.hid hIm; have HIs := Lib.hid hIs
  clear hIm hIs HG HC1 HC2 HAb0 HAb1 HAb2 HAb3 HT1 HT2 HR K1 K2 G0 G1 G2 G3
  rcases hcs with ⟨rfl, rfl, M, U, V, Z, N, D, hK⟩ | ⟨rfl, rfl⟩ | ⟨rfl, rfl⟩
  · skip
    obtain ⟨m0, m1, m2, m3, m4⟩ := M
    obtain ⟨ua0, ua1, ua2, ua3, ua4⟩ := U
    obtain ⟨va0, va1, va2, va3, va4⟩ := V
    obtain ⟨wa0, wa1, wa2, wa3, wa4⟩ := Z
    obtain ⟨k1, k2, k3, k4, k5, k6, k7⟩ := hK
    simp only [qv, fvv] at k1 k2 k3 k4 k5 k6 k7
    have HK1 := Lib.hid k1
    have HK2 := Lib.hid k2
    have HK3 := Lib.hid k3
    have HK4 := Lib.hid k4
    have HK5 := Lib.hid k5
    have HK6 := Lib.hid k6
    have HK7 := Lib.hid k7
    clear k1 k2 k3 k4 k5 k6 k7
    have c0_0 := (HB9.out.own _ (List.mem_cons_self ..)).2.2.1 0 (by simp)
    have c0_1 := (HB9.out.own _ (List.mem_cons_self ..)).2.2.1 1 (by simp)
    have c0_2 := (HB9.out.own _ (List.mem_cons_self ..)).2.2.1 2 (by simp)
    have c0_3 := (HB9.out.own _ (List.mem_cons_self ..)).2.2.1 3 (by simp)
    have c0_4 := (HB9.out.own _ (List.mem_cons_self ..)).2.2.1 4 (by simp)
    have c0_5 := (HB9.out.own _ (List.mem_cons_self ..)).2.2.1 5 (by simp)
    have c0_6 := (HB9.out.own _ (List.mem_cons_self ..)).2.2.1 6 (by simp)
    have c0_7 := (HB9.out.own _ (List.mem_cons_self ..)).2.2.1 7 (by simp)
    have c0_8 := (HB9.out.own _ (List.mem_cons_self ..)).2.2.1 8 (by simp)
    have c0_9 := (HB9.out.own _ (List.mem_cons_self ..)).2.2.1 9 (by simp)
    simp only [List.getElem?_toArray, List.getElem?_cons_zero, List.getElem?_cons_succ] at c0_0 c0_1 c0_2 c0_3 c0_4 c0_5 c0_6 c0_7 c0_8 c0_9
    obtain ⟨c1_0, c1_1⟩ := HB9.out.two (List.mem_cons_of_mem _ (List.mem_cons_self ..))
    obtain ⟨c2_0, c2_1⟩ := HB9.out.two (List.mem_cons_of_mem _ (List.mem_cons_of_mem _ (List.mem_cons_self ..)))
    go_wp2_with fail
    refine (HIm.out _).mono ?_
    rintro e10 w10 ⟨rfl, hbb⟩
    have HB10 := Lib.hid (HB9.out.keep hbb)
    clear c0_0 c0_1 c0_2 c0_3 c0_4 c0_5 c0_6 c0_7 c0_8 c0_9 c1_0 c1_1 c2_0 c2_1
    clear hbb HB9
    go_upto_region 6 with fail
    obtain ⟨V1, hV1⟩ : ∃ V1 : World, V1 = ((w10.alloc (.cells #[.int .i64 x0, .int .i64 x1, .int .i64 x2, .int .i64 x3, .int .i64 x4] 25)).alloc (.cells #[.int .i64 y0, .int .i64 y1, .int .i64 y2, .int .i64 y3, .int .i64 y4] 25)) := ⟨_, rfl⟩
    rw [← hV1]
    have HV1 := Lib.hid (show Bx w [(w10.heap.size + 1, #[.int .i64 y0, .int .i64 y1, .int .i64 y2, .int .i64 y3, .int .i64 y4]), (w10.heap.size, #[.int .i64 x0, .int .i64 x1, .int .i64 x2, .int .i64 x3, .int .i64 x4]), (w.heap.size + 2, #[.int .i64 p0, .int .i64 p1, .int .i64 p2, .int .i64 p3, .int .i64 p4, .int .i64 q0, .int .i64 q1, .int .i64 q2, .int .i64 q3, .int .i64 q4]), (w.heap.size + 1, #[.int .i64 c, .int .i64 d]), (w.heap.size, #[.int .i64 a, .int .i64 b])] V1 by rw [hV1]; simpa using ((HB10.out.new #[.int .i64 x0, .int .i64 x1, .int .i64 x2, .int .i64 x3, .int .i64 x4] 25).new #[.int .i64 y0, .int .i64 y1, .int .i64 y2, .int .i64 y3, .int .i64 y4] 25))
    clear hV1 HB10
    generalize w10.heap.size = B1 at *
    obtain ⟨c0_0, c0_1, c0_2, c0_3, c0_4⟩ := HV1.out.five (List.mem_cons_self ..)
    obtain ⟨c1_0, c1_1, c1_2, c1_3, c1_4⟩ := HV1.out.five (List.mem_cons_of_mem _ (List.mem_cons_self ..))
    have c2_0 := (HV1.out.own _ (List.mem_cons_of_mem _ (List.mem_cons_of_mem _ (List.mem_cons_self ..)))).2.2.1 0 (by simp)
    have c2_1 := (HV1.out.own _ (List.mem_cons_of_mem _ (List.mem_cons_of_mem _ (List.mem_cons_self ..)))).2.2.1 1 (by simp)
    have c2_2 := (HV1.out.own _ (List.mem_cons_of_mem _ (List.mem_cons_of_mem _ (List.mem_cons_self ..)))).2.2.1 2 (by simp)
    have c2_3 := (HV1.out.own _ (List.mem_cons_of_mem _ (List.mem_cons_of_mem _ (List.mem_cons_self ..)))).2.2.1 3 (by simp)
    have c2_4 := (HV1.out.own _ (List.mem_cons_of_mem _ (List.mem_cons_of_mem _ (List.mem_cons_self ..)))).2.2.1 4 (by simp)
    have c2_5 := (HV1.out.own _ (List.mem_cons_of_mem _ (List.mem_cons_of_mem _ (List.mem_cons_self ..)))).2.2.1 5 (by simp)
    have c2_6 := (HV1.out.own _ (List.mem_cons_of_mem _ (List.mem_cons_of_mem _ (List.mem_cons_self ..)))).2.2.1 6 (by simp)
    have c2_7 := (HV1.out.own _ (List.mem_cons_of_mem _ (List.mem_cons_of_mem _ (List.mem_cons_self ..)))).2.2.1 7 (by simp)
    have c2_8 := (HV1.out.own _ (List.mem_cons_of_mem _ (List.mem_cons_of_mem _ (List.mem_cons_self ..)))).2.2.1 8 (by simp)
    have c2_9 := (HV1.out.own _ (List.mem_cons_of_mem _ (List.mem_cons_of_mem _ (List.mem_cons_self ..)))).2.2.1 9 (by simp)
    simp only [List.getElem?_toArray, List.getElem?_cons_zero, List.getElem?_cons_succ] at c2_0 c2_1 c2_2 c2_3 c2_4 c2_5 c2_6 c2_7 c2_8 c2_9
    obtain ⟨c3_0, c3_1⟩ := HV1.out.two (List.mem_cons_of_mem _ (List.mem_cons_of_mem _ (List.mem_cons_of_mem _ (List.mem_cons_self ..))))
    obtain ⟨c4_0, c4_1⟩ := HV1.out.two (List.mem_cons_of_mem _ (List.mem_cons_of_mem _ (List.mem_cons_of_mem _ (List.mem_cons_of_mem _ (List.mem_cons_self ..)))))
    go_wp2_with fail
    refine (HIs.out _).mono ?_
    rintro e11 w11 ⟨rfl, hbb⟩
    have HB11 := Lib.hid (HV1.out.keep hbb)
    clear c0_0 c0_1 c0_2 c0_3 c0_4 c1_0 c1_1 c1_2 c1_3 c1_4 c2_0 c2_1 c2_2 c2_3 c2_4 c2_5 c2_6 c2_7 c2_8 c2_9 c3_0 c3_1 c4_0 c4_1
    clear hbb HV1
    obtain ⟨c0_0, c0_1, c0_2, c0_3, c0_4⟩ := HB11.out.five (List.mem_cons_self ..)
    obtain ⟨c1_0, c1_1, c1_2, c1_3, c1_4⟩ := HB11.out.five (List.mem_cons_of_mem _ (List.mem_cons_self ..))
    have c2_0 := (HB11.out.own _ (List.mem_cons_of_mem _ (List.mem_cons_of_mem _ (List.mem_cons_self ..)))).2.2.1 0 (by simp)
    have c2_1 := (HB11.out.own _ (List.mem_cons_of_mem _ (List.mem_cons_of_mem _ (List.mem_cons_self ..)))).2.2.1 1 (by simp)
    have c2_2 := (HB11.out.own _ (List.mem_cons_of_mem _ (List.mem_cons_of_mem _ (List.mem_cons_self ..)))).2.2.1 2 (by simp)
    have c2_3 := (HB11.out.own _ (List.mem_cons_of_mem _ (List.mem_cons_of_mem _ (List.mem_cons_self ..)))).2.2.1 3 (by simp)
    have c2_4 := (HB11.out.own _ (List.mem_cons_of_mem _ (List.mem_cons_of_mem _ (List.mem_cons_self ..)))).2.2.1 4 (by simp)
    have c2_5 := (HB11.out.own _ (List.mem_cons_of_mem _ (List.mem_cons_of_mem _ (List.mem_cons_self ..)))).2.2.1 5 (by simp)
    have c2_6 := (HB11.out.own _ (List.mem_cons_of_mem _ (List.mem_cons_of_mem _ (List.mem_cons_self ..)))).2.2.1 6 (by simp)
    have c2_7 := (HB11.out.own _ (List.mem_cons_of_mem _ (List.mem_cons_of_mem _ (List.mem_cons_self ..)))).2.2.1 7 (by simp)
    have c2_8 := (HB11.out.own _ (List.mem_cons_of_mem _ (List.mem_cons_of_mem _ (List.mem_cons_self ..)))).2.2.1 8 (by simp)
    have c2_9 := (HB11.out.own _ (List.mem_cons_of_mem _ (List.mem_cons_of_mem _ (List.mem_cons_self ..)))).2.2.1 9 (by simp)
    simp only [List.getElem?_toArray, List.getElem?_cons_zero, List.getElem?_cons_succ] at c2_0 c2_1 c2_2 c2_3 c2_4 c2_5 c2_6 c2_7 c2_8 c2_9
    obtain ⟨c3_0, c3_1⟩ := HB11.out.two (List.mem_cons_of_mem _ (List.mem_cons_of_mem _ (List.mem_cons_of_mem _ (List.mem_cons_self ..))))
    obtain ⟨c4_0, c4_1⟩ := HB11.out.two (List.mem_cons_of_mem _ (List.mem_cons_of_mem _ (List.mem_cons_of_mem _ (List.mem_cons_of_mem _ (List.mem_cons_self ..)))))
    go_wp2_with fail
    refine (HK1.out _).mono ?_
    rintro e12 w12 ⟨rfl, hbb⟩
    have HB12 := Lib.hid (HB11.out.keep hbb)
    clear c0_0 c0_1 c0_2 c0_3 c0_4 c1_0 c1_1 c1_2 c1_3 c1_4 c2_0 c2_1 c2_2 c2_3 c2_4 c2_5 c2_6 c2_7 c2_8 c2_9 c3_0 c3_1 c4_0 c4_1
    clear hbb HB11
    go_upto_region 12 with fail
    obtain ⟨V2, hV2⟩ : ∃ V2 : World, V2 = w12.alloc (.cells #[.int .i64 m0, .int .i64 m1, .int .i64 m2, .int .i64 m3, .int .i64 m4] 25) := ⟨_, rfl⟩
    rw [← hV2]
    have HV2 := Lib.hid (show Bx w [(w12.heap.size, #[.int .i64 m0, .int .i64 m1, .int .i64 m2, .int .i64 m3, .int .i64 m4]), (B1 + 1, #[.int .i64 y0, .int .i64 y1, .int .i64 y2, .int .i64 y3, .int .i64 y4]), (B1, #[.int .i64 x0, .int .i64 x1, .int .i64 x2, .int .i64 x3, .int .i64 x4]), (w.heap.size + 2, #[.int .i64 p0, .int .i64 p1, .int .i64 p2, .int .i64 p3, .int .i64 p4, .int .i64 q0, .int .i64 q1, .int .i64 q2, .int .i64 q3, .int .i64 q4]), (w.heap.size + 1, #[.int .i64 c, .int .i64 d]), (w.heap.size, #[.int .i64 a, .int .i64 b])] V2 from hV2 ▸ HB12.out.new _ _)
    have hlt2 := HB12.out.lt (List.mem_cons_self ..)
    clear hV2 HB12
    generalize w12.heap.size = B2 at *
    obtain ⟨c0_0, c0_1, c0_2, c0_3, c0_4⟩ := HV2.out.five (List.mem_cons_self ..)
    obtain ⟨c1_0, c1_1, c1_2, c1_3, c1_4⟩ := HV2.out.five (List.mem_cons_of_mem _ (List.mem_cons_self ..))
    obtain ⟨c2_0, c2_1, c2_2, c2_3, c2_4⟩ := HV2.out.five (List.mem_cons_of_mem _ (List.mem_cons_of_mem _ (List.mem_cons_self ..)))
    have c3_0 := (HV2.out.own _ (List.mem_cons_of_mem _ (List.mem_cons_of_mem _ (List.mem_cons_of_mem _ (List.mem_cons_self ..))))).2.2.1 0 (by simp)
    have c3_1 := (HV2.out.own _ (List.mem_cons_of_mem _ (List.mem_cons_of_mem _ (List.mem_cons_of_mem _ (List.mem_cons_self ..))))).2.2.1 1 (by simp)
    have c3_2 := (HV2.out.own _ (List.mem_cons_of_mem _ (List.mem_cons_of_mem _ (List.mem_cons_of_mem _ (List.mem_cons_self ..))))).2.2.1 2 (by simp)
    have c3_3 := (HV2.out.own _ (List.mem_cons_of_mem _ (List.mem_cons_of_mem _ (List.mem_cons_of_mem _ (List.mem_cons_self ..))))).2.2.1 3 (by simp)
    have c3_4 := (HV2.out.own _ (List.mem_cons_of_mem _ (List.mem_cons_of_mem _ (List.mem_cons_of_mem _ (List.mem_cons_self ..))))).2.2.1 4 (by simp)
    have c3_5 := (HV2.out.own _ (List.mem_cons_of_mem _ (List.mem_cons_of_mem _ (List.mem_cons_of_mem _ (List.mem_cons_self ..))))).2.2.1 5 (by simp)
    have c3_6 := (HV2.out.own _ (List.mem_cons_of_mem _ (List.mem_cons_of_mem _ (List.mem_cons_of_mem _ (List.mem_cons_self ..))))).2.2.1 6 (by simp)
    have c3_7 := (HV2.out.own _ (List.mem_cons_of_mem _ (List.mem_cons_of_mem _ (List.mem_cons_of_mem _ (List.mem_cons_self ..))))).2.2.1 7 (by simp)
    have c3_8 := (HV2.out.own _ (List.mem_cons_of_mem _ (List.mem_cons_of_mem _ (List.mem_cons_of_mem _ (List.mem_cons_self ..))))).2.2.1 8 (by simp)
    have c3_9 := (HV2.out.own _ (List.mem_cons_of_mem _ (List.mem_cons_of_mem _ (List.mem_cons_of_mem _ (List.mem_cons_self ..))))).2.2.1 9 (by simp)
    simp only [List.getElem?_toArray, List.getElem?_cons_zero, List.getElem?_cons_succ] at c3_0 c3_1 c3_2 c3_3 c3_4 c3_5 c3_6 c3_7 c3_8 c3_9
    obtain ⟨c4_0, c4_1⟩ := HV2.out.two (List.mem_cons_of_mem _ (List.mem_cons_of_mem _ (List.mem_cons_of_mem _ (List.mem_cons_of_mem _ (List.mem_cons_self ..)))))
    obtain ⟨c5_0, c5_1⟩ := HV2.out.two (List.mem_cons_of_mem _ (List.mem_cons_of_mem _ (List.mem_cons_of_mem _ (List.mem_cons_of_mem _ (List.mem_cons_of_mem _ (List.mem_cons_self ..))))))
    go_wp2_with fail
    refine (HK2.out _).mono ?_
    rintro e13 w13 ⟨rfl, hbb⟩
    have HB13 := Lib.hid (HV2.out.keep hbb)
    clear c0_0 c0_1 c0_2 c0_3 c0_4 c1_0 c1_1 c1_2 c1_3 c1_4 c2_0 c2_1 c2_2 c2_3 c2_4 c3_0 c3_1 c3_2 c3_3 c3_4 c3_5 c3_6 c3_7 c3_8 c3_9 c4_0 c4_1 c5_0 c5_1
    clear hbb HV2
    go_upto_region 13 with fail
    obtain ⟨V3, hV3⟩ : ∃ V3 : World, V3 = w13.alloc (.cells #[.int .i64 ua0, .int .i64 ua1, .int .i64 ua2, .int .i64 ua3, .int .i64 ua4] 25) := ⟨_, rfl⟩
    rw [← hV3]
    have HV3 := Lib.hid (show Bx w [(w13.heap.size, #[.int .i64 ua0, .int .i64 ua1, .int .i64 ua2, .int .i64 ua3, .int .i64 ua4]), (B2, #[.int .i64 m0, .int .i64 m1, .int .i64 m2, .int .i64 m3, .int .i64 m4]), (B1 + 1, #[.int .i64 y0, .int .i64 y1, .int .i64 y2, .int .i64 y3, .int .i64 y4]), (B1, #[.int .i64 x0, .int .i64 x1, .int .i64 x2, .int .i64 x3, .int .i64 x4]), (w.heap.size + 2, #[.int .i64 p0, .int .i64 p1, .int .i64 p2, .int .i64 p3, .int .i64 p4, .int .i64 q0, .int .i64 q1, .int .i64 q2, .int .i64 q3, .int .i64 q4]), (w.heap.size + 1, #[.int .i64 c, .int .i64 d]), (w.heap.size, #[.int .i64 a, .int .i64 b])] V3 from hV3 ▸ HB13.out.new _ _)
    have hlt3 := HB13.out.lt (List.mem_cons_self ..)
    clear hV3 HB13
    generalize w13.heap.size = B3 at *
    obtain ⟨c0_0, c0_1, c0_2, c0_3, c0_4⟩ := HV3.out.five (List.mem_cons_self ..)
    obtain ⟨c1_0, c1_1, c1_2, c1_3, c1_4⟩ := HV3.out.five (List.mem_cons_of_mem _ (List.mem_cons_self ..))
    obtain ⟨c2_0, c2_1, c2_2, c2_3, c2_4⟩ := HV3.out.five (List.mem_cons_of_mem _ (List.mem_cons_of_mem _ (List.mem_cons_self ..)))
    obtain ⟨c3_0, c3_1, c3_2, c3_3, c3_4⟩ := HV3.out.five (List.mem_cons_of_mem _ (List.mem_cons_of_mem _ (List.mem_cons_of_mem _ (List.mem_cons_self ..))))
    have c4_0 := (HV3.out.own _ (List.mem_cons_of_mem _ (List.mem_cons_of_mem _ (List.mem_cons_of_mem _ (List.mem_cons_of_mem _ (List.mem_cons_self ..)))))).2.2.1 0 (by simp)
    have c4_1 := (HV3.out.own _ (List.mem_cons_of_mem _ (List.mem_cons_of_mem _ (List.mem_cons_of_mem _ (List.mem_cons_of_mem _ (List.mem_cons_self ..)))))).2.2.1 1 (by simp)
    have c4_2 := (HV3.out.own _ (List.mem_cons_of_mem _ (List.mem_cons_of_mem _ (List.mem_cons_of_mem _ (List.mem_cons_of_mem _ (List.mem_cons_self ..)))))).2.2.1 2 (by simp)
    have c4_3 := (HV3.out.own _ (List.mem_cons_of_mem _ (List.mem_cons_of_mem _ (List.mem_cons_of_mem _ (List.mem_cons_of_mem _ (List.mem_cons_self ..)))))).2.2.1 3 (by simp)
    have c4_4 := (HV3.out.own _ (List.mem_cons_of_mem _ (List.mem_cons_of_mem _ (List.mem_cons_of_mem _ (List.mem_cons_of_mem _ (List.mem_cons_self ..)))))).2.2.1 4 (by simp)
    have c4_5 := (HV3.out.own _ (List.mem_cons_of_mem _ (List.mem_cons_of_mem _ (List.mem_cons_of_mem _ (List.mem_cons_of_mem _ (List.mem_cons_self ..)))))).2.2.1 5 (by simp)
    have c4_6 := (HV3.out.own _ (List.mem_cons_of_mem _ (List.mem_cons_of_mem _ (List.mem_cons_of_mem _ (List.mem_cons_of_mem _ (List.mem_cons_self ..)))))).2.2.1 6 (by simp)
    have c4_7 := (HV3.out.own _ (List.mem_cons_of_mem _ (List.mem_cons_of_mem _ (List.mem_cons_of_mem _ (List.mem_cons_of_mem _ (List.mem_cons_self ..)))))).2.2.1 7 (by simp)
    have c4_8 := (HV3.out.own _ (List.mem_cons_of_mem _ (List.mem_cons_of_mem _ (List.mem_cons_of_mem _ (List.mem_cons_of_mem _ (List.mem_cons_self ..)))))).2.2.1 8 (by simp)
    have c4_9 := (HV3.out.own _ (List.mem_cons_of_mem _ (List.mem_cons_of_mem _ (List.mem_cons_of_mem _ (List.mem_cons_of_mem _ (List.mem_cons_self ..)))))).2.2.1 9 (by simp)
    simp only [List.getElem?_toArray, List.getElem?_cons_zero, List.getElem?_cons_succ] at c4_0 c4_1 c4_2 c4_3 c4_4 c4_5 c4_6 c4_7 c4_8 c4_9
    obtain ⟨c5_0, c5_1⟩ := HV3.out.two (List.mem_cons_of_mem _ (List.mem_cons_of_mem _ (List.mem_cons_of_mem _ (List.mem_cons_of_mem _ (List.mem_cons_of_mem _ (List.mem_cons_self ..))))))
    obtain ⟨c6_0, c6_1⟩ := HV3.out.two (List.mem_cons_of_mem _ (List.mem_cons_of_mem _ (List.mem_cons_of_mem _ (List.mem_cons_of_mem _ (List.mem_cons_of_mem _ (List.mem_cons_of_mem _ (List.mem_cons_self ..)))))))
    go_wp2_with fail
    refine (HK3.out _).mono ?_
    rintro e14 w14 ⟨rfl, hbb⟩
    have HB14 := Lib.hid (HV3.out.keep hbb)
    clear c0_0 c0_1 c0_2 c0_3 c0_4 c1_0 c1_1 c1_2 c1_3 c1_4 c2_0 c2_1 c2_2 c2_3 c2_4 c3_0 c3_1 c3_2 c3_3 c3_4 c4_0 c4_1 c4_2 c4_3 c4_4 c4_5 c4_6 c4_7 c4_8 c4_9 c5_0 c5_1 c6_0 c6_1
    clear hbb HV3
    go_upto_region 14 with fail
    obtain ⟨V4, hV4⟩ : ∃ V4 : World, V4 = w14.alloc (.cells #[.int .i64 va0, .int .i64 va1, .int .i64 va2, .int .i64 va3, .int .i64 va4] 25) := ⟨_, rfl⟩
    rw [← hV4]
    have HV4 := Lib.hid (show Bx w [(w14.heap.size, #[.int .i64 va0, .int .i64 va1, .int .i64 va2, .int .i64 va3, .int .i64 va4]), (B3, #[.int .i64 ua0, .int .i64 ua1, .int .i64 ua2, .int .i64 ua3, .int .i64 ua4]), (B2, #[.int .i64 m0, .int .i64 m1, .int .i64 m2, .int .i64 m3, .int .i64 m4]), (B1 + 1, #[.int .i64 y0, .int .i64 y1, .int .i64 y2, .int .i64 y3, .int .i64 y4]), (B1, #[.int .i64 x0, .int .i64 x1, .int .i64 x2, .int .i64 x3, .int .i64 x4]), (w.heap.size + 2, #[.int .i64 p0, .int .i64 p1, .int .i64 p2, .int .i64 p3, .int .i64 p4, .int .i64 q0, .int .i64 q1, .int .i64 q2, .int .i64 q3, .int .i64 q4]), (w.heap.size + 1, #[.int .i64 c, .int .i64 d]), (w.heap.size, #[.int .i64 a, .int .i64 b])] V4 from hV4 ▸ HB14.out.new _ _)
    have hlt4 := HB14.out.lt (List.mem_cons_self ..)
    clear hV4 HB14
    generalize w14.heap.size = B4 at *
    obtain ⟨c0_0, c0_1, c0_2, c0_3, c0_4⟩ := HV4.out.five (List.mem_cons_self ..)
    obtain ⟨c1_0, c1_1, c1_2, c1_3, c1_4⟩ := HV4.out.five (List.mem_cons_of_mem _ (List.mem_cons_self ..))
    obtain ⟨c2_0, c2_1, c2_2, c2_3, c2_4⟩ := HV4.out.five (List.mem_cons_of_mem _ (List.mem_cons_of_mem _ (List.mem_cons_self ..)))
    obtain ⟨c3_0, c3_1, c3_2, c3_3, c3_4⟩ := HV4.out.five (List.mem_cons_of_mem _ (List.mem_cons_of_mem _ (List.mem_cons_of_mem _ (List.mem_cons_self ..))))
    obtain ⟨c4_0, c4_1, c4_2, c4_3, c4_4⟩ := HV4.out.five (List.mem_cons_of_mem _ (List.mem_cons_of_mem _ (List.mem_cons_of_mem _ (List.mem_cons_of_mem _ (List.mem_cons_self ..)))))
    have c5_0 := (HV4.out.own _ (List.mem_cons_of_mem _ (List.mem_cons_of_mem _ (List.mem_cons_of_mem _ (List.mem_cons_of_mem _ (List.mem_cons_of_mem _ (List.mem_cons_self ..))))))).2.2.1 0 (by simp)
    have c5_1 := (HV4.out.own _ (List.mem_cons_of_mem _ (List.mem_cons_of_mem _ (List.mem_cons_of_mem _ (List.mem_cons_of_mem _ (List.mem_cons_of_mem _ (List.mem_cons_self ..))))))).2.2.1 1 (by simp)
    have c5_2 := (HV4.out.own _ (List.mem_cons_of_mem _ (List.mem_cons_of_mem _ (List.mem_cons_of_mem _ (List.mem_cons_of_mem _ (List.mem_cons_of_mem _ (List.mem_cons_self ..))))))).2.2.1 2 (by simp)
    have c5_3 := (HV4.out.own _ (List.mem_cons_of_mem _ (List.mem_cons_of_mem _ (List.mem_cons_of_mem _ (List.mem_cons_of_mem _ (List.mem_cons_of_mem _ (List.mem_cons_self ..))))))).2.2.1 3 (by simp)
    have c5_4 := (HV4.out.own _ (List.mem_cons_of_mem _ (List.mem_cons_of_mem _ (List.mem_cons_of_mem _ (List.mem_cons_of_mem _ (List.mem_cons_of_mem _ (List.mem_cons_self ..))))))).2.2.1 4 (by simp)
    have c5_5 := (HV4.out.own _ (List.mem_cons_of_mem _ (List.mem_cons_of_mem _ (List.mem_cons_of_mem _ (List.mem_cons_of_mem _ (List.mem_cons_of_mem _ (List.mem_cons_self ..))))))).2.2.1 5 (by simp)
    have c5_6 := (HV4.out.own _ (List.mem_cons_of_mem _ (List.mem_cons_of_mem _ (List.mem_cons_of_mem _ (List.mem_cons_of_mem _ (List.mem_cons_of_mem _ (List.mem_cons_self ..))))))).2.2.1 6 (by simp)
    have c5_7 := (HV4.out.own _ (List.mem_cons_of_mem _ (List.mem_cons_of_mem _ (List.mem_cons_of_mem _ (List.mem_cons_of_mem _ (List.mem_cons_of_mem _ (List.mem_cons_self ..))))))).2.2.1 7 (by simp)
    have c5_8 := (HV4.out.own _ (List.mem_cons_of_mem _ (List.mem_cons_of_mem _ (List.mem_cons_of_mem _ (List.mem_cons_of_mem _ (List.mem_cons_of_mem _ (List.mem_cons_self ..))))))).2.2.1 8 (by simp)
    have c5_9 := (HV4.out.own _ (List.mem_cons_of_mem _ (List.mem_cons_of_mem _ (List.mem_cons_of_mem _ (List.mem_cons_of_mem _ (List.mem_cons_of_mem _ (List.mem_cons_self ..))))))).2.2.1 9 (by simp)
    simp only [List.getElem?_toArray, List.getElem?_cons_zero, List.getElem?_cons_succ] at c5_0 c5_1 c5_2 c5_3 c5_4 c5_5 c5_6 c5_7 c5_8 c5_9
    obtain ⟨c6_0, c6_1⟩ := HV4.out.two (List.mem_cons_of_mem _ (List.mem_cons_of_mem _ (List.mem_cons_of_mem _ (List.mem_cons_of_mem _ (List.mem_cons_of_mem _ (List.mem_cons_of_mem _ (List.mem_cons_self ..)))))))
    obtain ⟨c7_0, c7_1⟩ := HV4.out.two (List.mem_cons_of_mem _ (List.mem_cons_of_mem _ (List.mem_cons_of_mem _ (List.mem_cons_of_mem _ (List.mem_cons_of_mem _ (List.mem_cons_of_mem _ (List.mem_cons_of_mem _ (List.mem_cons_self ..))))))))
    go_wp2_with fail
    refine (HK4.out _).mono ?_
    rintro e15 w15 ⟨rfl, hbb⟩
    have HB15 := Lib.hid (HV4.out.keep hbb)
    clear c0_0 c0_1 c0_2 c0_3 c0_4 c1_0 c1_1 c1_2 c1_3 c1_4 c2_0 c2_1 c2_2 c2_3 c2_4 c3_0 c3_1 c3_2 c3_3 c3_4 c4_0 c4_1 c4_2 c4_3 c4_4 c5_0 c5_1 c5_2 c5_3 c5_4 c5_5 c5_6 c5_7 c5_8 c5_9 c6_0 c6_1 c7_0 c7_1
    clear hbb HV4
    go_upto_region 15 with fail
    obtain ⟨V5, hV5⟩ : ∃ V5 : World, V5 = w15.alloc (.cells #[.int .i64 wa0, .int .i64 wa1, .int .i64 wa2, .int .i64 wa3, .int .i64 wa4] 25) := ⟨_, rfl⟩
    rw [← hV5]
    have HV5 := Lib.hid (show Bx w [(w15.heap.size, #[.int .i64 wa0, .int .i64 wa1, .int .i64 wa2, .int .i64 wa3, .int .i64 wa4]), (B4, #[.int .i64 va0, .int .i64 va1, .int .i64 va2, .int .i64 va3, .int .i64 va4]), (B3, #[.int .i64 ua0, .int .i64 ua1, .int .i64 ua2, .int .i64 ua3, .int .i64 ua4]), (B2, #[.int .i64 m0, .int .i64 m1, .int .i64 m2, .int .i64 m3, .int .i64 m4]), (B1 + 1, #[.int .i64 y0, .int .i64 y1, .int .i64 y2, .int .i64 y3, .int .i64 y4]), (B1, #[.int .i64 x0, .int .i64 x1, .int .i64 x2, .int .i64 x3, .int .i64 x4]), (w.heap.size + 2, #[.int .i64 p0, .int .i64 p1, .int .i64 p2, .int .i64 p3, .int .i64 p4, .int .i64 q0, .int .i64 q1, .int .i64 q2, .int .i64 q3, .int .i64 q4]), (w.heap.size + 1, #[.int .i64 c, .int .i64 d]), (w.heap.size, #[.int .i64 a, .int .i64 b])] V5 from hV5 ▸ HB15.out.new _ _)
    have hlt5 := HB15.out.lt (List.mem_cons_self ..)
    clear hV5 HB15
    generalize w15.heap.size = B5 at *
    obtain ⟨c0_0, c0_1, c0_2, c0_3, c0_4⟩ := HV5.out.five (List.mem_cons_self ..)
    obtain ⟨c1_0, c1_1, c1_2, c1_3, c1_4⟩ := HV5.out.five (List.mem_cons_of_mem _ (List.mem_cons_self ..))
    obtain ⟨c2_0, c2_1, c2_2, c2_3, c2_4⟩ := HV5.out.five (List.mem_cons_of_mem _ (List.mem_cons_of_mem _ (List.mem_cons_self ..)))
    obtain ⟨c3_0, c3_1, c3_2, c3_3, c3_4⟩ := HV5.out.five (List.mem_cons_of_mem _ (List.mem_cons_of_mem _ (List.mem_cons_of_mem _ (List.mem_cons_self ..))))
    obtain ⟨c4_0, c4_1, c4_2, c4_3, c4_4⟩ := HV5.out.five (List.mem_cons_of_mem _ (List.mem_cons_of_mem _ (List.mem_cons_of_mem _ (List.mem_cons_of_mem _ (List.mem_cons_self ..)))))
    obtain ⟨c5_0, c5_1, c5_2, c5_3, c5_4⟩ := HV5.out.five (List.mem_cons_of_mem _ (List.mem_cons_of_mem _ (List.mem_cons_of_mem _ (List.mem_cons_of_mem _ (List.mem_cons_of_mem _ (List.mem_cons_self ..))))))
    have c6_0 := (HV5.out.own _ (List.mem_cons_of_mem _ (List.mem_cons_of_mem _ (List.mem_cons_of_mem _ (List.mem_cons_of_mem _ (List.mem_cons_of_mem _ (List.mem_cons_of_mem _ (List.mem_cons_self ..)))))))).2.2.1 0 (by simp)
    have c6_1 := (HV5.out.own _ (List.mem_cons_of_mem _ (List.mem_cons_of_mem _ (List.mem_cons_of_mem _ (List.mem_cons_of_mem _ (List.mem_cons_of_mem _ (List.mem_cons_of_mem _ (List.mem_cons_self ..)))))))).2.2.1 1 (by simp)
    have c6_2 := (HV5.out.own _ (List.mem_cons_of_mem _ (List.mem_cons_of_mem _ (List.mem_cons_of_mem _ (List.mem_cons_of_mem _ (List.mem_cons_of_mem _ (List.mem_cons_of_mem _ (List.mem_cons_self ..)))))))).2.2.1 2 (by simp)
    have c6_3 := (HV5.out.own _ (List.mem_cons_of_mem _ (List.mem_cons_of_mem _ (List.mem_cons_of_mem _ (List.mem_cons_of_mem _ (List.mem_cons_of_mem _ (List.mem_cons_of_mem _ (List.mem_cons_self ..)))))))).2.2.1 3 (by simp)
    have c6_4 := (HV5.out.own _ (List.mem_cons_of_mem _ (List.mem_cons_of_mem _ (List.mem_cons_of_mem _ (List.mem_cons_of_mem _ (List.mem_cons_of_mem _ (List.mem_cons_of_mem _ (List.mem_cons_self ..)))))))).2.2.1 4 (by simp)
    have c6_5 := (HV5.out.own _ (List.mem_cons_of_mem _ (List.mem_cons_of_mem _ (List.mem_cons_of_mem _ (List.mem_cons_of_mem _ (List.mem_cons_of_mem _ (List.mem_cons_of_mem _ (List.mem_cons_self ..)))))))).2.2.1 5 (by simp)
    have c6_6 := (HV5.out.own _ (List.mem_cons_of_mem _ (List.mem_cons_of_mem _ (List.mem_cons_of_mem _ (List.mem_cons_of_mem _ (List.mem_cons_of_mem _ (List.mem_cons_of_mem _ (List.mem_cons_self ..)))))))).2.2.1 6 (by simp)
    have c6_7 := (HV5.out.own _ (List.mem_cons_of_mem _ (List.mem_cons_of_mem _ (List.mem_cons_of_mem _ (List.mem_cons_of_mem _ (List.mem_cons_of_mem _ (List.mem_cons_of_mem _ (List.mem_cons_self ..)))))))).2.2.1 7 (by simp)
    have c6_8 := (HV5.out.own _ (List.mem_cons_of_mem _ (List.mem_cons_of_mem _ (List.mem_cons_of_mem _ (List.mem_cons_of_mem _ (List.mem_cons_of_mem _ (List.mem_cons_of_mem _ (List.mem_cons_self ..)))))))).2.2.1 8 (by simp)
    have c6_9 := (HV5.out.own _ (List.mem_cons_of_mem _ (List.mem_cons_of_mem _ (List.mem_cons_of_mem _ (List.mem_cons_of_mem _ (List.mem_cons_of_mem _ (List.mem_cons_of_mem _ (List.mem_cons_self ..)))))))).2.2.1 9 (by simp)
    simp only [List.getElem?_toArray, List.getElem?_cons_zero, List.getElem?_cons_succ] at c6_0 c6_1 c6_2 c6_3 c6_4 c6_5 c6_6 c6_7 c6_8 c6_9
    obtain ⟨c7_0, c7_1⟩ := HV5.out.two (List.mem_cons_of_mem _ (List.mem_cons_of_mem _ (List.mem_cons_of_mem _ (List.mem_cons_of_mem _ (List.mem_cons_of_mem _ (List.mem_cons_of_mem _ (List.mem_cons_of_mem _ (List.mem_cons_self ..))))))))
    obtain ⟨c8_0, c8_1⟩ := HV5.out.two (List.mem_cons_of_mem _ (List.mem_cons_of_mem _ (List.mem_cons_of_mem _ (List.mem_cons_of_mem _ (List.mem_cons_of_mem _ (List.mem_cons_of_mem _ (List.mem_cons_of_mem _ (List.mem_cons_of_mem _ (List.mem_cons_self ..)))))))))
    go_wp2_with fail
    refine (HK5.out _).mono ?_
    rintro e16 w16 ⟨rfl, hbb⟩
    have HB16 := Lib.hid (HV5.out.keep hbb)
    clear c0_0 c0_1 c0_2 c0_3 c0_4 c1_0 c1_1 c1_2 c1_3 c1_4 c2_0 c2_1 c2_2 c2_3 c2_4 c3_0 c3_1 c3_2 c3_3 c3_4 c4_0 c4_1 c4_2 c4_3 c4_4 c5_0 c5_1 c5_2 c5_3 c5_4 c6_0 c6_1 c6_2 c6_3 c6_4 c6_5 c6_6 c6_7 c6_8 c6_9 c7_0 c7_1 c8_0 c8_1
    clear hbb HV5
    go_upto_region 16 with fail
    obtain ⟨V6, hV6⟩ : ∃ V6 : World, V6 = w16.alloc (.cells #[.int .i64 wa0, .int .i64 wa1, .int .i64 wa2, .int .i64 wa3, .int .i64 wa4] 25) := ⟨_, rfl⟩
    rw [← hV6]
    have HV6 := Lib.hid (show Bx w [(w16.heap.size, #[.int .i64 wa0, .int .i64 wa1, .int .i64 wa2, .int .i64 wa3, .int .i64 wa4]), (B5, #[.int .i64 wa0, .int .i64 wa1, .int .i64 wa2, .int .i64 wa3, .int .i64 wa4]), (B4, #[.int .i64 va0, .int .i64 va1, .int .i64 va2, .int .i64 va3, .int .i64 va4]), (B3, #[.int .i64 ua0, .int .i64 ua1, .int .i64 ua2, .int .i64 ua3, .int .i64 ua4]), (B2, #[.int .i64 m0, .int .i64 m1, .int .i64 m2, .int .i64 m3, .int .i64 m4]), (B1 + 1, #[.int .i64 y0, .int .i64 y1, .int .i64 y2, .int .i64 y3, .int .i64 y4]), (B1, #[.int .i64 x0, .int .i64 x1, .int .i64 x2, .int .i64 x3, .int .i64 x4]), (w.heap.size + 2, #[.int .i64 p0, .int .i64 p1, .int .i64 p2, .int .i64 p3, .int .i64 p4, .int .i64 q0, .int .i64 q1, .int .i64 q2, .int .i64 q3, .int .i64 q4]), (w.heap.size + 1, #[.int .i64 c, .int .i64 d]), (w.heap.size, #[.int .i64 a, .int .i64 b])] V6 from hV6 ▸ HB16.out.new _ _)
    have hlt6 := HB16.out.lt (List.mem_cons_self ..)
    clear hV6 HB16
    generalize w16.heap.size = B6 at *
    obtain ⟨c0_0, c0_1, c0_2, c0_3, c0_4⟩ := HV6.out.five (List.mem_cons_self ..)
    obtain ⟨c1_0, c1_1, c1_2, c1_3, c1_4⟩ := HV6.out.five (List.mem_cons_of_mem _ (List.mem_cons_self ..))
    obtain ⟨c2_0, c2_1, c2_2, c2_3, c2_4⟩ := HV6.out.five (List.mem_cons_of_mem _ (List.mem_cons_of_mem _ (List.mem_cons_self ..)))
    obtain ⟨c3_0, c3_1, c3_2, c3_3, c3_4⟩ := HV6.out.five (List.mem_cons_of_mem _ (List.mem_cons_of_mem _ (List.mem_cons_of_mem _ (List.mem_cons_self ..))))
    obtain ⟨c4_0, c4_1, c4_2, c4_3, c4_4⟩ := HV6.out.five (List.mem_cons_of_mem _ (List.mem_cons_of_mem _ (List.mem_cons_of_mem _ (List.mem_cons_of_mem _ (List.mem_cons_self ..)))))
    obtain ⟨c5_0, c5_1, c5_2, c5_3, c5_4⟩ := HV6.out.five (List.mem_cons_of_mem _ (List.mem_cons_of_mem _ (List.mem_cons_of_mem _ (List.mem_cons_of_mem _ (List.mem_cons_of_mem _ (List.mem_cons_self ..))))))
    obtain ⟨c6_0, c6_1, c6_2, c6_3, c6_4⟩ := HV6.out.five (List.mem_cons_of_mem _ (List.mem_cons_of_mem _ (List.mem_cons_of_mem _ (List.mem_cons_of_mem _ (List.mem_cons_of_mem _ (List.mem_cons_of_mem _ (List.mem_cons_self ..)))))))
    have c7_0 := (HV6.out.own _ (List.mem_cons_of_mem _ (List.mem_cons_of_mem _ (List.mem_cons_of_mem _ (List.mem_cons_of_mem _ (List.mem_cons_of_mem _ (List.mem_cons_of_mem _ (List.mem_cons_of_mem _ (List.mem_cons_self ..))))))))).2.2.1 0 (by simp)
    have c7_1 := (HV6.out.own _ (List.mem_cons_of_mem _ (List.mem_cons_of_mem _ (List.mem_cons_of_mem _ (List.mem_cons_of_mem _ (List.mem_cons_of_mem _ (List.mem_cons_of_mem _ (List.mem_cons_of_mem _ (List.mem_cons_self ..))))))))).2.2.1 1 (by simp)
    have c7_2 := (HV6.out.own _ (List.mem_cons_of_mem _ (List.mem_cons_of_mem _ (List.mem_cons_of_mem _ (List.mem_cons_of_mem _ (List.mem_cons_of_mem _ (List.mem_cons_of_mem _ (List.mem_cons_of_mem _ (List.mem_cons_self ..))))))))).2.2.1 2 (by simp)
    have c7_3 := (HV6.out.own _ (List.mem_cons_of_mem _ (List.mem_cons_of_mem _ (List.mem_cons_of_mem _ (List.mem_cons_of_mem _ (List.mem_cons_of_mem _ (List.mem_cons_of_mem _ (List.mem_cons_of_mem _ (List.mem_cons_self ..))))))))).2.2.1 3 (by simp)
    have c7_4 := (HV6.out.own _ (List.mem_cons_of_mem _ (List.mem_cons_of_mem _ (List.mem_cons_of_mem _ (List.mem_cons_of_mem _ (List.mem_cons_of_mem _ (List.mem_cons_of_mem _ (List.mem_cons_of_mem _ (List.mem_cons_self ..))))))))).2.2.1 4 (by simp)
    have c7_5 := (HV6.out.own _ (List.mem_cons_of_mem _ (List.mem_cons_of_mem _ (List.mem_cons_of_mem _ (List.mem_cons_of_mem _ (List.mem_cons_of_mem _ (List.mem_cons_of_mem _ (List.mem_cons_of_mem _ (List.mem_cons_self ..))))))))).2.2.1 5 (by simp)
    have c7_6 := (HV6.out.own _ (List.mem_cons_of_mem _ (List.mem_cons_of_mem _ (List.mem_cons_of_mem _ (List.mem_cons_of_mem _ (List.mem_cons_of_mem _ (List.mem_cons_of_mem _ (List.mem_cons_of_mem _ (List.mem_cons_self ..))))))))).2.2.1 6 (by simp)
    have c7_7 := (HV6.out.own _ (List.mem_cons_of_mem _ (List.mem_cons_of_mem _ (List.mem_cons_of_mem _ (List.mem_cons_of_mem _ (List.mem_cons_of_mem _ (List.mem_cons_of_mem _ (List.mem_cons_of_mem _ (List.mem_cons_self ..))))))))).2.2.1 7 (by simp)
    have c7_8 := (HV6.out.own _ (List.mem_cons_of_mem _ (List.mem_cons_of_mem _ (List.mem_cons_of_mem _ (List.mem_cons_of_mem _ (List.mem_cons_of_mem _ (List.mem_cons_of_mem _ (List.mem_cons_of_mem _ (List.mem_cons_self ..))))))))).2.2.1 8 (by simp)
    have c7_9 := (HV6.out.own _ (List.mem_cons_of_mem _ (List.mem_cons_of_mem _ (List.mem_cons_of_mem _ (List.mem_cons_of_mem _ (List.mem_cons_of_mem _ (List.mem_cons_of_mem _ (List.mem_cons_of_mem _ (List.mem_cons_self ..))))))))).2.2.1 9 (by simp)
    simp only [List.getElem?_toArray, List.getElem?_cons_zero, List.getElem?_cons_succ] at c7_0 c7_1 c7_2 c7_3 c7_4 c7_5 c7_6 c7_7 c7_8 c7_9
    obtain ⟨c8_0, c8_1⟩ := HV6.out.two (List.mem_cons_of_mem _ (List.mem_cons_of_mem _ (List.mem_cons_of_mem _ (List.mem_cons_of_mem _ (List.mem_cons_of_mem _ (List.mem_cons_of_mem _ (List.mem_cons_of_mem _ (List.mem_cons_of_mem _ (List.mem_cons_self ..)))))))))
    obtain ⟨c9_0, c9_1⟩ := HV6.out.two (List.mem_cons_of_mem _ (List.mem_cons_of_mem _ (List.mem_cons_of_mem _ (List.mem_cons_of_mem _ (List.mem_cons_of_mem _ (List.mem_cons_of_mem _ (List.mem_cons_of_mem _ (List.mem_cons_of_mem _ (List.mem_cons_of_mem _ (List.mem_cons_self ..))))))))))
    go_wp2_with fail
    refine (HK6.out _).mono ?_
    rintro e17 w17 ⟨rfl, hbb⟩
    have HB17 := Lib.hid (HV6.out.keep hbb)
    clear c0_0 c0_1 c0_2 c0_3 c0_4 c1_0 c1_1 c1_2 c1_3 c1_4 c2_0 c2_1 c2_2 c2_3 c2_4 c3_0 c3_1 c3_2 c3_3 c3_4 c4_0 c4_1 c4_2 c4_3 c4_4 c5_0 c5_1 c5_2 c5_3 c5_4 c6_0 c6_1 c6_2 c6_3 c6_4 c7_0 c7_1 c7_2 c7_3 c7_4 c7_5 c7_6 c7_7 c7_8 c7_9 c8_0 c8_1 c9_0 c9_1
    clear hbb HV6
    go_upto_region 17 with fail
    obtain ⟨V7, hV7⟩ : ∃ V7 : World, V7 = w17.alloc (.cells #[.int .i64 N, .int .i64 D] 36) := ⟨_, rfl⟩
    rw [← hV7]
    have HV7 := Lib.hid (show Bx w [(w17.heap.size, #[.int .i64 N, .int .i64 D]), (B6, #[.int .i64 wa0, .int .i64 wa1, .int .i64 wa2, .int .i64 wa3, .int .i64 wa4]), (B5, #[.int .i64 wa0, .int .i64 wa1, .int .i64 wa2, .int .i64 wa3, .int .i64 wa4]), (B4, #[.int .i64 va0, .int .i64 va1, .int .i64 va2, .int .i64 va3, .int .i64 va4]), (B3, #[.int .i64 ua0, .int .i64 ua1, .int .i64 ua2, .int .i64 ua3, .int .i64 ua4]), (B2, #[.int .i64 m0, .int .i64 m1, .int .i64 m2, .int .i64 m3, .int .i64 m4]), (B1 + 1, #[.int .i64 y0, .int .i64 y1, .int .i64 y2, .int .i64 y3, .int .i64 y4]), (B1, #[.int .i64 x0, .int .i64 x1, .int .i64 x2, .int .i64 x3, .int .i64 x4]), (w.heap.size + 2, #[.int .i64 p0, .int .i64 p1, .int .i64 p2, .int .i64 p3, .int .i64 p4, .int .i64 q0, .int .i64 q1, .int .i64 q2, .int .i64 q3, .int .i64 q4]), (w.heap.size + 1, #[.int .i64 c, .int .i64 d]), (w.heap.size, #[.int .i64 a, .int .i64 b])] V7 from hV7 ▸ HB17.out.new _ _)
    have hlt7 := HB17.out.lt (List.mem_cons_self ..)
    clear hV7 HB17
    generalize w17.heap.size = B7 at *
    obtain ⟨c0_0, c0_1⟩ := HV7.out.two (List.mem_cons_self ..)
    obtain ⟨c1_0, c1_1, c1_2, c1_3, c1_4⟩ := HV7.out.five (List.mem_cons_of_mem _ (List.mem_cons_self ..))
    obtain ⟨c2_0, c2_1, c2_2, c2_3, c2_4⟩ := HV7.out.five (List.mem_cons_of_mem _ (List.mem_cons_of_mem _ (List.mem_cons_self ..)))
    obtain ⟨c3_0, c3_1, c3_2, c3_3, c3_4⟩ := HV7.out.five (List.mem_cons_of_mem _ (List.mem_cons_of_mem _ (List.mem_cons_of_mem _ (List.mem_cons_self ..))))
    obtain ⟨c4_0, c4_1, c4_2, c4_3, c4_4⟩ := HV7.out.five (List.mem_cons_of_mem _ (List.mem_cons_of_mem _ (List.mem_cons_of_mem _ (List.mem_cons_of_mem _ (List.mem_cons_self ..)))))
    obtain ⟨c5_0, c5_1, c5_2, c5_3, c5_4⟩ := HV7.out.five (List.mem_cons_of_mem _ (List.mem_cons_of_mem _ (List.mem_cons_of_mem _ (List.mem_cons_of_mem _ (List.mem_cons_of_mem _ (List.mem_cons_self ..))))))
    obtain ⟨c6_0, c6_1, c6_2, c6_3, c6_4⟩ := HV7.out.five (List.mem_cons_of_mem _ (List.mem_cons_of_mem _ (List.mem_cons_of_mem _ (List.mem_cons_of_mem _ (List.mem_cons_of_mem _ (List.mem_cons_of_mem _ (List.mem_cons_self ..)))))))
    obtain ⟨c7_0, c7_1, c7_2, c7_3, c7_4⟩ := HV7.out.five (List.mem_cons_of_mem _ (List.mem_cons_of_mem _ (List.mem_cons_of_mem _ (List.mem_cons_of_mem _ (List.mem_cons_of_mem _ (List.mem_cons_of_mem _ (List.mem_cons_of_mem _ (List.mem_cons_self ..))))))))
    have c8_0 := (HV7.out.own _ (List.mem_cons_of_mem _ (List.mem_cons_of_mem _ (List.mem_cons_of_mem _ (List.mem_cons_of_mem _ (List.mem_cons_of_mem _ (List.mem_cons_of_mem _ (List.mem_cons_of_mem _ (List.mem_cons_of_mem _ (List.mem_cons_self ..)))))))))).2.2.1 0 (by simp)
    have c8_1 := (HV7.out.own _ (List.mem_cons_of_mem _ (List.mem_cons_of_mem _ (List.mem_cons_of_mem _ (List.mem_cons_of_mem _ (List.mem_cons_of_mem _ (List.mem_cons_of_mem _ (List.mem_cons_of_mem _ (List.mem_cons_of_mem _ (List.mem_cons_self ..)))))))))).2.2.1 1 (by simp)
    have c8_2 := (HV7.out.own _ (List.mem_cons_of_mem _ (List.mem_cons_of_mem _ (List.mem_cons_of_mem _ (List.mem_cons_of_mem _ (List.mem_cons_of_mem _ (List.mem_cons_of_mem _ (List.mem_cons_of_mem _ (List.mem_cons_of_mem _ (List.mem_cons_self ..)))))))))).2.2.1 2 (by simp)
    have c8_3 := (HV7.out.own _ (List.mem_cons_of_mem _ (List.mem_cons_of_mem _ (List.mem_cons_of_mem _ (List.mem_cons_of_mem _ (List.mem_cons_of_mem _ (List.mem_cons_of_mem _ (List.mem_cons_of_mem _ (List.mem_cons_of_mem _ (List.mem_cons_self ..)))))))))).2.2.1 3 (by simp)
    have c8_4 := (HV7.out.own _ (List.mem_cons_of_mem _ (List.mem_cons_of_mem _ (List.mem_cons_of_mem _ (List.mem_cons_of_mem _ (List.mem_cons_of_mem _ (List.mem_cons_of_mem _ (List.mem_cons_of_mem _ (List.mem_cons_of_mem _ (List.mem_cons_self ..)))))))))).2.2.1 4 (by simp)
    have c8_5 := (HV7.out.own _ (List.mem_cons_of_mem _ (List.mem_cons_of_mem _ (List.mem_cons_of_mem _ (List.mem_cons_of_mem _ (List.mem_cons_of_mem _ (List.mem_cons_of_mem _ (List.mem_cons_of_mem _ (List.mem_cons_of_mem _ (List.mem_cons_self ..)))))))))).2.2.1 5 (by simp)
    have c8_6 := (HV7.out.own _ (List.mem_cons_of_mem _ (List.mem_cons_of_mem _ (List.mem_cons_of_mem _ (List.mem_cons_of_mem _ (List.mem_cons_of_mem _ (List.mem_cons_of_mem _ (List.mem_cons_of_mem _ (List.mem_cons_of_mem _ (List.mem_cons_self ..)))))))))).2.2.1 6 (by simp)
    have c8_7 := (HV7.out.own _ (List.mem_cons_of_mem _ (List.mem_cons_of_mem _ (List.mem_cons_of_mem _ (List.mem_cons_of_mem _ (List.mem_cons_of_mem _ (List.mem_cons_of_mem _ (List.mem_cons_of_mem _ (List.mem_cons_of_mem _ (List.mem_cons_self ..)))))))))).2.2.1 7 (by simp)
    have c8_8 := (HV7.out.own _ (List.mem_cons_of_mem _ (List.mem_cons_of_mem _ (List.mem_cons_of_mem _ (List.mem_cons_of_mem _ (List.mem_cons_of_mem _ (List.mem_cons_of_mem _ (List.mem_cons_of_mem _ (List.mem_cons_of_mem _ (List.mem_cons_self ..)))))))))).2.2.1 8 (by simp)
    have c8_9 := (HV7.out.own _ (List.mem_cons_of_mem _ (List.mem_cons_of_mem _ (List.mem_cons_of_mem _ (List.mem_cons_of_mem _ (List.mem_cons_of_mem _ (List.mem_cons_of_mem _ (List.mem_cons_of_mem _ (List.mem_cons_of_mem _ (List.mem_cons_self ..)))))))))).2.2.1 9 (by simp)
    simp only [List.getElem?_toArray, List.getElem?_cons_zero, List.getElem?_cons_succ] at c8_0 c8_1 c8_2 c8_3 c8_4 c8_5 c8_6 c8_7 c8_8 c8_9
    obtain ⟨c9_0, c9_1⟩ := HV7.out.two (List.mem_cons_of_mem _ (List.mem_cons_of_mem _ (List.mem_cons_of_mem _ (List.mem_cons_of_mem _ (List.mem_cons_of_mem _ (List.mem_cons_of_mem _ (List.mem_cons_of_mem _ (List.mem_cons_of_mem _ (List.mem_cons_of_mem _ (List.mem_cons_self ..))))))))))
    obtain ⟨c10_0, c10_1⟩ := HV7.out.two (List.mem_cons_of_mem _ (List.mem_cons_of_mem _ (List.mem_cons_of_mem _ (List.mem_cons_of_mem _ (List.mem_cons_of_mem _ (List.mem_cons_of_mem _ (List.mem_cons_of_mem _ (List.mem_cons_of_mem _ (List.mem_cons_of_mem _ (List.mem_cons_of_mem _ (List.mem_cons_self ..)))))))))))
    go_wp2_with fail
    refine (HK7.out _).mono ?_
    rintro e18 w18 ⟨rfl, hbb⟩
    have HB18 := Lib.hid (HV7.out.keep hbb)
    clear c0_0 c0_1 c1_0 c1_1 c1_2 c1_3 c1_4 c2_0 c2_1 c2_2 c2_3 c2_4 c3_0 c3_1 c3_2 c3_3 c3_4 c4_0 c4_1 c4_2 c4_3 c4_4 c5_0 c5_1 c5_2 c5_3 c5_4 c6_0 c6_1 c6_2 c6_3 c6_4 c7_0 c7_1 c7_2 c7_3 c7_4 c8_0 c8_1 c8_2 c8_3 c8_4 c8_5 c8_6 c8_7 c8_8 c8_9 c9_0 c9_1 c10_0 c10_1
    clear hbb HV7
    go_upto_region 18 with fail
    obtain ⟨V8, hV8⟩ : ∃ V8 : World, V8 = w18.alloc (.cells #[.int .i64 N, .int .i64 D] 36) := ⟨_, rfl⟩
    rw [← hV8]
    have HV8 := Lib.hid (show Bx w [(w18.heap.size, #[.int .i64 N, .int .i64 D]), (B7, #[.int .i64 N, .int .i64 D]), (B6, #[.int .i64 wa0, .int .i64 wa1, .int .i64 wa2, .int .i64 wa3, .int .i64 wa4]), (B5, #[.int .i64 wa0, .int .i64 wa1, .int .i64 wa2, .int .i64 wa3, .int .i64 wa4]), (B4, #[.int .i64 va0, .int .i64 va1, .int .i64 va2, .int .i64 va3, .int .i64 va4]), (B3, #[.int .i64 ua0, .int .i64 ua1, .int .i64 ua2, .int .i64 ua3, .int .i64 ua4]), (B2, #[.int .i64 m0, .int .i64 m1, .int .i64 m2, .int .i64 m3, .int .i64 m4]), (B1 + 1, #[.int .i64 y0, .int .i64 y1, .int .i64 y2, .int .i64 y3, .int .i64 y4]), (B1, #[.int .i64 x0, .int .i64 x1, .int .i64 x2, .int .i64 x3, .int .i64 x4]), (w.heap.size + 2, #[.int .i64 p0, .int .i64 p1, .int .i64 p2, .int .i64 p3, .int .i64 p4, .int .i64 q0, .int .i64 q1, .int .i64 q2, .int .i64 q3, .int .i64 q4]), (w.heap.size + 1, #[.int .i64 c, .int .i64 d]), (w.heap.size, #[.int .i64 a, .int .i64 b])] V8 from hV8 ▸ HB18.out.new _ _)
    have hlt8 := HB18.out.lt (List.mem_cons_self ..)
    clear hV8 HB18
    generalize w18.heap.size = B8 at *
    obtain ⟨c0_0, c0_1⟩ := HV8.out.two (List.mem_cons_self ..)
    obtain ⟨c1_0, c1_1⟩ := HV8.out.two (List.mem_cons_of_mem _ (List.mem_cons_self ..))
    obtain ⟨c2_0, c2_1, c2_2, c2_3, c2_4⟩ := HV8.out.five (List.mem_cons_of_mem _ (List.mem_cons_of_mem _ (List.mem_cons_self ..)))
    obtain ⟨c3_0, c3_1, c3_2, c3_3, c3_4⟩ := HV8.out.five (List.mem_cons_of_mem _ (List.mem_cons_of_mem _ (List.mem_cons_of_mem _ (List.mem_cons_self ..))))
    obtain ⟨c4_0, c4_1, c4_2, c4_3, c4_4⟩ := HV8.out.five (List.mem_cons_of_mem _ (List.mem_cons_of_mem _ (List.mem_cons_of_mem _ (List.mem_cons_of_mem _ (List.mem_cons_self ..)))))
    obtain ⟨c5_0, c5_1, c5_2, c5_3, c5_4⟩ := HV8.out.five (List.mem_cons_of_mem _ (List.mem_cons_of_mem _ (List.mem_cons_of_mem _ (List.mem_cons_of_mem _ (List.mem_cons_of_mem _ (List.mem_cons_self ..))))))
    obtain ⟨c6_0, c6_1, c6_2, c6_3, c6_4⟩ := HV8.out.five (List.mem_cons_of_mem _ (List.mem_cons_of_mem _ (List.mem_cons_of_mem _ (List.mem_cons_of_mem _ (List.mem_cons_of_mem _ (List.mem_cons_of_mem _ (List.mem_cons_self ..)))))))
    obtain ⟨c7_0, c7_1, c7_2, c7_3, c7_4⟩ := HV8.out.five (List.mem_cons_of_mem _ (List.mem_cons_of_mem _ (List.mem_cons_of_mem _ (List.mem_cons_of_mem _ (List.mem_cons_of_mem _ (List.mem_cons_of_mem _ (List.mem_cons_of_mem _ (List.mem_cons_self ..))))))))
    obtain ⟨c8_0, c8_1, c8_2, c8_3, c8_4⟩ := HV8.out.five (List.mem_cons_of_mem _ (List.mem_cons_of_mem _ (List.mem_cons_of_mem _ (List.mem_cons_of_mem _ (List.mem_cons_of_mem _ (List.mem_cons_of_mem _ (List.mem_cons_of_mem _ (List.mem_cons_of_mem _ (List.mem_cons_self ..)))))))))
    have c9_0 := (HV8.out.own _ (List.mem_cons_of_mem _ (List.mem_cons_of_mem _ (List.mem_cons_of_mem _ (List.mem_cons_of_mem _ (List.mem_cons_of_mem _ (List.mem_cons_of_mem _ (List.mem_cons_of_mem _ (List.mem_cons_of_mem _ (List.mem_cons_of_mem _ (List.mem_cons_self ..))))))))))).2.2.1 0 (by simp)
    have c9_1 := (HV8.out.own _ (List.mem_cons_of_mem _ (List.mem_cons_of_mem _ (List.mem_cons_of_mem _ (List.mem_cons_of_mem _ (List.mem_cons_of_mem _ (List.mem_cons_of_mem _ (List.mem_cons_of_mem _ (List.mem_cons_of_mem _ (List.mem_cons_of_mem _ (List.mem_cons_self ..))))))))))).2.2.1 1 (by simp)
    have c9_2 := (HV8.out.own _ (List.mem_cons_of_mem _ (List.mem_cons_of_mem _ (List.mem_cons_of_mem _ (List.mem_cons_of_mem _ (List.mem_cons_of_mem _ (List.mem_cons_of_mem _ (List.mem_cons_of_mem _ (List.mem_cons_of_mem _ (List.mem_cons_of_mem _ (List.mem_cons_self ..))))))))))).2.2.1 2 (by simp)
    have c9_3 := (HV8.out.own _ (List.mem_cons_of_mem _ (List.mem_cons_of_mem _ (List.mem_cons_of_mem _ (List.mem_cons_of_mem _ (List.mem_cons_of_mem _ (List.mem_cons_of_mem _ (List.mem_cons_of_mem _ (List.mem_cons_of_mem _ (List.mem_cons_of_mem _ (List.mem_cons_self ..))))))))))).2.2.1 3 (by simp)
    have c9_4 := (HV8.out.own _ (List.mem_cons_of_mem _ (List.mem_cons_of_mem _ (List.mem_cons_of_mem _ (List.mem_cons_of_mem _ (List.mem_cons_of_mem _ (List.mem_cons_of_mem _ (List.mem_cons_of_mem _ (List.mem_cons_of_mem _ (List.mem_cons_of_mem _ (List.mem_cons_self ..))))))))))).2.2.1 4 (by simp)
    have c9_5 := (HV8.out.own _ (List.mem_cons_of_mem _ (List.mem_cons_of_mem _ (List.mem_cons_of_mem _ (List.mem_cons_of_mem _ (List.mem_cons_of_mem _ (List.mem_cons_of_mem _ (List.mem_cons_of_mem _ (List.mem_cons_of_mem _ (List.mem_cons_of_mem _ (List.mem_cons_self ..))))))))))).2.2.1 5 (by simp)
    have c9_6 := (HV8.out.own _ (List.mem_cons_of_mem _ (List.mem_cons_of_mem _ (List.mem_cons_of_mem _ (List.mem_cons_of_mem _ (List.mem_cons_of_mem _ (List.mem_cons_of_mem _ (List.mem_cons_of_mem _ (List.mem_cons_of_mem _ (List.mem_cons_of_mem _ (List.mem_cons_self ..))))))))))).2.2.1 6 (by simp)
    have c9_7 := (HV8.out.own _ (List.mem_cons_of_mem _ (List.mem_cons_of_mem _ (List.mem_cons_of_mem _ (List.mem_cons_of_mem _ (List.mem_cons_of_mem _ (List.mem_cons_of_mem _ (List.mem_cons_of_mem _ (List.mem_cons_of_mem _ (List.mem_cons_of_mem _ (List.mem_cons_self ..))))))))))).2.2.1 7 (by simp)
    have c9_8 := (HV8.out.own _ (List.mem_cons_of_mem _ (List.mem_cons_of_mem _ (List.mem_cons_of_mem _ (List.mem_cons_of_mem _ (List.mem_cons_of_mem _ (List.mem_cons_of_mem _ (List.mem_cons_of_mem _ (List.mem_cons_of_mem _ (List.mem_cons_of_mem _ (List.mem_cons_self ..))))))))))).2.2.1 8 (by simp)
    have c9_9 := (HV8.out.own _ (List.mem_cons_of_mem _ (List.mem_cons_of_mem _ (List.mem_cons_of_mem _ (List.mem_cons_of_mem _ (List.mem_cons_of_mem _ (List.mem_cons_of_mem _ (List.mem_cons_of_mem _ (List.mem_cons_of_mem _ (List.mem_cons_of_mem _ (List.mem_cons_self ..))))))))))).2.2.1 9 (by simp)
    simp only [List.getElem?_toArray, List.getElem?_cons_zero, List.getElem?_cons_succ] at c9_0 c9_1 c9_2 c9_3 c9_4 c9_5 c9_6 c9_7 c9_8 c9_9
    obtain ⟨c10_0, c10_1⟩ := HV8.out.two (List.mem_cons_of_mem _ (List.mem_cons_of_mem _ (List.mem_cons_of_mem _ (List.mem_cons_of_mem _ (List.mem_cons_of_mem _ (List.mem_cons_of_mem _ (List.mem_cons_of_mem _ (List.mem_cons_of_mem _ (List.mem_cons_of_mem _ (List.mem_cons_of_mem _ (List.mem_cons_self ..)))))))))))
    obtain ⟨c11_0, c11_1⟩ := HV8.out.two (List.mem_cons_of_mem _ (List.mem_cons_of_mem _ (List.mem_cons_of_mem _ (List.mem_cons_of_mem _ (List.mem_cons_of_mem _ (List.mem_cons_of_mem _ (List.mem_cons_of_mem _ (List.mem_cons_of_mem _ (List.mem_cons_of_mem _ (List.mem_cons_of_mem _ (List.mem_cons_of_mem _ (List.mem_cons_self ..))))))))))))
    go_wp2_with fail
    go_ret
    exact ⟨rfl, HV8.out.below⟩
  · skip
    have c0_0 := (HB9.out.own _ (List.mem_cons_self ..)).2.2.1 0 (by simp)
    have c0_1 := (HB9.out.own _ (List.mem_cons_self ..)).2.2.1 1 (by simp)
    have c0_2 := (HB9.out.own _ (List.mem_cons_self ..)).2.2.1 2 (by simp)
    have c0_3 := (HB9.out.own _ (List.mem_cons_self ..)).2.2.1 3 (by simp)
    have c0_4 := (HB9.out.own _ (List.mem_cons_self ..)).2.2.1 4 (by simp)
    have c0_5 := (HB9.out.own _ (List.mem_cons_self ..)).2.2.1 5 (by simp)
    have c0_6 := (HB9.out.own _ (List.mem_cons_self ..)).2.2.1 6 (by simp)
    have c0_7 := (HB9.out.own _ (List.mem_cons_self ..)).2.2.1 7 (by simp)
    have c0_8 := (HB9.out.own _ (List.mem_cons_self ..)).2.2.1 8 (by simp)
    have c0_9 := (HB9.out.own _ (List.mem_cons_self ..)).2.2.1 9 (by simp)
    simp only [List.getElem?_toArray, List.getElem?_cons_zero, List.getElem?_cons_succ] at c0_0 c0_1 c0_2 c0_3 c0_4 c0_5 c0_6 c0_7 c0_8 c0_9
    obtain ⟨c1_0, c1_1⟩ := HB9.out.two (List.mem_cons_of_mem _ (List.mem_cons_self ..))
    obtain ⟨c2_0, c2_1⟩ := HB9.out.two (List.mem_cons_of_mem _ (List.mem_cons_of_mem _ (List.mem_cons_self ..)))
    go_wp2_with fail
    refine (HIm.out _).mono ?_
    rintro e10 w10 ⟨rfl, hbb⟩
    have HB10 := Lib.hid (HB9.out.keep hbb)
    clear c0_0 c0_1 c0_2 c0_3 c0_4 c0_5 c0_6 c0_7 c0_8 c0_9 c1_0 c1_1 c2_0 c2_1
    clear hbb HB9
    go_upto_region 6 with fail
    obtain ⟨V1, hV1⟩ : ∃ V1 : World, V1 = ((w10.alloc (.cells #[.int .i64 x0, .int .i64 x1, .int .i64 x2, .int .i64 x3, .int .i64 x4] 25)).alloc (.cells #[.int .i64 y0, .int .i64 y1, .int .i64 y2, .int .i64 y3, .int .i64 y4] 25)) := ⟨_, rfl⟩
    rw [← hV1]
    have HV1 := Lib.hid (show Bx w [(w10.heap.size + 1, #[.int .i64 y0, .int .i64 y1, .int .i64 y2, .int .i64 y3, .int .i64 y4]), (w10.heap.size, #[.int .i64 x0, .int .i64 x1, .int .i64 x2, .int .i64 x3, .int .i64 x4]), (w.heap.size + 2, #[.int .i64 p0, .int .i64 p1, .int .i64 p2, .int .i64 p3, .int .i64 p4, .int .i64 q0, .int .i64 q1, .int .i64 q2, .int .i64 q3, .int .i64 q4]), (w.heap.size + 1, #[.int .i64 c, .int .i64 d]), (w.heap.size, #[.int .i64 a, .int .i64 b])] V1 by rw [hV1]; simpa using ((HB10.out.new #[.int .i64 x0, .int .i64 x1, .int .i64 x2, .int .i64 x3, .int .i64 x4] 25).new #[.int .i64 y0, .int .i64 y1, .int .i64 y2, .int .i64 y3, .int .i64 y4] 25))
    clear hV1 HB10
    generalize w10.heap.size = B1 at *
    obtain ⟨c0_0, c0_1, c0_2, c0_3, c0_4⟩ := HV1.out.five (List.mem_cons_self ..)
    obtain ⟨c1_0, c1_1, c1_2, c1_3, c1_4⟩ := HV1.out.five (List.mem_cons_of_mem _ (List.mem_cons_self ..))
    have c2_0 := (HV1.out.own _ (List.mem_cons_of_mem _ (List.mem_cons_of_mem _ (List.mem_cons_self ..)))).2.2.1 0 (by simp)
    have c2_1 := (HV1.out.own _ (List.mem_cons_of_mem _ (List.mem_cons_of_mem _ (List.mem_cons_self ..)))).2.2.1 1 (by simp)
    have c2_2 := (HV1.out.own _ (List.mem_cons_of_mem _ (List.mem_cons_of_mem _ (List.mem_cons_self ..)))).2.2.1 2 (by simp)
    have c2_3 := (HV1.out.own _ (List.mem_cons_of_mem _ (List.mem_cons_of_mem _ (List.mem_cons_self ..)))).2.2.1 3 (by simp)
    have c2_4 := (HV1.out.own _ (List.mem_cons_of_mem _ (List.mem_cons_of_mem _ (List.mem_cons_self ..)))).2.2.1 4 (by simp)
    have c2_5 := (HV1.out.own _ (List.mem_cons_of_mem _ (List.mem_cons_of_mem _ (List.mem_cons_self ..)))).2.2.1 5 (by simp)
    have c2_6 := (HV1.out.own _ (List.mem_cons_of_mem _ (List.mem_cons_of_mem _ (List.mem_cons_self ..)))).2.2.1 6 (by simp)
    have c2_7 := (HV1.out.own _ (List.mem_cons_of_mem _ (List.mem_cons_of_mem _ (List.mem_cons_self ..)))).2.2.1 7 (by simp)
    have c2_8 := (HV1.out.own _ (List.mem_cons_of_mem _ (List.mem_cons_of_mem _ (List.mem_cons_self ..)))).2.2.1 8 (by simp)
    have c2_9 := (HV1.out.own _ (List.mem_cons_of_mem _ (List.mem_cons_of_mem _ (List.mem_cons_self ..)))).2.2.1 9 (by simp)
    simp only [List.getElem?_toArray, List.getElem?_cons_zero, List.getElem?_cons_succ] at c2_0 c2_1 c2_2 c2_3 c2_4 c2_5 c2_6 c2_7 c2_8 c2_9
    obtain ⟨c3_0, c3_1⟩ := HV1.out.two (List.mem_cons_of_mem _ (List.mem_cons_of_mem _ (List.mem_cons_of_mem _ (List.mem_cons_self ..))))
    obtain ⟨c4_0, c4_1⟩ := HV1.out.two (List.mem_cons_of_mem _ (List.mem_cons_of_mem _ (List.mem_cons_of_mem _ (List.mem_cons_of_mem _ (List.mem_cons_self ..)))))
    go_wp2_with fail
    refine (HIs.out _).mono ?_
    rintro e11 w11 ⟨rfl, hbb⟩
    have HB11 := Lib.hid (HV1.out.keep hbb)
    clear c0_0 c0_1 c0_2 c0_3 c0_4 c1_0 c1_1 c1_2 c1_3 c1_4 c2_0 c2_1 c2_2 c2_3 c2_4 c2_5 c2_6 c2_7 c2_8 c2_9 c3_0 c3_1 c4_0 c4_1
    clear hbb HV1
    go_wp2_with fail
    go_ret
    exact ⟨rfl, HB11.out.below⟩
  · skip
    have c0_0 := (HB9.out.own _ (List.mem_cons_self ..)).2.2.1 0 (by simp)
    have c0_1 := (HB9.out.own _ (List.mem_cons_self ..)).2.2.1 1 (by simp)
    have c0_2 := (HB9.out.own _ (List.mem_cons_self ..)).2.2.1 2 (by simp)
    have c0_3 := (HB9.out.own _ (List.mem_cons_self ..)).2.2.1 3 (by simp)
    have c0_4 := (HB9.out.own _ (List.mem_cons_self ..)).2.2.1 4 (by simp)
    have c0_5 := (HB9.out.own _ (List.mem_cons_self ..)).2.2.1 5 (by simp)
    have c0_6 := (HB9.out.own _ (List.mem_cons_self ..)).2.2.1 6 (by simp)
    have c0_7 := (HB9.out.own _ (List.mem_cons_self ..)).2.2.1 7 (by simp)
    have c0_8 := (HB9.out.own _ (List.mem_cons_self ..)).2.2.1 8 (by simp)
    have c0_9 := (HB9.out.own _ (List.mem_cons_self ..)).2.2.1 9 (by simp)
    simp only [List.getElem?_toArray, List.getElem?_cons_zero, List.getElem?_cons_succ] at c0_0 c0_1 c0_2 c0_3 c0_4 c0_5 c0_6 c0_7 c0_8 c0_9
    obtain ⟨c1_0, c1_1⟩ := HB9.out.two (List.mem_cons_of_mem _ (List.mem_cons_self ..))
    obtain ⟨c2_0, c2_1⟩ := HB9.out.two (List.mem_cons_of_mem _ (List.mem_cons_of_mem _ (List.mem_cons_self ..)))
    go_wp2_with fail
    refine (HIm.out _).mono ?_
    rintro e10 w10 ⟨rfl, hbb⟩
    have HB10 := Lib.hid (HB9.out.keep hbb)
    clear c0_0 c0_1 c0_2 c0_3 c0_4 c0_5 c0_6 c0_7 c0_8 c0_9 c1_0 c1_1 c2_0 c2_1
    clear hbb HB9
    go_upto_region 6 with fail
    obtain ⟨V1, hV1⟩ : ∃ V1 : World, V1 = ((w10.alloc (.cells #[.int .i64 x0, .int .i64 x1, .int .i64 x2, .int .i64 x3, .int .i64 x4] 25)).alloc (.cells #[.int .i64 y0, .int .i64 y1, .int .i64 y2, .int .i64 y3, .int .i64 y4] 25)) := ⟨_, rfl⟩
    rw [← hV1]
    have HV1 := Lib.hid (show Bx w [(w10.heap.size + 1, #[.int .i64 y0, .int .i64 y1, .int .i64 y2, .int .i64 y3, .int .i64 y4]), (w10.heap.size, #[.int .i64 x0, .int .i64 x1, .int .i64 x2, .int .i64 x3, .int .i64 x4]), (w.heap.size + 2, #[.int .i64 p0, .int .i64 p1, .int .i64 p2, .int .i64 p3, .int .i64 p4, .int .i64 q0, .int .i64 q1, .int .i64 q2, .int .i64 q3, .int .i64 q4]), (w.heap.size + 1, #[.int .i64 c, .int .i64 d]), (w.heap.size, #[.int .i64 a, .int .i64 b])] V1 by rw [hV1]; simpa using ((HB10.out.new #[.int .i64 x0, .int .i64 x1, .int .i64 x2, .int .i64 x3, .int .i64 x4] 25).new #[.int .i64 y0, .int .i64 y1, .int .i64 y2, .int .i64 y3, .int .i64 y4] 25))
    clear hV1 HB10
    generalize w10.heap.size = B1 at *
    obtain ⟨c0_0, c0_1, c0_2, c0_3, c0_4⟩ := HV1.out.five (List.mem_cons_self ..)
    obtain ⟨c1_0, c1_1, c1_2, c1_3, c1_4⟩ := HV1.out.five (List.mem_cons_of_mem _ (List.mem_cons_self ..))
    have c2_0 := (HV1.out.own _ (List.mem_cons_of_mem _ (List.mem_cons_of_mem _ (List.mem_cons_self ..)))).2.2.1 0 (by simp)
    have c2_1 := (HV1.out.own _ (List.mem_cons_of_mem _ (List.mem_cons_of_mem _ (List.mem_cons_self ..)))).2.2.1 1 (by simp)
    have c2_2 := (HV1.out.own _ (List.mem_cons_of_mem _ (List.mem_cons_of_mem _ (List.mem_cons_self ..)))).2.2.1 2 (by simp)
    have c2_3 := (HV1.out.own _ (List.mem_cons_of_mem _ (List.mem_cons_of_mem _ (List.mem_cons_self ..)))).2.2.1 3 (by simp)
    have c2_4 := (HV1.out.own _ (List.mem_cons_of_mem _ (List.mem_cons_of_mem _ (List.mem_cons_self ..)))).2.2.1 4 (by simp)
    have c2_5 := (HV1.out.own _ (List.mem_cons_of_mem _ (List.mem_cons_of_mem _ (List.mem_cons_self ..)))).2.2.1 5 (by simp)
    have c2_6 := (HV1.out.own _ (List.mem_cons_of_mem _ (List.mem_cons_of_mem _ (List.mem_cons_self ..)))).2.2.1 6 (by simp)
    have c2_7 := (HV1.out.own _ (List.mem_cons_of_mem _ (List.mem_cons_of_mem _ (List.mem_cons_self ..)))).2.2.1 7 (by simp)
    have c2_8 := (HV1.out.own _ (List.mem_cons_of_mem _ (List.mem_cons_of_mem _ (List.mem_cons_self ..)))).2.2.1 8 (by simp)
    have c2_9 := (HV1.out.own _ (List.mem_cons_of_mem _ (List.mem_cons_of_mem _ (List.mem_cons_self ..)))).2.2.1 9 (by simp)
    simp only [List.getElem?_toArray, List.getElem?_cons_zero, List.getElem?_cons_succ] at c2_0 c2_1 c2_2 c2_3 c2_4 c2_5 c2_6 c2_7 c2_8 c2_9
    obtain ⟨c3_0, c3_1⟩ := HV1.out.two (List.mem_cons_of_mem _ (List.mem_cons_of_mem _ (List.mem_cons_of_mem _ (List.mem_cons_self ..))))
    obtain ⟨c4_0, c4_1⟩ := HV1.out.two (List.mem_cons_of_mem _ (List.mem_cons_of_mem _ (List.mem_cons_of_mem _ (List.mem_cons_of_mem _ (List.mem_cons_self ..)))))
    go_wp2_with fail
    refine (HIs.out _).mono ?_
    rintro e11 w11 ⟨rfl, hbb⟩
    have HB11 := Lib.hid (HV1.out.keep hbb)
    clear c0_0 c0_1 c0_2 c0_3 c0_4 c1_0 c1_1 c1_2 c1_3 c1_4 c2_0 c2_1 c2_2 c2_3 c2_4 c2_5 c2_6 c2_7 c2_8 c2_9 c3_0 c3_1 c4_0 c4_1
    clear hbb HV1
    go_wp2_with fail
    go_ret
    exact ⟨rfl, HB11.out.below⟩

end Go.Proofs.Ytfjmhfmhijhpkaa
