/- The image of an element by an isomorphism; small elements. -/
import Derived.Test.YtfjmhfmhijhpkaaSm3
import Derived.Test.YtfjmhfmhijhpkaaScl
import Derived.Test.YtfjmhfmhijhpkaaIsm
import Derived.Test.YtfjmhfmhijhpkaaRin
import Derived.Test.YtfjmhfmhijhpkaaSmb
import Derived.Test.YtfjmhfmhijhpkaaRrm
namespace Go.Proofs.Ytfjmhfmhijhpkaa
open Go.RowKit FF

theorem mv_fit {q : Qt} (h : qB (nrm q) = true) : fitQ q = nrm q ∧ fitE q = 0 := by
  unfold fitQ fitE; rw [if_pos h, if_pos h]; exact ⟨rfl, rfl⟩
theorem mv_mul (a b : Int) (p q : Qt) (w : World) (hp : qB p = true) (hq : qB q = true) (ha : aE a b = 0) (hr : qB (nrm (mulQ a b p q)) = true) :
    Calls Try.prog 33 #[.agg #[.int .i64 a, .int .i64 b], qv p, qv q] w fun r w' => r = .returned (.tuple #[qv (nrm (mulQ a b p q)), .int .i64 0]) ∧ Below w.heap.size w w' := by
  have h := qMul_ok a b p q w hp hq ha
  rw [(mv_fit hr).1, (mv_fit hr).2] at h
  exact h
theorem mv_norm (a b : Int) (p : Qt) (w : World) (hp : qB p = true) (ha : aE a b = 0) :
    Calls Try.prog 13 #[.agg #[.int .i64 a, .int .i64 b], qv p] w fun r w' => r = .returned (.tuple #[fvv (nmN a b p) (nmD a b p), .int .i64 0]) ∧ Below w.heap.size w w' := by
  obtain ⟨p0, p1, p2, p3, p4⟩ := p
  exact qNorm_good a b p0 p1 p2 p3 p4 w hp ha
theorem mv_add (p q : Qt) (w : World) (hp : qB p = true) (hq : qB q = true) (hr : qB (nrm (addQ p q)) = true) :
    Calls Try.prog 78 #[qv p, qv q] w fun r w' => r = .returned (.tuple #[qv (nrm (addQ p q)), .int .i64 0]) ∧ Below w.heap.size w w' := by
  obtain ⟨p0, p1, p2, p3, p4⟩ := p
  obtain ⟨q0, q1, q2, q3, q4⟩ := q
  have h := qAdd_any p0 p1 p2 p3 p4 q0 q1 q2 q3 q4 w
  have e0 : qsE [⟨p0, p1, p2, p3, p4⟩, ⟨q0, q1, q2, q3, q4⟩] = 0 := qsE_zero.2 (by simp [hp, hq])
  have e1 : resQ 0 (addQ ⟨p0, p1, p2, p3, p4⟩ ⟨q0, q1, q2, q3, q4⟩) = fitQ (addQ ⟨p0, p1, p2, p3, p4⟩ ⟨q0, q1, q2, q3, q4⟩) := if_pos rfl
  have e2 : resE 0 (addQ ⟨p0, p1, p2, p3, p4⟩ ⟨q0, q1, q2, q3, q4⟩) = fitE (addQ ⟨p0, p1, p2, p3, p4⟩ ⟨q0, q1, q2, q3, q4⟩) := if_pos rfl
  rw [e0, e1, e2, (mv_fit hr).1, (mv_fit hr).2] at h
  exact h
theorem mv_scale (q : Qt) (n d : Int) (w : World) (hq : qB q = true) (hn : -1000000 ≤ n ∧ n ≤ 1000000) (hd : 1 ≤ d ∧ d ≤ 1000000) (hr : qB (nrm (timesQ n d q)) = true) :
    Calls Try.prog 77 #[qv q, fvv n d] w fun r w' => r = .returned (.tuple #[qv (nrm (timesQ n d q)), .int .i64 0]) ∧ Below w.heap.size w w' := by
  obtain ⟨p0, p1, p2, p3, p4⟩ := q
  have k := qScale_any p0 p1 p2 p3 p4 n d w ⟨by omega, by omega⟩ ⟨by omega, by omega⟩
  have e0 : qE ⟨p0, p1, p2, p3, p4⟩ = 0 := qE_zero.2 hq
  have hf : frB n d = true := frB_iff.2 ⟨by omega, ⟨by omega, by omega⟩, ⟨by omega, by omega⟩⟩
  have e1 : sclQ n d ⟨p0, p1, p2, p3, p4⟩ = nrm (timesQ n d ⟨p0, p1, p2, p3, p4⟩) := by
    unfold sclQ; rw [if_pos e0, if_pos hf]; exact (mv_fit hr).1
  have e2 : sclE n d ⟨p0, p1, p2, p3, p4⟩ = 0 := by
    unfold sclE; rw [if_pos e0, if_pos hf]; exact (mv_fit hr).2
  rw [e1, e2] at k
  exact k
def tinyB (q : Qt) : Bool := winB q.w (-3) 3 && (winB q.x (-3) 3 && (winB q.y (-3) 3 && (winB q.z (-3) 3 && winB q.d 1 3)))

set_option maxHeartbeats 4000000 in
set_option maxRecDepth 100000 in
theorem tiny_any (p0 p1 p2 p3 p4 : Int) (w : World) :
    Calls Try.prog 11 #[qv ⟨p0, p1, p2, p3, p4⟩] w fun r w' => r = .returned (.bool (tinyB ⟨p0, p1, p2, p3, p4⟩)) ∧ Below w.heap.size w w' := by
  have h0 := fun w => bWithin_any p0 (-3) 3 w
  have h1 := fun w => bWithin_any p1 (-3) 3 w
  have h2 := fun w => bWithin_any p2 (-3) 3 w
  have h3 := fun w => bWithin_any p3 (-3) 3 w
  have h4 := fun w => bWithin_any p4 1 3 w
  simp only [tinyB, qv]
  generalize winB p0 (-3) 3 = b0 at *
  generalize winB p1 (-3) 3 = b1 at *
  generalize winB p2 (-3) 3 = b2 at *
  generalize winB p3 (-3) 3 = b3 at *
  generalize winB p4 1 3 = b4 at *
  have H0 := Lib.hid h0
  have H1 := Lib.hid h1
  have H2 := Lib.hid h2
  have H3 := Lib.hid h3
  have H4 := Lib.hid h4
  clear h0 h1 h2 h3 h4
  cases b0
  · show Calls _ _ _ _ (fun r w' => r = .returned (.bool false) ∧ Below w.heap.size w w')
    go_enter Try.func11, Try.ntmps11
    go_upto_region 1 with fail
    obtain ⟨W0, hW0⟩ : ∃ W0 : World, W0 = (w.alloc (.cells #[.int .i64 p0, .int .i64 p1, .int .i64 p2, .int .i64 p3, .int .i64 p4] 25)) := ⟨_, rfl⟩
    rw [← hW0]
    have HB0 := Lib.hid (show Bx w [(w.heap.size, #[.int .i64 p0, .int .i64 p1, .int .i64 p2, .int .i64 p3, .int .i64 p4])] W0 by rw [hW0]; simpa using ((Bx.nil (Below.refl w.heap.size w)).new #[.int .i64 p0, .int .i64 p1, .int .i64 p2, .int .i64 p3, .int .i64 p4] 25))
    clear hW0
    obtain ⟨c0_0, c0_1, c0_2, c0_3, c0_4⟩ := HB0.out.five (List.mem_cons_self ..)
    go_wp2_with fail
    refine (H0.out _).mono ?_
    rintro e0 w0 ⟨rfl, n0, rfl⟩
    clear c0_0 c0_1 c0_2 c0_3 c0_4
    have HC0 := Lib.hid (HB0.out.drewN n0)
    clear HB0
    obtain ⟨V0, hV0⟩ : ∃ V : World, V = W0.drewN n0 := ⟨_, rfl⟩
    rw [← hV0] at HC0 ⊢
    clear hV0
    go_wp2_with fail
    go_ret
    exact ⟨rfl, HC0.out.below⟩
  cases b1
  · show Calls _ _ _ _ (fun r w' => r = .returned (.bool false) ∧ Below w.heap.size w w')
    go_enter Try.func11, Try.ntmps11
    go_upto_region 1 with fail
    obtain ⟨W0, hW0⟩ : ∃ W0 : World, W0 = (w.alloc (.cells #[.int .i64 p0, .int .i64 p1, .int .i64 p2, .int .i64 p3, .int .i64 p4] 25)) := ⟨_, rfl⟩
    rw [← hW0]
    have HB0 := Lib.hid (show Bx w [(w.heap.size, #[.int .i64 p0, .int .i64 p1, .int .i64 p2, .int .i64 p3, .int .i64 p4])] W0 by rw [hW0]; simpa using ((Bx.nil (Below.refl w.heap.size w)).new #[.int .i64 p0, .int .i64 p1, .int .i64 p2, .int .i64 p3, .int .i64 p4] 25))
    clear hW0
    obtain ⟨c0_0, c0_1, c0_2, c0_3, c0_4⟩ := HB0.out.five (List.mem_cons_self ..)
    go_wp2_with fail
    refine (H0.out _).mono ?_
    rintro e0 w0 ⟨rfl, n0, rfl⟩
    clear c0_0 c0_1 c0_2 c0_3 c0_4
    have HC0 := Lib.hid (HB0.out.drewN n0)
    clear HB0
    obtain ⟨V0, hV0⟩ : ∃ V : World, V = W0.drewN n0 := ⟨_, rfl⟩
    rw [← hV0] at HC0 ⊢
    clear hV0
    obtain ⟨c0_0, c0_1, c0_2, c0_3, c0_4⟩ := HC0.out.five (List.mem_cons_self ..)
    go_wp2_with fail
    refine (H1.out _).mono ?_
    rintro e1 w1 ⟨rfl, n1, rfl⟩
    clear c0_0 c0_1 c0_2 c0_3 c0_4
    have HC1 := Lib.hid (HC0.out.drewN n1)
    clear HC0
    obtain ⟨V1, hV1⟩ : ∃ V : World, V = V0.drewN n1 := ⟨_, rfl⟩
    rw [← hV1] at HC1 ⊢
    clear hV1
    go_wp2_with fail
    go_ret
    exact ⟨rfl, HC1.out.below⟩
  cases b2
  · show Calls _ _ _ _ (fun r w' => r = .returned (.bool false) ∧ Below w.heap.size w w')
    go_enter Try.func11, Try.ntmps11
    go_upto_region 1 with fail
    obtain ⟨W0, hW0⟩ : ∃ W0 : World, W0 = (w.alloc (.cells #[.int .i64 p0, .int .i64 p1, .int .i64 p2, .int .i64 p3, .int .i64 p4] 25)) := ⟨_, rfl⟩
    rw [← hW0]
    have HB0 := Lib.hid (show Bx w [(w.heap.size, #[.int .i64 p0, .int .i64 p1, .int .i64 p2, .int .i64 p3, .int .i64 p4])] W0 by rw [hW0]; simpa using ((Bx.nil (Below.refl w.heap.size w)).new #[.int .i64 p0, .int .i64 p1, .int .i64 p2, .int .i64 p3, .int .i64 p4] 25))
    clear hW0
    obtain ⟨c0_0, c0_1, c0_2, c0_3, c0_4⟩ := HB0.out.five (List.mem_cons_self ..)
    go_wp2_with fail
    refine (H0.out _).mono ?_
    rintro e0 w0 ⟨rfl, n0, rfl⟩
    clear c0_0 c0_1 c0_2 c0_3 c0_4
    have HC0 := Lib.hid (HB0.out.drewN n0)
    clear HB0
    obtain ⟨V0, hV0⟩ : ∃ V : World, V = W0.drewN n0 := ⟨_, rfl⟩
    rw [← hV0] at HC0 ⊢
    clear hV0
    obtain ⟨c0_0, c0_1, c0_2, c0_3, c0_4⟩ := HC0.out.five (List.mem_cons_self ..)
    go_wp2_with fail
    refine (H1.out _).mono ?_
    rintro e1 w1 ⟨rfl, n1, rfl⟩
    clear c0_0 c0_1 c0_2 c0_3 c0_4
    have HC1 := Lib.hid (HC0.out.drewN n1)
    clear HC0
    obtain ⟨V1, hV1⟩ : ∃ V : World, V = V0.drewN n1 := ⟨_, rfl⟩
    rw [← hV1] at HC1 ⊢
    clear hV1
    obtain ⟨c0_0, c0_1, c0_2, c0_3, c0_4⟩ := HC1.out.five (List.mem_cons_self ..)
    go_wp2_with fail
    refine (H2.out _).mono ?_
    rintro e2 w2 ⟨rfl, n2, rfl⟩
    clear c0_0 c0_1 c0_2 c0_3 c0_4
    have HC2 := Lib.hid (HC1.out.drewN n2)
    clear HC1
    obtain ⟨V2, hV2⟩ : ∃ V : World, V = V1.drewN n2 := ⟨_, rfl⟩
    rw [← hV2] at HC2 ⊢
    clear hV2
    go_wp2_with fail
    go_ret
    exact ⟨rfl, HC2.out.below⟩
  cases b3
  · show Calls _ _ _ _ (fun r w' => r = .returned (.bool false) ∧ Below w.heap.size w w')
    go_enter Try.func11, Try.ntmps11
    go_upto_region 1 with fail
    obtain ⟨W0, hW0⟩ : ∃ W0 : World, W0 = (w.alloc (.cells #[.int .i64 p0, .int .i64 p1, .int .i64 p2, .int .i64 p3, .int .i64 p4] 25)) := ⟨_, rfl⟩
    rw [← hW0]
    have HB0 := Lib.hid (show Bx w [(w.heap.size, #[.int .i64 p0, .int .i64 p1, .int .i64 p2, .int .i64 p3, .int .i64 p4])] W0 by rw [hW0]; simpa using ((Bx.nil (Below.refl w.heap.size w)).new #[.int .i64 p0, .int .i64 p1, .int .i64 p2, .int .i64 p3, .int .i64 p4] 25))
    clear hW0
    obtain ⟨c0_0, c0_1, c0_2, c0_3, c0_4⟩ := HB0.out.five (List.mem_cons_self ..)
    go_wp2_with fail
    refine (H0.out _).mono ?_
    rintro e0 w0 ⟨rfl, n0, rfl⟩
    clear c0_0 c0_1 c0_2 c0_3 c0_4
    have HC0 := Lib.hid (HB0.out.drewN n0)
    clear HB0
    obtain ⟨V0, hV0⟩ : ∃ V : World, V = W0.drewN n0 := ⟨_, rfl⟩
    rw [← hV0] at HC0 ⊢
    clear hV0
    obtain ⟨c0_0, c0_1, c0_2, c0_3, c0_4⟩ := HC0.out.five (List.mem_cons_self ..)
    go_wp2_with fail
    refine (H1.out _).mono ?_
    rintro e1 w1 ⟨rfl, n1, rfl⟩
    clear c0_0 c0_1 c0_2 c0_3 c0_4
    have HC1 := Lib.hid (HC0.out.drewN n1)
    clear HC0
    obtain ⟨V1, hV1⟩ : ∃ V : World, V = V0.drewN n1 := ⟨_, rfl⟩
    rw [← hV1] at HC1 ⊢
    clear hV1
    obtain ⟨c0_0, c0_1, c0_2, c0_3, c0_4⟩ := HC1.out.five (List.mem_cons_self ..)
    go_wp2_with fail
    refine (H2.out _).mono ?_
    rintro e2 w2 ⟨rfl, n2, rfl⟩
    clear c0_0 c0_1 c0_2 c0_3 c0_4
    have HC2 := Lib.hid (HC1.out.drewN n2)
    clear HC1
    obtain ⟨V2, hV2⟩ : ∃ V : World, V = V1.drewN n2 := ⟨_, rfl⟩
    rw [← hV2] at HC2 ⊢
    clear hV2
    obtain ⟨c0_0, c0_1, c0_2, c0_3, c0_4⟩ := HC2.out.five (List.mem_cons_self ..)
    go_wp2_with fail
    refine (H3.out _).mono ?_
    rintro e3 w3 ⟨rfl, n3, rfl⟩
    clear c0_0 c0_1 c0_2 c0_3 c0_4
    have HC3 := Lib.hid (HC2.out.drewN n3)
    clear HC2
    obtain ⟨V3, hV3⟩ : ∃ V : World, V = V2.drewN n3 := ⟨_, rfl⟩
    rw [← hV3] at HC3 ⊢
    clear hV3
    go_wp2_with fail
    go_ret
    exact ⟨rfl, HC3.out.below⟩
  cases b4
  · show Calls _ _ _ _ (fun r w' => r = .returned (.bool false) ∧ Below w.heap.size w w')
    go_enter Try.func11, Try.ntmps11
    go_upto_region 1 with fail
    obtain ⟨W0, hW0⟩ : ∃ W0 : World, W0 = (w.alloc (.cells #[.int .i64 p0, .int .i64 p1, .int .i64 p2, .int .i64 p3, .int .i64 p4] 25)) := ⟨_, rfl⟩
    rw [← hW0]
    have HB0 := Lib.hid (show Bx w [(w.heap.size, #[.int .i64 p0, .int .i64 p1, .int .i64 p2, .int .i64 p3, .int .i64 p4])] W0 by rw [hW0]; simpa using ((Bx.nil (Below.refl w.heap.size w)).new #[.int .i64 p0, .int .i64 p1, .int .i64 p2, .int .i64 p3, .int .i64 p4] 25))
    clear hW0
    obtain ⟨c0_0, c0_1, c0_2, c0_3, c0_4⟩ := HB0.out.five (List.mem_cons_self ..)
    go_wp2_with fail
    refine (H0.out _).mono ?_
    rintro e0 w0 ⟨rfl, n0, rfl⟩
    clear c0_0 c0_1 c0_2 c0_3 c0_4
    have HC0 := Lib.hid (HB0.out.drewN n0)
    clear HB0
    obtain ⟨V0, hV0⟩ : ∃ V : World, V = W0.drewN n0 := ⟨_, rfl⟩
    rw [← hV0] at HC0 ⊢
    clear hV0
    obtain ⟨c0_0, c0_1, c0_2, c0_3, c0_4⟩ := HC0.out.five (List.mem_cons_self ..)
    go_wp2_with fail
    refine (H1.out _).mono ?_
    rintro e1 w1 ⟨rfl, n1, rfl⟩
    clear c0_0 c0_1 c0_2 c0_3 c0_4
    have HC1 := Lib.hid (HC0.out.drewN n1)
    clear HC0
    obtain ⟨V1, hV1⟩ : ∃ V : World, V = V0.drewN n1 := ⟨_, rfl⟩
    rw [← hV1] at HC1 ⊢
    clear hV1
    obtain ⟨c0_0, c0_1, c0_2, c0_3, c0_4⟩ := HC1.out.five (List.mem_cons_self ..)
    go_wp2_with fail
    refine (H2.out _).mono ?_
    rintro e2 w2 ⟨rfl, n2, rfl⟩
    clear c0_0 c0_1 c0_2 c0_3 c0_4
    have HC2 := Lib.hid (HC1.out.drewN n2)
    clear HC1
    obtain ⟨V2, hV2⟩ : ∃ V : World, V = V1.drewN n2 := ⟨_, rfl⟩
    rw [← hV2] at HC2 ⊢
    clear hV2
    obtain ⟨c0_0, c0_1, c0_2, c0_3, c0_4⟩ := HC2.out.five (List.mem_cons_self ..)
    go_wp2_with fail
    refine (H3.out _).mono ?_
    rintro e3 w3 ⟨rfl, n3, rfl⟩
    clear c0_0 c0_1 c0_2 c0_3 c0_4
    have HC3 := Lib.hid (HC2.out.drewN n3)
    clear HC2
    obtain ⟨V3, hV3⟩ : ∃ V : World, V = V2.drewN n3 := ⟨_, rfl⟩
    rw [← hV3] at HC3 ⊢
    clear hV3
    obtain ⟨c0_0, c0_1, c0_2, c0_3, c0_4⟩ := HC3.out.five (List.mem_cons_self ..)
    go_wp2_with fail
    refine (H4.out _).mono ?_
    rintro e4 w4 ⟨rfl, n4, rfl⟩
    clear c0_0 c0_1 c0_2 c0_3 c0_4
    have HC4 := Lib.hid (HC3.out.drewN n4)
    clear HC3
    obtain ⟨V4, hV4⟩ : ∃ V : World, V = V3.drewN n4 := ⟨_, rfl⟩
    rw [← hV4] at HC4 ⊢
    clear hV4
    go_wp2_with fail
    go_ret
    exact ⟨rfl, HC4.out.below⟩
  show Calls _ _ _ _ (fun r w' => r = .returned (.bool true) ∧ Below w.heap.size w w')
  go_enter Try.func11, Try.ntmps11
  go_upto_region 1 with fail
  obtain ⟨W0, hW0⟩ : ∃ W0 : World, W0 = (w.alloc (.cells #[.int .i64 p0, .int .i64 p1, .int .i64 p2, .int .i64 p3, .int .i64 p4] 25)) := ⟨_, rfl⟩
  rw [← hW0]
  have HB0 := Lib.hid (show Bx w [(w.heap.size, #[.int .i64 p0, .int .i64 p1, .int .i64 p2, .int .i64 p3, .int .i64 p4])] W0 by rw [hW0]; simpa using ((Bx.nil (Below.refl w.heap.size w)).new #[.int .i64 p0, .int .i64 p1, .int .i64 p2, .int .i64 p3, .int .i64 p4] 25))
  clear hW0
  obtain ⟨c0_0, c0_1, c0_2, c0_3, c0_4⟩ := HB0.out.five (List.mem_cons_self ..)
  go_wp2_with fail
  refine (H0.out _).mono ?_
  rintro e0 w0 ⟨rfl, n0, rfl⟩
  clear c0_0 c0_1 c0_2 c0_3 c0_4
  have HC0 := Lib.hid (HB0.out.drewN n0)
  clear HB0
  obtain ⟨V0, hV0⟩ : ∃ V : World, V = W0.drewN n0 := ⟨_, rfl⟩
  rw [← hV0] at HC0 ⊢
  clear hV0
  obtain ⟨c0_0, c0_1, c0_2, c0_3, c0_4⟩ := HC0.out.five (List.mem_cons_self ..)
  go_wp2_with fail
  refine (H1.out _).mono ?_
  rintro e1 w1 ⟨rfl, n1, rfl⟩
  clear c0_0 c0_1 c0_2 c0_3 c0_4
  have HC1 := Lib.hid (HC0.out.drewN n1)
  clear HC0
  obtain ⟨V1, hV1⟩ : ∃ V : World, V = V0.drewN n1 := ⟨_, rfl⟩
  rw [← hV1] at HC1 ⊢
  clear hV1
  obtain ⟨c0_0, c0_1, c0_2, c0_3, c0_4⟩ := HC1.out.five (List.mem_cons_self ..)
  go_wp2_with fail
  refine (H2.out _).mono ?_
  rintro e2 w2 ⟨rfl, n2, rfl⟩
  clear c0_0 c0_1 c0_2 c0_3 c0_4
  have HC2 := Lib.hid (HC1.out.drewN n2)
  clear HC1
  obtain ⟨V2, hV2⟩ : ∃ V : World, V = V1.drewN n2 := ⟨_, rfl⟩
  rw [← hV2] at HC2 ⊢
  clear hV2
  obtain ⟨c0_0, c0_1, c0_2, c0_3, c0_4⟩ := HC2.out.five (List.mem_cons_self ..)
  go_wp2_with fail
  refine (H3.out _).mono ?_
  rintro e3 w3 ⟨rfl, n3, rfl⟩
  clear c0_0 c0_1 c0_2 c0_3 c0_4
  have HC3 := Lib.hid (HC2.out.drewN n3)
  clear HC2
  obtain ⟨V3, hV3⟩ : ∃ V : World, V = V2.drewN n3 := ⟨_, rfl⟩
  rw [← hV3] at HC3 ⊢
  clear hV3
  obtain ⟨c0_0, c0_1, c0_2, c0_3, c0_4⟩ := HC3.out.five (List.mem_cons_self ..)
  go_wp2_with fail
  refine (H4.out _).mono ?_
  rintro e4 w4 ⟨rfl, n4, rfl⟩
  clear c0_0 c0_1 c0_2 c0_3 c0_4
  have HC4 := Lib.hid (HC3.out.drewN n4)
  clear HC3
  obtain ⟨V4, hV4⟩ : ∃ V : World, V = V3.drewN n4 := ⟨_, rfl⟩
  rw [← hV4] at HC4 ⊢
  clear hV4
  go_wp2_with fail
  go_ret
  exact ⟨rfl, HC4.out.below⟩



set_option maxHeartbeats 4000000 in
set_option maxRecDepth 100000 in
theorem moved_any (c d q0 q1 q2 q3 q4 x0 x1 x2 x3 x4 y0 y1 y2 y3 y4 : Int) (w : World) (hc : aE c d = 0) (hx : qB ⟨x0, x1, x2, x3, x4⟩ = true) (hy : qB ⟨y0, y1, y2, y3, y4⟩ = true) (hm : Moves c d ⟨x0, x1, x2, x3, x4⟩ ⟨y0, y1, y2, y3, y4⟩ ⟨q0, q1, q2, q3, q4⟩)
    (b0 : -1000000 ≤ q0 ∧ q0 ≤ 1000000) (b1 : -1000000 ≤ q1 ∧ q1 ≤ 1000000) (b2 : -1000000 ≤ q2 ∧ q2 ≤ 1000000) (b3 : -1000000 ≤ q3 ∧ q3 ≤ 1000000) (b4 : 1 ≤ q4 ∧ q4 ≤ 1000000) :
    Calls Try.prog 34 #[.agg #[.int .i64 c, .int .i64 d], qv ⟨q0, q1, q2, q3, q4⟩, qv ⟨x0, x1, x2, x3, x4⟩, qv ⟨y0, y1, y2, y3, y4⟩] w fun r w' =>
      r = .returned (.tuple #[qv (nrm (imgQ c d ⟨x0, x1, x2, x3, x4⟩ ⟨y0, y1, y2, y3, y4⟩ ⟨q0, q1, q2, q3, q4⟩)), .bool true]) ∧ Below w.heap.size w w' := by
  have hq := fun (z : Qt) (h : qB z = true) => h
  clear hq
  have HMu := Lib.hid (fun w => mv_mul c d ⟨x0, x1, x2, x3, x4⟩ ⟨y0, y1, y2, y3, y4⟩ w hx hy hc (qB_nrm hm.k))
  have e0 : timesQ q0 q4 ⟨1, 0, 0, 0, 1⟩ = ⟨q0, 0, 0, 0, q4⟩ := by simp [timesQ]
  have hS0 := fun w => mv_scale ⟨1, 0, 0, 0, 1⟩ q0 q4 w (by decide) b0 b4 (by rw [e0]; exact qB_nrm hm.s0)
  rw [e0] at hS0
  have HS0 := Lib.hid hS0
  have HS1 := Lib.hid (fun w => mv_scale ⟨x0, x1, x2, x3, x4⟩ q1 q4 w hx b1 b4 (qB_nrm hm.p1))
  have HS2 := Lib.hid (fun w => mv_scale ⟨y0, y1, y2, y3, y4⟩ q2 q4 w hy b2 b4 (qB_nrm hm.p2))
  have HS3 := Lib.hid (fun w => mv_scale (nrm (mulQ c d ⟨x0, x1, x2, x3, x4⟩ ⟨y0, y1, y2, y3, y4⟩)) q3 q4 w (qB_nrm hm.k) b3 b4 hm.p3)
  have HA1 := Lib.hid (fun w => mv_add _ _ w (qB_nrm hm.s0) (qB_nrm hm.p1) hm.s1)
  have HA2 := Lib.hid (fun w => mv_add _ _ w hm.s1 (qB_nrm hm.p2) hm.s2)
  have HA3 := Lib.hid (fun w => mv_add _ _ w hm.s2 hm.p3 (by have h3 := hm.s3; rw [h3]; exact hm.s4))
  have hF := hm.s3
  have HF := Lib.hid hF; clear hF hm hS0 hx hy hc b0 b1 b2 b3 b4 e0
  dsimp only at HS1 HS2 HS3 HA1 HA2 HA3 HF
  rw [← HF.out]
  generalize nrm (mulQ c d ⟨x0, x1, x2, x3, x4⟩ ⟨y0, y1, y2, y3, y4⟩) = K at *
  generalize nrm ⟨q0, 0, 0, 0, q4⟩ = O at *
  generalize nrm (timesQ q1 q4 ⟨x0, x1, x2, x3, x4⟩) = P at *
  generalize nrm (timesQ q2 q4 ⟨y0, y1, y2, y3, y4⟩) = R at *
  generalize nrm (timesQ q3 q4 K) = S at *
  generalize nrm (addQ O P) = T at *
  generalize nrm (addQ T R) = U at *
  generalize nrm (addQ U S) = Z at *
  obtain ⟨m0, m1, m2, m3, m4⟩ := K
  obtain ⟨o0, o1, o2, o3, o4⟩ := O
  obtain ⟨pa0, pa1, pa2, pa3, pa4⟩ := P
  obtain ⟨pb0, pb1, pb2, pb3, pb4⟩ := R
  obtain ⟨pc0, pc1, pc2, pc3, pc4⟩ := S
  obtain ⟨sa0, sa1, sa2, sa3, sa4⟩ := T
  obtain ⟨sb0, sb1, sb2, sb3, sb4⟩ := U
  obtain ⟨sc0, sc1, sc2, sc3, sc4⟩ := Z
  clear HF
  simp only [qv, fvv] at HMu HS0 HS1 HS2 HS3 HA1 HA2 HA3 ⊢
  go_enter Try.func34, Try.ntmps34
  go_upto_region 1 with fail
  obtain ⟨W0, hW0⟩ : ∃ W0 : World, W0 = (((((w.alloc (.cells #[.int .i64 c, .int .i64 d] 23)).alloc (.cells #[.int .i64 q0, .int .i64 q1, .int .i64 q2, .int .i64 q3, .int .i64 q4] 25)).alloc (.cells #[.int .i64 x0, .int .i64 x1, .int .i64 x2, .int .i64 x3, .int .i64 x4] 25)).alloc (.cells #[.int .i64 y0, .int .i64 y1, .int .i64 y2, .int .i64 y3, .int .i64 y4] 25)).alloc (.cells #[.int .i64 0, .int .i64 0, .int .i64 0, .int .i64 0, .int .i64 0] 25)) := ⟨_, rfl⟩
  rw [← hW0]
  have HB0 := Lib.hid (show Bx w [(w.heap.size + 4, #[.int .i64 0, .int .i64 0, .int .i64 0, .int .i64 0, .int .i64 0]), (w.heap.size + 3, #[.int .i64 y0, .int .i64 y1, .int .i64 y2, .int .i64 y3, .int .i64 y4]), (w.heap.size + 2, #[.int .i64 x0, .int .i64 x1, .int .i64 x2, .int .i64 x3, .int .i64 x4]), (w.heap.size + 1, #[.int .i64 q0, .int .i64 q1, .int .i64 q2, .int .i64 q3, .int .i64 q4]), (w.heap.size, #[.int .i64 c, .int .i64 d])] W0 by rw [hW0]; simpa using ((((((Bx.nil (Below.refl w.heap.size w)).new #[.int .i64 c, .int .i64 d] 23).new #[.int .i64 q0, .int .i64 q1, .int .i64 q2, .int .i64 q3, .int .i64 q4] 25).new #[.int .i64 x0, .int .i64 x1, .int .i64 x2, .int .i64 x3, .int .i64 x4] 25).new #[.int .i64 y0, .int .i64 y1, .int .i64 y2, .int .i64 y3, .int .i64 y4] 25).new #[.int .i64 0, .int .i64 0, .int .i64 0, .int .i64 0, .int .i64 0] 25))
  clear hW0
  obtain ⟨c0_0, c0_1, c0_2, c0_3, c0_4⟩ := HB0.out.five (List.mem_cons_self ..)
  obtain ⟨c1_0, c1_1, c1_2, c1_3, c1_4⟩ := HB0.out.five (List.mem_cons_of_mem _ (List.mem_cons_self ..))
  obtain ⟨c2_0, c2_1, c2_2, c2_3, c2_4⟩ := HB0.out.five (List.mem_cons_of_mem _ (List.mem_cons_of_mem _ (List.mem_cons_self ..)))
  obtain ⟨c3_0, c3_1, c3_2, c3_3, c3_4⟩ := HB0.out.five (List.mem_cons_of_mem _ (List.mem_cons_of_mem _ (List.mem_cons_of_mem _ (List.mem_cons_self ..))))
  obtain ⟨c4_0, c4_1⟩ := HB0.out.two (List.mem_cons_of_mem _ (List.mem_cons_of_mem _ (List.mem_cons_of_mem _ (List.mem_cons_of_mem _ (List.mem_cons_self ..)))))
  go_wp2_with fail
  refine (HMu.out _).mono ?_
  rintro e1 w1 ⟨rfl, hbb⟩
  have HB1 := Lib.hid (HB0.out.keep hbb)
  clear c0_0 c0_1 c0_2 c0_3 c0_4 c1_0 c1_1 c1_2 c1_3 c1_4 c2_0 c2_1 c2_2 c2_3 c2_4 c3_0 c3_1 c3_2 c3_3 c3_4 c4_0 c4_1
  clear hbb HB0
  go_upto_region 2 with fail
  obtain ⟨V1, hV1⟩ : ∃ V1 : World, V1 = w1.alloc (.cells #[.int .i64 m0, .int .i64 m1, .int .i64 m2, .int .i64 m3, .int .i64 m4] 25) := ⟨_, rfl⟩
  rw [← hV1]
  have HV1 := Lib.hid (show Bx w [(w1.heap.size, #[.int .i64 m0, .int .i64 m1, .int .i64 m2, .int .i64 m3, .int .i64 m4]), (w.heap.size + 4, #[.int .i64 0, .int .i64 0, .int .i64 0, .int .i64 0, .int .i64 0]), (w.heap.size + 3, #[.int .i64 y0, .int .i64 y1, .int .i64 y2, .int .i64 y3, .int .i64 y4]), (w.heap.size + 2, #[.int .i64 x0, .int .i64 x1, .int .i64 x2, .int .i64 x3, .int .i64 x4]), (w.heap.size + 1, #[.int .i64 q0, .int .i64 q1, .int .i64 q2, .int .i64 q3, .int .i64 q4]), (w.heap.size, #[.int .i64 c, .int .i64 d])] V1 from hV1 ▸ HB1.out.new _ _)
  have hlt1 := HB1.out.lt (List.mem_cons_self ..)
  clear hV1 HB1
  generalize w1.heap.size = B1 at *
  obtain ⟨c0_0, c0_1, c0_2, c0_3, c0_4⟩ := HV1.out.five (List.mem_cons_self ..)
  obtain ⟨c1_0, c1_1, c1_2, c1_3, c1_4⟩ := HV1.out.five (List.mem_cons_of_mem _ (List.mem_cons_self ..))
  obtain ⟨c2_0, c2_1, c2_2, c2_3, c2_4⟩ := HV1.out.five (List.mem_cons_of_mem _ (List.mem_cons_of_mem _ (List.mem_cons_self ..)))
  obtain ⟨c3_0, c3_1, c3_2, c3_3, c3_4⟩ := HV1.out.five (List.mem_cons_of_mem _ (List.mem_cons_of_mem _ (List.mem_cons_of_mem _ (List.mem_cons_self ..))))
  obtain ⟨c4_0, c4_1, c4_2, c4_3, c4_4⟩ := HV1.out.five (List.mem_cons_of_mem _ (List.mem_cons_of_mem _ (List.mem_cons_of_mem _ (List.mem_cons_of_mem _ (List.mem_cons_self ..)))))
  obtain ⟨c5_0, c5_1⟩ := HV1.out.two (List.mem_cons_of_mem _ (List.mem_cons_of_mem _ (List.mem_cons_of_mem _ (List.mem_cons_of_mem _ (List.mem_cons_of_mem _ (List.mem_cons_self ..))))))
  go_wp2_with fail
  refine (HS0.out _).mono ?_
  rintro e2 w2 ⟨rfl, hbb⟩
  have HB2 := Lib.hid (HV1.out.keep hbb)
  clear c0_0 c0_1 c0_2 c0_3 c0_4 c1_0 c1_1 c1_2 c1_3 c1_4 c2_0 c2_1 c2_2 c2_3 c2_4 c3_0 c3_1 c3_2 c3_3 c3_4 c4_0 c4_1 c4_2 c4_3 c4_4 c5_0 c5_1
  clear hbb HV1
  go_upto_region 3 with fail
  obtain ⟨V2, hV2⟩ : ∃ V2 : World, V2 = w2.alloc (.cells #[.int .i64 o0, .int .i64 o1, .int .i64 o2, .int .i64 o3, .int .i64 o4] 25) := ⟨_, rfl⟩
  rw [← hV2]
  have HV2 := Lib.hid (show Bx w [(w2.heap.size, #[.int .i64 o0, .int .i64 o1, .int .i64 o2, .int .i64 o3, .int .i64 o4]), (B1, #[.int .i64 m0, .int .i64 m1, .int .i64 m2, .int .i64 m3, .int .i64 m4]), (w.heap.size + 4, #[.int .i64 0, .int .i64 0, .int .i64 0, .int .i64 0, .int .i64 0]), (w.heap.size + 3, #[.int .i64 y0, .int .i64 y1, .int .i64 y2, .int .i64 y3, .int .i64 y4]), (w.heap.size + 2, #[.int .i64 x0, .int .i64 x1, .int .i64 x2, .int .i64 x3, .int .i64 x4]), (w.heap.size + 1, #[.int .i64 q0, .int .i64 q1, .int .i64 q2, .int .i64 q3, .int .i64 q4]), (w.heap.size, #[.int .i64 c, .int .i64 d])] V2 from hV2 ▸ HB2.out.new _ _)
  have hlt2 := HB2.out.lt (List.mem_cons_self ..)
  clear hV2 HB2
  generalize w2.heap.size = BO at *
  obtain ⟨c0_0, c0_1, c0_2, c0_3, c0_4⟩ := HV2.out.five (List.mem_cons_self ..)
  obtain ⟨c1_0, c1_1, c1_2, c1_3, c1_4⟩ := HV2.out.five (List.mem_cons_of_mem _ (List.mem_cons_self ..))
  obtain ⟨c2_0, c2_1, c2_2, c2_3, c2_4⟩ := HV2.out.five (List.mem_cons_of_mem _ (List.mem_cons_of_mem _ (List.mem_cons_self ..)))
  obtain ⟨c3_0, c3_1, c3_2, c3_3, c3_4⟩ := HV2.out.five (List.mem_cons_of_mem _ (List.mem_cons_of_mem _ (List.mem_cons_of_mem _ (List.mem_cons_self ..))))
  obtain ⟨c4_0, c4_1, c4_2, c4_3, c4_4⟩ := HV2.out.five (List.mem_cons_of_mem _ (List.mem_cons_of_mem _ (List.mem_cons_of_mem _ (List.mem_cons_of_mem _ (List.mem_cons_self ..)))))
  obtain ⟨c5_0, c5_1, c5_2, c5_3, c5_4⟩ := HV2.out.five (List.mem_cons_of_mem _ (List.mem_cons_of_mem _ (List.mem_cons_of_mem _ (List.mem_cons_of_mem _ (List.mem_cons_of_mem _ (List.mem_cons_self ..))))))
  obtain ⟨c6_0, c6_1⟩ := HV2.out.two (List.mem_cons_of_mem _ (List.mem_cons_of_mem _ (List.mem_cons_of_mem _ (List.mem_cons_of_mem _ (List.mem_cons_of_mem _ (List.mem_cons_of_mem _ (List.mem_cons_self ..)))))))
  go_upto_region 5 with fail
  obtain ⟨V3, hV3⟩ : ∃ V3 : World, V3 = V2.alloc (.cells #[.int .i64 x0, .int .i64 x1, .int .i64 x2, .int .i64 x3, .int .i64 x4, .int .i64 y0, .int .i64 y1, .int .i64 y2, .int .i64 y3, .int .i64 y4, .int .i64 m0, .int .i64 m1, .int .i64 m2, .int .i64 m3, .int .i64 m4] 133) := ⟨_, rfl⟩
  rw [← hV3]
  have HV3 := Lib.hid (show Bx w [(V2.heap.size, #[.int .i64 x0, .int .i64 x1, .int .i64 x2, .int .i64 x3, .int .i64 x4, .int .i64 y0, .int .i64 y1, .int .i64 y2, .int .i64 y3, .int .i64 y4, .int .i64 m0, .int .i64 m1, .int .i64 m2, .int .i64 m3, .int .i64 m4]), (BO, #[.int .i64 o0, .int .i64 o1, .int .i64 o2, .int .i64 o3, .int .i64 o4]), (B1, #[.int .i64 m0, .int .i64 m1, .int .i64 m2, .int .i64 m3, .int .i64 m4]), (w.heap.size + 4, #[.int .i64 0, .int .i64 0, .int .i64 0, .int .i64 0, .int .i64 0]), (w.heap.size + 3, #[.int .i64 y0, .int .i64 y1, .int .i64 y2, .int .i64 y3, .int .i64 y4]), (w.heap.size + 2, #[.int .i64 x0, .int .i64 x1, .int .i64 x2, .int .i64 x3, .int .i64 x4]), (w.heap.size + 1, #[.int .i64 q0, .int .i64 q1, .int .i64 q2, .int .i64 q3, .int .i64 q4]), (w.heap.size, #[.int .i64 c, .int .i64 d])] V3 from hV3 ▸ HV2.out.new _ _)
  have hlt3 := HV2.out.lt (List.mem_cons_self ..)
  clear hV3 HV2
  generalize V2.heap.size = BL at *
  have c0_0 := (HV3.out.own _ (List.mem_cons_self ..)).2.2.1 0 (by simp)
  have c0_1 := (HV3.out.own _ (List.mem_cons_self ..)).2.2.1 1 (by simp)
  have c0_2 := (HV3.out.own _ (List.mem_cons_self ..)).2.2.1 2 (by simp)
  have c0_3 := (HV3.out.own _ (List.mem_cons_self ..)).2.2.1 3 (by simp)
  have c0_4 := (HV3.out.own _ (List.mem_cons_self ..)).2.2.1 4 (by simp)
  have c0_5 := (HV3.out.own _ (List.mem_cons_self ..)).2.2.1 5 (by simp)
  have c0_6 := (HV3.out.own _ (List.mem_cons_self ..)).2.2.1 6 (by simp)
  have c0_7 := (HV3.out.own _ (List.mem_cons_self ..)).2.2.1 7 (by simp)
  have c0_8 := (HV3.out.own _ (List.mem_cons_self ..)).2.2.1 8 (by simp)
  have c0_9 := (HV3.out.own _ (List.mem_cons_self ..)).2.2.1 9 (by simp)
  have c0_10 := (HV3.out.own _ (List.mem_cons_self ..)).2.2.1 10 (by simp)
  have c0_11 := (HV3.out.own _ (List.mem_cons_self ..)).2.2.1 11 (by simp)
  have c0_12 := (HV3.out.own _ (List.mem_cons_self ..)).2.2.1 12 (by simp)
  have c0_13 := (HV3.out.own _ (List.mem_cons_self ..)).2.2.1 13 (by simp)
  have c0_14 := (HV3.out.own _ (List.mem_cons_self ..)).2.2.1 14 (by simp)
  simp only [List.getElem?_toArray, List.getElem?_cons_zero, List.getElem?_cons_succ] at c0_0 c0_1 c0_2 c0_3 c0_4 c0_5 c0_6 c0_7 c0_8 c0_9 c0_10 c0_11 c0_12 c0_13 c0_14
  obtain ⟨c1_0, c1_1, c1_2, c1_3, c1_4⟩ := HV3.out.five (List.mem_cons_of_mem _ (List.mem_cons_self ..))
  obtain ⟨c2_0, c2_1, c2_2, c2_3, c2_4⟩ := HV3.out.five (List.mem_cons_of_mem _ (List.mem_cons_of_mem _ (List.mem_cons_self ..)))
  obtain ⟨c3_0, c3_1, c3_2, c3_3, c3_4⟩ := HV3.out.five (List.mem_cons_of_mem _ (List.mem_cons_of_mem _ (List.mem_cons_of_mem _ (List.mem_cons_self ..))))
  obtain ⟨c4_0, c4_1, c4_2, c4_3, c4_4⟩ := HV3.out.five (List.mem_cons_of_mem _ (List.mem_cons_of_mem _ (List.mem_cons_of_mem _ (List.mem_cons_of_mem _ (List.mem_cons_self ..)))))
  obtain ⟨c5_0, c5_1, c5_2, c5_3, c5_4⟩ := HV3.out.five (List.mem_cons_of_mem _ (List.mem_cons_of_mem _ (List.mem_cons_of_mem _ (List.mem_cons_of_mem _ (List.mem_cons_of_mem _ (List.mem_cons_self ..))))))
  obtain ⟨c6_0, c6_1, c6_2, c6_3, c6_4⟩ := HV3.out.five (List.mem_cons_of_mem _ (List.mem_cons_of_mem _ (List.mem_cons_of_mem _ (List.mem_cons_of_mem _ (List.mem_cons_of_mem _ (List.mem_cons_of_mem _ (List.mem_cons_self ..)))))))
  obtain ⟨c7_0, c7_1⟩ := HV3.out.two (List.mem_cons_of_mem _ (List.mem_cons_of_mem _ (List.mem_cons_of_mem _ (List.mem_cons_of_mem _ (List.mem_cons_of_mem _ (List.mem_cons_of_mem _ (List.mem_cons_of_mem _ (List.mem_cons_self ..))))))))
  go_upto_region 6 with fail
  obtain ⟨V4, hV4⟩ : ∃ V4 : World, V4 = V3.alloc (.cells #[.int .i64 q1, .int .i64 q2, .int .i64 q3] 134) := ⟨_, rfl⟩
  rw [← hV4]
  have HV4 := Lib.hid (show Bx w [(V3.heap.size, #[.int .i64 q1, .int .i64 q2, .int .i64 q3]), (BL, #[.int .i64 x0, .int .i64 x1, .int .i64 x2, .int .i64 x3, .int .i64 x4, .int .i64 y0, .int .i64 y1, .int .i64 y2, .int .i64 y3, .int .i64 y4, .int .i64 m0, .int .i64 m1, .int .i64 m2, .int .i64 m3, .int .i64 m4]), (BO, #[.int .i64 o0, .int .i64 o1, .int .i64 o2, .int .i64 o3, .int .i64 o4]), (B1, #[.int .i64 m0, .int .i64 m1, .int .i64 m2, .int .i64 m3, .int .i64 m4]), (w.heap.size + 4, #[.int .i64 0, .int .i64 0, .int .i64 0, .int .i64 0, .int .i64 0]), (w.heap.size + 3, #[.int .i64 y0, .int .i64 y1, .int .i64 y2, .int .i64 y3, .int .i64 y4]), (w.heap.size + 2, #[.int .i64 x0, .int .i64 x1, .int .i64 x2, .int .i64 x3, .int .i64 x4]), (w.heap.size + 1, #[.int .i64 q0, .int .i64 q1, .int .i64 q2, .int .i64 q3, .int .i64 q4]), (w.heap.size, #[.int .i64 c, .int .i64 d])] V4 from hV4 ▸ HV3.out.new _ _)
  have hlt4 := HV3.out.lt (List.mem_cons_self ..)
  clear hV4 HV3
  generalize V3.heap.size = BC at *
  clear c0_0 c0_1 c0_2 c0_3 c0_4 c0_5 c0_6 c0_7 c0_8 c0_9 c0_10 c0_11 c0_12 c0_13 c0_14 c1_0 c1_1 c1_2 c1_3 c1_4 c2_0 c2_1 c2_2 c2_3 c2_4 c3_0 c3_1 c3_2 c3_3 c3_4 c4_0 c4_1 c4_2 c4_3 c4_4 c5_0 c5_1 c5_2 c5_3 c5_4 c6_0 c6_1 c6_2 c6_3 c6_4 c7_0 c7_1
  go_wp2_with fail
  obtain ⟨St, h0, h1, h2, h3⟩ : ∃ St : Nat → World → Prop, (∀ wr, St 0 wr = Bx w [(BC, #[.int .i64 q1, .int .i64 q2, .int .i64 q3]), (BL, #[.int .i64 x0, .int .i64 x1, .int .i64 x2, .int .i64 x3, .int .i64 x4, .int .i64 y0, .int .i64 y1, .int .i64 y2, .int .i64 y3, .int .i64 y4, .int .i64 m0, .int .i64 m1, .int .i64 m2, .int .i64 m3, .int .i64 m4]), (BO, #[.int .i64 o0, .int .i64 o1, .int .i64 o2, .int .i64 o3, .int .i64 o4]), (B1, #[.int .i64 m0, .int .i64 m1, .int .i64 m2, .int .i64 m3, .int .i64 m4]), (w.heap.size + 4, #[.int .i64 0, .int .i64 0, .int .i64 0, .int .i64 0, .int .i64 0]), (w.heap.size + 3, #[.int .i64 y0, .int .i64 y1, .int .i64 y2, .int .i64 y3, .int .i64 y4]), (w.heap.size + 2, #[.int .i64 x0, .int .i64 x1, .int .i64 x2, .int .i64 x3, .int .i64 x4]), (w.heap.size + 1, #[.int .i64 q0, .int .i64 q1, .int .i64 q2, .int .i64 q3, .int .i64 q4]), (w.heap.size, #[.int .i64 c, .int .i64 d])] wr) ∧ (∀ wr, St 1 wr = Bx w [(BC, #[.int .i64 q1, .int .i64 q2, .int .i64 q3]), (BL, #[.int .i64 x0, .int .i64 x1, .int .i64 x2, .int .i64 x3, .int .i64 x4, .int .i64 y0, .int .i64 y1, .int .i64 y2, .int .i64 y3, .int .i64 y4, .int .i64 m0, .int .i64 m1, .int .i64 m2, .int .i64 m3, .int .i64 m4]), (BO, #[.int .i64 sa0, .int .i64 sa1, .int .i64 sa2, .int .i64 sa3, .int .i64 sa4]), (B1, #[.int .i64 m0, .int .i64 m1, .int .i64 m2, .int .i64 m3, .int .i64 m4]), (w.heap.size + 4, #[.int .i64 0, .int .i64 0, .int .i64 0, .int .i64 0, .int .i64 0]), (w.heap.size + 3, #[.int .i64 y0, .int .i64 y1, .int .i64 y2, .int .i64 y3, .int .i64 y4]), (w.heap.size + 2, #[.int .i64 x0, .int .i64 x1, .int .i64 x2, .int .i64 x3, .int .i64 x4]), (w.heap.size + 1, #[.int .i64 q0, .int .i64 q1, .int .i64 q2, .int .i64 q3, .int .i64 q4]), (w.heap.size, #[.int .i64 c, .int .i64 d])] wr) ∧ (∀ wr, St 2 wr = Bx w [(BC, #[.int .i64 q1, .int .i64 q2, .int .i64 q3]), (BL, #[.int .i64 x0, .int .i64 x1, .int .i64 x2, .int .i64 x3, .int .i64 x4, .int .i64 y0, .int .i64 y1, .int .i64 y2, .int .i64 y3, .int .i64 y4, .int .i64 m0, .int .i64 m1, .int .i64 m2, .int .i64 m3, .int .i64 m4]), (BO, #[.int .i64 sb0, .int .i64 sb1, .int .i64 sb2, .int .i64 sb3, .int .i64 sb4]), (B1, #[.int .i64 m0, .int .i64 m1, .int .i64 m2, .int .i64 m3, .int .i64 m4]), (w.heap.size + 4, #[.int .i64 0, .int .i64 0, .int .i64 0, .int .i64 0, .int .i64 0]), (w.heap.size + 3, #[.int .i64 y0, .int .i64 y1, .int .i64 y2, .int .i64 y3, .int .i64 y4]), (w.heap.size + 2, #[.int .i64 x0, .int .i64 x1, .int .i64 x2, .int .i64 x3, .int .i64 x4]), (w.heap.size + 1, #[.int .i64 q0, .int .i64 q1, .int .i64 q2, .int .i64 q3, .int .i64 q4]), (w.heap.size, #[.int .i64 c, .int .i64 d])] wr) ∧ (∀ wr, St 3 wr = Bx w [(BC, #[.int .i64 q1, .int .i64 q2, .int .i64 q3]), (BL, #[.int .i64 x0, .int .i64 x1, .int .i64 x2, .int .i64 x3, .int .i64 x4, .int .i64 y0, .int .i64 y1, .int .i64 y2, .int .i64 y3, .int .i64 y4, .int .i64 m0, .int .i64 m1, .int .i64 m2, .int .i64 m3, .int .i64 m4]), (BO, #[.int .i64 sc0, .int .i64 sc1, .int .i64 sc2, .int .i64 sc3, .int .i64 sc4]), (B1, #[.int .i64 m0, .int .i64 m1, .int .i64 m2, .int .i64 m3, .int .i64 m4]), (w.heap.size + 4, #[.int .i64 0, .int .i64 0, .int .i64 0, .int .i64 0, .int .i64 0]), (w.heap.size + 3, #[.int .i64 y0, .int .i64 y1, .int .i64 y2, .int .i64 y3, .int .i64 y4]), (w.heap.size + 2, #[.int .i64 x0, .int .i64 x1, .int .i64 x2, .int .i64 x3, .int .i64 x4]), (w.heap.size + 1, #[.int .i64 q0, .int .i64 q1, .int .i64 q2, .int .i64 q3, .int .i64 q4]), (w.heap.size, #[.int .i64 c, .int .i64 d])] wr) := ⟨fun k wr => match k with | 0 => Bx w [(BC, #[.int .i64 q1, .int .i64 q2, .int .i64 q3]), (BL, #[.int .i64 x0, .int .i64 x1, .int .i64 x2, .int .i64 x3, .int .i64 x4, .int .i64 y0, .int .i64 y1, .int .i64 y2, .int .i64 y3, .int .i64 y4, .int .i64 m0, .int .i64 m1, .int .i64 m2, .int .i64 m3, .int .i64 m4]), (BO, #[.int .i64 o0, .int .i64 o1, .int .i64 o2, .int .i64 o3, .int .i64 o4]), (B1, #[.int .i64 m0, .int .i64 m1, .int .i64 m2, .int .i64 m3, .int .i64 m4]), (w.heap.size + 4, #[.int .i64 0, .int .i64 0, .int .i64 0, .int .i64 0, .int .i64 0]), (w.heap.size + 3, #[.int .i64 y0, .int .i64 y1, .int .i64 y2, .int .i64 y3, .int .i64 y4]), (w.heap.size + 2, #[.int .i64 x0, .int .i64 x1, .int .i64 x2, .int .i64 x3, .int .i64 x4]), (w.heap.size + 1, #[.int .i64 q0, .int .i64 q1, .int .i64 q2, .int .i64 q3, .int .i64 q4]), (w.heap.size, #[.int .i64 c, .int .i64 d])] wr | 1 => Bx w [(BC, #[.int .i64 q1, .int .i64 q2, .int .i64 q3]), (BL, #[.int .i64 x0, .int .i64 x1, .int .i64 x2, .int .i64 x3, .int .i64 x4, .int .i64 y0, .int .i64 y1, .int .i64 y2, .int .i64 y3, .int .i64 y4, .int .i64 m0, .int .i64 m1, .int .i64 m2, .int .i64 m3, .int .i64 m4]), (BO, #[.int .i64 sa0, .int .i64 sa1, .int .i64 sa2, .int .i64 sa3, .int .i64 sa4]), (B1, #[.int .i64 m0, .int .i64 m1, .int .i64 m2, .int .i64 m3, .int .i64 m4]), (w.heap.size + 4, #[.int .i64 0, .int .i64 0, .int .i64 0, .int .i64 0, .int .i64 0]), (w.heap.size + 3, #[.int .i64 y0, .int .i64 y1, .int .i64 y2, .int .i64 y3, .int .i64 y4]), (w.heap.size + 2, #[.int .i64 x0, .int .i64 x1, .int .i64 x2, .int .i64 x3, .int .i64 x4]), (w.heap.size + 1, #[.int .i64 q0, .int .i64 q1, .int .i64 q2, .int .i64 q3, .int .i64 q4]), (w.heap.size, #[.int .i64 c, .int .i64 d])] wr | 2 => Bx w [(BC, #[.int .i64 q1, .int .i64 q2, .int .i64 q3]), (BL, #[.int .i64 x0, .int .i64 x1, .int .i64 x2, .int .i64 x3, .int .i64 x4, .int .i64 y0, .int .i64 y1, .int .i64 y2, .int .i64 y3, .int .i64 y4, .int .i64 m0, .int .i64 m1, .int .i64 m2, .int .i64 m3, .int .i64 m4]), (BO, #[.int .i64 sb0, .int .i64 sb1, .int .i64 sb2, .int .i64 sb3, .int .i64 sb4]), (B1, #[.int .i64 m0, .int .i64 m1, .int .i64 m2, .int .i64 m3, .int .i64 m4]), (w.heap.size + 4, #[.int .i64 0, .int .i64 0, .int .i64 0, .int .i64 0, .int .i64 0]), (w.heap.size + 3, #[.int .i64 y0, .int .i64 y1, .int .i64 y2, .int .i64 y3, .int .i64 y4]), (w.heap.size + 2, #[.int .i64 x0, .int .i64 x1, .int .i64 x2, .int .i64 x3, .int .i64 x4]), (w.heap.size + 1, #[.int .i64 q0, .int .i64 q1, .int .i64 q2, .int .i64 q3, .int .i64 q4]), (w.heap.size, #[.int .i64 c, .int .i64 d])] wr | _ => Bx w [(BC, #[.int .i64 q1, .int .i64 q2, .int .i64 q3]), (BL, #[.int .i64 x0, .int .i64 x1, .int .i64 x2, .int .i64 x3, .int .i64 x4, .int .i64 y0, .int .i64 y1, .int .i64 y2, .int .i64 y3, .int .i64 y4, .int .i64 m0, .int .i64 m1, .int .i64 m2, .int .i64 m3, .int .i64 m4]), (BO, #[.int .i64 sc0, .int .i64 sc1, .int .i64 sc2, .int .i64 sc3, .int .i64 sc4]), (B1, #[.int .i64 m0, .int .i64 m1, .int .i64 m2, .int .i64 m3, .int .i64 m4]), (w.heap.size + 4, #[.int .i64 0, .int .i64 0, .int .i64 0, .int .i64 0, .int .i64 0]), (w.heap.size + 3, #[.int .i64 y0, .int .i64 y1, .int .i64 y2, .int .i64 y3, .int .i64 y4]), (w.heap.size + 2, #[.int .i64 x0, .int .i64 x1, .int .i64 x2, .int .i64 x3, .int .i64 x4]), (w.heap.size + 1, #[.int .i64 q0, .int .i64 q1, .int .i64 q2, .int .i64 q3, .int .i64 q4]), (w.heap.size, #[.int .i64 c, .int .i64 d])] wr, fun _ => rfl, fun _ => rfl, fun _ => rfl, fun _ => rfl⟩
  have T0 := Lib.hid h0; have T1 := Lib.hid h1; have T2 := Lib.hid h2; have T3 := Lib.hid h3; clear h0 h1 h2 h3
  go_loopw [14, 17] (fun s14 s17 wr => ∃ k : Nat, s14 = .bool true ∧ s17 = .int .i64 k ∧ k ≤ 3 ∧ St k wr) (fun _ s17 _ => 3 - (intOf s17).toNat)
  case atStart => exact ⟨0, rfl, rfl, by omega, by rw [T0.out]; exact HV4.out⟩
  case round =>
    obtain ⟨k, rfl, rfl, hk, hst⟩ := hrel
    clear HV4
    by_cases k0 : k = 0
    · subst k0
      rw [T0.out] at hst
      have HB := Lib.hid hst; clear hst hk
      go_upto_region 9 with fail
      refine wp_region_inv (wr.heap.size) [(0, 61, .int .i64 0), (1, 62, .pointer (some ⟨BL, 0, none⟩)), (2, 63, .agg #[.int .i64 x0, .int .i64 x1, .int .i64 x2, .int .i64 x3, .int .i64 x4]), (3, 64, .int .i64 0), (4, 65, .pointer (some ⟨BC, 0, none⟩)), (5, 66, .int .i64 q1), (6, 67, .pointer (some ⟨w.heap.size + 1, 4, none⟩)), (7, 68, .int .i64 q4), (8, 69, .agg #[.int .i64 q1, .int .i64 q4]), (9, 70, .tuple #[.agg #[.int .i64 pa0, .int .i64 pa1, .int .i64 pa2, .int .i64 pa3, .int .i64 pa4], .int .i64 0]), (10, 60, .tuple #[.agg #[.int .i64 pa0, .int .i64 pa1, .int .i64 pa2, .int .i64 pa3, .int .i64 pa4], .int .i64 0]), (11, 71, .agg #[.int .i64 pa0, .int .i64 pa1, .int .i64 pa2, .int .i64 pa3, .int .i64 pa4]), (12, 72, .int .i64 0), (15, 19, .int .i64 0)] [⟨13, 18, 14, #[.int .i64 0, .int .i64 0, .int .i64 0, .int .i64 0, .int .i64 0], #[.int .i64 pa0, .int .i64 pa1, .int .i64 pa2, .int .i64 pa3, .int .i64 pa4]⟩] [⟨BC, 999, #[.int .i64 q1, .int .i64 q2, .int .i64 q3], #[.int .i64 q1, .int .i64 q2, .int .i64 q3]⟩, ⟨BL, 999, #[.int .i64 x0, .int .i64 x1, .int .i64 x2, .int .i64 x3, .int .i64 x4, .int .i64 y0, .int .i64 y1, .int .i64 y2, .int .i64 y3, .int .i64 y4, .int .i64 m0, .int .i64 m1, .int .i64 m2, .int .i64 m3, .int .i64 m4], #[.int .i64 x0, .int .i64 x1, .int .i64 x2, .int .i64 x3, .int .i64 x4, .int .i64 y0, .int .i64 y1, .int .i64 y2, .int .i64 y3, .int .i64 y4, .int .i64 m0, .int .i64 m1, .int .i64 m2, .int .i64 m3, .int .i64 m4]⟩, ⟨BO, 999, #[.int .i64 o0, .int .i64 o1, .int .i64 o2, .int .i64 o3, .int .i64 o4], #[.int .i64 o0, .int .i64 o1, .int .i64 o2, .int .i64 o3, .int .i64 o4]⟩, ⟨B1, 999, #[.int .i64 m0, .int .i64 m1, .int .i64 m2, .int .i64 m3, .int .i64 m4], #[.int .i64 m0, .int .i64 m1, .int .i64 m2, .int .i64 m3, .int .i64 m4]⟩, ⟨w.heap.size + 4, 999, #[.int .i64 0, .int .i64 0, .int .i64 0, .int .i64 0, .int .i64 0], #[.int .i64 0, .int .i64 0, .int .i64 0, .int .i64 0, .int .i64 0]⟩, ⟨w.heap.size + 3, 999, #[.int .i64 y0, .int .i64 y1, .int .i64 y2, .int .i64 y3, .int .i64 y4], #[.int .i64 y0, .int .i64 y1, .int .i64 y2, .int .i64 y3, .int .i64 y4]⟩, ⟨w.heap.size + 2, 999, #[.int .i64 x0, .int .i64 x1, .int .i64 x2, .int .i64 x3, .int .i64 x4], #[.int .i64 x0, .int .i64 x1, .int .i64 x2, .int .i64 x3, .int .i64 x4]⟩, ⟨w.heap.size + 1, 999, #[.int .i64 q0, .int .i64 q1, .int .i64 q2, .int .i64 q3, .int .i64 q4], #[.int .i64 q0, .int .i64 q1, .int .i64 q2, .int .i64 q3, .int .i64 q4]⟩, ⟨w.heap.size, 999, #[.int .i64 c, .int .i64 d], #[.int .i64 c, .int .i64 d]⟩] [61, 62, 63, 64, 65, 66, 67, 68, 69, 70, 60, 71, 72, 18, 19] ?_ (by kernel_rfl) (by kernel_rfl) (by kernel_rfl) ?_ (forall_ops ⟨?_, ?_, ?_, ?_, ?_, ?_, ?_, ?_, ?_, ?_, ?_, ?_, ?_, ?_, ?_, ?_, trivial⟩) ?_
      · exact Nat.le_refl _
      · intro c hc
        simp only [List.mem_cons, List.not_mem_nil, or_false] at hc
        rcases hc with rfl | rfl | rfl | rfl | rfl | rfl | rfl | rfl | rfl
        · exact ⟨(HB.out.own _ (List.mem_cons_self ..)).2, .inr rfl⟩
        · exact ⟨(HB.out.own _ (List.mem_cons_of_mem _ (List.mem_cons_self ..))).2, .inr rfl⟩
        · exact ⟨(HB.out.own _ (List.mem_cons_of_mem _ (List.mem_cons_of_mem _ (List.mem_cons_self ..)))).2, .inr rfl⟩
        · exact ⟨(HB.out.own _ (List.mem_cons_of_mem _ (List.mem_cons_of_mem _ (List.mem_cons_of_mem _ (List.mem_cons_self ..))))).2, .inr rfl⟩
        · exact ⟨(HB.out.own _ (List.mem_cons_of_mem _ (List.mem_cons_of_mem _ (List.mem_cons_of_mem _ (List.mem_cons_of_mem _ (List.mem_cons_self ..)))))).2, .inr rfl⟩
        · exact ⟨(HB.out.own _ (List.mem_cons_of_mem _ (List.mem_cons_of_mem _ (List.mem_cons_of_mem _ (List.mem_cons_of_mem _ (List.mem_cons_of_mem _ (List.mem_cons_self ..))))))).2, .inr rfl⟩
        · exact ⟨(HB.out.own _ (List.mem_cons_of_mem _ (List.mem_cons_of_mem _ (List.mem_cons_of_mem _ (List.mem_cons_of_mem _ (List.mem_cons_of_mem _ (List.mem_cons_of_mem _ (List.mem_cons_self ..)))))))).2, .inr rfl⟩
        · exact ⟨(HB.out.own _ (List.mem_cons_of_mem _ (List.mem_cons_of_mem _ (List.mem_cons_of_mem _ (List.mem_cons_of_mem _ (List.mem_cons_of_mem _ (List.mem_cons_of_mem _ (List.mem_cons_of_mem _ (List.mem_cons_self ..))))))))).2, .inr rfl⟩
        · exact ⟨(HB.out.own _ (List.mem_cons_of_mem _ (List.mem_cons_of_mem _ (List.mem_cons_of_mem _ (List.mem_cons_of_mem _ (List.mem_cons_of_mem _ (List.mem_cons_of_mem _ (List.mem_cons_of_mem _ (List.mem_cons_of_mem _ (List.mem_cons_self ..)))))))))).2, .inr rfl⟩
      · refine .inl ⟨.inl rfl, .inl ⟨.int .i64 0, val_only (d := 61) (by kernel_rfl), by simp, by simp, fun y W hB hO hV K Q' hK => ?_⟩⟩
        simp only [fr, putAll, List.foldl_cons, List.foldl_nil, List.setIfInBounds_toArray, List.set_cons_zero, List.set_cons_succ] at hK ⊢
        go_simp
        exact hK W (Below.refl _ _)
      · refine .inl ⟨.inl rfl, .inl ⟨.pointer (some ⟨BL, 0, none⟩), val_only (d := 62) (by kernel_rfl), by simp, by simp, fun y W hB hO hV K Q' hK => ?_⟩⟩
        have y61 : y 61 = .int .i64 0 := hV (0, 61, .int .i64 0) (val_get (by kernel_rfl)) (by kernel_rfl)
        simp only [fr, putAll, List.foldl_cons, List.foldl_nil, List.setIfInBounds_toArray, List.set_cons_zero, List.set_cons_succ] at hK ⊢
        simp only [y61] at hK ⊢
        go_simp
        exact hK W (Below.refl _ _)
      · refine .inl ⟨.inl rfl, .inl ⟨.agg #[.int .i64 x0, .int .i64 x1, .int .i64 x2, .int .i64 x3, .int .i64 x4], val_only (d := 63) (by kernel_rfl), by simp, by simp, fun y W hB hO hV K Q' hK => ?_⟩⟩
        have y62 : y 62 = .pointer (some ⟨BL, 0, none⟩) := hV (1, 62, .pointer (some ⟨BL, 0, none⟩)) (val_get (by kernel_rfl)) (by kernel_rfl)
        have hc : Cells W (BL) #[.int .i64 x0, .int .i64 x1, .int .i64 x2, .int .i64 x3, .int .i64 x4, .int .i64 y0, .int .i64 y1, .int .i64 y2, .int .i64 y3, .int .i64 y4, .int .i64 m0, .int .i64 m1, .int .i64 m2, .int .i64 m3, .int .i64 m4] := hO _ (List.mem_cons_of_mem _ (List.mem_cons_self ..)) rfl
        have k0 := hc.2.1 0 (by simp)
        have k1 := hc.2.1 1 (by simp)
        have k2 := hc.2.1 2 (by simp)
        have k3 := hc.2.1 3 (by simp)
        have k4 := hc.2.1 4 (by simp)
        simp only [List.getElem?_toArray, List.getElem?_cons_zero, List.getElem?_cons_succ] at k0 k1 k2 k3 k4
        simp only [fr, putAll, List.foldl_cons, List.foldl_nil, List.setIfInBounds_toArray, List.set_cons_zero, List.set_cons_succ] at hK ⊢
        simp only [y62] at hK ⊢
        go_simp
        exact hK W (Below.refl _ _)
      · refine .inl ⟨.inl rfl, .inl ⟨.int .i64 0, val_only (d := 64) (by kernel_rfl), by simp, by simp, fun y W hB hO hV K Q' hK => ?_⟩⟩
        simp only [fr, putAll, List.foldl_cons, List.foldl_nil, List.setIfInBounds_toArray, List.set_cons_zero, List.set_cons_succ] at hK ⊢
        go_simp
        exact hK W (Below.refl _ _)
      · refine .inl ⟨.inl rfl, .inl ⟨.pointer (some ⟨BC, 0, none⟩), val_only (d := 65) (by kernel_rfl), by simp, by simp, fun y W hB hO hV K Q' hK => ?_⟩⟩
        have y64 : y 64 = .int .i64 0 := hV (3, 64, .int .i64 0) (val_get (by kernel_rfl)) (by kernel_rfl)
        simp only [fr, putAll, List.foldl_cons, List.foldl_nil, List.setIfInBounds_toArray, List.set_cons_zero, List.set_cons_succ] at hK ⊢
        simp only [y64] at hK ⊢
        go_simp
        exact hK W (Below.refl _ _)
      · refine .inl ⟨.inl rfl, .inl ⟨.int .i64 q1, val_only (d := 66) (by kernel_rfl), by simp, by simp, fun y W hB hO hV K Q' hK => ?_⟩⟩
        have y65 : y 65 = .pointer (some ⟨BC, 0, none⟩) := hV (4, 65, .pointer (some ⟨BC, 0, none⟩)) (val_get (by kernel_rfl)) (by kernel_rfl)
        have hc : Cells W (BC) #[.int .i64 q1, .int .i64 q2, .int .i64 q3] := hO _ (List.mem_cons_self ..) rfl
        have k0 := hc.2.1 0 (by simp)
        simp only [List.getElem?_toArray, List.getElem?_cons_zero] at k0
        simp only [fr, putAll, List.foldl_cons, List.foldl_nil, List.setIfInBounds_toArray, List.set_cons_zero, List.set_cons_succ] at hK ⊢
        simp only [y65] at hK ⊢
        go_simp
        exact hK W (Below.refl _ _)
      · refine .inl ⟨.inl rfl, .inl ⟨.pointer (some ⟨w.heap.size + 1, 4, none⟩), val_only (d := 67) (by kernel_rfl), by simp, by simp, fun y W hB hO hV K Q' hK => ?_⟩⟩
        simp only [fr, putAll, List.foldl_cons, List.foldl_nil, List.setIfInBounds_toArray, List.set_cons_zero, List.set_cons_succ] at hK ⊢
        go_simp
        exact hK W (Below.refl _ _)
      · refine .inl ⟨.inl rfl, .inl ⟨.int .i64 q4, val_only (d := 68) (by kernel_rfl), by simp, by simp, fun y W hB hO hV K Q' hK => ?_⟩⟩
        have y67 : y 67 = .pointer (some ⟨w.heap.size + 1, 4, none⟩) := hV (6, 67, .pointer (some ⟨w.heap.size + 1, 4, none⟩)) (val_get (by kernel_rfl)) (by kernel_rfl)
        have hc : Cells W (w.heap.size + 1) #[.int .i64 q0, .int .i64 q1, .int .i64 q2, .int .i64 q3, .int .i64 q4] := hO _ (List.mem_cons_of_mem _ (List.mem_cons_of_mem _ (List.mem_cons_of_mem _ (List.mem_cons_of_mem _ (List.mem_cons_of_mem _ (List.mem_cons_of_mem _ (List.mem_cons_of_mem _ (List.mem_cons_self ..)))))))) rfl
        have kk := hc.five
        have k0 := kk.1
        have k1 := kk.2.1
        have k2 := kk.2.2.1
        have k3 := kk.2.2.2.1
        have k4 := kk.2.2.2.2
        clear kk
        simp only [fr, putAll, List.foldl_cons, List.foldl_nil, List.setIfInBounds_toArray, List.set_cons_zero, List.set_cons_succ] at hK ⊢
        simp only [y67] at hK ⊢
        go_simp
        exact hK W (Below.refl _ _)
      · refine .inl ⟨.inl rfl, .inl ⟨.agg #[.int .i64 q1, .int .i64 q4], val_only (d := 69) (by kernel_rfl), by simp, by simp, fun y W hB hO hV K Q' hK => ?_⟩⟩
        have y66 : y 66 = .int .i64 q1 := hV (5, 66, .int .i64 q1) (val_get (by kernel_rfl)) (by kernel_rfl)
        have y68 : y 68 = .int .i64 q4 := hV (7, 68, .int .i64 q4) (val_get (by kernel_rfl)) (by kernel_rfl)
        simp only [fr, putAll, List.foldl_cons, List.foldl_nil, List.setIfInBounds_toArray, List.set_cons_zero, List.set_cons_succ] at hK ⊢
        simp only [y66, y68] at hK ⊢
        go_simp
        exact hK W (Below.refl _ _)
      · refine .inl ⟨.inl rfl, .inl ⟨.tuple #[.agg #[.int .i64 pa0, .int .i64 pa1, .int .i64 pa2, .int .i64 pa3, .int .i64 pa4], .int .i64 0], val_only (d := 70) (by kernel_rfl), by simp, by simp, fun y W hB hO hV K Q' hK => ?_⟩⟩
        have y63 : y 63 = .agg #[.int .i64 x0, .int .i64 x1, .int .i64 x2, .int .i64 x3, .int .i64 x4] := hV (2, 63, .agg #[.int .i64 x0, .int .i64 x1, .int .i64 x2, .int .i64 x3, .int .i64 x4]) (val_get (by kernel_rfl)) (by kernel_rfl)
        have y69 : y 69 = .agg #[.int .i64 q1, .int .i64 q4] := hV (8, 69, .agg #[.int .i64 q1, .int .i64 q4]) (val_get (by kernel_rfl)) (by kernel_rfl)
        simp only [fr, putAll, List.foldl_cons, List.foldl_nil, List.setIfInBounds_toArray, List.set_cons_zero, List.set_cons_succ] at hK ⊢
        simp only [y63, y69] at hK ⊢
        go_simp
        refine (HS1.out _).mono ?_
        intro e w' h
        rw [h.1]
        exact hK w' h.2
      · refine .inl ⟨.inl rfl, .inl ⟨.tuple #[.agg #[.int .i64 pa0, .int .i64 pa1, .int .i64 pa2, .int .i64 pa3, .int .i64 pa4], .int .i64 0], val_only (d := 60) (by kernel_rfl), by simp, by simp, fun y W hB hO hV K Q' hK => ?_⟩⟩
        have y70 : y 70 = .tuple #[.agg #[.int .i64 pa0, .int .i64 pa1, .int .i64 pa2, .int .i64 pa3, .int .i64 pa4], .int .i64 0] := hV (9, 70, .tuple #[.agg #[.int .i64 pa0, .int .i64 pa1, .int .i64 pa2, .int .i64 pa3, .int .i64 pa4], .int .i64 0]) (val_get (by kernel_rfl)) (by kernel_rfl)
        simp only [fr, putAll, List.foldl_cons, List.foldl_nil, List.setIfInBounds_toArray, List.set_cons_zero, List.set_cons_succ] at hK ⊢
        simp only [y70] at hK ⊢
        go_simp
        exact hK W (Below.refl _ _)
      · refine .inl ⟨.inl rfl, .inl ⟨.agg #[.int .i64 pa0, .int .i64 pa1, .int .i64 pa2, .int .i64 pa3, .int .i64 pa4], val_only (d := 71) (by kernel_rfl), by simp, by simp, fun y W hB hO hV K Q' hK => ?_⟩⟩
        have y60 : y 60 = .tuple #[.agg #[.int .i64 pa0, .int .i64 pa1, .int .i64 pa2, .int .i64 pa3, .int .i64 pa4], .int .i64 0] := hV (10, 60, .tuple #[.agg #[.int .i64 pa0, .int .i64 pa1, .int .i64 pa2, .int .i64 pa3, .int .i64 pa4], .int .i64 0]) (val_get (by kernel_rfl)) (by kernel_rfl)
        simp only [fr, putAll, List.foldl_cons, List.foldl_nil, List.setIfInBounds_toArray, List.set_cons_zero, List.set_cons_succ] at hK ⊢
        simp only [y60] at hK ⊢
        go_simp
        exact hK W (Below.refl _ _)
      · refine .inl ⟨.inl rfl, .inl ⟨.int .i64 0, val_only (d := 72) (by kernel_rfl), by simp, by simp, fun y W hB hO hV K Q' hK => ?_⟩⟩
        have y60 : y 60 = .tuple #[.agg #[.int .i64 pa0, .int .i64 pa1, .int .i64 pa2, .int .i64 pa3, .int .i64 pa4], .int .i64 0] := hV (10, 60, .tuple #[.agg #[.int .i64 pa0, .int .i64 pa1, .int .i64 pa2, .int .i64 pa3, .int .i64 pa4], .int .i64 0]) (val_get (by kernel_rfl)) (by kernel_rfl)
        simp only [fr, putAll, List.foldl_cons, List.foldl_nil, List.setIfInBounds_toArray, List.set_cons_zero, List.set_cons_succ] at hK ⊢
        simp only [y60] at hK ⊢
        go_simp
        exact hK W (Below.refl _ _)
      · refine .inl ⟨.inl rfl, .inr (.inl ⟨val_none (by kernel_rfl), by simp, _, (List.mem_cons_self ..), rfl, by simp, by simp, 25, fun y W K Q' hK => ?_⟩)⟩
        simp only [fr, putAll, List.foldl_cons, List.foldl_nil, List.setIfInBounds_toArray, List.set_cons_zero, List.set_cons_succ] at hK ⊢
        go_simp
        exact hK
      · refine .inl ⟨.inl rfl, .inr (.inr (.inl ⟨val_none (by kernel_rfl), by simp, _, (List.mem_cons_self ..), rfl, by simp, by simp, by kernel_rfl, fun y W g hB hV hg hgw hc K Q' hK => ?_⟩))⟩
        have y71 : y 71 = .agg #[.int .i64 pa0, .int .i64 pa1, .int .i64 pa2, .int .i64 pa3, .int .i64 pa4] := hV (11, 71, .agg #[.int .i64 pa0, .int .i64 pa1, .int .i64 pa2, .int .i64 pa3, .int .i64 pa4]) (val_get (by kernel_rfl)) (by kernel_rfl)
        have kk := hc.five
        have k0 := kk.1
        have k1 := kk.2.1
        have k2 := kk.2.2.1
        have k3 := kk.2.2.2.1
        have k4 := kk.2.2.2.2
        clear kk
        have kk := hc.fr
        have f0 := kk.1
        have f1 := kk.2.1
        have f2 := kk.2.2.1
        have f3 := kk.2.2.2.1
        have f4 := kk.2.2.2.2
        clear kk
        dsimp only at hg
        simp only [fr, putAll, List.foldl_cons, List.foldl_nil, List.setIfInBounds_toArray, List.set_cons_zero, List.set_cons_succ] at hK ⊢
        simp only [hg, y71] at hK ⊢
        go_simp
        exact hK _ (hc.put5 (.int .i64 pa0) (.int .i64 pa1) (.int .i64 pa2) (.int .i64 pa3) (.int .i64 pa4)) (Only.put5 ..)
      · refine .inl ⟨.inl rfl, .inl ⟨.int .i64 0, val_only (d := 19) (by kernel_rfl), by simp, by simp, fun y W hB hO hV K Q' hK => ?_⟩⟩
        have y72 : y 72 = .int .i64 0 := hV (12, 72, .int .i64 0) (val_get (by kernel_rfl)) (by kernel_rfl)
        simp only [fr, putAll, List.foldl_cons, List.foldl_nil, List.setIfInBounds_toArray, List.set_cons_zero, List.set_cons_succ] at hK ⊢
        simp only [y72] at hK ⊢
        go_simp
        exact hK W (Below.refl _ _)
      intro y WR hB hO hV hX hA
      have y61 : y 61 = .int .i64 0 := hV (0, 61, .int .i64 0) (val_get (by kernel_rfl))
      have y62 : y 62 = .pointer (some ⟨BL, 0, none⟩) := hV (1, 62, .pointer (some ⟨BL, 0, none⟩)) (val_get (by kernel_rfl))
      have y63 : y 63 = .agg #[.int .i64 x0, .int .i64 x1, .int .i64 x2, .int .i64 x3, .int .i64 x4] := hV (2, 63, .agg #[.int .i64 x0, .int .i64 x1, .int .i64 x2, .int .i64 x3, .int .i64 x4]) (val_get (by kernel_rfl))
      have y64 : y 64 = .int .i64 0 := hV (3, 64, .int .i64 0) (val_get (by kernel_rfl))
      have y65 : y 65 = .pointer (some ⟨BC, 0, none⟩) := hV (4, 65, .pointer (some ⟨BC, 0, none⟩)) (val_get (by kernel_rfl))
      have y66 : y 66 = .int .i64 q1 := hV (5, 66, .int .i64 q1) (val_get (by kernel_rfl))
      have y67 : y 67 = .pointer (some ⟨w.heap.size + 1, 4, none⟩) := hV (6, 67, .pointer (some ⟨w.heap.size + 1, 4, none⟩)) (val_get (by kernel_rfl))
      have y68 : y 68 = .int .i64 q4 := hV (7, 68, .int .i64 q4) (val_get (by kernel_rfl))
      have y69 : y 69 = .agg #[.int .i64 q1, .int .i64 q4] := hV (8, 69, .agg #[.int .i64 q1, .int .i64 q4]) (val_get (by kernel_rfl))
      have y70 : y 70 = .tuple #[.agg #[.int .i64 pa0, .int .i64 pa1, .int .i64 pa2, .int .i64 pa3, .int .i64 pa4], .int .i64 0] := hV (9, 70, .tuple #[.agg #[.int .i64 pa0, .int .i64 pa1, .int .i64 pa2, .int .i64 pa3, .int .i64 pa4], .int .i64 0]) (val_get (by kernel_rfl))
      have y60 : y 60 = .tuple #[.agg #[.int .i64 pa0, .int .i64 pa1, .int .i64 pa2, .int .i64 pa3, .int .i64 pa4], .int .i64 0] := hV (10, 60, .tuple #[.agg #[.int .i64 pa0, .int .i64 pa1, .int .i64 pa2, .int .i64 pa3, .int .i64 pa4], .int .i64 0]) (val_get (by kernel_rfl))
      have y71 : y 71 = .agg #[.int .i64 pa0, .int .i64 pa1, .int .i64 pa2, .int .i64 pa3, .int .i64 pa4] := hV (11, 71, .agg #[.int .i64 pa0, .int .i64 pa1, .int .i64 pa2, .int .i64 pa3, .int .i64 pa4]) (val_get (by kernel_rfl))
      have y72 : y 72 = .int .i64 0 := hV (12, 72, .int .i64 0) (val_get (by kernel_rfl))
      have y19 : y 19 = .int .i64 0 := hV (15, 19, .int .i64 0) (val_get (by kernel_rfl))
      obtain ⟨BP, z0, BPl, BPc⟩ := hX _ (List.mem_cons_self ..)
      dsimp only at z0 BPc
      have ho0 := hO _ (List.mem_cons_self ..)
      have ho1 := hO _ (List.mem_cons_of_mem _ (List.mem_cons_self ..))
      have ho2 := hO _ (List.mem_cons_of_mem _ (List.mem_cons_of_mem _ (List.mem_cons_self ..)))
      have ho3 := hO _ (List.mem_cons_of_mem _ (List.mem_cons_of_mem _ (List.mem_cons_of_mem _ (List.mem_cons_self ..))))
      have ho4 := hO _ (List.mem_cons_of_mem _ (List.mem_cons_of_mem _ (List.mem_cons_of_mem _ (List.mem_cons_of_mem _ (List.mem_cons_self ..)))))
      have ho5 := hO _ (List.mem_cons_of_mem _ (List.mem_cons_of_mem _ (List.mem_cons_of_mem _ (List.mem_cons_of_mem _ (List.mem_cons_of_mem _ (List.mem_cons_self ..))))))
      have ho6 := hO _ (List.mem_cons_of_mem _ (List.mem_cons_of_mem _ (List.mem_cons_of_mem _ (List.mem_cons_of_mem _ (List.mem_cons_of_mem _ (List.mem_cons_of_mem _ (List.mem_cons_self ..)))))))
      have ho7 := hO _ (List.mem_cons_of_mem _ (List.mem_cons_of_mem _ (List.mem_cons_of_mem _ (List.mem_cons_of_mem _ (List.mem_cons_of_mem _ (List.mem_cons_of_mem _ (List.mem_cons_of_mem _ (List.mem_cons_self ..))))))))
      have ho8 := hO _ (List.mem_cons_of_mem _ (List.mem_cons_of_mem _ (List.mem_cons_of_mem _ (List.mem_cons_of_mem _ (List.mem_cons_of_mem _ (List.mem_cons_of_mem _ (List.mem_cons_of_mem _ (List.mem_cons_of_mem _ (List.mem_cons_self ..)))))))))
      dsimp only at ho0 ho1 ho2 ho3 ho4 ho5 ho6 ho7 ho8
      have HBR := Lib.hid (show Bx w [(BP, #[.int .i64 pa0, .int .i64 pa1, .int .i64 pa2, .int .i64 pa3, .int .i64 pa4]), (BC, #[.int .i64 q1, .int .i64 q2, .int .i64 q3]), (BL, #[.int .i64 x0, .int .i64 x1, .int .i64 x2, .int .i64 x3, .int .i64 x4, .int .i64 y0, .int .i64 y1, .int .i64 y2, .int .i64 y3, .int .i64 y4, .int .i64 m0, .int .i64 m1, .int .i64 m2, .int .i64 m3, .int .i64 m4]), (BO, #[.int .i64 o0, .int .i64 o1, .int .i64 o2, .int .i64 o3, .int .i64 o4]), (B1, #[.int .i64 m0, .int .i64 m1, .int .i64 m2, .int .i64 m3, .int .i64 m4]), (w.heap.size + 4, #[.int .i64 0, .int .i64 0, .int .i64 0, .int .i64 0, .int .i64 0]), (w.heap.size + 3, #[.int .i64 y0, .int .i64 y1, .int .i64 y2, .int .i64 y3, .int .i64 y4]), (w.heap.size + 2, #[.int .i64 x0, .int .i64 x1, .int .i64 x2, .int .i64 x3, .int .i64 x4]), (w.heap.size + 1, #[.int .i64 q0, .int .i64 q1, .int .i64 q2, .int .i64 q3, .int .i64 q4]), (w.heap.size, #[.int .i64 c, .int .i64 d])] WR from (((((((((((Bx.nil (HB.out.below.trans (hB.mono HB.out.below.size))).cons (HB.out.own _ (List.mem_cons_of_mem _ (List.mem_cons_of_mem _ (List.mem_cons_of_mem _ (List.mem_cons_of_mem _ (List.mem_cons_of_mem _ (List.mem_cons_of_mem _ (List.mem_cons_of_mem _ (List.mem_cons_of_mem _ (List.mem_cons_self ..)))))))))).1 ho8).cons (HB.out.own _ (List.mem_cons_of_mem _ (List.mem_cons_of_mem _ (List.mem_cons_of_mem _ (List.mem_cons_of_mem _ (List.mem_cons_of_mem _ (List.mem_cons_of_mem _ (List.mem_cons_of_mem _ (List.mem_cons_self ..))))))))).1 ho7).cons (HB.out.own _ (List.mem_cons_of_mem _ (List.mem_cons_of_mem _ (List.mem_cons_of_mem _ (List.mem_cons_of_mem _ (List.mem_cons_of_mem _ (List.mem_cons_of_mem _ (List.mem_cons_self ..)))))))).1 ho6).cons (HB.out.own _ (List.mem_cons_of_mem _ (List.mem_cons_of_mem _ (List.mem_cons_of_mem _ (List.mem_cons_of_mem _ (List.mem_cons_of_mem _ (List.mem_cons_self ..))))))).1 ho5).cons (HB.out.own _ (List.mem_cons_of_mem _ (List.mem_cons_of_mem _ (List.mem_cons_of_mem _ (List.mem_cons_of_mem _ (List.mem_cons_self ..)))))).1 ho4).cons (HB.out.own _ (List.mem_cons_of_mem _ (List.mem_cons_of_mem _ (List.mem_cons_of_mem _ (List.mem_cons_self ..))))).1 ho3).cons (HB.out.own _ (List.mem_cons_of_mem _ (List.mem_cons_of_mem _ (List.mem_cons_self ..)))).1 ho2).cons (HB.out.own _ (List.mem_cons_of_mem _ (List.mem_cons_self ..))).1 ho1).cons (HB.out.own _ (List.mem_cons_self ..)).1 ho0).cons (Nat.le_trans HB.out.below.size BPl) BPc))
      simp only [fr, putAll, List.foldl_cons, List.foldl_nil, List.setIfInBounds_toArray, List.set_cons_zero, List.set_cons_succ]
      simp only [y61, y62, y63, y64, y65, y66, y67, y68, y69, y70, y60, y71, y72, y19, z0]
      clear y61 y62 y63 y64 y65 y66 y67 y68 y69 y70 y60 y71 y72 y19 z0 BPl BPc hB hO hV hX hA ho0 ho1 ho2 ho3 ho4 ho5 ho6 ho7 ho8
      clear HB
      obtain ⟨c0_0, c0_1, c0_2, c0_3, c0_4⟩ := HBR.out.five (List.mem_cons_self ..)
      obtain ⟨c3_0, c3_1, c3_2, c3_3, c3_4⟩ := HBR.out.five (List.mem_cons_of_mem _ (List.mem_cons_of_mem _ (List.mem_cons_of_mem _ (List.mem_cons_self ..))))
      go_wp2_with fail
      refine (HA1.out _).mono ?_
      rintro e3 w3 ⟨rfl, hbb⟩
      have HB3 := Lib.hid (HBR.out.keep hbb)
      clear c0_0 c0_1 c0_2 c0_3 c0_4 c3_0 c3_1 c3_2 c3_3 c3_4
      clear hbb HBR
      go_upto_region 12 with fail
      obtain ⟨V5, hV5⟩ : ∃ V5 : World, V5 = w3.alloc (.cells #[.int .i64 sa0, .int .i64 sa1, .int .i64 sa2, .int .i64 sa3, .int .i64 sa4] 25) := ⟨_, rfl⟩
      rw [← hV5]
      have HV5 := Lib.hid (show Bx w [(w3.heap.size, #[.int .i64 sa0, .int .i64 sa1, .int .i64 sa2, .int .i64 sa3, .int .i64 sa4]), (BP, #[.int .i64 pa0, .int .i64 pa1, .int .i64 pa2, .int .i64 pa3, .int .i64 pa4]), (BC, #[.int .i64 q1, .int .i64 q2, .int .i64 q3]), (BL, #[.int .i64 x0, .int .i64 x1, .int .i64 x2, .int .i64 x3, .int .i64 x4, .int .i64 y0, .int .i64 y1, .int .i64 y2, .int .i64 y3, .int .i64 y4, .int .i64 m0, .int .i64 m1, .int .i64 m2, .int .i64 m3, .int .i64 m4]), (BO, #[.int .i64 o0, .int .i64 o1, .int .i64 o2, .int .i64 o3, .int .i64 o4]), (B1, #[.int .i64 m0, .int .i64 m1, .int .i64 m2, .int .i64 m3, .int .i64 m4]), (w.heap.size + 4, #[.int .i64 0, .int .i64 0, .int .i64 0, .int .i64 0, .int .i64 0]), (w.heap.size + 3, #[.int .i64 y0, .int .i64 y1, .int .i64 y2, .int .i64 y3, .int .i64 y4]), (w.heap.size + 2, #[.int .i64 x0, .int .i64 x1, .int .i64 x2, .int .i64 x3, .int .i64 x4]), (w.heap.size + 1, #[.int .i64 q0, .int .i64 q1, .int .i64 q2, .int .i64 q3, .int .i64 q4]), (w.heap.size, #[.int .i64 c, .int .i64 d])] V5 from hV5 ▸ HB3.out.new _ _)
      have hlt5 := HB3.out.lt (List.mem_cons_self ..)
      clear hV5 HB3
      generalize w3.heap.size = BS at *
      obtain ⟨c0_0, c0_1, c0_2, c0_3, c0_4⟩ := HV5.out.five (List.mem_cons_self ..)
      obtain ⟨c4_0, c4_1, c4_2, c4_3, c4_4⟩ := HV5.out.five (List.mem_cons_of_mem _ (List.mem_cons_of_mem _ (List.mem_cons_of_mem _ (List.mem_cons_of_mem _ (List.mem_cons_self ..)))))
      obtain ⟨f0, f1, f2, f3, f4⟩ := HV5.out.fr (List.mem_cons_of_mem _ (List.mem_cons_of_mem _ (List.mem_cons_of_mem _ (List.mem_cons_of_mem _ (List.mem_cons_self ..)))))
      have hlt := HV5.out.lt (List.mem_cons_of_mem _ (List.mem_cons_of_mem _ (List.mem_cons_of_mem _ (List.mem_cons_of_mem _ (List.mem_cons_self ..)))))
      obtain ⟨W9, e9, B9, -⟩ := HV5.out.put5 (List.mem_cons_of_mem _ (List.mem_cons_of_mem _ (List.mem_cons_of_mem _ (List.mem_cons_of_mem _ (List.mem_cons_self ..))))) (.int .i64 sa0) (.int .i64 sa1) (.int .i64 sa2) (.int .i64 sa3) (.int .i64 sa4) (L' := [(BC, #[.int .i64 q1, .int .i64 q2, .int .i64 q3]), (BL, #[.int .i64 x0, .int .i64 x1, .int .i64 x2, .int .i64 x3, .int .i64 x4, .int .i64 y0, .int .i64 y1, .int .i64 y2, .int .i64 y3, .int .i64 y4, .int .i64 m0, .int .i64 m1, .int .i64 m2, .int .i64 m3, .int .i64 m4]), (BO, #[.int .i64 sa0, .int .i64 sa1, .int .i64 sa2, .int .i64 sa3, .int .i64 sa4]), (B1, #[.int .i64 m0, .int .i64 m1, .int .i64 m2, .int .i64 m3, .int .i64 m4]), (w.heap.size + 4, #[.int .i64 0, .int .i64 0, .int .i64 0, .int .i64 0, .int .i64 0]), (w.heap.size + 3, #[.int .i64 y0, .int .i64 y1, .int .i64 y2, .int .i64 y3, .int .i64 y4]), (w.heap.size + 2, #[.int .i64 x0, .int .i64 x1, .int .i64 x2, .int .i64 x3, .int .i64 x4]), (w.heap.size + 1, #[.int .i64 q0, .int .i64 q1, .int .i64 q2, .int .i64 q3, .int .i64 q4]), (w.heap.size, #[.int .i64 c, .int .i64 d])]) (by
        intro x hx
        simp only [List.mem_cons, List.not_mem_nil, or_false] at hx ⊢
        rcases hx with rfl | rfl | rfl | rfl | rfl | rfl | rfl | rfl | rfl
        · exact .inl ⟨.inr (.inr (.inl rfl)), by dsimp only; first | omega | assumption | exact Ne.symm (by assumption)⟩
        · exact .inl ⟨.inr (.inr (.inr (.inl rfl))), by dsimp only; first | omega | assumption | exact Ne.symm (by assumption)⟩
        · exact .inr rfl
        · exact .inl ⟨.inr (.inr (.inr (.inr (.inr (.inl rfl))))), by dsimp only; first | omega | assumption | exact Ne.symm (by assumption)⟩
        · exact .inl ⟨.inr (.inr (.inr (.inr (.inr (.inr (.inl rfl)))))), by dsimp only; first | omega | assumption | exact Ne.symm (by assumption)⟩
        · exact .inl ⟨.inr (.inr (.inr (.inr (.inr (.inr (.inr (.inl rfl))))))), by dsimp only; first | omega | assumption | exact Ne.symm (by assumption)⟩
        · exact .inl ⟨.inr (.inr (.inr (.inr (.inr (.inr (.inr (.inr (.inl rfl)))))))), by dsimp only; first | omega | assumption | exact Ne.symm (by assumption)⟩
        · exact .inl ⟨.inr (.inr (.inr (.inr (.inr (.inr (.inr (.inr (.inr (.inl rfl))))))))), by dsimp only; first | omega | assumption | exact Ne.symm (by assumption)⟩
        · exact .inl ⟨.inr (.inr (.inr (.inr (.inr (.inr (.inr (.inr (.inr (.inr rfl))))))))), by dsimp only; first | omega | assumption | exact Ne.symm (by assumption)⟩
        )
      have HB9 := Lib.hid B9; clear B9 HV5
      go_wp2_with fail
      exact ⟨⟨1, by first | rfl | go_num, by first | rfl | go_num, by omega, by rw [T1.out]; first | exact HB9.out | (rw [e9]; exact HB9.out)⟩, by simp [intOf]⟩
    by_cases k1 : k = 1
    · subst k1
      rw [T1.out] at hst
      have HB := Lib.hid hst; clear hst hk
      go_upto_region 9 with fail
      refine wp_region_inv (wr.heap.size) [(0, 61, .int .i64 1), (1, 62, .pointer (some ⟨BL, 5, none⟩)), (2, 63, .agg #[.int .i64 y0, .int .i64 y1, .int .i64 y2, .int .i64 y3, .int .i64 y4]), (3, 64, .int .i64 1), (4, 65, .pointer (some ⟨BC, 1, none⟩)), (5, 66, .int .i64 q2), (6, 67, .pointer (some ⟨w.heap.size + 1, 4, none⟩)), (7, 68, .int .i64 q4), (8, 69, .agg #[.int .i64 q2, .int .i64 q4]), (9, 70, .tuple #[.agg #[.int .i64 pb0, .int .i64 pb1, .int .i64 pb2, .int .i64 pb3, .int .i64 pb4], .int .i64 0]), (10, 60, .tuple #[.agg #[.int .i64 pb0, .int .i64 pb1, .int .i64 pb2, .int .i64 pb3, .int .i64 pb4], .int .i64 0]), (11, 71, .agg #[.int .i64 pb0, .int .i64 pb1, .int .i64 pb2, .int .i64 pb3, .int .i64 pb4]), (12, 72, .int .i64 0), (15, 19, .int .i64 0)] [⟨13, 18, 14, #[.int .i64 0, .int .i64 0, .int .i64 0, .int .i64 0, .int .i64 0], #[.int .i64 pb0, .int .i64 pb1, .int .i64 pb2, .int .i64 pb3, .int .i64 pb4]⟩] [⟨BC, 999, #[.int .i64 q1, .int .i64 q2, .int .i64 q3], #[.int .i64 q1, .int .i64 q2, .int .i64 q3]⟩, ⟨BL, 999, #[.int .i64 x0, .int .i64 x1, .int .i64 x2, .int .i64 x3, .int .i64 x4, .int .i64 y0, .int .i64 y1, .int .i64 y2, .int .i64 y3, .int .i64 y4, .int .i64 m0, .int .i64 m1, .int .i64 m2, .int .i64 m3, .int .i64 m4], #[.int .i64 x0, .int .i64 x1, .int .i64 x2, .int .i64 x3, .int .i64 x4, .int .i64 y0, .int .i64 y1, .int .i64 y2, .int .i64 y3, .int .i64 y4, .int .i64 m0, .int .i64 m1, .int .i64 m2, .int .i64 m3, .int .i64 m4]⟩, ⟨BO, 999, #[.int .i64 sa0, .int .i64 sa1, .int .i64 sa2, .int .i64 sa3, .int .i64 sa4], #[.int .i64 sa0, .int .i64 sa1, .int .i64 sa2, .int .i64 sa3, .int .i64 sa4]⟩, ⟨B1, 999, #[.int .i64 m0, .int .i64 m1, .int .i64 m2, .int .i64 m3, .int .i64 m4], #[.int .i64 m0, .int .i64 m1, .int .i64 m2, .int .i64 m3, .int .i64 m4]⟩, ⟨w.heap.size + 4, 999, #[.int .i64 0, .int .i64 0, .int .i64 0, .int .i64 0, .int .i64 0], #[.int .i64 0, .int .i64 0, .int .i64 0, .int .i64 0, .int .i64 0]⟩, ⟨w.heap.size + 3, 999, #[.int .i64 y0, .int .i64 y1, .int .i64 y2, .int .i64 y3, .int .i64 y4], #[.int .i64 y0, .int .i64 y1, .int .i64 y2, .int .i64 y3, .int .i64 y4]⟩, ⟨w.heap.size + 2, 999, #[.int .i64 x0, .int .i64 x1, .int .i64 x2, .int .i64 x3, .int .i64 x4], #[.int .i64 x0, .int .i64 x1, .int .i64 x2, .int .i64 x3, .int .i64 x4]⟩, ⟨w.heap.size + 1, 999, #[.int .i64 q0, .int .i64 q1, .int .i64 q2, .int .i64 q3, .int .i64 q4], #[.int .i64 q0, .int .i64 q1, .int .i64 q2, .int .i64 q3, .int .i64 q4]⟩, ⟨w.heap.size, 999, #[.int .i64 c, .int .i64 d], #[.int .i64 c, .int .i64 d]⟩] [61, 62, 63, 64, 65, 66, 67, 68, 69, 70, 60, 71, 72, 18, 19] ?_ (by kernel_rfl) (by kernel_rfl) (by kernel_rfl) ?_ (forall_ops ⟨?_, ?_, ?_, ?_, ?_, ?_, ?_, ?_, ?_, ?_, ?_, ?_, ?_, ?_, ?_, ?_, trivial⟩) ?_
      · exact Nat.le_refl _
      · intro c hc
        simp only [List.mem_cons, List.not_mem_nil, or_false] at hc
        rcases hc with rfl | rfl | rfl | rfl | rfl | rfl | rfl | rfl | rfl
        · exact ⟨(HB.out.own _ (List.mem_cons_self ..)).2, .inr rfl⟩
        · exact ⟨(HB.out.own _ (List.mem_cons_of_mem _ (List.mem_cons_self ..))).2, .inr rfl⟩
        · exact ⟨(HB.out.own _ (List.mem_cons_of_mem _ (List.mem_cons_of_mem _ (List.mem_cons_self ..)))).2, .inr rfl⟩
        · exact ⟨(HB.out.own _ (List.mem_cons_of_mem _ (List.mem_cons_of_mem _ (List.mem_cons_of_mem _ (List.mem_cons_self ..))))).2, .inr rfl⟩
        · exact ⟨(HB.out.own _ (List.mem_cons_of_mem _ (List.mem_cons_of_mem _ (List.mem_cons_of_mem _ (List.mem_cons_of_mem _ (List.mem_cons_self ..)))))).2, .inr rfl⟩
        · exact ⟨(HB.out.own _ (List.mem_cons_of_mem _ (List.mem_cons_of_mem _ (List.mem_cons_of_mem _ (List.mem_cons_of_mem _ (List.mem_cons_of_mem _ (List.mem_cons_self ..))))))).2, .inr rfl⟩
        · exact ⟨(HB.out.own _ (List.mem_cons_of_mem _ (List.mem_cons_of_mem _ (List.mem_cons_of_mem _ (List.mem_cons_of_mem _ (List.mem_cons_of_mem _ (List.mem_cons_of_mem _ (List.mem_cons_self ..)))))))).2, .inr rfl⟩
        · exact ⟨(HB.out.own _ (List.mem_cons_of_mem _ (List.mem_cons_of_mem _ (List.mem_cons_of_mem _ (List.mem_cons_of_mem _ (List.mem_cons_of_mem _ (List.mem_cons_of_mem _ (List.mem_cons_of_mem _ (List.mem_cons_self ..))))))))).2, .inr rfl⟩
        · exact ⟨(HB.out.own _ (List.mem_cons_of_mem _ (List.mem_cons_of_mem _ (List.mem_cons_of_mem _ (List.mem_cons_of_mem _ (List.mem_cons_of_mem _ (List.mem_cons_of_mem _ (List.mem_cons_of_mem _ (List.mem_cons_of_mem _ (List.mem_cons_self ..)))))))))).2, .inr rfl⟩
      · refine .inl ⟨.inl rfl, .inl ⟨.int .i64 1, val_only (d := 61) (by kernel_rfl), by simp, by simp, fun y W hB hO hV K Q' hK => ?_⟩⟩
        simp only [fr, putAll, List.foldl_cons, List.foldl_nil, List.setIfInBounds_toArray, List.set_cons_zero, List.set_cons_succ] at hK ⊢
        go_simp
        exact hK W (Below.refl _ _)
      · refine .inl ⟨.inl rfl, .inl ⟨.pointer (some ⟨BL, 5, none⟩), val_only (d := 62) (by kernel_rfl), by simp, by simp, fun y W hB hO hV K Q' hK => ?_⟩⟩
        have y61 : y 61 = .int .i64 1 := hV (0, 61, .int .i64 1) (val_get (by kernel_rfl)) (by kernel_rfl)
        simp only [fr, putAll, List.foldl_cons, List.foldl_nil, List.setIfInBounds_toArray, List.set_cons_zero, List.set_cons_succ] at hK ⊢
        simp only [y61] at hK ⊢
        go_simp
        exact hK W (Below.refl _ _)
      · refine .inl ⟨.inl rfl, .inl ⟨.agg #[.int .i64 y0, .int .i64 y1, .int .i64 y2, .int .i64 y3, .int .i64 y4], val_only (d := 63) (by kernel_rfl), by simp, by simp, fun y W hB hO hV K Q' hK => ?_⟩⟩
        have y62 : y 62 = .pointer (some ⟨BL, 5, none⟩) := hV (1, 62, .pointer (some ⟨BL, 5, none⟩)) (val_get (by kernel_rfl)) (by kernel_rfl)
        have hc : Cells W (BL) #[.int .i64 x0, .int .i64 x1, .int .i64 x2, .int .i64 x3, .int .i64 x4, .int .i64 y0, .int .i64 y1, .int .i64 y2, .int .i64 y3, .int .i64 y4, .int .i64 m0, .int .i64 m1, .int .i64 m2, .int .i64 m3, .int .i64 m4] := hO _ (List.mem_cons_of_mem _ (List.mem_cons_self ..)) rfl
        have k5 := hc.2.1 5 (by simp)
        have k6 := hc.2.1 6 (by simp)
        have k7 := hc.2.1 7 (by simp)
        have k8 := hc.2.1 8 (by simp)
        have k9 := hc.2.1 9 (by simp)
        simp only [List.getElem?_toArray, List.getElem?_cons_zero, List.getElem?_cons_succ] at k5 k6 k7 k8 k9
        simp only [fr, putAll, List.foldl_cons, List.foldl_nil, List.setIfInBounds_toArray, List.set_cons_zero, List.set_cons_succ] at hK ⊢
        simp only [y62] at hK ⊢
        go_simp
        exact hK W (Below.refl _ _)
      · refine .inl ⟨.inl rfl, .inl ⟨.int .i64 1, val_only (d := 64) (by kernel_rfl), by simp, by simp, fun y W hB hO hV K Q' hK => ?_⟩⟩
        simp only [fr, putAll, List.foldl_cons, List.foldl_nil, List.setIfInBounds_toArray, List.set_cons_zero, List.set_cons_succ] at hK ⊢
        go_simp
        exact hK W (Below.refl _ _)
      · refine .inl ⟨.inl rfl, .inl ⟨.pointer (some ⟨BC, 1, none⟩), val_only (d := 65) (by kernel_rfl), by simp, by simp, fun y W hB hO hV K Q' hK => ?_⟩⟩
        have y64 : y 64 = .int .i64 1 := hV (3, 64, .int .i64 1) (val_get (by kernel_rfl)) (by kernel_rfl)
        simp only [fr, putAll, List.foldl_cons, List.foldl_nil, List.setIfInBounds_toArray, List.set_cons_zero, List.set_cons_succ] at hK ⊢
        simp only [y64] at hK ⊢
        go_simp
        exact hK W (Below.refl _ _)
      · refine .inl ⟨.inl rfl, .inl ⟨.int .i64 q2, val_only (d := 66) (by kernel_rfl), by simp, by simp, fun y W hB hO hV K Q' hK => ?_⟩⟩
        have y65 : y 65 = .pointer (some ⟨BC, 1, none⟩) := hV (4, 65, .pointer (some ⟨BC, 1, none⟩)) (val_get (by kernel_rfl)) (by kernel_rfl)
        have hc : Cells W (BC) #[.int .i64 q1, .int .i64 q2, .int .i64 q3] := hO _ (List.mem_cons_self ..) rfl
        have k1 := hc.2.1 1 (by simp)
        simp only [List.getElem?_toArray, List.getElem?_cons_zero, List.getElem?_cons_succ] at k1
        simp only [fr, putAll, List.foldl_cons, List.foldl_nil, List.setIfInBounds_toArray, List.set_cons_zero, List.set_cons_succ] at hK ⊢
        simp only [y65] at hK ⊢
        go_simp
        exact hK W (Below.refl _ _)
      · refine .inl ⟨.inl rfl, .inl ⟨.pointer (some ⟨w.heap.size + 1, 4, none⟩), val_only (d := 67) (by kernel_rfl), by simp, by simp, fun y W hB hO hV K Q' hK => ?_⟩⟩
        simp only [fr, putAll, List.foldl_cons, List.foldl_nil, List.setIfInBounds_toArray, List.set_cons_zero, List.set_cons_succ] at hK ⊢
        go_simp
        exact hK W (Below.refl _ _)
      · refine .inl ⟨.inl rfl, .inl ⟨.int .i64 q4, val_only (d := 68) (by kernel_rfl), by simp, by simp, fun y W hB hO hV K Q' hK => ?_⟩⟩
        have y67 : y 67 = .pointer (some ⟨w.heap.size + 1, 4, none⟩) := hV (6, 67, .pointer (some ⟨w.heap.size + 1, 4, none⟩)) (val_get (by kernel_rfl)) (by kernel_rfl)
        have hc : Cells W (w.heap.size + 1) #[.int .i64 q0, .int .i64 q1, .int .i64 q2, .int .i64 q3, .int .i64 q4] := hO _ (List.mem_cons_of_mem _ (List.mem_cons_of_mem _ (List.mem_cons_of_mem _ (List.mem_cons_of_mem _ (List.mem_cons_of_mem _ (List.mem_cons_of_mem _ (List.mem_cons_of_mem _ (List.mem_cons_self ..)))))))) rfl
        have kk := hc.five
        have k0 := kk.1
        have k1 := kk.2.1
        have k2 := kk.2.2.1
        have k3 := kk.2.2.2.1
        have k4 := kk.2.2.2.2
        clear kk
        simp only [fr, putAll, List.foldl_cons, List.foldl_nil, List.setIfInBounds_toArray, List.set_cons_zero, List.set_cons_succ] at hK ⊢
        simp only [y67] at hK ⊢
        go_simp
        exact hK W (Below.refl _ _)
      · refine .inl ⟨.inl rfl, .inl ⟨.agg #[.int .i64 q2, .int .i64 q4], val_only (d := 69) (by kernel_rfl), by simp, by simp, fun y W hB hO hV K Q' hK => ?_⟩⟩
        have y66 : y 66 = .int .i64 q2 := hV (5, 66, .int .i64 q2) (val_get (by kernel_rfl)) (by kernel_rfl)
        have y68 : y 68 = .int .i64 q4 := hV (7, 68, .int .i64 q4) (val_get (by kernel_rfl)) (by kernel_rfl)
        simp only [fr, putAll, List.foldl_cons, List.foldl_nil, List.setIfInBounds_toArray, List.set_cons_zero, List.set_cons_succ] at hK ⊢
        simp only [y66, y68] at hK ⊢
        go_simp
        exact hK W (Below.refl _ _)
      · refine .inl ⟨.inl rfl, .inl ⟨.tuple #[.agg #[.int .i64 pb0, .int .i64 pb1, .int .i64 pb2, .int .i64 pb3, .int .i64 pb4], .int .i64 0], val_only (d := 70) (by kernel_rfl), by simp, by simp, fun y W hB hO hV K Q' hK => ?_⟩⟩
        have y63 : y 63 = .agg #[.int .i64 y0, .int .i64 y1, .int .i64 y2, .int .i64 y3, .int .i64 y4] := hV (2, 63, .agg #[.int .i64 y0, .int .i64 y1, .int .i64 y2, .int .i64 y3, .int .i64 y4]) (val_get (by kernel_rfl)) (by kernel_rfl)
        have y69 : y 69 = .agg #[.int .i64 q2, .int .i64 q4] := hV (8, 69, .agg #[.int .i64 q2, .int .i64 q4]) (val_get (by kernel_rfl)) (by kernel_rfl)
        simp only [fr, putAll, List.foldl_cons, List.foldl_nil, List.setIfInBounds_toArray, List.set_cons_zero, List.set_cons_succ] at hK ⊢
        simp only [y63, y69] at hK ⊢
        go_simp
        refine (HS2.out _).mono ?_
        intro e w' h
        rw [h.1]
        exact hK w' h.2
      · refine .inl ⟨.inl rfl, .inl ⟨.tuple #[.agg #[.int .i64 pb0, .int .i64 pb1, .int .i64 pb2, .int .i64 pb3, .int .i64 pb4], .int .i64 0], val_only (d := 60) (by kernel_rfl), by simp, by simp, fun y W hB hO hV K Q' hK => ?_⟩⟩
        have y70 : y 70 = .tuple #[.agg #[.int .i64 pb0, .int .i64 pb1, .int .i64 pb2, .int .i64 pb3, .int .i64 pb4], .int .i64 0] := hV (9, 70, .tuple #[.agg #[.int .i64 pb0, .int .i64 pb1, .int .i64 pb2, .int .i64 pb3, .int .i64 pb4], .int .i64 0]) (val_get (by kernel_rfl)) (by kernel_rfl)
        simp only [fr, putAll, List.foldl_cons, List.foldl_nil, List.setIfInBounds_toArray, List.set_cons_zero, List.set_cons_succ] at hK ⊢
        simp only [y70] at hK ⊢
        go_simp
        exact hK W (Below.refl _ _)
      · refine .inl ⟨.inl rfl, .inl ⟨.agg #[.int .i64 pb0, .int .i64 pb1, .int .i64 pb2, .int .i64 pb3, .int .i64 pb4], val_only (d := 71) (by kernel_rfl), by simp, by simp, fun y W hB hO hV K Q' hK => ?_⟩⟩
        have y60 : y 60 = .tuple #[.agg #[.int .i64 pb0, .int .i64 pb1, .int .i64 pb2, .int .i64 pb3, .int .i64 pb4], .int .i64 0] := hV (10, 60, .tuple #[.agg #[.int .i64 pb0, .int .i64 pb1, .int .i64 pb2, .int .i64 pb3, .int .i64 pb4], .int .i64 0]) (val_get (by kernel_rfl)) (by kernel_rfl)
        simp only [fr, putAll, List.foldl_cons, List.foldl_nil, List.setIfInBounds_toArray, List.set_cons_zero, List.set_cons_succ] at hK ⊢
        simp only [y60] at hK ⊢
        go_simp
        exact hK W (Below.refl _ _)
      · refine .inl ⟨.inl rfl, .inl ⟨.int .i64 0, val_only (d := 72) (by kernel_rfl), by simp, by simp, fun y W hB hO hV K Q' hK => ?_⟩⟩
        have y60 : y 60 = .tuple #[.agg #[.int .i64 pb0, .int .i64 pb1, .int .i64 pb2, .int .i64 pb3, .int .i64 pb4], .int .i64 0] := hV (10, 60, .tuple #[.agg #[.int .i64 pb0, .int .i64 pb1, .int .i64 pb2, .int .i64 pb3, .int .i64 pb4], .int .i64 0]) (val_get (by kernel_rfl)) (by kernel_rfl)
        simp only [fr, putAll, List.foldl_cons, List.foldl_nil, List.setIfInBounds_toArray, List.set_cons_zero, List.set_cons_succ] at hK ⊢
        simp only [y60] at hK ⊢
        go_simp
        exact hK W (Below.refl _ _)
      · refine .inl ⟨.inl rfl, .inr (.inl ⟨val_none (by kernel_rfl), by simp, _, (List.mem_cons_self ..), rfl, by simp, by simp, 25, fun y W K Q' hK => ?_⟩)⟩
        simp only [fr, putAll, List.foldl_cons, List.foldl_nil, List.setIfInBounds_toArray, List.set_cons_zero, List.set_cons_succ] at hK ⊢
        go_simp
        exact hK
      · refine .inl ⟨.inl rfl, .inr (.inr (.inl ⟨val_none (by kernel_rfl), by simp, _, (List.mem_cons_self ..), rfl, by simp, by simp, by kernel_rfl, fun y W g hB hV hg hgw hc K Q' hK => ?_⟩))⟩
        have y71 : y 71 = .agg #[.int .i64 pb0, .int .i64 pb1, .int .i64 pb2, .int .i64 pb3, .int .i64 pb4] := hV (11, 71, .agg #[.int .i64 pb0, .int .i64 pb1, .int .i64 pb2, .int .i64 pb3, .int .i64 pb4]) (val_get (by kernel_rfl)) (by kernel_rfl)
        have kk := hc.five
        have k0 := kk.1
        have k1 := kk.2.1
        have k2 := kk.2.2.1
        have k3 := kk.2.2.2.1
        have k4 := kk.2.2.2.2
        clear kk
        have kk := hc.fr
        have f0 := kk.1
        have f1 := kk.2.1
        have f2 := kk.2.2.1
        have f3 := kk.2.2.2.1
        have f4 := kk.2.2.2.2
        clear kk
        dsimp only at hg
        simp only [fr, putAll, List.foldl_cons, List.foldl_nil, List.setIfInBounds_toArray, List.set_cons_zero, List.set_cons_succ] at hK ⊢
        simp only [hg, y71] at hK ⊢
        go_simp
        exact hK _ (hc.put5 (.int .i64 pb0) (.int .i64 pb1) (.int .i64 pb2) (.int .i64 pb3) (.int .i64 pb4)) (Only.put5 ..)
      · refine .inl ⟨.inl rfl, .inl ⟨.int .i64 0, val_only (d := 19) (by kernel_rfl), by simp, by simp, fun y W hB hO hV K Q' hK => ?_⟩⟩
        have y72 : y 72 = .int .i64 0 := hV (12, 72, .int .i64 0) (val_get (by kernel_rfl)) (by kernel_rfl)
        simp only [fr, putAll, List.foldl_cons, List.foldl_nil, List.setIfInBounds_toArray, List.set_cons_zero, List.set_cons_succ] at hK ⊢
        simp only [y72] at hK ⊢
        go_simp
        exact hK W (Below.refl _ _)
      intro y WR hB hO hV hX hA
      have y61 : y 61 = .int .i64 1 := hV (0, 61, .int .i64 1) (val_get (by kernel_rfl))
      have y62 : y 62 = .pointer (some ⟨BL, 5, none⟩) := hV (1, 62, .pointer (some ⟨BL, 5, none⟩)) (val_get (by kernel_rfl))
      have y63 : y 63 = .agg #[.int .i64 y0, .int .i64 y1, .int .i64 y2, .int .i64 y3, .int .i64 y4] := hV (2, 63, .agg #[.int .i64 y0, .int .i64 y1, .int .i64 y2, .int .i64 y3, .int .i64 y4]) (val_get (by kernel_rfl))
      have y64 : y 64 = .int .i64 1 := hV (3, 64, .int .i64 1) (val_get (by kernel_rfl))
      have y65 : y 65 = .pointer (some ⟨BC, 1, none⟩) := hV (4, 65, .pointer (some ⟨BC, 1, none⟩)) (val_get (by kernel_rfl))
      have y66 : y 66 = .int .i64 q2 := hV (5, 66, .int .i64 q2) (val_get (by kernel_rfl))
      have y67 : y 67 = .pointer (some ⟨w.heap.size + 1, 4, none⟩) := hV (6, 67, .pointer (some ⟨w.heap.size + 1, 4, none⟩)) (val_get (by kernel_rfl))
      have y68 : y 68 = .int .i64 q4 := hV (7, 68, .int .i64 q4) (val_get (by kernel_rfl))
      have y69 : y 69 = .agg #[.int .i64 q2, .int .i64 q4] := hV (8, 69, .agg #[.int .i64 q2, .int .i64 q4]) (val_get (by kernel_rfl))
      have y70 : y 70 = .tuple #[.agg #[.int .i64 pb0, .int .i64 pb1, .int .i64 pb2, .int .i64 pb3, .int .i64 pb4], .int .i64 0] := hV (9, 70, .tuple #[.agg #[.int .i64 pb0, .int .i64 pb1, .int .i64 pb2, .int .i64 pb3, .int .i64 pb4], .int .i64 0]) (val_get (by kernel_rfl))
      have y60 : y 60 = .tuple #[.agg #[.int .i64 pb0, .int .i64 pb1, .int .i64 pb2, .int .i64 pb3, .int .i64 pb4], .int .i64 0] := hV (10, 60, .tuple #[.agg #[.int .i64 pb0, .int .i64 pb1, .int .i64 pb2, .int .i64 pb3, .int .i64 pb4], .int .i64 0]) (val_get (by kernel_rfl))
      have y71 : y 71 = .agg #[.int .i64 pb0, .int .i64 pb1, .int .i64 pb2, .int .i64 pb3, .int .i64 pb4] := hV (11, 71, .agg #[.int .i64 pb0, .int .i64 pb1, .int .i64 pb2, .int .i64 pb3, .int .i64 pb4]) (val_get (by kernel_rfl))
      have y72 : y 72 = .int .i64 0 := hV (12, 72, .int .i64 0) (val_get (by kernel_rfl))
      have y19 : y 19 = .int .i64 0 := hV (15, 19, .int .i64 0) (val_get (by kernel_rfl))
      obtain ⟨BP, z0, BPl, BPc⟩ := hX _ (List.mem_cons_self ..)
      dsimp only at z0 BPc
      have ho0 := hO _ (List.mem_cons_self ..)
      have ho1 := hO _ (List.mem_cons_of_mem _ (List.mem_cons_self ..))
      have ho2 := hO _ (List.mem_cons_of_mem _ (List.mem_cons_of_mem _ (List.mem_cons_self ..)))
      have ho3 := hO _ (List.mem_cons_of_mem _ (List.mem_cons_of_mem _ (List.mem_cons_of_mem _ (List.mem_cons_self ..))))
      have ho4 := hO _ (List.mem_cons_of_mem _ (List.mem_cons_of_mem _ (List.mem_cons_of_mem _ (List.mem_cons_of_mem _ (List.mem_cons_self ..)))))
      have ho5 := hO _ (List.mem_cons_of_mem _ (List.mem_cons_of_mem _ (List.mem_cons_of_mem _ (List.mem_cons_of_mem _ (List.mem_cons_of_mem _ (List.mem_cons_self ..))))))
      have ho6 := hO _ (List.mem_cons_of_mem _ (List.mem_cons_of_mem _ (List.mem_cons_of_mem _ (List.mem_cons_of_mem _ (List.mem_cons_of_mem _ (List.mem_cons_of_mem _ (List.mem_cons_self ..)))))))
      have ho7 := hO _ (List.mem_cons_of_mem _ (List.mem_cons_of_mem _ (List.mem_cons_of_mem _ (List.mem_cons_of_mem _ (List.mem_cons_of_mem _ (List.mem_cons_of_mem _ (List.mem_cons_of_mem _ (List.mem_cons_self ..))))))))
      have ho8 := hO _ (List.mem_cons_of_mem _ (List.mem_cons_of_mem _ (List.mem_cons_of_mem _ (List.mem_cons_of_mem _ (List.mem_cons_of_mem _ (List.mem_cons_of_mem _ (List.mem_cons_of_mem _ (List.mem_cons_of_mem _ (List.mem_cons_self ..)))))))))
      dsimp only at ho0 ho1 ho2 ho3 ho4 ho5 ho6 ho7 ho8
      have HBR := Lib.hid (show Bx w [(BP, #[.int .i64 pb0, .int .i64 pb1, .int .i64 pb2, .int .i64 pb3, .int .i64 pb4]), (BC, #[.int .i64 q1, .int .i64 q2, .int .i64 q3]), (BL, #[.int .i64 x0, .int .i64 x1, .int .i64 x2, .int .i64 x3, .int .i64 x4, .int .i64 y0, .int .i64 y1, .int .i64 y2, .int .i64 y3, .int .i64 y4, .int .i64 m0, .int .i64 m1, .int .i64 m2, .int .i64 m3, .int .i64 m4]), (BO, #[.int .i64 sa0, .int .i64 sa1, .int .i64 sa2, .int .i64 sa3, .int .i64 sa4]), (B1, #[.int .i64 m0, .int .i64 m1, .int .i64 m2, .int .i64 m3, .int .i64 m4]), (w.heap.size + 4, #[.int .i64 0, .int .i64 0, .int .i64 0, .int .i64 0, .int .i64 0]), (w.heap.size + 3, #[.int .i64 y0, .int .i64 y1, .int .i64 y2, .int .i64 y3, .int .i64 y4]), (w.heap.size + 2, #[.int .i64 x0, .int .i64 x1, .int .i64 x2, .int .i64 x3, .int .i64 x4]), (w.heap.size + 1, #[.int .i64 q0, .int .i64 q1, .int .i64 q2, .int .i64 q3, .int .i64 q4]), (w.heap.size, #[.int .i64 c, .int .i64 d])] WR from (((((((((((Bx.nil (HB.out.below.trans (hB.mono HB.out.below.size))).cons (HB.out.own _ (List.mem_cons_of_mem _ (List.mem_cons_of_mem _ (List.mem_cons_of_mem _ (List.mem_cons_of_mem _ (List.mem_cons_of_mem _ (List.mem_cons_of_mem _ (List.mem_cons_of_mem _ (List.mem_cons_of_mem _ (List.mem_cons_self ..)))))))))).1 ho8).cons (HB.out.own _ (List.mem_cons_of_mem _ (List.mem_cons_of_mem _ (List.mem_cons_of_mem _ (List.mem_cons_of_mem _ (List.mem_cons_of_mem _ (List.mem_cons_of_mem _ (List.mem_cons_of_mem _ (List.mem_cons_self ..))))))))).1 ho7).cons (HB.out.own _ (List.mem_cons_of_mem _ (List.mem_cons_of_mem _ (List.mem_cons_of_mem _ (List.mem_cons_of_mem _ (List.mem_cons_of_mem _ (List.mem_cons_of_mem _ (List.mem_cons_self ..)))))))).1 ho6).cons (HB.out.own _ (List.mem_cons_of_mem _ (List.mem_cons_of_mem _ (List.mem_cons_of_mem _ (List.mem_cons_of_mem _ (List.mem_cons_of_mem _ (List.mem_cons_self ..))))))).1 ho5).cons (HB.out.own _ (List.mem_cons_of_mem _ (List.mem_cons_of_mem _ (List.mem_cons_of_mem _ (List.mem_cons_of_mem _ (List.mem_cons_self ..)))))).1 ho4).cons (HB.out.own _ (List.mem_cons_of_mem _ (List.mem_cons_of_mem _ (List.mem_cons_of_mem _ (List.mem_cons_self ..))))).1 ho3).cons (HB.out.own _ (List.mem_cons_of_mem _ (List.mem_cons_of_mem _ (List.mem_cons_self ..)))).1 ho2).cons (HB.out.own _ (List.mem_cons_of_mem _ (List.mem_cons_self ..))).1 ho1).cons (HB.out.own _ (List.mem_cons_self ..)).1 ho0).cons (Nat.le_trans HB.out.below.size BPl) BPc))
      simp only [fr, putAll, List.foldl_cons, List.foldl_nil, List.setIfInBounds_toArray, List.set_cons_zero, List.set_cons_succ]
      simp only [y61, y62, y63, y64, y65, y66, y67, y68, y69, y70, y60, y71, y72, y19, z0]
      clear y61 y62 y63 y64 y65 y66 y67 y68 y69 y70 y60 y71 y72 y19 z0 BPl BPc hB hO hV hX hA ho0 ho1 ho2 ho3 ho4 ho5 ho6 ho7 ho8
      clear HB
      obtain ⟨c0_0, c0_1, c0_2, c0_3, c0_4⟩ := HBR.out.five (List.mem_cons_self ..)
      obtain ⟨c3_0, c3_1, c3_2, c3_3, c3_4⟩ := HBR.out.five (List.mem_cons_of_mem _ (List.mem_cons_of_mem _ (List.mem_cons_of_mem _ (List.mem_cons_self ..))))
      go_wp2_with fail
      refine (HA2.out _).mono ?_
      rintro e4 w4 ⟨rfl, hbb⟩
      have HB4 := Lib.hid (HBR.out.keep hbb)
      clear c0_0 c0_1 c0_2 c0_3 c0_4 c3_0 c3_1 c3_2 c3_3 c3_4
      clear hbb HBR
      go_upto_region 12 with fail
      obtain ⟨V6, hV6⟩ : ∃ V6 : World, V6 = w4.alloc (.cells #[.int .i64 sb0, .int .i64 sb1, .int .i64 sb2, .int .i64 sb3, .int .i64 sb4] 25) := ⟨_, rfl⟩
      rw [← hV6]
      have HV6 := Lib.hid (show Bx w [(w4.heap.size, #[.int .i64 sb0, .int .i64 sb1, .int .i64 sb2, .int .i64 sb3, .int .i64 sb4]), (BP, #[.int .i64 pb0, .int .i64 pb1, .int .i64 pb2, .int .i64 pb3, .int .i64 pb4]), (BC, #[.int .i64 q1, .int .i64 q2, .int .i64 q3]), (BL, #[.int .i64 x0, .int .i64 x1, .int .i64 x2, .int .i64 x3, .int .i64 x4, .int .i64 y0, .int .i64 y1, .int .i64 y2, .int .i64 y3, .int .i64 y4, .int .i64 m0, .int .i64 m1, .int .i64 m2, .int .i64 m3, .int .i64 m4]), (BO, #[.int .i64 sa0, .int .i64 sa1, .int .i64 sa2, .int .i64 sa3, .int .i64 sa4]), (B1, #[.int .i64 m0, .int .i64 m1, .int .i64 m2, .int .i64 m3, .int .i64 m4]), (w.heap.size + 4, #[.int .i64 0, .int .i64 0, .int .i64 0, .int .i64 0, .int .i64 0]), (w.heap.size + 3, #[.int .i64 y0, .int .i64 y1, .int .i64 y2, .int .i64 y3, .int .i64 y4]), (w.heap.size + 2, #[.int .i64 x0, .int .i64 x1, .int .i64 x2, .int .i64 x3, .int .i64 x4]), (w.heap.size + 1, #[.int .i64 q0, .int .i64 q1, .int .i64 q2, .int .i64 q3, .int .i64 q4]), (w.heap.size, #[.int .i64 c, .int .i64 d])] V6 from hV6 ▸ HB4.out.new _ _)
      have hlt6 := HB4.out.lt (List.mem_cons_self ..)
      clear hV6 HB4
      generalize w4.heap.size = BS at *
      obtain ⟨c0_0, c0_1, c0_2, c0_3, c0_4⟩ := HV6.out.five (List.mem_cons_self ..)
      obtain ⟨c4_0, c4_1, c4_2, c4_3, c4_4⟩ := HV6.out.five (List.mem_cons_of_mem _ (List.mem_cons_of_mem _ (List.mem_cons_of_mem _ (List.mem_cons_of_mem _ (List.mem_cons_self ..)))))
      obtain ⟨f0, f1, f2, f3, f4⟩ := HV6.out.fr (List.mem_cons_of_mem _ (List.mem_cons_of_mem _ (List.mem_cons_of_mem _ (List.mem_cons_of_mem _ (List.mem_cons_self ..)))))
      have hlt := HV6.out.lt (List.mem_cons_of_mem _ (List.mem_cons_of_mem _ (List.mem_cons_of_mem _ (List.mem_cons_of_mem _ (List.mem_cons_self ..)))))
      obtain ⟨W9, e9, B9, -⟩ := HV6.out.put5 (List.mem_cons_of_mem _ (List.mem_cons_of_mem _ (List.mem_cons_of_mem _ (List.mem_cons_of_mem _ (List.mem_cons_self ..))))) (.int .i64 sb0) (.int .i64 sb1) (.int .i64 sb2) (.int .i64 sb3) (.int .i64 sb4) (L' := [(BC, #[.int .i64 q1, .int .i64 q2, .int .i64 q3]), (BL, #[.int .i64 x0, .int .i64 x1, .int .i64 x2, .int .i64 x3, .int .i64 x4, .int .i64 y0, .int .i64 y1, .int .i64 y2, .int .i64 y3, .int .i64 y4, .int .i64 m0, .int .i64 m1, .int .i64 m2, .int .i64 m3, .int .i64 m4]), (BO, #[.int .i64 sb0, .int .i64 sb1, .int .i64 sb2, .int .i64 sb3, .int .i64 sb4]), (B1, #[.int .i64 m0, .int .i64 m1, .int .i64 m2, .int .i64 m3, .int .i64 m4]), (w.heap.size + 4, #[.int .i64 0, .int .i64 0, .int .i64 0, .int .i64 0, .int .i64 0]), (w.heap.size + 3, #[.int .i64 y0, .int .i64 y1, .int .i64 y2, .int .i64 y3, .int .i64 y4]), (w.heap.size + 2, #[.int .i64 x0, .int .i64 x1, .int .i64 x2, .int .i64 x3, .int .i64 x4]), (w.heap.size + 1, #[.int .i64 q0, .int .i64 q1, .int .i64 q2, .int .i64 q3, .int .i64 q4]), (w.heap.size, #[.int .i64 c, .int .i64 d])]) (by
        intro x hx
        simp only [List.mem_cons, List.not_mem_nil, or_false] at hx ⊢
        rcases hx with rfl | rfl | rfl | rfl | rfl | rfl | rfl | rfl | rfl
        · exact .inl ⟨.inr (.inr (.inl rfl)), by dsimp only; first | omega | assumption | exact Ne.symm (by assumption)⟩
        · exact .inl ⟨.inr (.inr (.inr (.inl rfl))), by dsimp only; first | omega | assumption | exact Ne.symm (by assumption)⟩
        · exact .inr rfl
        · exact .inl ⟨.inr (.inr (.inr (.inr (.inr (.inl rfl))))), by dsimp only; first | omega | assumption | exact Ne.symm (by assumption)⟩
        · exact .inl ⟨.inr (.inr (.inr (.inr (.inr (.inr (.inl rfl)))))), by dsimp only; first | omega | assumption | exact Ne.symm (by assumption)⟩
        · exact .inl ⟨.inr (.inr (.inr (.inr (.inr (.inr (.inr (.inl rfl))))))), by dsimp only; first | omega | assumption | exact Ne.symm (by assumption)⟩
        · exact .inl ⟨.inr (.inr (.inr (.inr (.inr (.inr (.inr (.inr (.inl rfl)))))))), by dsimp only; first | omega | assumption | exact Ne.symm (by assumption)⟩
        · exact .inl ⟨.inr (.inr (.inr (.inr (.inr (.inr (.inr (.inr (.inr (.inl rfl))))))))), by dsimp only; first | omega | assumption | exact Ne.symm (by assumption)⟩
        · exact .inl ⟨.inr (.inr (.inr (.inr (.inr (.inr (.inr (.inr (.inr (.inr rfl))))))))), by dsimp only; first | omega | assumption | exact Ne.symm (by assumption)⟩
        )
      have HB9 := Lib.hid B9; clear B9 HV6
      go_wp2_with fail
      exact ⟨⟨2, by first | rfl | go_num, by first | rfl | go_num, by omega, by rw [T2.out]; first | exact HB9.out | (rw [e9]; exact HB9.out)⟩, by simp [intOf]⟩
    by_cases k2 : k = 2
    · subst k2
      rw [T2.out] at hst
      have HB := Lib.hid hst; clear hst hk
      go_upto_region 9 with fail
      refine wp_region_inv (wr.heap.size) [(0, 61, .int .i64 2), (1, 62, .pointer (some ⟨BL, 10, none⟩)), (2, 63, .agg #[.int .i64 m0, .int .i64 m1, .int .i64 m2, .int .i64 m3, .int .i64 m4]), (3, 64, .int .i64 2), (4, 65, .pointer (some ⟨BC, 2, none⟩)), (5, 66, .int .i64 q3), (6, 67, .pointer (some ⟨w.heap.size + 1, 4, none⟩)), (7, 68, .int .i64 q4), (8, 69, .agg #[.int .i64 q3, .int .i64 q4]), (9, 70, .tuple #[.agg #[.int .i64 pc0, .int .i64 pc1, .int .i64 pc2, .int .i64 pc3, .int .i64 pc4], .int .i64 0]), (10, 60, .tuple #[.agg #[.int .i64 pc0, .int .i64 pc1, .int .i64 pc2, .int .i64 pc3, .int .i64 pc4], .int .i64 0]), (11, 71, .agg #[.int .i64 pc0, .int .i64 pc1, .int .i64 pc2, .int .i64 pc3, .int .i64 pc4]), (12, 72, .int .i64 0), (15, 19, .int .i64 0)] [⟨13, 18, 14, #[.int .i64 0, .int .i64 0, .int .i64 0, .int .i64 0, .int .i64 0], #[.int .i64 pc0, .int .i64 pc1, .int .i64 pc2, .int .i64 pc3, .int .i64 pc4]⟩] [⟨BC, 999, #[.int .i64 q1, .int .i64 q2, .int .i64 q3], #[.int .i64 q1, .int .i64 q2, .int .i64 q3]⟩, ⟨BL, 999, #[.int .i64 x0, .int .i64 x1, .int .i64 x2, .int .i64 x3, .int .i64 x4, .int .i64 y0, .int .i64 y1, .int .i64 y2, .int .i64 y3, .int .i64 y4, .int .i64 m0, .int .i64 m1, .int .i64 m2, .int .i64 m3, .int .i64 m4], #[.int .i64 x0, .int .i64 x1, .int .i64 x2, .int .i64 x3, .int .i64 x4, .int .i64 y0, .int .i64 y1, .int .i64 y2, .int .i64 y3, .int .i64 y4, .int .i64 m0, .int .i64 m1, .int .i64 m2, .int .i64 m3, .int .i64 m4]⟩, ⟨BO, 999, #[.int .i64 sb0, .int .i64 sb1, .int .i64 sb2, .int .i64 sb3, .int .i64 sb4], #[.int .i64 sb0, .int .i64 sb1, .int .i64 sb2, .int .i64 sb3, .int .i64 sb4]⟩, ⟨B1, 999, #[.int .i64 m0, .int .i64 m1, .int .i64 m2, .int .i64 m3, .int .i64 m4], #[.int .i64 m0, .int .i64 m1, .int .i64 m2, .int .i64 m3, .int .i64 m4]⟩, ⟨w.heap.size + 4, 999, #[.int .i64 0, .int .i64 0, .int .i64 0, .int .i64 0, .int .i64 0], #[.int .i64 0, .int .i64 0, .int .i64 0, .int .i64 0, .int .i64 0]⟩, ⟨w.heap.size + 3, 999, #[.int .i64 y0, .int .i64 y1, .int .i64 y2, .int .i64 y3, .int .i64 y4], #[.int .i64 y0, .int .i64 y1, .int .i64 y2, .int .i64 y3, .int .i64 y4]⟩, ⟨w.heap.size + 2, 999, #[.int .i64 x0, .int .i64 x1, .int .i64 x2, .int .i64 x3, .int .i64 x4], #[.int .i64 x0, .int .i64 x1, .int .i64 x2, .int .i64 x3, .int .i64 x4]⟩, ⟨w.heap.size + 1, 999, #[.int .i64 q0, .int .i64 q1, .int .i64 q2, .int .i64 q3, .int .i64 q4], #[.int .i64 q0, .int .i64 q1, .int .i64 q2, .int .i64 q3, .int .i64 q4]⟩, ⟨w.heap.size, 999, #[.int .i64 c, .int .i64 d], #[.int .i64 c, .int .i64 d]⟩] [61, 62, 63, 64, 65, 66, 67, 68, 69, 70, 60, 71, 72, 18, 19] ?_ (by kernel_rfl) (by kernel_rfl) (by kernel_rfl) ?_ (forall_ops ⟨?_, ?_, ?_, ?_, ?_, ?_, ?_, ?_, ?_, ?_, ?_, ?_, ?_, ?_, ?_, ?_, trivial⟩) ?_
      · exact Nat.le_refl _
      · intro c hc
        simp only [List.mem_cons, List.not_mem_nil, or_false] at hc
        rcases hc with rfl | rfl | rfl | rfl | rfl | rfl | rfl | rfl | rfl
        · exact ⟨(HB.out.own _ (List.mem_cons_self ..)).2, .inr rfl⟩
        · exact ⟨(HB.out.own _ (List.mem_cons_of_mem _ (List.mem_cons_self ..))).2, .inr rfl⟩
        · exact ⟨(HB.out.own _ (List.mem_cons_of_mem _ (List.mem_cons_of_mem _ (List.mem_cons_self ..)))).2, .inr rfl⟩
        · exact ⟨(HB.out.own _ (List.mem_cons_of_mem _ (List.mem_cons_of_mem _ (List.mem_cons_of_mem _ (List.mem_cons_self ..))))).2, .inr rfl⟩
        · exact ⟨(HB.out.own _ (List.mem_cons_of_mem _ (List.mem_cons_of_mem _ (List.mem_cons_of_mem _ (List.mem_cons_of_mem _ (List.mem_cons_self ..)))))).2, .inr rfl⟩
        · exact ⟨(HB.out.own _ (List.mem_cons_of_mem _ (List.mem_cons_of_mem _ (List.mem_cons_of_mem _ (List.mem_cons_of_mem _ (List.mem_cons_of_mem _ (List.mem_cons_self ..))))))).2, .inr rfl⟩
        · exact ⟨(HB.out.own _ (List.mem_cons_of_mem _ (List.mem_cons_of_mem _ (List.mem_cons_of_mem _ (List.mem_cons_of_mem _ (List.mem_cons_of_mem _ (List.mem_cons_of_mem _ (List.mem_cons_self ..)))))))).2, .inr rfl⟩
        · exact ⟨(HB.out.own _ (List.mem_cons_of_mem _ (List.mem_cons_of_mem _ (List.mem_cons_of_mem _ (List.mem_cons_of_mem _ (List.mem_cons_of_mem _ (List.mem_cons_of_mem _ (List.mem_cons_of_mem _ (List.mem_cons_self ..))))))))).2, .inr rfl⟩
        · exact ⟨(HB.out.own _ (List.mem_cons_of_mem _ (List.mem_cons_of_mem _ (List.mem_cons_of_mem _ (List.mem_cons_of_mem _ (List.mem_cons_of_mem _ (List.mem_cons_of_mem _ (List.mem_cons_of_mem _ (List.mem_cons_of_mem _ (List.mem_cons_self ..)))))))))).2, .inr rfl⟩
      · refine .inl ⟨.inl rfl, .inl ⟨.int .i64 2, val_only (d := 61) (by kernel_rfl), by simp, by simp, fun y W hB hO hV K Q' hK => ?_⟩⟩
        simp only [fr, putAll, List.foldl_cons, List.foldl_nil, List.setIfInBounds_toArray, List.set_cons_zero, List.set_cons_succ] at hK ⊢
        go_simp
        exact hK W (Below.refl _ _)
      · refine .inl ⟨.inl rfl, .inl ⟨.pointer (some ⟨BL, 10, none⟩), val_only (d := 62) (by kernel_rfl), by simp, by simp, fun y W hB hO hV K Q' hK => ?_⟩⟩
        have y61 : y 61 = .int .i64 2 := hV (0, 61, .int .i64 2) (val_get (by kernel_rfl)) (by kernel_rfl)
        simp only [fr, putAll, List.foldl_cons, List.foldl_nil, List.setIfInBounds_toArray, List.set_cons_zero, List.set_cons_succ] at hK ⊢
        simp only [y61] at hK ⊢
        go_simp
        exact hK W (Below.refl _ _)
      · refine .inl ⟨.inl rfl, .inl ⟨.agg #[.int .i64 m0, .int .i64 m1, .int .i64 m2, .int .i64 m3, .int .i64 m4], val_only (d := 63) (by kernel_rfl), by simp, by simp, fun y W hB hO hV K Q' hK => ?_⟩⟩
        have y62 : y 62 = .pointer (some ⟨BL, 10, none⟩) := hV (1, 62, .pointer (some ⟨BL, 10, none⟩)) (val_get (by kernel_rfl)) (by kernel_rfl)
        have hc : Cells W (BL) #[.int .i64 x0, .int .i64 x1, .int .i64 x2, .int .i64 x3, .int .i64 x4, .int .i64 y0, .int .i64 y1, .int .i64 y2, .int .i64 y3, .int .i64 y4, .int .i64 m0, .int .i64 m1, .int .i64 m2, .int .i64 m3, .int .i64 m4] := hO _ (List.mem_cons_of_mem _ (List.mem_cons_self ..)) rfl
        have k10 := hc.2.1 10 (by simp)
        have k11 := hc.2.1 11 (by simp)
        have k12 := hc.2.1 12 (by simp)
        have k13 := hc.2.1 13 (by simp)
        have k14 := hc.2.1 14 (by simp)
        simp only [List.getElem?_toArray, List.getElem?_cons_zero, List.getElem?_cons_succ] at k10 k11 k12 k13 k14
        simp only [fr, putAll, List.foldl_cons, List.foldl_nil, List.setIfInBounds_toArray, List.set_cons_zero, List.set_cons_succ] at hK ⊢
        simp only [y62] at hK ⊢
        go_simp
        exact hK W (Below.refl _ _)
      · refine .inl ⟨.inl rfl, .inl ⟨.int .i64 2, val_only (d := 64) (by kernel_rfl), by simp, by simp, fun y W hB hO hV K Q' hK => ?_⟩⟩
        simp only [fr, putAll, List.foldl_cons, List.foldl_nil, List.setIfInBounds_toArray, List.set_cons_zero, List.set_cons_succ] at hK ⊢
        go_simp
        exact hK W (Below.refl _ _)
      · refine .inl ⟨.inl rfl, .inl ⟨.pointer (some ⟨BC, 2, none⟩), val_only (d := 65) (by kernel_rfl), by simp, by simp, fun y W hB hO hV K Q' hK => ?_⟩⟩
        have y64 : y 64 = .int .i64 2 := hV (3, 64, .int .i64 2) (val_get (by kernel_rfl)) (by kernel_rfl)
        simp only [fr, putAll, List.foldl_cons, List.foldl_nil, List.setIfInBounds_toArray, List.set_cons_zero, List.set_cons_succ] at hK ⊢
        simp only [y64] at hK ⊢
        go_simp
        exact hK W (Below.refl _ _)
      · refine .inl ⟨.inl rfl, .inl ⟨.int .i64 q3, val_only (d := 66) (by kernel_rfl), by simp, by simp, fun y W hB hO hV K Q' hK => ?_⟩⟩
        have y65 : y 65 = .pointer (some ⟨BC, 2, none⟩) := hV (4, 65, .pointer (some ⟨BC, 2, none⟩)) (val_get (by kernel_rfl)) (by kernel_rfl)
        have hc : Cells W (BC) #[.int .i64 q1, .int .i64 q2, .int .i64 q3] := hO _ (List.mem_cons_self ..) rfl
        have k2 := hc.2.1 2 (by simp)
        simp only [List.getElem?_toArray, List.getElem?_cons_zero, List.getElem?_cons_succ] at k2
        simp only [fr, putAll, List.foldl_cons, List.foldl_nil, List.setIfInBounds_toArray, List.set_cons_zero, List.set_cons_succ] at hK ⊢
        simp only [y65] at hK ⊢
        go_simp
        exact hK W (Below.refl _ _)
      · refine .inl ⟨.inl rfl, .inl ⟨.pointer (some ⟨w.heap.size + 1, 4, none⟩), val_only (d := 67) (by kernel_rfl), by simp, by simp, fun y W hB hO hV K Q' hK => ?_⟩⟩
        simp only [fr, putAll, List.foldl_cons, List.foldl_nil, List.setIfInBounds_toArray, List.set_cons_zero, List.set_cons_succ] at hK ⊢
        go_simp
        exact hK W (Below.refl _ _)
      · refine .inl ⟨.inl rfl, .inl ⟨.int .i64 q4, val_only (d := 68) (by kernel_rfl), by simp, by simp, fun y W hB hO hV K Q' hK => ?_⟩⟩
        have y67 : y 67 = .pointer (some ⟨w.heap.size + 1, 4, none⟩) := hV (6, 67, .pointer (some ⟨w.heap.size + 1, 4, none⟩)) (val_get (by kernel_rfl)) (by kernel_rfl)
        have hc : Cells W (w.heap.size + 1) #[.int .i64 q0, .int .i64 q1, .int .i64 q2, .int .i64 q3, .int .i64 q4] := hO _ (List.mem_cons_of_mem _ (List.mem_cons_of_mem _ (List.mem_cons_of_mem _ (List.mem_cons_of_mem _ (List.mem_cons_of_mem _ (List.mem_cons_of_mem _ (List.mem_cons_of_mem _ (List.mem_cons_self ..)))))))) rfl
        have kk := hc.five
        have k0 := kk.1
        have k1 := kk.2.1
        have k2 := kk.2.2.1
        have k3 := kk.2.2.2.1
        have k4 := kk.2.2.2.2
        clear kk
        simp only [fr, putAll, List.foldl_cons, List.foldl_nil, List.setIfInBounds_toArray, List.set_cons_zero, List.set_cons_succ] at hK ⊢
        simp only [y67] at hK ⊢
        go_simp
        exact hK W (Below.refl _ _)
      · refine .inl ⟨.inl rfl, .inl ⟨.agg #[.int .i64 q3, .int .i64 q4], val_only (d := 69) (by kernel_rfl), by simp, by simp, fun y W hB hO hV K Q' hK => ?_⟩⟩
        have y66 : y 66 = .int .i64 q3 := hV (5, 66, .int .i64 q3) (val_get (by kernel_rfl)) (by kernel_rfl)
        have y68 : y 68 = .int .i64 q4 := hV (7, 68, .int .i64 q4) (val_get (by kernel_rfl)) (by kernel_rfl)
        simp only [fr, putAll, List.foldl_cons, List.foldl_nil, List.setIfInBounds_toArray, List.set_cons_zero, List.set_cons_succ] at hK ⊢
        simp only [y66, y68] at hK ⊢
        go_simp
        exact hK W (Below.refl _ _)
      · refine .inl ⟨.inl rfl, .inl ⟨.tuple #[.agg #[.int .i64 pc0, .int .i64 pc1, .int .i64 pc2, .int .i64 pc3, .int .i64 pc4], .int .i64 0], val_only (d := 70) (by kernel_rfl), by simp, by simp, fun y W hB hO hV K Q' hK => ?_⟩⟩
        have y63 : y 63 = .agg #[.int .i64 m0, .int .i64 m1, .int .i64 m2, .int .i64 m3, .int .i64 m4] := hV (2, 63, .agg #[.int .i64 m0, .int .i64 m1, .int .i64 m2, .int .i64 m3, .int .i64 m4]) (val_get (by kernel_rfl)) (by kernel_rfl)
        have y69 : y 69 = .agg #[.int .i64 q3, .int .i64 q4] := hV (8, 69, .agg #[.int .i64 q3, .int .i64 q4]) (val_get (by kernel_rfl)) (by kernel_rfl)
        simp only [fr, putAll, List.foldl_cons, List.foldl_nil, List.setIfInBounds_toArray, List.set_cons_zero, List.set_cons_succ] at hK ⊢
        simp only [y63, y69] at hK ⊢
        go_simp
        refine (HS3.out _).mono ?_
        intro e w' h
        rw [h.1]
        exact hK w' h.2
      · refine .inl ⟨.inl rfl, .inl ⟨.tuple #[.agg #[.int .i64 pc0, .int .i64 pc1, .int .i64 pc2, .int .i64 pc3, .int .i64 pc4], .int .i64 0], val_only (d := 60) (by kernel_rfl), by simp, by simp, fun y W hB hO hV K Q' hK => ?_⟩⟩
        have y70 : y 70 = .tuple #[.agg #[.int .i64 pc0, .int .i64 pc1, .int .i64 pc2, .int .i64 pc3, .int .i64 pc4], .int .i64 0] := hV (9, 70, .tuple #[.agg #[.int .i64 pc0, .int .i64 pc1, .int .i64 pc2, .int .i64 pc3, .int .i64 pc4], .int .i64 0]) (val_get (by kernel_rfl)) (by kernel_rfl)
        simp only [fr, putAll, List.foldl_cons, List.foldl_nil, List.setIfInBounds_toArray, List.set_cons_zero, List.set_cons_succ] at hK ⊢
        simp only [y70] at hK ⊢
        go_simp
        exact hK W (Below.refl _ _)
      · refine .inl ⟨.inl rfl, .inl ⟨.agg #[.int .i64 pc0, .int .i64 pc1, .int .i64 pc2, .int .i64 pc3, .int .i64 pc4], val_only (d := 71) (by kernel_rfl), by simp, by simp, fun y W hB hO hV K Q' hK => ?_⟩⟩
        have y60 : y 60 = .tuple #[.agg #[.int .i64 pc0, .int .i64 pc1, .int .i64 pc2, .int .i64 pc3, .int .i64 pc4], .int .i64 0] := hV (10, 60, .tuple #[.agg #[.int .i64 pc0, .int .i64 pc1, .int .i64 pc2, .int .i64 pc3, .int .i64 pc4], .int .i64 0]) (val_get (by kernel_rfl)) (by kernel_rfl)
        simp only [fr, putAll, List.foldl_cons, List.foldl_nil, List.setIfInBounds_toArray, List.set_cons_zero, List.set_cons_succ] at hK ⊢
        simp only [y60] at hK ⊢
        go_simp
        exact hK W (Below.refl _ _)
      · refine .inl ⟨.inl rfl, .inl ⟨.int .i64 0, val_only (d := 72) (by kernel_rfl), by simp, by simp, fun y W hB hO hV K Q' hK => ?_⟩⟩
        have y60 : y 60 = .tuple #[.agg #[.int .i64 pc0, .int .i64 pc1, .int .i64 pc2, .int .i64 pc3, .int .i64 pc4], .int .i64 0] := hV (10, 60, .tuple #[.agg #[.int .i64 pc0, .int .i64 pc1, .int .i64 pc2, .int .i64 pc3, .int .i64 pc4], .int .i64 0]) (val_get (by kernel_rfl)) (by kernel_rfl)
        simp only [fr, putAll, List.foldl_cons, List.foldl_nil, List.setIfInBounds_toArray, List.set_cons_zero, List.set_cons_succ] at hK ⊢
        simp only [y60] at hK ⊢
        go_simp
        exact hK W (Below.refl _ _)
      · refine .inl ⟨.inl rfl, .inr (.inl ⟨val_none (by kernel_rfl), by simp, _, (List.mem_cons_self ..), rfl, by simp, by simp, 25, fun y W K Q' hK => ?_⟩)⟩
        simp only [fr, putAll, List.foldl_cons, List.foldl_nil, List.setIfInBounds_toArray, List.set_cons_zero, List.set_cons_succ] at hK ⊢
        go_simp
        exact hK
      · refine .inl ⟨.inl rfl, .inr (.inr (.inl ⟨val_none (by kernel_rfl), by simp, _, (List.mem_cons_self ..), rfl, by simp, by simp, by kernel_rfl, fun y W g hB hV hg hgw hc K Q' hK => ?_⟩))⟩
        have y71 : y 71 = .agg #[.int .i64 pc0, .int .i64 pc1, .int .i64 pc2, .int .i64 pc3, .int .i64 pc4] := hV (11, 71, .agg #[.int .i64 pc0, .int .i64 pc1, .int .i64 pc2, .int .i64 pc3, .int .i64 pc4]) (val_get (by kernel_rfl)) (by kernel_rfl)
        have kk := hc.five
        have k0 := kk.1
        have k1 := kk.2.1
        have k2 := kk.2.2.1
        have k3 := kk.2.2.2.1
        have k4 := kk.2.2.2.2
        clear kk
        have kk := hc.fr
        have f0 := kk.1
        have f1 := kk.2.1
        have f2 := kk.2.2.1
        have f3 := kk.2.2.2.1
        have f4 := kk.2.2.2.2
        clear kk
        dsimp only at hg
        simp only [fr, putAll, List.foldl_cons, List.foldl_nil, List.setIfInBounds_toArray, List.set_cons_zero, List.set_cons_succ] at hK ⊢
        simp only [hg, y71] at hK ⊢
        go_simp
        exact hK _ (hc.put5 (.int .i64 pc0) (.int .i64 pc1) (.int .i64 pc2) (.int .i64 pc3) (.int .i64 pc4)) (Only.put5 ..)
      · refine .inl ⟨.inl rfl, .inl ⟨.int .i64 0, val_only (d := 19) (by kernel_rfl), by simp, by simp, fun y W hB hO hV K Q' hK => ?_⟩⟩
        have y72 : y 72 = .int .i64 0 := hV (12, 72, .int .i64 0) (val_get (by kernel_rfl)) (by kernel_rfl)
        simp only [fr, putAll, List.foldl_cons, List.foldl_nil, List.setIfInBounds_toArray, List.set_cons_zero, List.set_cons_succ] at hK ⊢
        simp only [y72] at hK ⊢
        go_simp
        exact hK W (Below.refl _ _)
      intro y WR hB hO hV hX hA
      have y61 : y 61 = .int .i64 2 := hV (0, 61, .int .i64 2) (val_get (by kernel_rfl))
      have y62 : y 62 = .pointer (some ⟨BL, 10, none⟩) := hV (1, 62, .pointer (some ⟨BL, 10, none⟩)) (val_get (by kernel_rfl))
      have y63 : y 63 = .agg #[.int .i64 m0, .int .i64 m1, .int .i64 m2, .int .i64 m3, .int .i64 m4] := hV (2, 63, .agg #[.int .i64 m0, .int .i64 m1, .int .i64 m2, .int .i64 m3, .int .i64 m4]) (val_get (by kernel_rfl))
      have y64 : y 64 = .int .i64 2 := hV (3, 64, .int .i64 2) (val_get (by kernel_rfl))
      have y65 : y 65 = .pointer (some ⟨BC, 2, none⟩) := hV (4, 65, .pointer (some ⟨BC, 2, none⟩)) (val_get (by kernel_rfl))
      have y66 : y 66 = .int .i64 q3 := hV (5, 66, .int .i64 q3) (val_get (by kernel_rfl))
      have y67 : y 67 = .pointer (some ⟨w.heap.size + 1, 4, none⟩) := hV (6, 67, .pointer (some ⟨w.heap.size + 1, 4, none⟩)) (val_get (by kernel_rfl))
      have y68 : y 68 = .int .i64 q4 := hV (7, 68, .int .i64 q4) (val_get (by kernel_rfl))
      have y69 : y 69 = .agg #[.int .i64 q3, .int .i64 q4] := hV (8, 69, .agg #[.int .i64 q3, .int .i64 q4]) (val_get (by kernel_rfl))
      have y70 : y 70 = .tuple #[.agg #[.int .i64 pc0, .int .i64 pc1, .int .i64 pc2, .int .i64 pc3, .int .i64 pc4], .int .i64 0] := hV (9, 70, .tuple #[.agg #[.int .i64 pc0, .int .i64 pc1, .int .i64 pc2, .int .i64 pc3, .int .i64 pc4], .int .i64 0]) (val_get (by kernel_rfl))
      have y60 : y 60 = .tuple #[.agg #[.int .i64 pc0, .int .i64 pc1, .int .i64 pc2, .int .i64 pc3, .int .i64 pc4], .int .i64 0] := hV (10, 60, .tuple #[.agg #[.int .i64 pc0, .int .i64 pc1, .int .i64 pc2, .int .i64 pc3, .int .i64 pc4], .int .i64 0]) (val_get (by kernel_rfl))
      have y71 : y 71 = .agg #[.int .i64 pc0, .int .i64 pc1, .int .i64 pc2, .int .i64 pc3, .int .i64 pc4] := hV (11, 71, .agg #[.int .i64 pc0, .int .i64 pc1, .int .i64 pc2, .int .i64 pc3, .int .i64 pc4]) (val_get (by kernel_rfl))
      have y72 : y 72 = .int .i64 0 := hV (12, 72, .int .i64 0) (val_get (by kernel_rfl))
      have y19 : y 19 = .int .i64 0 := hV (15, 19, .int .i64 0) (val_get (by kernel_rfl))
      obtain ⟨BP, z0, BPl, BPc⟩ := hX _ (List.mem_cons_self ..)
      dsimp only at z0 BPc
      have ho0 := hO _ (List.mem_cons_self ..)
      have ho1 := hO _ (List.mem_cons_of_mem _ (List.mem_cons_self ..))
      have ho2 := hO _ (List.mem_cons_of_mem _ (List.mem_cons_of_mem _ (List.mem_cons_self ..)))
      have ho3 := hO _ (List.mem_cons_of_mem _ (List.mem_cons_of_mem _ (List.mem_cons_of_mem _ (List.mem_cons_self ..))))
      have ho4 := hO _ (List.mem_cons_of_mem _ (List.mem_cons_of_mem _ (List.mem_cons_of_mem _ (List.mem_cons_of_mem _ (List.mem_cons_self ..)))))
      have ho5 := hO _ (List.mem_cons_of_mem _ (List.mem_cons_of_mem _ (List.mem_cons_of_mem _ (List.mem_cons_of_mem _ (List.mem_cons_of_mem _ (List.mem_cons_self ..))))))
      have ho6 := hO _ (List.mem_cons_of_mem _ (List.mem_cons_of_mem _ (List.mem_cons_of_mem _ (List.mem_cons_of_mem _ (List.mem_cons_of_mem _ (List.mem_cons_of_mem _ (List.mem_cons_self ..)))))))
      have ho7 := hO _ (List.mem_cons_of_mem _ (List.mem_cons_of_mem _ (List.mem_cons_of_mem _ (List.mem_cons_of_mem _ (List.mem_cons_of_mem _ (List.mem_cons_of_mem _ (List.mem_cons_of_mem _ (List.mem_cons_self ..))))))))
      have ho8 := hO _ (List.mem_cons_of_mem _ (List.mem_cons_of_mem _ (List.mem_cons_of_mem _ (List.mem_cons_of_mem _ (List.mem_cons_of_mem _ (List.mem_cons_of_mem _ (List.mem_cons_of_mem _ (List.mem_cons_of_mem _ (List.mem_cons_self ..)))))))))
      dsimp only at ho0 ho1 ho2 ho3 ho4 ho5 ho6 ho7 ho8
      have HBR := Lib.hid (show Bx w [(BP, #[.int .i64 pc0, .int .i64 pc1, .int .i64 pc2, .int .i64 pc3, .int .i64 pc4]), (BC, #[.int .i64 q1, .int .i64 q2, .int .i64 q3]), (BL, #[.int .i64 x0, .int .i64 x1, .int .i64 x2, .int .i64 x3, .int .i64 x4, .int .i64 y0, .int .i64 y1, .int .i64 y2, .int .i64 y3, .int .i64 y4, .int .i64 m0, .int .i64 m1, .int .i64 m2, .int .i64 m3, .int .i64 m4]), (BO, #[.int .i64 sb0, .int .i64 sb1, .int .i64 sb2, .int .i64 sb3, .int .i64 sb4]), (B1, #[.int .i64 m0, .int .i64 m1, .int .i64 m2, .int .i64 m3, .int .i64 m4]), (w.heap.size + 4, #[.int .i64 0, .int .i64 0, .int .i64 0, .int .i64 0, .int .i64 0]), (w.heap.size + 3, #[.int .i64 y0, .int .i64 y1, .int .i64 y2, .int .i64 y3, .int .i64 y4]), (w.heap.size + 2, #[.int .i64 x0, .int .i64 x1, .int .i64 x2, .int .i64 x3, .int .i64 x4]), (w.heap.size + 1, #[.int .i64 q0, .int .i64 q1, .int .i64 q2, .int .i64 q3, .int .i64 q4]), (w.heap.size, #[.int .i64 c, .int .i64 d])] WR from (((((((((((Bx.nil (HB.out.below.trans (hB.mono HB.out.below.size))).cons (HB.out.own _ (List.mem_cons_of_mem _ (List.mem_cons_of_mem _ (List.mem_cons_of_mem _ (List.mem_cons_of_mem _ (List.mem_cons_of_mem _ (List.mem_cons_of_mem _ (List.mem_cons_of_mem _ (List.mem_cons_of_mem _ (List.mem_cons_self ..)))))))))).1 ho8).cons (HB.out.own _ (List.mem_cons_of_mem _ (List.mem_cons_of_mem _ (List.mem_cons_of_mem _ (List.mem_cons_of_mem _ (List.mem_cons_of_mem _ (List.mem_cons_of_mem _ (List.mem_cons_of_mem _ (List.mem_cons_self ..))))))))).1 ho7).cons (HB.out.own _ (List.mem_cons_of_mem _ (List.mem_cons_of_mem _ (List.mem_cons_of_mem _ (List.mem_cons_of_mem _ (List.mem_cons_of_mem _ (List.mem_cons_of_mem _ (List.mem_cons_self ..)))))))).1 ho6).cons (HB.out.own _ (List.mem_cons_of_mem _ (List.mem_cons_of_mem _ (List.mem_cons_of_mem _ (List.mem_cons_of_mem _ (List.mem_cons_of_mem _ (List.mem_cons_self ..))))))).1 ho5).cons (HB.out.own _ (List.mem_cons_of_mem _ (List.mem_cons_of_mem _ (List.mem_cons_of_mem _ (List.mem_cons_of_mem _ (List.mem_cons_self ..)))))).1 ho4).cons (HB.out.own _ (List.mem_cons_of_mem _ (List.mem_cons_of_mem _ (List.mem_cons_of_mem _ (List.mem_cons_self ..))))).1 ho3).cons (HB.out.own _ (List.mem_cons_of_mem _ (List.mem_cons_of_mem _ (List.mem_cons_self ..)))).1 ho2).cons (HB.out.own _ (List.mem_cons_of_mem _ (List.mem_cons_self ..))).1 ho1).cons (HB.out.own _ (List.mem_cons_self ..)).1 ho0).cons (Nat.le_trans HB.out.below.size BPl) BPc))
      simp only [fr, putAll, List.foldl_cons, List.foldl_nil, List.setIfInBounds_toArray, List.set_cons_zero, List.set_cons_succ]
      simp only [y61, y62, y63, y64, y65, y66, y67, y68, y69, y70, y60, y71, y72, y19, z0]
      clear y61 y62 y63 y64 y65 y66 y67 y68 y69 y70 y60 y71 y72 y19 z0 BPl BPc hB hO hV hX hA ho0 ho1 ho2 ho3 ho4 ho5 ho6 ho7 ho8
      clear HB
      obtain ⟨c0_0, c0_1, c0_2, c0_3, c0_4⟩ := HBR.out.five (List.mem_cons_self ..)
      obtain ⟨c3_0, c3_1, c3_2, c3_3, c3_4⟩ := HBR.out.five (List.mem_cons_of_mem _ (List.mem_cons_of_mem _ (List.mem_cons_of_mem _ (List.mem_cons_self ..))))
      go_wp2_with fail
      refine (HA3.out _).mono ?_
      rintro e5 w5 ⟨rfl, hbb⟩
      have HB5 := Lib.hid (HBR.out.keep hbb)
      clear c0_0 c0_1 c0_2 c0_3 c0_4 c3_0 c3_1 c3_2 c3_3 c3_4
      clear hbb HBR
      go_upto_region 12 with fail
      obtain ⟨V7, hV7⟩ : ∃ V7 : World, V7 = w5.alloc (.cells #[.int .i64 sc0, .int .i64 sc1, .int .i64 sc2, .int .i64 sc3, .int .i64 sc4] 25) := ⟨_, rfl⟩
      rw [← hV7]
      have HV7 := Lib.hid (show Bx w [(w5.heap.size, #[.int .i64 sc0, .int .i64 sc1, .int .i64 sc2, .int .i64 sc3, .int .i64 sc4]), (BP, #[.int .i64 pc0, .int .i64 pc1, .int .i64 pc2, .int .i64 pc3, .int .i64 pc4]), (BC, #[.int .i64 q1, .int .i64 q2, .int .i64 q3]), (BL, #[.int .i64 x0, .int .i64 x1, .int .i64 x2, .int .i64 x3, .int .i64 x4, .int .i64 y0, .int .i64 y1, .int .i64 y2, .int .i64 y3, .int .i64 y4, .int .i64 m0, .int .i64 m1, .int .i64 m2, .int .i64 m3, .int .i64 m4]), (BO, #[.int .i64 sb0, .int .i64 sb1, .int .i64 sb2, .int .i64 sb3, .int .i64 sb4]), (B1, #[.int .i64 m0, .int .i64 m1, .int .i64 m2, .int .i64 m3, .int .i64 m4]), (w.heap.size + 4, #[.int .i64 0, .int .i64 0, .int .i64 0, .int .i64 0, .int .i64 0]), (w.heap.size + 3, #[.int .i64 y0, .int .i64 y1, .int .i64 y2, .int .i64 y3, .int .i64 y4]), (w.heap.size + 2, #[.int .i64 x0, .int .i64 x1, .int .i64 x2, .int .i64 x3, .int .i64 x4]), (w.heap.size + 1, #[.int .i64 q0, .int .i64 q1, .int .i64 q2, .int .i64 q3, .int .i64 q4]), (w.heap.size, #[.int .i64 c, .int .i64 d])] V7 from hV7 ▸ HB5.out.new _ _)
      have hlt7 := HB5.out.lt (List.mem_cons_self ..)
      clear hV7 HB5
      generalize w5.heap.size = BS at *
      obtain ⟨c0_0, c0_1, c0_2, c0_3, c0_4⟩ := HV7.out.five (List.mem_cons_self ..)
      obtain ⟨c4_0, c4_1, c4_2, c4_3, c4_4⟩ := HV7.out.five (List.mem_cons_of_mem _ (List.mem_cons_of_mem _ (List.mem_cons_of_mem _ (List.mem_cons_of_mem _ (List.mem_cons_self ..)))))
      obtain ⟨f0, f1, f2, f3, f4⟩ := HV7.out.fr (List.mem_cons_of_mem _ (List.mem_cons_of_mem _ (List.mem_cons_of_mem _ (List.mem_cons_of_mem _ (List.mem_cons_self ..)))))
      have hlt := HV7.out.lt (List.mem_cons_of_mem _ (List.mem_cons_of_mem _ (List.mem_cons_of_mem _ (List.mem_cons_of_mem _ (List.mem_cons_self ..)))))
      obtain ⟨W9, e9, B9, -⟩ := HV7.out.put5 (List.mem_cons_of_mem _ (List.mem_cons_of_mem _ (List.mem_cons_of_mem _ (List.mem_cons_of_mem _ (List.mem_cons_self ..))))) (.int .i64 sc0) (.int .i64 sc1) (.int .i64 sc2) (.int .i64 sc3) (.int .i64 sc4) (L' := [(BC, #[.int .i64 q1, .int .i64 q2, .int .i64 q3]), (BL, #[.int .i64 x0, .int .i64 x1, .int .i64 x2, .int .i64 x3, .int .i64 x4, .int .i64 y0, .int .i64 y1, .int .i64 y2, .int .i64 y3, .int .i64 y4, .int .i64 m0, .int .i64 m1, .int .i64 m2, .int .i64 m3, .int .i64 m4]), (BO, #[.int .i64 sc0, .int .i64 sc1, .int .i64 sc2, .int .i64 sc3, .int .i64 sc4]), (B1, #[.int .i64 m0, .int .i64 m1, .int .i64 m2, .int .i64 m3, .int .i64 m4]), (w.heap.size + 4, #[.int .i64 0, .int .i64 0, .int .i64 0, .int .i64 0, .int .i64 0]), (w.heap.size + 3, #[.int .i64 y0, .int .i64 y1, .int .i64 y2, .int .i64 y3, .int .i64 y4]), (w.heap.size + 2, #[.int .i64 x0, .int .i64 x1, .int .i64 x2, .int .i64 x3, .int .i64 x4]), (w.heap.size + 1, #[.int .i64 q0, .int .i64 q1, .int .i64 q2, .int .i64 q3, .int .i64 q4]), (w.heap.size, #[.int .i64 c, .int .i64 d])]) (by
        intro x hx
        simp only [List.mem_cons, List.not_mem_nil, or_false] at hx ⊢
        rcases hx with rfl | rfl | rfl | rfl | rfl | rfl | rfl | rfl | rfl
        · exact .inl ⟨.inr (.inr (.inl rfl)), by dsimp only; first | omega | assumption | exact Ne.symm (by assumption)⟩
        · exact .inl ⟨.inr (.inr (.inr (.inl rfl))), by dsimp only; first | omega | assumption | exact Ne.symm (by assumption)⟩
        · exact .inr rfl
        · exact .inl ⟨.inr (.inr (.inr (.inr (.inr (.inl rfl))))), by dsimp only; first | omega | assumption | exact Ne.symm (by assumption)⟩
        · exact .inl ⟨.inr (.inr (.inr (.inr (.inr (.inr (.inl rfl)))))), by dsimp only; first | omega | assumption | exact Ne.symm (by assumption)⟩
        · exact .inl ⟨.inr (.inr (.inr (.inr (.inr (.inr (.inr (.inl rfl))))))), by dsimp only; first | omega | assumption | exact Ne.symm (by assumption)⟩
        · exact .inl ⟨.inr (.inr (.inr (.inr (.inr (.inr (.inr (.inr (.inl rfl)))))))), by dsimp only; first | omega | assumption | exact Ne.symm (by assumption)⟩
        · exact .inl ⟨.inr (.inr (.inr (.inr (.inr (.inr (.inr (.inr (.inr (.inl rfl))))))))), by dsimp only; first | omega | assumption | exact Ne.symm (by assumption)⟩
        · exact .inl ⟨.inr (.inr (.inr (.inr (.inr (.inr (.inr (.inr (.inr (.inr rfl))))))))), by dsimp only; first | omega | assumption | exact Ne.symm (by assumption)⟩
        )
      have HB9 := Lib.hid B9; clear B9 HV7
      go_wp2_with fail
      exact ⟨⟨3, by first | rfl | go_num, by first | rfl | go_num, by omega, by rw [T3.out]; first | exact HB9.out | (rw [e9]; exact HB9.out)⟩, by simp [intOf]⟩
    obtain rfl : k = 3 := by omega
    rw [T3.out] at hst
    have HB := Lib.hid hst; clear hst hk k0 k1 k2
    obtain ⟨c2_0, c2_1, c2_2, c2_3, c2_4⟩ := HB.out.five (List.mem_cons_of_mem _ (List.mem_cons_of_mem _ (List.mem_cons_self ..)))
    obtain ⟨c4_0, c4_1, c4_2, c4_3, c4_4⟩ := HB.out.five (List.mem_cons_of_mem _ (List.mem_cons_of_mem _ (List.mem_cons_of_mem _ (List.mem_cons_of_mem _ (List.mem_cons_self ..)))))
    obtain ⟨f0, f1, f2, f3, f4⟩ := HB.out.fr (List.mem_cons_of_mem _ (List.mem_cons_of_mem _ (List.mem_cons_of_mem _ (List.mem_cons_of_mem _ (List.mem_cons_self ..)))))
    obtain ⟨W9, e9, B9, -, -, g0, g1, g2, g3, g4⟩ := HB.out.put5 (List.mem_cons_of_mem _ (List.mem_cons_of_mem _ (List.mem_cons_of_mem _ (List.mem_cons_of_mem _ (List.mem_cons_self ..))))) (.int .i64 sc0) (.int .i64 sc1) (.int .i64 sc2) (.int .i64 sc3) (.int .i64 sc4) (L' := []) (fun x hx => by cases hx)
    go_wp2_with fail
    try rw [e9]
    refine bodyPost_ret (v := .tuple #[.agg #[.int .i64 sc0, .int .i64 sc1, .int .i64 sc2, .int .i64 sc3, .int .i64 sc4], .bool true]) (by simp [results, Try.results34, go_sem, g0, g1, g2, g3, g4]) rfl ?_
    exact ⟨rfl, B9.below⟩

end Go.Proofs.Ytfjmhfmhijhpkaa
