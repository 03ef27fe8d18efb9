/- The matrix of an element modulo a prime; elements with small numbers. -/
import Derived.Test.YtfjmhfmhijhpkaaRim
import Derived.Test.YtfjmhfmhijhpkaaNms
import Derived.Test.YtfjmhfmhijhpkaaRrm
import Derived.Test.YtfjmhfmhijhpkaaMnm
namespace Go.Proofs.Ytfjmhfmhijhpkaa
open Go.RowKit FF

theorem tB {x y : Int} (hx : -3 ≤ x ∧ x ≤ 3) (hy : 0 ≤ y ∧ y ≤ 10000) : -30000 ≤ x * y ∧ x * y ≤ 30000 := by
  have := mulb hx (show -10000 ≤ y ∧ y ≤ 10000 by omega)
  simpa using this
theorem kB {x y : Int} (hx : 0 ≤ x ∧ x ≤ 10000) (hy : 0 ≤ y ∧ y ≤ 10000) : -100000000 ≤ x * y ∧ x * y ≤ 100000000 := by
  have := mulb (show -10000 ≤ x ∧ x ≤ 10000 by omega) (show -10000 ≤ y ∧ y ≤ 10000 by omega)
  simpa using this
/-- elements with numbers up to 3 -/
def tinyB (q : Qt) : Bool := winB q.w (-3) 3 && (winB q.x (-3) 3 && (winB q.y (-3) 3 && (winB q.z (-3) 3 && winB q.d 1 3)))

set_option maxHeartbeats 4000000 in
set_option maxRecDepth 100000 in
theorem tiny_any (p0 p1 p2 p3 p4 : Int) (w : World) :
    Calls Try.prog 11 #[qv ⟨p0, p1, p2, p3, p4⟩] w fun r w' => r = .returned (.bool (tinyB ⟨p0, p1, p2, p3, p4⟩)) ∧ Below w.heap.size w w' := by
  have h0 := fun w => bWithin_any p0 (-3) 3 w
  have h1 := fun w => bWithin_any p1 (-3) 3 w
  have h2 := fun w => bWithin_any p2 (-3) 3 w
  have h3 := fun w => bWithin_any p3 (-3) 3 w
  have h4 := fun w => bWithin_any p4 1 3 w
  simp only [tinyB, qv]
  generalize winB p0 (-3) 3 = b0 at *
  generalize winB p1 (-3) 3 = b1 at *
  generalize winB p2 (-3) 3 = b2 at *
  generalize winB p3 (-3) 3 = b3 at *
  generalize winB p4 1 3 = b4 at *
  have H0 := Lib.hid h0
  have H1 := Lib.hid h1
  have H2 := Lib.hid h2
  have H3 := Lib.hid h3
  have H4 := Lib.hid h4
  clear h0 h1 h2 h3 h4
  cases b0
  · show Calls _ _ _ _ (fun r w' => r = .returned (.bool false) ∧ Below w.heap.size w w')
    go_enter Try.func11, Try.ntmps11
    go_upto_region 1 with fail
    obtain ⟨W0, hW0⟩ : ∃ W0 : World, W0 = (w.alloc (.cells #[.int .i64 p0, .int .i64 p1, .int .i64 p2, .int .i64 p3, .int .i64 p4] 25)) := ⟨_, rfl⟩
    rw [← hW0]
    have HB0 := Lib.hid (show Bx w [(w.heap.size, #[.int .i64 p0, .int .i64 p1, .int .i64 p2, .int .i64 p3, .int .i64 p4])] W0 by rw [hW0]; simpa using ((Bx.nil (Below.refl w.heap.size w)).new #[.int .i64 p0, .int .i64 p1, .int .i64 p2, .int .i64 p3, .int .i64 p4] 25))
    clear hW0
    obtain ⟨c0_0, c0_1, c0_2, c0_3, c0_4⟩ := HB0.out.five (List.mem_cons_self ..)
    go_wp2_with fail
    refine (H0.out _).mono ?_
    rintro e0 w0 ⟨rfl, n0, rfl⟩
    clear c0_0 c0_1 c0_2 c0_3 c0_4
    have HC0 := Lib.hid (HB0.out.drewN n0)
    clear HB0
    obtain ⟨V0, hV0⟩ : ∃ V : World, V = W0.drewN n0 := ⟨_, rfl⟩
    rw [← hV0] at HC0 ⊢
    clear hV0
    go_wp2_with fail
    go_ret
    exact ⟨rfl, HC0.out.below⟩
  cases b1
  · show Calls _ _ _ _ (fun r w' => r = .returned (.bool false) ∧ Below w.heap.size w w')
    go_enter Try.func11, Try.ntmps11
    go_upto_region 1 with fail
    obtain ⟨W0, hW0⟩ : ∃ W0 : World, W0 = (w.alloc (.cells #[.int .i64 p0, .int .i64 p1, .int .i64 p2, .int .i64 p3, .int .i64 p4] 25)) := ⟨_, rfl⟩
    rw [← hW0]
    have HB0 := Lib.hid (show Bx w [(w.heap.size, #[.int .i64 p0, .int .i64 p1, .int .i64 p2, .int .i64 p3, .int .i64 p4])] W0 by rw [hW0]; simpa using ((Bx.nil (Below.refl w.heap.size w)).new #[.int .i64 p0, .int .i64 p1, .int .i64 p2, .int .i64 p3, .int .i64 p4] 25))
    clear hW0
    obtain ⟨c0_0, c0_1, c0_2, c0_3, c0_4⟩ := HB0.out.five (List.mem_cons_self ..)
    go_wp2_with fail
    refine (H0.out _).mono ?_
    rintro e0 w0 ⟨rfl, n0, rfl⟩
    clear c0_0 c0_1 c0_2 c0_3 c0_4
    have HC0 := Lib.hid (HB0.out.drewN n0)
    clear HB0
    obtain ⟨V0, hV0⟩ : ∃ V : World, V = W0.drewN n0 := ⟨_, rfl⟩
    rw [← hV0] at HC0 ⊢
    clear hV0
    obtain ⟨c0_0, c0_1, c0_2, c0_3, c0_4⟩ := HC0.out.five (List.mem_cons_self ..)
    go_wp2_with fail
    refine (H1.out _).mono ?_
    rintro e1 w1 ⟨rfl, n1, rfl⟩
    clear c0_0 c0_1 c0_2 c0_3 c0_4
    have HC1 := Lib.hid (HC0.out.drewN n1)
    clear HC0
    obtain ⟨V1, hV1⟩ : ∃ V : World, V = V0.drewN n1 := ⟨_, rfl⟩
    rw [← hV1] at HC1 ⊢
    clear hV1
    go_wp2_with fail
    go_ret
    exact ⟨rfl, HC1.out.below⟩
  cases b2
  · show Calls _ _ _ _ (fun r w' => r = .returned (.bool false) ∧ Below w.heap.size w w')
    go_enter Try.func11, Try.ntmps11
    go_upto_region 1 with fail
    obtain ⟨W0, hW0⟩ : ∃ W0 : World, W0 = (w.alloc (.cells #[.int .i64 p0, .int .i64 p1, .int .i64 p2, .int .i64 p3, .int .i64 p4] 25)) := ⟨_, rfl⟩
    rw [← hW0]
    have HB0 := Lib.hid (show Bx w [(w.heap.size, #[.int .i64 p0, .int .i64 p1, .int .i64 p2, .int .i64 p3, .int .i64 p4])] W0 by rw [hW0]; simpa using ((Bx.nil (Below.refl w.heap.size w)).new #[.int .i64 p0, .int .i64 p1, .int .i64 p2, .int .i64 p3, .int .i64 p4] 25))
    clear hW0
    obtain ⟨c0_0, c0_1, c0_2, c0_3, c0_4⟩ := HB0.out.five (List.mem_cons_self ..)
    go_wp2_with fail
    refine (H0.out _).mono ?_
    rintro e0 w0 ⟨rfl, n0, rfl⟩
    clear c0_0 c0_1 c0_2 c0_3 c0_4
    have HC0 := Lib.hid (HB0.out.drewN n0)
    clear HB0
    obtain ⟨V0, hV0⟩ : ∃ V : World, V = W0.drewN n0 := ⟨_, rfl⟩
    rw [← hV0] at HC0 ⊢
    clear hV0
    obtain ⟨c0_0, c0_1, c0_2, c0_3, c0_4⟩ := HC0.out.five (List.mem_cons_self ..)
    go_wp2_with fail
    refine (H1.out _).mono ?_
    rintro e1 w1 ⟨rfl, n1, rfl⟩
    clear c0_0 c0_1 c0_2 c0_3 c0_4
    have HC1 := Lib.hid (HC0.out.drewN n1)
    clear HC0
    obtain ⟨V1, hV1⟩ : ∃ V : World, V = V0.drewN n1 := ⟨_, rfl⟩
    rw [← hV1] at HC1 ⊢
    clear hV1
    obtain ⟨c0_0, c0_1, c0_2, c0_3, c0_4⟩ := HC1.out.five (List.mem_cons_self ..)
    go_wp2_with fail
    refine (H2.out _).mono ?_
    rintro e2 w2 ⟨rfl, n2, rfl⟩
    clear c0_0 c0_1 c0_2 c0_3 c0_4
    have HC2 := Lib.hid (HC1.out.drewN n2)
    clear HC1
    obtain ⟨V2, hV2⟩ : ∃ V : World, V = V1.drewN n2 := ⟨_, rfl⟩
    rw [← hV2] at HC2 ⊢
    clear hV2
    go_wp2_with fail
    go_ret
    exact ⟨rfl, HC2.out.below⟩
  cases b3
  · show Calls _ _ _ _ (fun r w' => r = .returned (.bool false) ∧ Below w.heap.size w w')
    go_enter Try.func11, Try.ntmps11
    go_upto_region 1 with fail
    obtain ⟨W0, hW0⟩ : ∃ W0 : World, W0 = (w.alloc (.cells #[.int .i64 p0, .int .i64 p1, .int .i64 p2, .int .i64 p3, .int .i64 p4] 25)) := ⟨_, rfl⟩
    rw [← hW0]
    have HB0 := Lib.hid (show Bx w [(w.heap.size, #[.int .i64 p0, .int .i64 p1, .int .i64 p2, .int .i64 p3, .int .i64 p4])] W0 by rw [hW0]; simpa using ((Bx.nil (Below.refl w.heap.size w)).new #[.int .i64 p0, .int .i64 p1, .int .i64 p2, .int .i64 p3, .int .i64 p4] 25))
    clear hW0
    obtain ⟨c0_0, c0_1, c0_2, c0_3, c0_4⟩ := HB0.out.five (List.mem_cons_self ..)
    go_wp2_with fail
    refine (H0.out _).mono ?_
    rintro e0 w0 ⟨rfl, n0, rfl⟩
    clear c0_0 c0_1 c0_2 c0_3 c0_4
    have HC0 := Lib.hid (HB0.out.drewN n0)
    clear HB0
    obtain ⟨V0, hV0⟩ : ∃ V : World, V = W0.drewN n0 := ⟨_, rfl⟩
    rw [← hV0] at HC0 ⊢
    clear hV0
    obtain ⟨c0_0, c0_1, c0_2, c0_3, c0_4⟩ := HC0.out.five (List.mem_cons_self ..)
    go_wp2_with fail
    refine (H1.out _).mono ?_
    rintro e1 w1 ⟨rfl, n1, rfl⟩
    clear c0_0 c0_1 c0_2 c0_3 c0_4
    have HC1 := Lib.hid (HC0.out.drewN n1)
    clear HC0
    obtain ⟨V1, hV1⟩ : ∃ V : World, V = V0.drewN n1 := ⟨_, rfl⟩
    rw [← hV1] at HC1 ⊢
    clear hV1
    obtain ⟨c0_0, c0_1, c0_2, c0_3, c0_4⟩ := HC1.out.five (List.mem_cons_self ..)
    go_wp2_with fail
    refine (H2.out _).mono ?_
    rintro e2 w2 ⟨rfl, n2, rfl⟩
    clear c0_0 c0_1 c0_2 c0_3 c0_4
    have HC2 := Lib.hid (HC1.out.drewN n2)
    clear HC1
    obtain ⟨V2, hV2⟩ : ∃ V : World, V = V1.drewN n2 := ⟨_, rfl⟩
    rw [← hV2] at HC2 ⊢
    clear hV2
    obtain ⟨c0_0, c0_1, c0_2, c0_3, c0_4⟩ := HC2.out.five (List.mem_cons_self ..)
    go_wp2_with fail
    refine (H3.out _).mono ?_
    rintro e3 w3 ⟨rfl, n3, rfl⟩
    clear c0_0 c0_1 c0_2 c0_3 c0_4
    have HC3 := Lib.hid (HC2.out.drewN n3)
    clear HC2
    obtain ⟨V3, hV3⟩ : ∃ V : World, V = V2.drewN n3 := ⟨_, rfl⟩
    rw [← hV3] at HC3 ⊢
    clear hV3
    go_wp2_with fail
    go_ret
    exact ⟨rfl, HC3.out.below⟩
  cases b4
  · show Calls _ _ _ _ (fun r w' => r = .returned (.bool false) ∧ Below w.heap.size w w')
    go_enter Try.func11, Try.ntmps11
    go_upto_region 1 with fail
    obtain ⟨W0, hW0⟩ : ∃ W0 : World, W0 = (w.alloc (.cells #[.int .i64 p0, .int .i64 p1, .int .i64 p2, .int .i64 p3, .int .i64 p4] 25)) := ⟨_, rfl⟩
    rw [← hW0]
    have HB0 := Lib.hid (show Bx w [(w.heap.size, #[.int .i64 p0, .int .i64 p1, .int .i64 p2, .int .i64 p3, .int .i64 p4])] W0 by rw [hW0]; simpa using ((Bx.nil (Below.refl w.heap.size w)).new #[.int .i64 p0, .int .i64 p1, .int .i64 p2, .int .i64 p3, .int .i64 p4] 25))
    clear hW0
    obtain ⟨c0_0, c0_1, c0_2, c0_3, c0_4⟩ := HB0.out.five (List.mem_cons_self ..)
    go_wp2_with fail
    refine (H0.out _).mono ?_
    rintro e0 w0 ⟨rfl, n0, rfl⟩
    clear c0_0 c0_1 c0_2 c0_3 c0_4
    have HC0 := Lib.hid (HB0.out.drewN n0)
    clear HB0
    obtain ⟨V0, hV0⟩ : ∃ V : World, V = W0.drewN n0 := ⟨_, rfl⟩
    rw [← hV0] at HC0 ⊢
    clear hV0
    obtain ⟨c0_0, c0_1, c0_2, c0_3, c0_4⟩ := HC0.out.five (List.mem_cons_self ..)
    go_wp2_with fail
    refine (H1.out _).mono ?_
    rintro e1 w1 ⟨rfl, n1, rfl⟩
    clear c0_0 c0_1 c0_2 c0_3 c0_4
    have HC1 := Lib.hid (HC0.out.drewN n1)
    clear HC0
    obtain ⟨V1, hV1⟩ : ∃ V : World, V = V0.drewN n1 := ⟨_, rfl⟩
    rw [← hV1] at HC1 ⊢
    clear hV1
    obtain ⟨c0_0, c0_1, c0_2, c0_3, c0_4⟩ := HC1.out.five (List.mem_cons_self ..)
    go_wp2_with fail
    refine (H2.out _).mono ?_
    rintro e2 w2 ⟨rfl, n2, rfl⟩
    clear c0_0 c0_1 c0_2 c0_3 c0_4
    have HC2 := Lib.hid (HC1.out.drewN n2)
    clear HC1
    obtain ⟨V2, hV2⟩ : ∃ V : World, V = V1.drewN n2 := ⟨_, rfl⟩
    rw [← hV2] at HC2 ⊢
    clear hV2
    obtain ⟨c0_0, c0_1, c0_2, c0_3, c0_4⟩ := HC2.out.five (List.mem_cons_self ..)
    go_wp2_with fail
    refine (H3.out _).mono ?_
    rintro e3 w3 ⟨rfl, n3, rfl⟩
    clear c0_0 c0_1 c0_2 c0_3 c0_4
    have HC3 := Lib.hid (HC2.out.drewN n3)
    clear HC2
    obtain ⟨V3, hV3⟩ : ∃ V : World, V = V2.drewN n3 := ⟨_, rfl⟩
    rw [← hV3] at HC3 ⊢
    clear hV3
    obtain ⟨c0_0, c0_1, c0_2, c0_3, c0_4⟩ := HC3.out.five (List.mem_cons_self ..)
    go_wp2_with fail
    refine (H4.out _).mono ?_
    rintro e4 w4 ⟨rfl, n4, rfl⟩
    clear c0_0 c0_1 c0_2 c0_3 c0_4
    have HC4 := Lib.hid (HC3.out.drewN n4)
    clear HC3
    obtain ⟨V4, hV4⟩ : ∃ V : World, V = V3.drewN n4 := ⟨_, rfl⟩
    rw [← hV4] at HC4 ⊢
    clear hV4
    go_wp2_with fail
    go_ret
    exact ⟨rfl, HC4.out.below⟩
  show Calls _ _ _ _ (fun r w' => r = .returned (.bool true) ∧ Below w.heap.size w w')
  go_enter Try.func11, Try.ntmps11
  go_upto_region 1 with fail
  obtain ⟨W0, hW0⟩ : ∃ W0 : World, W0 = (w.alloc (.cells #[.int .i64 p0, .int .i64 p1, .int .i64 p2, .int .i64 p3, .int .i64 p4] 25)) := ⟨_, rfl⟩
  rw [← hW0]
  have HB0 := Lib.hid (show Bx w [(w.heap.size, #[.int .i64 p0, .int .i64 p1, .int .i64 p2, .int .i64 p3, .int .i64 p4])] W0 by rw [hW0]; simpa using ((Bx.nil (Below.refl w.heap.size w)).new #[.int .i64 p0, .int .i64 p1, .int .i64 p2, .int .i64 p3, .int .i64 p4] 25))
  clear hW0
  obtain ⟨c0_0, c0_1, c0_2, c0_3, c0_4⟩ := HB0.out.five (List.mem_cons_self ..)
  go_wp2_with fail
  refine (H0.out _).mono ?_
  rintro e0 w0 ⟨rfl, n0, rfl⟩
  clear c0_0 c0_1 c0_2 c0_3 c0_4
  have HC0 := Lib.hid (HB0.out.drewN n0)
  clear HB0
  obtain ⟨V0, hV0⟩ : ∃ V : World, V = W0.drewN n0 := ⟨_, rfl⟩
  rw [← hV0] at HC0 ⊢
  clear hV0
  obtain ⟨c0_0, c0_1, c0_2, c0_3, c0_4⟩ := HC0.out.five (List.mem_cons_self ..)
  go_wp2_with fail
  refine (H1.out _).mono ?_
  rintro e1 w1 ⟨rfl, n1, rfl⟩
  clear c0_0 c0_1 c0_2 c0_3 c0_4
  have HC1 := Lib.hid (HC0.out.drewN n1)
  clear HC0
  obtain ⟨V1, hV1⟩ : ∃ V : World, V = V0.drewN n1 := ⟨_, rfl⟩
  rw [← hV1] at HC1 ⊢
  clear hV1
  obtain ⟨c0_0, c0_1, c0_2, c0_3, c0_4⟩ := HC1.out.five (List.mem_cons_self ..)
  go_wp2_with fail
  refine (H2.out _).mono ?_
  rintro e2 w2 ⟨rfl, n2, rfl⟩
  clear c0_0 c0_1 c0_2 c0_3 c0_4
  have HC2 := Lib.hid (HC1.out.drewN n2)
  clear HC1
  obtain ⟨V2, hV2⟩ : ∃ V : World, V = V1.drewN n2 := ⟨_, rfl⟩
  rw [← hV2] at HC2 ⊢
  clear hV2
  obtain ⟨c0_0, c0_1, c0_2, c0_3, c0_4⟩ := HC2.out.five (List.mem_cons_self ..)
  go_wp2_with fail
  refine (H3.out _).mono ?_
  rintro e3 w3 ⟨rfl, n3, rfl⟩
  clear c0_0 c0_1 c0_2 c0_3 c0_4
  have HC3 := Lib.hid (HC2.out.drewN n3)
  clear HC2
  obtain ⟨V3, hV3⟩ : ∃ V : World, V = V2.drewN n3 := ⟨_, rfl⟩
  rw [← hV3] at HC3 ⊢
  clear hV3
  obtain ⟨c0_0, c0_1, c0_2, c0_3, c0_4⟩ := HC3.out.five (List.mem_cons_self ..)
  go_wp2_with fail
  refine (H4.out _).mono ?_
  rintro e4 w4 ⟨rfl, n4, rfl⟩
  clear c0_0 c0_1 c0_2 c0_3 c0_4
  have HC4 := Lib.hid (HC3.out.drewN n4)
  clear HC3
  obtain ⟨V4, hV4⟩ : ∃ V : World, V = V3.drewN n4 := ⟨_, rfl⟩
  rw [← hV4] at HC4 ⊢
  clear hV4
  go_wp2_with fail
  go_ret
  exact ⟨rfl, HC4.out.below⟩

set_option maxHeartbeats 40000000 in
set_option maxRecDepth 100000 in
theorem modulo_any (U X Y Z D i0 i1 i2 i3 j0 j1 j2 j3 p : Int) (w : World) (hi0 : 0 ≤ i0 ∧ i0 ≤ 10000) (hi1 : 0 ≤ i1 ∧ i1 ≤ 10000) (hi2 : 0 ≤ i2 ∧ i2 ≤ 10000) (hi3 : 0 ≤ i3 ∧ i3 ≤ 10000) (hj0 : 0 ≤ j0 ∧ j0 ≤ 10000) (hj1 : 0 ≤ j1 ∧ j1 ≤ 10000) (hj2 : 0 ≤ j2 ∧ j2 ≤ 10000) (hj3 : 0 ≤ j3 ∧ j3 ≤ 10000) (hU : -3 ≤ U ∧ U ≤ 3) (hX : -3 ≤ X ∧ X ≤ 3) (hY : -3 ≤ Y ∧ Y ≤ 3) (hZ : -3 ≤ Z ∧ Z ≤ 3) (hp : 2 < p) (hp9 : p ≤ 10000) :
    Calls Try.prog 16 #[.agg #[.int .i64 U, .int .i64 X, .int .i64 Y, .int .i64 Z, .int .i64 D], .agg #[.int .i64 i0, .int .i64 i1, .int .i64 i2, .int .i64 i3], .agg #[.int .i64 j0, .int .i64 j1, .int .i64 j2, .int .i64 j3], .int .i64 p] w fun r w' => r = .returned (.agg #[.int .i64 ((U + X * i0 + Y * j0 + Z * ((i0 * j0 + i1 * j2) % p)) % p), .int .i64 ((X * i1 + Y * j1 + Z * ((i0 * j1 + i1 * j3) % p)) % p), .int .i64 ((X * i2 + Y * j2 + Z * ((i2 * j0 + i3 * j2) % p)) % p), .int .i64 ((U + X * i3 + Y * j3 + Z * ((i2 * j1 + i3 * j3) % p)) % p)]) ∧ Below w.heap.size w w' := by
  have bi0j0 := kB hi0 hj0
  have wi0j0 : IntKind.i64.wrap (i0 * j0) = i0 * j0 := wrap_id _ (by omega) (by omega)
  have bi1j2 := kB hi1 hj2
  have wi1j2 : IntKind.i64.wrap (i1 * j2) = i1 * j2 := wrap_id _ (by omega) (by omega)
  have bi0j1 := kB hi0 hj1
  have wi0j1 : IntKind.i64.wrap (i0 * j1) = i0 * j1 := wrap_id _ (by omega) (by omega)
  have bi1j3 := kB hi1 hj3
  have wi1j3 : IntKind.i64.wrap (i1 * j3) = i1 * j3 := wrap_id _ (by omega) (by omega)
  have bi2j0 := kB hi2 hj0
  have wi2j0 : IntKind.i64.wrap (i2 * j0) = i2 * j0 := wrap_id _ (by omega) (by omega)
  have bi3j2 := kB hi3 hj2
  have wi3j2 : IntKind.i64.wrap (i3 * j2) = i3 * j2 := wrap_id _ (by omega) (by omega)
  have bi2j1 := kB hi2 hj1
  have wi2j1 : IntKind.i64.wrap (i2 * j1) = i2 * j1 := wrap_id _ (by omega) (by omega)
  have bi3j3 := kB hi3 hj3
  have wi3j3 : IntKind.i64.wrap (i3 * j3) = i3 * j3 := wrap_id _ (by omega) (by omega)
  have wk0 : IntKind.i64.wrap (i0 * j0 + i1 * j2) = i0 * j0 + i1 * j2 := wrap_id _ (by omega) (by omega)
  have wk1 : IntKind.i64.wrap (i0 * j1 + i1 * j3) = i0 * j1 + i1 * j3 := wrap_id _ (by omega) (by omega)
  have wk2 : IntKind.i64.wrap (i2 * j0 + i3 * j2) = i2 * j0 + i3 * j2 := wrap_id _ (by omega) (by omega)
  have wk3 : IntKind.i64.wrap (i2 * j1 + i3 * j3) = i2 * j1 + i3 * j3 := wrap_id _ (by omega) (by omega)
  have hI : ∀ t : Int, 0 ≤ t % p ∧ t % p ≤ 10000 := fun t => ⟨Int.emod_nonneg _ (by omega), by have := Int.emod_lt_of_pos t (show 0 < p by omega); omega⟩
  have hr0 := hI (i0 * j0 + i1 * j2)
  have hK0 := fun w => bMod_any (i0 * j0 + i1 * j2) p w ⟨by omega, by omega⟩ (by omega) ⟨by omega, by omega⟩
  have hr1 := hI (i0 * j1 + i1 * j3)
  have hK1 := fun w => bMod_any (i0 * j1 + i1 * j3) p w ⟨by omega, by omega⟩ (by omega) ⟨by omega, by omega⟩
  have hr2 := hI (i2 * j0 + i3 * j2)
  have hK2 := fun w => bMod_any (i2 * j0 + i3 * j2) p w ⟨by omega, by omega⟩ (by omega) ⟨by omega, by omega⟩
  have hr3 := hI (i2 * j1 + i3 * j3)
  have hK3 := fun w => bMod_any (i2 * j1 + i3 * j3) p w ⟨by omega, by omega⟩ (by omega) ⟨by omega, by omega⟩
  generalize hR0 : (i0 * j0 + i1 * j2) % p = r0 at *
  generalize hR1 : (i0 * j1 + i1 * j3) % p = r1 at *
  generalize hR2 : (i2 * j0 + i3 * j2) % p = r2 at *
  generalize hR3 : (i2 * j1 + i3 * j3) % p = r3 at *
  have bXi0 := tB hX hi0
  have wXi0 : IntKind.i64.wrap (X * i0) = X * i0 := wrap_id _ (by omega) (by omega)
  have bXi1 := tB hX hi1
  have wXi1 : IntKind.i64.wrap (X * i1) = X * i1 := wrap_id _ (by omega) (by omega)
  have bXi2 := tB hX hi2
  have wXi2 : IntKind.i64.wrap (X * i2) = X * i2 := wrap_id _ (by omega) (by omega)
  have bXi3 := tB hX hi3
  have wXi3 : IntKind.i64.wrap (X * i3) = X * i3 := wrap_id _ (by omega) (by omega)
  have bYj0 := tB hY hj0
  have wYj0 : IntKind.i64.wrap (Y * j0) = Y * j0 := wrap_id _ (by omega) (by omega)
  have bYj1 := tB hY hj1
  have wYj1 : IntKind.i64.wrap (Y * j1) = Y * j1 := wrap_id _ (by omega) (by omega)
  have bYj2 := tB hY hj2
  have wYj2 : IntKind.i64.wrap (Y * j2) = Y * j2 := wrap_id _ (by omega) (by omega)
  have bYj3 := tB hY hj3
  have wYj3 : IntKind.i64.wrap (Y * j3) = Y * j3 := wrap_id _ (by omega) (by omega)
  have bZ0 := tB hZ hr0
  have wZ0 : IntKind.i64.wrap (Z * r0) = Z * r0 := wrap_id _ (by omega) (by omega)
  have bZ1 := tB hZ hr1
  have wZ1 : IntKind.i64.wrap (Z * r1) = Z * r1 := wrap_id _ (by omega) (by omega)
  have bZ2 := tB hZ hr2
  have wZ2 : IntKind.i64.wrap (Z * r2) = Z * r2 := wrap_id _ (by omega) (by omega)
  have bZ3 := tB hZ hr3
  have wZ3 : IntKind.i64.wrap (Z * r3) = Z * r3 := wrap_id _ (by omega) (by omega)
  have ws0 : IntKind.i64.wrap (U + X * i0) = U + X * i0 := wrap_id _ (by omega) (by omega)
  have ws1 : IntKind.i64.wrap (U + X * i0 + Y * j0) = U + X * i0 + Y * j0 := wrap_id _ (by omega) (by omega)
  have ws2 : IntKind.i64.wrap (U + X * i0 + Y * j0 + Z * r0) = U + X * i0 + Y * j0 + Z * r0 := wrap_id _ (by omega) (by omega)
  have ws3 : IntKind.i64.wrap (X * i1 + Y * j1) = X * i1 + Y * j1 := wrap_id _ (by omega) (by omega)
  have ws4 : IntKind.i64.wrap (X * i1 + Y * j1 + Z * r1) = X * i1 + Y * j1 + Z * r1 := wrap_id _ (by omega) (by omega)
  have ws5 : IntKind.i64.wrap (X * i2 + Y * j2) = X * i2 + Y * j2 := wrap_id _ (by omega) (by omega)
  have ws6 : IntKind.i64.wrap (X * i2 + Y * j2 + Z * r2) = X * i2 + Y * j2 + Z * r2 := wrap_id _ (by omega) (by omega)
  have ws7 : IntKind.i64.wrap (U + X * i3) = U + X * i3 := wrap_id _ (by omega) (by omega)
  have ws8 : IntKind.i64.wrap (U + X * i3 + Y * j3) = U + X * i3 + Y * j3 := wrap_id _ (by omega) (by omega)
  have ws9 : IntKind.i64.wrap (U + X * i3 + Y * j3 + Z * r3) = U + X * i3 + Y * j3 + Z * r3 := wrap_id _ (by omega) (by omega)
  have hT0 := fun w => bMod_any (U + X * i0 + Y * j0 + Z * r0) p w ⟨by omega, by omega⟩ (by omega) ⟨by omega, by omega⟩
  have hT1 := fun w => bMod_any (X * i1 + Y * j1 + Z * r1) p w ⟨by omega, by omega⟩ (by omega) ⟨by omega, by omega⟩
  have hT2 := fun w => bMod_any (X * i2 + Y * j2 + Z * r2) p w ⟨by omega, by omega⟩ (by omega) ⟨by omega, by omega⟩
  have hT3 := fun w => bMod_any (U + X * i3 + Y * j3 + Z * r3) p w ⟨by omega, by omega⟩ (by omega) ⟨by omega, by omega⟩
  generalize (U + X * i0 + Y * j0 + Z * r0) % p = E0 at *
  generalize (X * i1 + Y * j1 + Z * r1) % p = E1 at *
  generalize (X * i2 + Y * j2 + Z * r2) % p = E2 at *
  generalize (U + X * i3 + Y * j3 + Z * r3) % p = E3 at *
  have HK0 := Lib.hid hK0; have HT0 := Lib.hid hT0
  have HK1 := Lib.hid hK1; have HT1 := Lib.hid hT1
  have HK2 := Lib.hid hK2; have HT2 := Lib.hid hT2
  have HK3 := Lib.hid hK3; have HT3 := Lib.hid hT3
  clear hK0 hT0 hr0 hR0 bZ0 hK1 hT1 hr1 hR1 bZ1 hK2 hT2 hr2 hR2 bZ2 hK3 hT3 hr3 hR3 bZ3 hI bi0j0 bi0j1 bi1j2 bi1j3 bi2j0 bi2j1 bi3j2 bi3j3 bXi0 bXi1 bXi2 bXi3 bYj0 bYj1 bYj2 bYj3 hi0 hi1 hi2 hi3 hj0 hj1 hj2 hj3 hU hX hY hZ
  go_enter Try.func16, Try.ntmps16
  go_upto_region 1 with fail
  obtain ⟨W0, hW0⟩ : ∃ W0 : World, W0 = ((((w.alloc (.cells #[.int .i64 U, .int .i64 X, .int .i64 Y, .int .i64 Z, .int .i64 D] 25)).alloc (.cells #[.int .i64 i0, .int .i64 i1, .int .i64 i2, .int .i64 i3] 31)).alloc (.cells #[.int .i64 j0, .int .i64 j1, .int .i64 j2, .int .i64 j3] 31)).alloc (.cells #[.int .i64 0, .int .i64 0, .int .i64 0, .int .i64 0] 41)) := ⟨_, rfl⟩
  rw [← hW0]
  have HB0 := Lib.hid (show Bx w [(w.heap.size + 3, #[.int .i64 0, .int .i64 0, .int .i64 0, .int .i64 0]), (w.heap.size + 2, #[.int .i64 j0, .int .i64 j1, .int .i64 j2, .int .i64 j3]), (w.heap.size + 1, #[.int .i64 i0, .int .i64 i1, .int .i64 i2, .int .i64 i3]), (w.heap.size, #[.int .i64 U, .int .i64 X, .int .i64 Y, .int .i64 Z, .int .i64 D])] W0 by rw [hW0]; simpa using (((((Bx.nil (Below.refl w.heap.size w)).new #[.int .i64 U, .int .i64 X, .int .i64 Y, .int .i64 Z, .int .i64 D] 25).new #[.int .i64 i0, .int .i64 i1, .int .i64 i2, .int .i64 i3] 31).new #[.int .i64 j0, .int .i64 j1, .int .i64 j2, .int .i64 j3] 31).new #[.int .i64 0, .int .i64 0, .int .i64 0, .int .i64 0] 41))
  clear hW0
  obtain ⟨c0_0, c0_1, c0_2, c0_3⟩ := HB0.out.four (List.mem_cons_self ..)
  obtain ⟨c1_0, c1_1, c1_2, c1_3⟩ := HB0.out.four (List.mem_cons_of_mem _ (List.mem_cons_self ..))
  obtain ⟨c2_0, c2_1, c2_2, c2_3⟩ := HB0.out.four (List.mem_cons_of_mem _ (List.mem_cons_of_mem _ (List.mem_cons_self ..)))
  obtain ⟨c3_0, c3_1, c3_2, c3_3, c3_4⟩ := HB0.out.five (List.mem_cons_of_mem _ (List.mem_cons_of_mem _ (List.mem_cons_of_mem _ (List.mem_cons_self ..))))
  go_upto_region 2 with fail
  obtain ⟨V1, hV1⟩ : ∃ V1 : World, V1 = W0.alloc (.cells #[.int .i64 (i0 * j0 + i1 * j2), .int .i64 (i0 * j1 + i1 * j3), .int .i64 (i2 * j0 + i3 * j2), .int .i64 (i2 * j1 + i3 * j3)] 31) := ⟨_, rfl⟩
  rw [← hV1]
  have HV1 := Lib.hid (show Bx w [(W0.heap.size, #[.int .i64 (i0 * j0 + i1 * j2), .int .i64 (i0 * j1 + i1 * j3), .int .i64 (i2 * j0 + i3 * j2), .int .i64 (i2 * j1 + i3 * j3)]), (w.heap.size + 3, #[.int .i64 0, .int .i64 0, .int .i64 0, .int .i64 0]), (w.heap.size + 2, #[.int .i64 j0, .int .i64 j1, .int .i64 j2, .int .i64 j3]), (w.heap.size + 1, #[.int .i64 i0, .int .i64 i1, .int .i64 i2, .int .i64 i3]), (w.heap.size, #[.int .i64 U, .int .i64 X, .int .i64 Y, .int .i64 Z, .int .i64 D])] V1 from hV1 ▸ HB0.out.new _ _)
  have hlt1 := HB0.out.lt (List.mem_cons_self ..)
  clear hV1 HB0
  generalize W0.heap.size = g at *
  clear c0_0 c0_1 c0_2 c0_3 c1_0 c1_1 c1_2 c1_3 c2_0 c2_1 c2_2 c2_3 c3_0 c3_1 c3_2 c3_3 c3_4
  obtain ⟨c0_0, c0_1, c0_2, c0_3⟩ := HV1.out.four (List.mem_cons_self ..)
  obtain ⟨c2_0, c2_1, c2_2, c2_3⟩ := HV1.out.four (List.mem_cons_of_mem _ (List.mem_cons_of_mem _ (List.mem_cons_self ..)))
  obtain ⟨c3_0, c3_1, c3_2, c3_3⟩ := HV1.out.four (List.mem_cons_of_mem _ (List.mem_cons_of_mem _ (List.mem_cons_of_mem _ (List.mem_cons_self ..))))
  obtain ⟨c4_0, c4_1, c4_2, c4_3, c4_4⟩ := HV1.out.five (List.mem_cons_of_mem _ (List.mem_cons_of_mem _ (List.mem_cons_of_mem _ (List.mem_cons_of_mem _ (List.mem_cons_self ..)))))
  have hcr := (HV1.out.own _ (List.mem_cons_of_mem _ (List.mem_cons_self ..))).2
  obtain ⟨f0, f1, f2, f3, f4⟩ := hcr.fr
  obtain ⟨z0, z1, z2, z3⟩ := HV1.out.four (List.mem_cons_of_mem _ (List.mem_cons_self ..))
  refine wp_region_quiet_tail (C := fun w' => ∃ n, w' = V1.drewN n) 91 (by kernel_rfl) (by kernel_rfl) ⟨1, rfl⟩ ?_
  simp only [List.append, List.take_succ_cons, List.take_zero, List.drop_succ_cons, List.drop_zero]
  repeat (go_big_quiet_step (first | (go_at_call 17; with_reducible refine Calls.quiet_of (HK0.out _)) | (go_at_call 17; with_reducible refine Calls.quiet_of (HT0.out _)) | (go_at_call 17; with_reducible refine Calls.quiet_of (HK1.out _)) | (go_at_call 17; with_reducible refine Calls.quiet_of (HT1.out _)) | (go_at_call 17; with_reducible refine Calls.quiet_of (HK2.out _)) | (go_at_call 17; with_reducible refine Calls.quiet_of (HT2.out _)) | (go_at_call 17; with_reducible refine Calls.quiet_of (HK3.out _)) | (go_at_call 17; with_reducible refine Calls.quiet_of (HT3.out _))))
  refine wpQuiet_nil ?_
  rintro _ ⟨nq, rfl⟩
  clear c0_0 c0_1 c0_2 c0_3 c2_0 c2_1 c2_2 c2_3 c3_0 c3_1 c3_2 c3_3 c4_0 c4_1 c4_2 c4_3 c4_4
  clear z0 z1 z2 z3 f0 f1 f2 f3 f4 hcr
  obtain ⟨V5, hV5⟩ : ∃ V5 : World, V5 = V1.drewN nq := ⟨_, rfl⟩
  rw [← hV5]
  have HV5 := Lib.hid (show Bx w [(g, #[.int .i64 (i0 * j0 + i1 * j2), .int .i64 (i0 * j1 + i1 * j3), .int .i64 (i2 * j0 + i3 * j2), .int .i64 (i2 * j1 + i3 * j3)]), (w.heap.size + 3, #[.int .i64 0, .int .i64 0, .int .i64 0, .int .i64 0]), (w.heap.size + 2, #[.int .i64 j0, .int .i64 j1, .int .i64 j2, .int .i64 j3]), (w.heap.size + 1, #[.int .i64 i0, .int .i64 i1, .int .i64 i2, .int .i64 i3]), (w.heap.size, #[.int .i64 U, .int .i64 X, .int .i64 Y, .int .i64 Z, .int .i64 D])] V5 from hV5 ▸ HV1.out.drewN nq)
  clear hV5 HV1
  have hcr := (HV5.out.own _ (List.mem_cons_of_mem _ (List.mem_cons_self ..))).2
  obtain ⟨f0, f1, f2, f3, f4⟩ := hcr.fr
  obtain ⟨z0, z1, z2, z3⟩ := HV5.out.four (List.mem_cons_of_mem _ (List.mem_cons_self ..))
  go_wp2_with fail
  obtain ⟨W9, hW9⟩ : ∃ W9, ((((V5.setCell ⟨w.heap.size + 3, 0, none⟩ (.int .i64 E0)).setCell ⟨w.heap.size + 3, 1, none⟩ (.int .i64 E1)).setCell ⟨w.heap.size + 3, 2, none⟩ (.int .i64 E2)).setCell ⟨w.heap.size + 3, 3, none⟩ (.int .i64 E3)) = W9 := ⟨_, rfl⟩
  obtain ⟨q0, q1, q2, q3⟩ := (hcr.put4 (.int .i64 E0) (.int .i64 E1) (.int .i64 E2) (.int .i64 E3)).four
  have hB9 := below_set4 (b := w.heap.size + 3) HV5.out.below (by omega) (.int .i64 E0) (.int .i64 E1) (.int .i64 E2) (.int .i64 E3)
  rw [hW9] at q0 q1 q2 q3 hB9
  try rw [hW9]
  refine bodyPost_ret (v := .agg #[.int .i64 E0, .int .i64 E1, .int .i64 E2, .int .i64 E3]) (by simp [results, Try.results16, go_sem, q0, q1, q2, q3]) rfl ?_
  exact ⟨rfl, hB9⟩


end Go.Proofs.Ytfjmhfmhijhpkaa
