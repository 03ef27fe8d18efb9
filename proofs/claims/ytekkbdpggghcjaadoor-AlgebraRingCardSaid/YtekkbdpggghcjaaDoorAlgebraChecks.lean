/- The law AlgebraChecks answers true at all algebras and elements. -/
import Derived.Test.YtekkbdpggghcjaaDoorAw30
import Derived.Test.YtekkbdpggghcjaaDoorQo0
namespace Go.Proofs.YtekkbdpggghcjaaDoor
open Go.RowKit FF

theorem same_refl (p0 p1 p2 p3 p4 e : Int) (w : World) :
    Calls Tryd.prog 19 #[.agg #[.int .i64 p0, .int .i64 p1, .int .i64 p2, .int .i64 p3, .int .i64 p4], .int .i64 e, .agg #[.int .i64 p0, .int .i64 p1, .int .i64 p2, .int .i64 p3, .int .i64 p4], .int .i64 e] w fun r w' => r = .returned (.bool true) ∧ Below w.heap.size w w' := by
  go_enter Tryd.func19, Tryd.ntmps19
  go_wp2_with fail
  go_ret
  exact ⟨rfl, below_2 _ _⟩

set_option maxHeartbeats 4000000 in
set_option maxRecDepth 100000 in
theorem AlgebraChecks_law (a b p0 p1 p2 p3 p4 : Int) (w : World) :
    Calls Tryd.prog 3 #[.agg #[.int .i64 a, .int .i64 b], qv ⟨p0, p1, p2, p3, p4⟩] w fun e w' => e = .returned (.bool true) ∧ Below w.heap.size w w' := by
  have HA := Lib.hid awake3_any
  have HC := Lib.hid (fun w => qCheck_any a b w)
  have HRC := Lib.hid (fun w => rCheck_any a b w)
  generalize aE a b = E at *
  have HN0 := Lib.hid (fun w => qNormal_any ⟨p0, p1, p2, p3, p4⟩ w)
  have HQ0 := Lib.hid (fun w => rCheckQuat_any ⟨p0, p1, p2, p3, p4⟩ w)
  have HK0 := Lib.hid (fun w => qcheck_any ⟨p0, p1, p2, p3, p4⟩ w)
  rcases qE_cases ⟨p0, p1, p2, p3, p4⟩ with ⟨hq, hE⟩ | ⟨hq, hE⟩
  · have hf := fitQ_of hq
    have hf2 := fitE_of hq
    have k4 := (qB_iff.1 hq).2.2.2.2
    have HRN := Lib.hid (fun w => rNormal_any ⟨p0, p1, p2, p3, p4⟩ w (fitBound_of hq) (show p4 ≠ 0 by simp only at k4; omega))
    rw [hE] at HN0 HQ0 HK0
    have e1 : resQ 0 ⟨p0, p1, p2, p3, p4⟩ = nrm ⟨p0, p1, p2, p3, p4⟩ := (if_pos rfl).trans hf
    have e2 : resE 0 ⟨p0, p1, p2, p3, p4⟩ = 0 := (if_pos rfl).trans hf2
    rw [e1, e2] at HN0
    clear e1 e2 hf hf2 k4 hE hq
    generalize nrm ⟨p0, p1, p2, p3, p4⟩ = M at *
    obtain ⟨n0, n1, n2, n3, n4⟩ := M
    simp only [qv] at HN0 HQ0 HK0 HRN
    have HN := Lib.hid HN0.out; have HQ := Lib.hid HQ0.out; have HK := Lib.hid HK0.out
    clear HN0 HQ0 HK0
    simp only [qv]
    go_enter Tryd.func3, Tryd.ntmps3
    go_upto_region 1 with fail
    obtain ⟨W0, hW0⟩ : ∃ W0 : World, W0 = ((w.alloc (.cells #[.int .i64 a, .int .i64 b] 23)).alloc (.cells #[.int .i64 p0, .int .i64 p1, .int .i64 p2, .int .i64 p3, .int .i64 p4] 25)) := ⟨_, rfl⟩
    rw [← hW0]
    have HB0 := Lib.hid (show Bx w [(w.heap.size + 1, #[.int .i64 p0, .int .i64 p1, .int .i64 p2, .int .i64 p3, .int .i64 p4]), (w.heap.size, #[.int .i64 a, .int .i64 b])] W0 by rw [hW0]; simpa using (((Bx.nil (Below.refl w.heap.size w)).new #[.int .i64 a, .int .i64 b] 23).new #[.int .i64 p0, .int .i64 p1, .int .i64 p2, .int .i64 p3, .int .i64 p4] 25))
    clear hW0
    go_wp2_with fail
    refine (HA.out _).mono ?_
    rintro e1 w1 ⟨rfl, hbb⟩
    have HB1 := Lib.hid (HB0.out.keep hbb)
    clear hbb HB0
    go_upto_region 3 with fail
    obtain ⟨c0_0, c0_1, c0_2, c0_3, c0_4⟩ := HB1.out.five (List.mem_cons_self ..)
    go_wp2_with fail
    refine (HN.out _).mono ?_
    rintro e2 w2 ⟨rfl, hbb⟩
    have HB2 := Lib.hid (HB1.out.keep hbb)
    clear c0_0 c0_1 c0_2 c0_3 c0_4
    clear hbb HB1
    go_upto_region 4 with fail
    obtain ⟨V1, hV1⟩ : ∃ V1 : World, V1 = w2.alloc (.cells #[.int .i64 n0, .int .i64 n1, .int .i64 n2, .int .i64 n3, .int .i64 n4] 25) := ⟨_, rfl⟩
    rw [← hV1]
    have HV1 := Lib.hid (show Bx w [(w2.heap.size, #[.int .i64 n0, .int .i64 n1, .int .i64 n2, .int .i64 n3, .int .i64 n4]), (w.heap.size + 1, #[.int .i64 p0, .int .i64 p1, .int .i64 p2, .int .i64 p3, .int .i64 p4]), (w.heap.size, #[.int .i64 a, .int .i64 b])] V1 from hV1 ▸ HB2.out.new _ _)
    have hlt1 := HB2.out.lt (List.mem_cons_self ..)
    clear hV1 HB2
    generalize w2.heap.size = B1 at *
    obtain ⟨c1_0, c1_1, c1_2, c1_3, c1_4⟩ := HV1.out.five (List.mem_cons_of_mem _ (List.mem_cons_self ..))
    go_wp2_with fail
    refine (HQ.out _).mono ?_
    rintro e3 w3 ⟨rfl, hbb⟩
    have HB3 := Lib.hid (HV1.out.keep hbb)
    clear c1_0 c1_1 c1_2 c1_3 c1_4
    clear hbb HV1
    go_upto_region 6 with fail
    obtain ⟨V2, hV2⟩ : ∃ V2 : World, V2 = w3.alloc (.cells #[.int .i64 0, .int .i64 0, .int .i64 0, .int .i64 0, .int .i64 0] 25) := ⟨_, rfl⟩
    rw [← hV2]
    have HV2 := Lib.hid (show Bx w [(w3.heap.size, #[.int .i64 0, .int .i64 0, .int .i64 0, .int .i64 0, .int .i64 0]), (B1, #[.int .i64 n0, .int .i64 n1, .int .i64 n2, .int .i64 n3, .int .i64 n4]), (w.heap.size + 1, #[.int .i64 p0, .int .i64 p1, .int .i64 p2, .int .i64 p3, .int .i64 p4]), (w.heap.size, #[.int .i64 a, .int .i64 b])] V2 from hV2 ▸ HB3.out.new _ _)
    have hlt2 := HB3.out.lt (List.mem_cons_self ..)
    clear hV2 HB3
    generalize w3.heap.size = B2 at *
    go_upto_region 7 with fail
    obtain ⟨c2_0, c2_1, c2_2, c2_3, c2_4⟩ := HV2.out.five (List.mem_cons_of_mem _ (List.mem_cons_of_mem _ (List.mem_cons_self ..)))
    obtain ⟨f0, f1, f2, f3, f4⟩ := HV2.out.fr (List.mem_cons_self ..)
    go_wp2_with fail
    clear f0 f1 f2 f3 f4
    refine (HRN.out _).mono ?_
    rintro e4 w4 ⟨rfl, hbb⟩
    have HB4 := Lib.hid (HV2.out.keep hbb)
    clear c2_0 c2_1 c2_2 c2_3 c2_4
    clear hbb HV2
    obtain ⟨c0_0, c0_1, c0_2, c0_3, c0_4⟩ := HB4.out.five (List.mem_cons_self ..)
    obtain ⟨f0, f1, f2, f3, f4⟩ := HB4.out.fr (List.mem_cons_self ..)
    go_upto_region 8 with fail
    obtain ⟨W9, e9, B9, -⟩ := HB4.out.put5 (List.mem_cons_self ..) (.int .i64 n0) (.int .i64 n1) (.int .i64 n2) (.int .i64 n3) (.int .i64 n4) (L' := [(B2, #[.int .i64 n0, .int .i64 n1, .int .i64 n2, .int .i64 n3, .int .i64 n4]), (B1, #[.int .i64 n0, .int .i64 n1, .int .i64 n2, .int .i64 n3, .int .i64 n4]), (w.heap.size + 1, #[.int .i64 p0, .int .i64 p1, .int .i64 p2, .int .i64 p3, .int .i64 p4]), (w.heap.size, #[.int .i64 a, .int .i64 b])]) (by
      intro x hx
      simp only [List.mem_cons, List.not_mem_nil, or_false] at hx ⊢
      rcases hx with rfl | rfl | rfl | rfl
      · exact .inr rfl
      · exact .inl ⟨.inr (.inl rfl), by simp only; omega⟩
      · exact .inl ⟨.inr (.inr (.inl rfl)), by simp only; omega⟩
      · exact .inl ⟨.inr (.inr (.inr rfl)), by simp only; omega⟩)
    try rw [e9]
    clear c0_0 c0_1 c0_2 c0_3 c0_4
    have HB9 := Lib.hid B9
    clear e9 B9 f0 f1 f2 f3 f4 HB4
    go_upto_region 8 with fail
    have MK := Lib.hid (fun w' (h : Bx w [(B2, #[.int .i64 n0, .int .i64 n1, .int .i64 n2, .int .i64 n3, .int .i64 n4]), (B1, #[.int .i64 n0, .int .i64 n1, .int .i64 n2, .int .i64 n3, .int .i64 n4]), (w.heap.size + 1, #[.int .i64 p0, .int .i64 p1, .int .i64 p2, .int .i64 p3, .int .i64 p4]), (w.heap.size, #[.int .i64 a, .int .i64 b])] w') => And.intro h (And.intro (h.five (List.mem_cons_self ..)) (And.intro (h.five (List.mem_cons_of_mem _ (List.mem_cons_self ..))) (And.intro (h.five (List.mem_cons_of_mem _ (List.mem_cons_of_mem _ (List.mem_cons_self ..)))) (h.two (List.mem_cons_of_mem _ (List.mem_cons_of_mem _ (List.mem_cons_of_mem _ (List.mem_cons_self ..)))))))))
    have HG2 := Lib.hid (MK.out _ (HB9.out.keep (Below.refl _ _).drew))
    go_region_held3 (fun w' => Bx w [(B2, #[.int .i64 n0, .int .i64 n1, .int .i64 n2, .int .i64 n3, .int .i64 n4]), (B1, #[.int .i64 n0, .int .i64 n1, .int .i64 n2, .int .i64 n3, .int .i64 n4]), (w.heap.size + 1, #[.int .i64 p0, .int .i64 p1, .int .i64 p2, .int .i64 p3, .int .i64 p4]), (w.heap.size, #[.int .i64 a, .int .i64 b])] w' ∧ (w'.cell? ⟨B2, 0, none⟩ = some (.int .i64 n0) ∧ w'.cell? ⟨B2, 1, none⟩ = some (.int .i64 n1) ∧ w'.cell? ⟨B2, 2, none⟩ = some (.int .i64 n2) ∧ w'.cell? ⟨B2, 3, none⟩ = some (.int .i64 n3) ∧ w'.cell? ⟨B2, 4, none⟩ = some (.int .i64 n4)) ∧ (w'.cell? ⟨B1, 0, none⟩ = some (.int .i64 n0) ∧ w'.cell? ⟨B1, 1, none⟩ = some (.int .i64 n1) ∧ w'.cell? ⟨B1, 2, none⟩ = some (.int .i64 n2) ∧ w'.cell? ⟨B1, 3, none⟩ = some (.int .i64 n3) ∧ w'.cell? ⟨B1, 4, none⟩ = some (.int .i64 n4)) ∧ (w'.cell? ⟨w.heap.size + 1, 0, none⟩ = some (.int .i64 p0) ∧ w'.cell? ⟨w.heap.size + 1, 1, none⟩ = some (.int .i64 p1) ∧ w'.cell? ⟨w.heap.size + 1, 2, none⟩ = some (.int .i64 p2) ∧ w'.cell? ⟨w.heap.size + 1, 3, none⟩ = some (.int .i64 p3) ∧ w'.cell? ⟨w.heap.size + 1, 4, none⟩ = some (.int .i64 p4)) ∧ (w'.cell? ⟨w.heap.size, 0, none⟩ = some (.int .i64 a) ∧ w'.cell? ⟨w.heap.size, 1, none⟩ = some (.int .i64 b)))
      (first
        | assumption
        | exact HG2.out
        | exact MK.out _ (Bx.keep (And.left (by assumption)) (by assumption)))
      (first
        | (go_at_call 16; (with_reducible refine (HC.out _).mono ?_); rintro e w' ⟨rfl, hb⟩)
        | (go_at_call 17; (with_reducible refine (HRC.out _).mono ?_); rintro e w' ⟨rfl, hb⟩)
        | (go_at_call 18; (with_reducible refine (HK.out _).mono ?_); rintro e w' ⟨rfl, hb⟩)
        | (go_at_call 19; (with_reducible refine (same_refl _ _ _ _ _ _ _).mono ?_); rintro e w' ⟨rfl, hb⟩))
    have hR : Bx w [(B2, #[.int .i64 n0, .int .i64 n1, .int .i64 n2, .int .i64 n3, .int .i64 n4]), (B1, #[.int .i64 n0, .int .i64 n1, .int .i64 n2, .int .i64 n3, .int .i64 n4]), (w.heap.size + 1, #[.int .i64 p0, .int .i64 p1, .int .i64 p2, .int .i64 p3, .int .i64 p4]), (w.heap.size, #[.int .i64 a, .int .i64 b])] w' := by repeat (first | exact HG2.out.1 | refine Bx.keep ?_ (by assumption))
    go_wp2_with fail
    go_ret
    exact ⟨rfl, hR.below⟩
  · rw [hE] at HN0 HQ0 HK0
    have e1 : resQ 3 ⟨p0, p1, p2, p3, p4⟩ = Qt.zero := if_neg (by decide)
    have e2 : resE 3 ⟨p0, p1, p2, p3, p4⟩ = 3 := if_neg (by decide)
    rw [e1, e2] at HN0
    clear e1 e2 hE hq
    simp only [qv, Qt.zero] at HN0 HQ0 HK0
    have HN := Lib.hid HN0.out; have HQ := Lib.hid HQ0.out; have HK := Lib.hid HK0.out
    clear HN0 HQ0 HK0
    simp only [qv]
    go_enter Tryd.func3, Tryd.ntmps3
    go_upto_region 1 with fail
    obtain ⟨W0, hW0⟩ : ∃ W0 : World, W0 = ((w.alloc (.cells #[.int .i64 a, .int .i64 b] 23)).alloc (.cells #[.int .i64 p0, .int .i64 p1, .int .i64 p2, .int .i64 p3, .int .i64 p4] 25)) := ⟨_, rfl⟩
    rw [← hW0]
    have HB0 := Lib.hid (show Bx w [(w.heap.size + 1, #[.int .i64 p0, .int .i64 p1, .int .i64 p2, .int .i64 p3, .int .i64 p4]), (w.heap.size, #[.int .i64 a, .int .i64 b])] W0 by rw [hW0]; simpa using (((Bx.nil (Below.refl w.heap.size w)).new #[.int .i64 a, .int .i64 b] 23).new #[.int .i64 p0, .int .i64 p1, .int .i64 p2, .int .i64 p3, .int .i64 p4] 25))
    clear hW0
    go_wp2_with fail
    refine (HA.out _).mono ?_
    rintro e1 w1 ⟨rfl, hbb⟩
    have HB1 := Lib.hid (HB0.out.keep hbb)
    clear hbb HB0
    go_upto_region 3 with fail
    obtain ⟨c0_0, c0_1, c0_2, c0_3, c0_4⟩ := HB1.out.five (List.mem_cons_self ..)
    go_wp2_with fail
    refine (HN.out _).mono ?_
    rintro e2 w2 ⟨rfl, hbb⟩
    have HB2 := Lib.hid (HB1.out.keep hbb)
    clear c0_0 c0_1 c0_2 c0_3 c0_4
    clear hbb HB1
    go_upto_region 4 with fail
    obtain ⟨V1, hV1⟩ : ∃ V1 : World, V1 = w2.alloc (.cells #[.int .i64 0, .int .i64 0, .int .i64 0, .int .i64 0, .int .i64 0] 25) := ⟨_, rfl⟩
    rw [← hV1]
    have HV1 := Lib.hid (show Bx w [(w2.heap.size, #[.int .i64 0, .int .i64 0, .int .i64 0, .int .i64 0, .int .i64 0]), (w.heap.size + 1, #[.int .i64 p0, .int .i64 p1, .int .i64 p2, .int .i64 p3, .int .i64 p4]), (w.heap.size, #[.int .i64 a, .int .i64 b])] V1 from hV1 ▸ HB2.out.new _ _)
    have hlt1 := HB2.out.lt (List.mem_cons_self ..)
    clear hV1 HB2
    generalize w2.heap.size = B1 at *
    obtain ⟨c1_0, c1_1, c1_2, c1_3, c1_4⟩ := HV1.out.five (List.mem_cons_of_mem _ (List.mem_cons_self ..))
    go_wp2_with fail
    refine (HQ.out _).mono ?_
    rintro e3 w3 ⟨rfl, hbb⟩
    have HB3 := Lib.hid (HV1.out.keep hbb)
    clear c1_0 c1_1 c1_2 c1_3 c1_4
    clear hbb HV1
    go_upto_region 6 with fail
    obtain ⟨V2, hV2⟩ : ∃ V2 : World, V2 = w3.alloc (.cells #[.int .i64 0, .int .i64 0, .int .i64 0, .int .i64 0, .int .i64 0] 25) := ⟨_, rfl⟩
    rw [← hV2]
    have HV2 := Lib.hid (show Bx w [(w3.heap.size, #[.int .i64 0, .int .i64 0, .int .i64 0, .int .i64 0, .int .i64 0]), (B1, #[.int .i64 0, .int .i64 0, .int .i64 0, .int .i64 0, .int .i64 0]), (w.heap.size + 1, #[.int .i64 p0, .int .i64 p1, .int .i64 p2, .int .i64 p3, .int .i64 p4]), (w.heap.size, #[.int .i64 a, .int .i64 b])] V2 from hV2 ▸ HB3.out.new _ _)
    have hlt2 := HB3.out.lt (List.mem_cons_self ..)
    clear hV2 HB3
    generalize w3.heap.size = B2 at *
    go_upto_region 8 with fail
    have MK := Lib.hid (fun w' (h : Bx w [(B2, #[.int .i64 0, .int .i64 0, .int .i64 0, .int .i64 0, .int .i64 0]), (B1, #[.int .i64 0, .int .i64 0, .int .i64 0, .int .i64 0, .int .i64 0]), (w.heap.size + 1, #[.int .i64 p0, .int .i64 p1, .int .i64 p2, .int .i64 p3, .int .i64 p4]), (w.heap.size, #[.int .i64 a, .int .i64 b])] w') => And.intro h (And.intro (h.five (List.mem_cons_self ..)) (And.intro (h.five (List.mem_cons_of_mem _ (List.mem_cons_self ..))) (And.intro (h.five (List.mem_cons_of_mem _ (List.mem_cons_of_mem _ (List.mem_cons_self ..)))) (h.two (List.mem_cons_of_mem _ (List.mem_cons_of_mem _ (List.mem_cons_of_mem _ (List.mem_cons_self ..)))))))))
    have HG2 := Lib.hid (MK.out _ (HV2.out.keep (Below.refl _ _).drew))
    go_region_held3 (fun w' => Bx w [(B2, #[.int .i64 0, .int .i64 0, .int .i64 0, .int .i64 0, .int .i64 0]), (B1, #[.int .i64 0, .int .i64 0, .int .i64 0, .int .i64 0, .int .i64 0]), (w.heap.size + 1, #[.int .i64 p0, .int .i64 p1, .int .i64 p2, .int .i64 p3, .int .i64 p4]), (w.heap.size, #[.int .i64 a, .int .i64 b])] w' ∧ (w'.cell? ⟨B2, 0, none⟩ = some (.int .i64 0) ∧ w'.cell? ⟨B2, 1, none⟩ = some (.int .i64 0) ∧ w'.cell? ⟨B2, 2, none⟩ = some (.int .i64 0) ∧ w'.cell? ⟨B2, 3, none⟩ = some (.int .i64 0) ∧ w'.cell? ⟨B2, 4, none⟩ = some (.int .i64 0)) ∧ (w'.cell? ⟨B1, 0, none⟩ = some (.int .i64 0) ∧ w'.cell? ⟨B1, 1, none⟩ = some (.int .i64 0) ∧ w'.cell? ⟨B1, 2, none⟩ = some (.int .i64 0) ∧ w'.cell? ⟨B1, 3, none⟩ = some (.int .i64 0) ∧ w'.cell? ⟨B1, 4, none⟩ = some (.int .i64 0)) ∧ (w'.cell? ⟨w.heap.size + 1, 0, none⟩ = some (.int .i64 p0) ∧ w'.cell? ⟨w.heap.size + 1, 1, none⟩ = some (.int .i64 p1) ∧ w'.cell? ⟨w.heap.size + 1, 2, none⟩ = some (.int .i64 p2) ∧ w'.cell? ⟨w.heap.size + 1, 3, none⟩ = some (.int .i64 p3) ∧ w'.cell? ⟨w.heap.size + 1, 4, none⟩ = some (.int .i64 p4)) ∧ (w'.cell? ⟨w.heap.size, 0, none⟩ = some (.int .i64 a) ∧ w'.cell? ⟨w.heap.size, 1, none⟩ = some (.int .i64 b)))
      (first
        | assumption
        | exact HG2.out
        | exact MK.out _ (Bx.keep (And.left (by assumption)) (by assumption)))
      (first
        | (go_at_call 16; (with_reducible refine (HC.out _).mono ?_); rintro e w' ⟨rfl, hb⟩)
        | (go_at_call 17; (with_reducible refine (HRC.out _).mono ?_); rintro e w' ⟨rfl, hb⟩)
        | (go_at_call 18; (with_reducible refine (HK.out _).mono ?_); rintro e w' ⟨rfl, hb⟩)
        | (go_at_call 19; (with_reducible refine (same_refl _ _ _ _ _ _ _).mono ?_); rintro e w' ⟨rfl, hb⟩))
    have hR : Bx w [(B2, #[.int .i64 0, .int .i64 0, .int .i64 0, .int .i64 0, .int .i64 0]), (B1, #[.int .i64 0, .int .i64 0, .int .i64 0, .int .i64 0, .int .i64 0]), (w.heap.size + 1, #[.int .i64 p0, .int .i64 p1, .int .i64 p2, .int .i64 p3, .int .i64 p4]), (w.heap.size, #[.int .i64 a, .int .i64 b])] w' := by repeat (first | exact HG2.out.1 | refine Bx.keep ?_ (by assumption))
    go_wp2_with fail
    go_ret
    exact ⟨rfl, hR.below⟩
end Go.Proofs.YtekkbdpggghcjaaDoor
