/- Inverses and powers, of whatever exponent, in the program and in the reference. -/
import Derived.Test.YtekkbdpggghcjaaDoorQo0
namespace Go.Proofs.YtekkbdpggghcjaaDoor
open Go.RowKit FF

set_option maxHeartbeats 4000000 in
set_option maxRecDepth 100000 in
theorem rnumber_any (a b p0 p1 p2 p3 p4 : Int) (w : World) (hq : qB ⟨p0, p1, p2, p3, p4⟩ = true) (ha : aE a b = 0) :
    Calls Tryd.prog 64 #[.agg #[.int .i64 a, .int .i64 b], qv ⟨p0, p1, p2, p3, p4⟩] w fun r w' => r = .returned (.int .i64 (nmQ a b ⟨p0, p1, p2, p3, p4⟩)) ∧ Below w.heap.size w w' := by
  obtain ⟨h0, h1, h2, h3, -⟩ := qB_iff.1 hq
  obtain ⟨-, -, ha, hb⟩ := aE_zero.1 ha
  simp only at h0 h1 h2 h3
  obtain ⟨b1, b1'⟩ := mulb h0 h0
  obtain ⟨b2, b2'⟩ := mulb ha h1
  obtain ⟨b3, b3'⟩ := mulb (mulb ha h1) h1
  obtain ⟨b4, b4'⟩ := mulb hb h2
  obtain ⟨b5, b5'⟩ := mulb (mulb hb h2) h2
  obtain ⟨b6, b6'⟩ := mulb ha hb
  obtain ⟨b7, b7'⟩ := mulb (mulb ha hb) h3
  obtain ⟨b8, b8'⟩ := mulb (mulb (mulb ha hb) h3) h3
  simp only [Int.reduceMul, Int.reduceNeg] at *
  clear h0 h1 h2 h3 ha hb hq
  simp only [qv, nmQ]
  go_enter Tryd.func64, Tryd.ntmps64
  go_wp2_with fail
  go_ret
  exact ⟨rfl, below_2 _ _⟩

set_option maxHeartbeats 4000000 in
set_option maxRecDepth 100000 in
theorem rInverse_any (a b p0 p1 p2 p3 p4 : Int) (w : World) (hq : qB ⟨p0, p1, p2, p3, p4⟩ = true) (ha : aE a b = 0) :
    Calls Tryd.prog 23 #[.agg #[.int .i64 a, .int .i64 b], qv ⟨p0, p1, p2, p3, p4⟩] w fun r w' => r = .returned (.tuple #[qv (ivQ a b ⟨p0, p1, p2, p3, p4⟩), .int .i64 (ivE a b ⟨p0, p1, p2, p3, p4⟩)]) ∧ Below w.heap.size w w' := by
  have hd : (⟨p0, p1, p2, p3, p4⟩ : Qt).d ≠ 0 := by have := (qB_iff.1 hq).2.2.2.2; omega
  have hn := qB_nrm hq
  have HN := Lib.hid (fun w => rNormal_any ⟨p0, p1, p2, p3, p4⟩ w (fitBound_of hq) hd)
  have HI := Lib.hid (show (nmQ a b (nrm ⟨p0, p1, p2, p3, p4⟩) = 0 → ivQ a b ⟨p0, p1, p2, p3, p4⟩ = Qt.zero ∧ ivE a b ⟨p0, p1, p2, p3, p4⟩ = 10) ∧ (nmQ a b (nrm ⟨p0, p1, p2, p3, p4⟩) ≠ 0 → ivQ a b ⟨p0, p1, p2, p3, p4⟩ = fitQ (invN a b (nrm ⟨p0, p1, p2, p3, p4⟩)) ∧ ivE a b ⟨p0, p1, p2, p3, p4⟩ = fitE (invN a b (nrm ⟨p0, p1, p2, p3, p4⟩))) by
    constructor
    · intro h
      have h2 := (nm_zero_nrm hd).2 h
      exact ⟨if_pos h2, if_pos h2⟩
    · intro h
      have h2 : nmQ a b ⟨p0, p1, p2, p3, p4⟩ ≠ 0 := fun h3 => h ((nm_zero_nrm hd).1 h3)
      obtain ⟨e1, e2⟩ := fit_inv hd h2
      exact ⟨(if_neg h2).trans e2.symm, (if_neg h2).trans e1.symm⟩)
  generalize ivQ a b ⟨p0, p1, p2, p3, p4⟩ = RQ at *
  generalize ivE a b ⟨p0, p1, p2, p3, p4⟩ = RE at *
  generalize nrm ⟨p0, p1, p2, p3, p4⟩ = M at *
  obtain ⟨n0, n1, n2, n3, n4⟩ := M
  have HM := Lib.hid (fun w => rnumber_any a b n0 n1 n2 n3 n4 w hn ha)
  have HF := Lib.hid (fun (h : nmQ a b ⟨n0, n1, n2, n3, n4⟩ ≠ 0) w => rFits_any (invN a b ⟨n0, n1, n2, n3, n4⟩) w (invN_fit hn ha) h)
  have hnm := nm_bound (aE_zero.1 ha).2.2.1 (aE_zero.1 ha).2.2.2 hn
  obtain ⟨k0, k1, k2, k3, k4⟩ := qB_iff.1 hn
  simp only at k0 k1 k2 k3 k4
  have kd : -1000000 ≤ n4 ∧ n4 ≤ 1000000 := by omega
  obtain ⟨x0, x0'⟩ := mulb k0 kd
  obtain ⟨x1, x1'⟩ := mulb (x := -n1) (m := 1000000) (by omega) kd
  obtain ⟨x2, x2'⟩ := mulb (x := -n2) (m := 1000000) (by omega) kd
  obtain ⟨x3, x3'⟩ := mulb (x := -n3) (m := 1000000) (by omega) kd
  simp only [Int.reduceMul, Int.reduceNeg] at x0 x0' x1 x1' x2 x2' x3 x3'
  simp only [invN] at HF HI
  generalize nmQ a b ⟨n0, n1, n2, n3, n4⟩ = K at *
  generalize fitQ ⟨n0 * n4, -n1 * n4, -n2 * n4, -n3 * n4, K⟩ = FQ at *
  generalize fitE ⟨n0 * n4, -n1 * n4, -n2 * n4, -n3 * n4, K⟩ = FE at *
  clear hq ha hn hd
  simp only [qv] at HN HM HF
  simp only [qv]
  go_enter Tryd.func23, Tryd.ntmps23
  go_wp2_with fail
  refine (HN.out _).mono ?_
  rintro e1 w1 ⟨rfl, hbb⟩
  have HB1 := Lib.hid (show Bx w [(w.heap.size, #[.int .i64 a, .int .i64 b]), (w.heap.size + 1, #[.int .i64 p0, .int .i64 p1, .int .i64 p2, .int .i64 p3, .int .i64 p4]), (w.heap.size + 2, #[.int .i64 0, .int .i64 0, .int .i64 0, .int .i64 0, .int .i64 0])] w1 from (((((Bx.nil ((((Below.refl _ _).alloc (by simp; try omega) _).alloc (by simp; try omega) _).alloc (by simp; try omega) _)).cons (by omega) (Cells.new _ _ _ (by simp))).cons (by omega) ((Cells.new _ _ _ (by simp)).alloc _)).cons (by omega) (((Cells.new _ _ _ (by simp)).alloc _).alloc _))).keep hbb)
  clear hbb HN
  obtain ⟨c0, c1, c2, c3, c4⟩ := HB1.out.five (List.mem_cons_of_mem _ (List.mem_cons_self ..))
  obtain ⟨f0, f1, f2, f3, f4⟩ := HB1.out.fr (List.mem_cons_of_mem _ (List.mem_cons_self ..))
  obtain ⟨W2, e2, B2, -⟩ := HB1.out.put5 (List.mem_cons_of_mem _ (List.mem_cons_self ..)) (.int .i64 n0) (.int .i64 n1) (.int .i64 n2) (.int .i64 n3) (.int .i64 n4) (L' := [(w.heap.size, #[.int .i64 a, .int .i64 b]), (w.heap.size + 1, #[.int .i64 n0, .int .i64 n1, .int .i64 n2, .int .i64 n3, .int .i64 n4]), (w.heap.size + 2, #[.int .i64 0, .int .i64 0, .int .i64 0, .int .i64 0, .int .i64 0])]) (by
    intro x hx
    simp only [List.mem_cons, List.not_mem_nil, or_false] at hx ⊢
    rcases hx with rfl | rfl | rfl
    · exact .inl ⟨.inl rfl, by simp only; omega⟩
    · exact .inr rfl
    · exact .inl ⟨.inr (.inr rfl), by simp only; omega⟩)
  have HB2 := Lib.hid B2
  go_upto_region 2 with fail
  try rw [e2]
  clear B2 HB1 e2 c0 c1 c2 c3 c4 f0 f1 f2 f3 f4
  obtain ⟨c0, c1, c2, c3, c4⟩ := HB2.out.five (List.mem_cons_of_mem _ (List.mem_cons_self ..))
  obtain ⟨d0, d1⟩ := HB2.out.two (List.mem_cons_self ..)
  go_wp2_with fail
  refine (HM.out _).mono ?_
  rintro e1 w3 ⟨rfl, hbb⟩
  have HB3 := Lib.hid (HB2.out.keep hbb)
  clear hbb HB2 c0 c1 c2 c3 c4 d0 d1 HM
  by_cases hK : K = 0
  · obtain ⟨rfl, rfl⟩ := HI.out.1 hK
    subst hK
    clear HI HF
    obtain ⟨z0, z1, z2, z3, z4⟩ := HB3.out.five (List.mem_cons_of_mem _ (List.mem_cons_of_mem _ (List.mem_cons_self ..)))
    obtain ⟨f0, f1, f2, f3, f4⟩ := HB3.out.fr (List.mem_cons_of_mem _ (List.mem_cons_of_mem _ (List.mem_cons_self ..)))
    obtain ⟨W9, e9, B9, -, -, q0, q1, q2, q3, q4⟩ := HB3.out.put5 (List.mem_cons_of_mem _ (List.mem_cons_of_mem _ (List.mem_cons_self ..))) (.int .i64 0) (.int .i64 0) (.int .i64 0) (.int .i64 0) (.int .i64 0) (L' := []) (fun x hx => by cases hx)
    go_wp2_with fail
    try rw [e9]
    refine bodyPost_ret (v := .tuple #[.agg #[.int .i64 0, .int .i64 0, .int .i64 0, .int .i64 0, .int .i64 0], .int .i64 10]) (by simp [results, Tryd.results23, go_sem, q0, q1, q2, q3, q4]) rfl ?_
    exact ⟨rfl, B9.below⟩
  · obtain ⟨rfl, rfl⟩ := HI.out.2 hK
    have dK : (K == 0) = false := f_beq hK
    have HF2 := Lib.hid (HF.out hK)
    clear HI HF hK
    obtain ⟨g0, g1, g2, g3, g4⟩ := RQ
    obtain ⟨c0, c1, c2, c3, c4⟩ := HB3.out.five (List.mem_cons_of_mem _ (List.mem_cons_self ..))
    go_wp2_with fail
    refine (HF2.out _).mono ?_
    rintro e1 w4 ⟨rfl, hbb⟩
    have HB4 := Lib.hid (HB3.out.keep hbb)
    clear hbb HB3 c0 c1 c2 c3 c4 HF2
    obtain ⟨z0, z1, z2, z3, z4⟩ := HB4.out.five (List.mem_cons_of_mem _ (List.mem_cons_of_mem _ (List.mem_cons_self ..)))
    obtain ⟨f0, f1, f2, f3, f4⟩ := HB4.out.fr (List.mem_cons_of_mem _ (List.mem_cons_of_mem _ (List.mem_cons_self ..)))
    obtain ⟨W9, e9, B9, -, -, q0, q1, q2, q3, q4⟩ := HB4.out.put5 (List.mem_cons_of_mem _ (List.mem_cons_of_mem _ (List.mem_cons_self ..))) (.int .i64 g0) (.int .i64 g1) (.int .i64 g2) (.int .i64 g3) (.int .i64 g4) (L' := []) (fun x hx => by cases hx)
    go_wp2_with fail
    try rw [e9]
    refine bodyPost_ret (v := .tuple #[.agg #[.int .i64 g0, .int .i64 g1, .int .i64 g2, .int .i64 g3, .int .i64 g4], .int .i64 RE]) (by simp [results, Tryd.results23, go_sem, q0, q1, q2, q3, q4]) rfl ?_
    exact ⟨rfl, B9.below⟩

set_option maxHeartbeats 4000000 in
set_option maxRecDepth 100000 in
theorem qPower_neg (a b p0 p1 p2 p3 p4 : Int) (N : Nat) (w : World) (hN : 1 ≤ N ∧ N ≤ 60) (hq : qB ⟨p0, p1, p2, p3, p4⟩ = true) (ha : aE a b = 0) (hI : ivE a b ⟨p0, p1, p2, p3, p4⟩ = 0) :
    Calls Tryd.prog 21 #[.agg #[.int .i64 a, .int .i64 b], qv ⟨p0, p1, p2, p3, p4⟩, .int .i64 (-(N : Int))] w fun r w' => r = .returned (.tuple #[qv (powQ a b (ivQ a b ⟨p0, p1, p2, p3, p4⟩) N), .int .i64 (powE a b (ivQ a b ⟨p0, p1, p2, p3, p4⟩) N)]) ∧ Below w.heap.size w w' := by
  have hE : allE a b [⟨p0, p1, p2, p3, p4⟩] = 0 := allE_zero.2 ⟨ha, by simp [hq]⟩
  have HC := Lib.hid (fun A c w hx => hE ▸ qboth_any a b A [⟨p0, p1, p2, p3, p4⟩] 1 c w hx rfl (by omega))
  have hInv := fun w => qInverse_any a b p0 p1 p2 p3 p4 w
  have e1 : orQ 0 (ivQ a b ⟨p0, p1, p2, p3, p4⟩) = ivQ a b ⟨p0, p1, p2, p3, p4⟩ := if_pos rfl
  have e2 : orE 0 (ivE a b ⟨p0, p1, p2, p3, p4⟩) = ivE a b ⟨p0, p1, p2, p3, p4⟩ := if_pos rfl
  simp only [hE, e1, e2] at hInv
  have HInv := Lib.hid hInv
  have hiv := iv_valid hI
  rw [hI] at HInv
  have HMu := Lib.hid (fun o w (ho : qB o = true) => qMul_ok a b o (ivQ a b ⟨p0, p1, p2, p3, p4⟩) w ho hiv ha)
  clear hInv e1 e2 hE hq ha hiv hI
  generalize ivQ a b ⟨p0, p1, p2, p3, p4⟩ = Q at *
  obtain ⟨i0, i1, i2, i3, i4⟩ := Q
  simp only [qv] at HC HMu HInv
  generalize hRQ : powQ a b ⟨i0, i1, i2, i3, i4⟩ N = RQ at *
  generalize hRE : powE a b ⟨i0, i1, i2, i3, i4⟩ N = RE at *
  have HRQ := Lib.hid hRQ; have HRE := Lib.hid hRE
  clear hRQ hRE
  have d1 : decide (-(N : Int) < -60) = false := decide_eq_false (by omega)
  have d2 : decide (60 < -(N : Int)) = false := decide_eq_false (by omega)
  have d3 : decide (-(N : Int) < 0) = true := decide_eq_true (by omega)
  simp only [qv]
  go_enter Tryd.func21, Tryd.ntmps21
  go_wp2_with fail
  refine (HC.out _ _ _ (shows_flat1 (by simp) p0 p1 p2 p3 p4)).mono ?_
  rintro e1 w1 ⟨rfl, hbb⟩
  have HB1 := Lib.hid (show Bx w [(w.heap.size, #[.int .i64 a, .int .i64 b]), (w.heap.size + 1, #[.int .i64 p0, .int .i64 p1, .int .i64 p2, .int .i64 p3, .int .i64 p4]), (w.heap.size + 2, #[.int .i64 0, .int .i64 0, .int .i64 0, .int .i64 0, .int .i64 0])] w1 from (((((Bx.nil (((((Below.refl _ _).alloc (by simp; try omega) _).alloc (by simp; try omega) _).alloc (by simp; try omega) _).alloc (by simp; try omega) _)).cons (by omega) ((Cells.new _ _ _ (by simp)).alloc _)).cons (by omega) (((Cells.new _ _ _ (by simp)).alloc _).alloc _)).cons (by omega) ((((Cells.new _ _ _ (by simp)).alloc _).alloc _).alloc _))).keep hbb)
  clear hbb HC
  go_upto_region 7 with fail
  obtain ⟨c0_0, c0_1⟩ := HB1.out.two (List.mem_cons_self ..)
  obtain ⟨c1_0, c1_1, c1_2, c1_3, c1_4⟩ := HB1.out.five (List.mem_cons_of_mem _ (List.mem_cons_self ..))
  go_wp2_with fail
  refine (HInv.out _).mono ?_
  rintro e1 w3 ⟨rfl, hbb⟩
  have HB3 := Lib.hid (HB1.out.keep hbb)
  clear hbb HB1 HInv c0_0 c0_1 c1_0 c1_1 c1_2 c1_3 c1_4
  go_upto_region 10 with fail
  obtain ⟨V1, hV1⟩ : ∃ V1 : World, V1 = w3.alloc (.cells #[.int .i64 i0, .int .i64 i1, .int .i64 i2, .int .i64 i3, .int .i64 i4] 25) := ⟨_, rfl⟩
  rw [← hV1]
  have hIB := (HB3.out.lt (List.mem_cons_of_mem _ (List.mem_cons_of_mem _ (List.mem_cons_self ..)))).2
  have HV1 := Lib.hid (show Bx w ((w3.heap.size, #[.int .i64 i0, .int .i64 i1, .int .i64 i2, .int .i64 i3, .int .i64 i4]) :: [(w.heap.size, #[.int .i64 a, .int .i64 b]), (w.heap.size + 1, #[.int .i64 p0, .int .i64 p1, .int .i64 p2, .int .i64 p3, .int .i64 p4]), (w.heap.size + 2, #[.int .i64 0, .int .i64 0, .int .i64 0, .int .i64 0, .int .i64 0])]) V1 from hV1 ▸ HB3.out.new _ _)
  clear hV1 HB3
  generalize w3.heap.size = IB at *
  obtain ⟨c0_0, c0_1, c0_2, c0_3, c0_4⟩ := HV1.out.five (List.mem_cons_self ..)
  obtain ⟨c1_0, c1_1, c1_2, c1_3, c1_4⟩ := HV1.out.five (List.mem_cons_of_mem _ (List.mem_cons_of_mem _ (List.mem_cons_self ..)))
  obtain ⟨f0, f1, f2, f3, f4⟩ := HV1.out.fr (List.mem_cons_of_mem _ (List.mem_cons_of_mem _ (List.mem_cons_self ..)))
  obtain ⟨W5, e5, B5, -⟩ := HV1.out.put5 (List.mem_cons_of_mem _ (List.mem_cons_of_mem _ (List.mem_cons_self ..))) (.int .i64 i0) (.int .i64 i1) (.int .i64 i2) (.int .i64 i3) (.int .i64 i4) (L' := [(w.heap.size, #[.int .i64 a, .int .i64 b]), (w.heap.size + 1, #[.int .i64 i0, .int .i64 i1, .int .i64 i2, .int .i64 i3, .int .i64 i4]), (w.heap.size + 2, #[.int .i64 0, .int .i64 0, .int .i64 0, .int .i64 0, .int .i64 0])]) (by
    intro x hx
    simp only [List.mem_cons, List.not_mem_nil, or_false] at hx ⊢
    rcases hx with rfl | rfl | rfl
    · exact .inl ⟨.inr (.inl rfl), by simp only; omega⟩
    · exact .inr rfl
    · exact .inl ⟨.inr (.inr (.inr rfl)), by simp only; omega⟩)
  have HB5 := Lib.hid B5
  go_upto_region 11 with fail
  try rw [e5]
  clear B5 HV1 e5 c0_0 c0_1 c0_2 c0_3 c0_4 c1_0 c1_1 c1_2 c1_3 c1_4 f0 f1 f2 f3 f4
  have hOB : w.heap.size + 2 < W5.heap.size := (HB5.out.lt (List.mem_cons_of_mem _ (List.mem_cons_of_mem _ (List.mem_cons_self ..)))).2
  obtain ⟨W2, hW2⟩ : ∃ W2 : World, W2 = W5.alloc (.cells #[.int .i64 1, .int .i64 0, .int .i64 0, .int .i64 0, .int .i64 1] 25) := ⟨_, rfl⟩
  have HB0 := Lib.hid (show Bx w ((W5.heap.size, #[.int .i64 1, .int .i64 0, .int .i64 0, .int .i64 0, .int .i64 1]) :: [(w.heap.size, #[.int .i64 a, .int .i64 b]), (w.heap.size + 1, #[.int .i64 i0, .int .i64 i1, .int .i64 i2, .int .i64 i3, .int .i64 i4]), (w.heap.size + 2, #[.int .i64 0, .int .i64 0, .int .i64 0, .int .i64 0, .int .i64 0])]) W2 from hW2 ▸ HB5.out.new _ _)
  go_wp2_with fail
  rw [← hW2]
  clear hW2
  generalize W5.heap.size = OB at *
  clear HB5
  go_loopw [12, 13, 46] (fun _ _ s46 wx => ∃ (k : Nat) (o0 o1 o2 o3 o4 : Int), s46 = .int .i64 k ∧ k ≤ N ∧ powS a b ⟨i0, i1, i2, i3, i4⟩ k = some ⟨o0, o1, o2, o3, o4⟩ ∧ Bx w [(OB, #[.int .i64 o0, .int .i64 o1, .int .i64 o2, .int .i64 o3, .int .i64 o4]), (w.heap.size, #[.int .i64 a, .int .i64 b]), (w.heap.size + 1, #[.int .i64 i0, .int .i64 i1, .int .i64 i2, .int .i64 i3, .int .i64 i4]), (w.heap.size + 2, #[.int .i64 0, .int .i64 0, .int .i64 0, .int .i64 0, .int .i64 0])] wx) (fun _ _ s46 _ => N - (intOf s46).toNat)
  case atStart => exact ⟨0, 1, 0, 0, 0, 1, rfl, Nat.zero_le _, rfl, HB0.out⟩
  case round =>
    clear HB0
    obtain ⟨k, o0, o1, o2, o3, o4, rfl, hk, ho, hb⟩ := hrel
    have HO := Lib.hid ho; have HB := Lib.hid hb
    clear ho hb
    obtain ⟨c0_0, c0_1, c0_2, c0_3, c0_4⟩ := HB.out.five (List.mem_cons_self ..)
    obtain ⟨c1_0, c1_1⟩ := HB.out.two (List.mem_cons_of_mem _ (List.mem_cons_self ..))
    obtain ⟨c2_0, c2_1, c2_2, c2_3, c2_4⟩ := HB.out.five (List.mem_cons_of_mem _ (List.mem_cons_of_mem _ (List.mem_cons_self ..)))
    obtain ⟨c3_0, c3_1, c3_2, c3_3, c3_4⟩ := HB.out.five (List.mem_cons_of_mem _ (List.mem_cons_of_mem _ (List.mem_cons_of_mem _ (List.mem_cons_self ..))))
    obtain ⟨f0, f1, f2, f3, f4⟩ := HB.out.fr (List.mem_cons_of_mem _ (List.mem_cons_of_mem _ (List.mem_cons_of_mem _ (List.mem_cons_self ..))))
    by_cases hlt : k < N
    · have HM := Lib.hid (fun w => HMu.out ⟨o0, o1, o2, o3, o4⟩ w (powS_valid HO.out))
      have HS := Lib.hid (fun h => powS_next HO.out h)
      have HT := Lib.hid (fun h => pow_fell HO.out hlt h)
      generalize fitQ (mulQ a b ⟨o0, o1, o2, o3, o4⟩ ⟨i0, i1, i2, i3, i4⟩) = FQ at *
      generalize fitE (mulQ a b ⟨o0, o1, o2, o3, o4⟩ ⟨i0, i1, i2, i3, i4⟩) = FE at *
      obtain ⟨g0, g1, g2, g3, g4⟩ := FQ
      simp only at HM
      clear HO
      go_wp2_with fail
      refine (HM.out _).mono ?_
      rintro e1 w3 ⟨rfl, hbb⟩
      have HB3 := Lib.hid (HB.out.keep hbb)
      clear hbb HB HM c0_0 c0_1 c0_2 c0_3 c0_4 c1_0 c1_1 c2_0 c2_1 c2_2 c2_3 c2_4 c3_0 c3_1 c3_2 c3_3 c3_4 f0 f1 f2 f3 f4
      obtain ⟨W4, hW4⟩ : ∃ W4 : World, W4 = w3.alloc (.cells #[.int .i64 g0, .int .i64 g1, .int .i64 g2, .int .i64 g3, .int .i64 g4] 25) := ⟨_, rfl⟩
      have HB4 := Lib.hid (show Bx w ((w3.heap.size, #[.int .i64 g0, .int .i64 g1, .int .i64 g2, .int .i64 g3, .int .i64 g4]) :: [(OB, #[.int .i64 o0, .int .i64 o1, .int .i64 o2, .int .i64 o3, .int .i64 o4]), (w.heap.size, #[.int .i64 a, .int .i64 b]), (w.heap.size + 1, #[.int .i64 i0, .int .i64 i1, .int .i64 i2, .int .i64 i3, .int .i64 i4]), (w.heap.size + 2, #[.int .i64 0, .int .i64 0, .int .i64 0, .int .i64 0, .int .i64 0])]) W4 from hW4 ▸ HB3.out.new _ _)
      have hOB := (HB3.out.lt (List.mem_cons_self ..)).2
      by_cases hF : FE = 0
      · subst hF
        have HS2 := Lib.hid (HS.out rfl)
        clear HS HT HB3
        go_upto_region 17 with fail
        rw [← hW4]
        clear hW4
        obtain ⟨c0_0, c0_1, c0_2, c0_3, c0_4⟩ := HB4.out.five (List.mem_cons_self ..)
        obtain ⟨c1_0, c1_1, c1_2, c1_3, c1_4⟩ := HB4.out.five (List.mem_cons_of_mem _ (List.mem_cons_self ..))
        obtain ⟨f0, f1, f2, f3, f4⟩ := HB4.out.fr (List.mem_cons_of_mem _ (List.mem_cons_self ..))
        obtain ⟨W9, e9, B9, -⟩ := HB4.out.put5 (List.mem_cons_of_mem _ (List.mem_cons_self ..)) (.int .i64 g0) (.int .i64 g1) (.int .i64 g2) (.int .i64 g3) (.int .i64 g4) (L' := [(OB, #[.int .i64 g0, .int .i64 g1, .int .i64 g2, .int .i64 g3, .int .i64 g4]), (w.heap.size, #[.int .i64 a, .int .i64 b]), (w.heap.size + 1, #[.int .i64 i0, .int .i64 i1, .int .i64 i2, .int .i64 i3, .int .i64 i4]), (w.heap.size + 2, #[.int .i64 0, .int .i64 0, .int .i64 0, .int .i64 0, .int .i64 0])]) (by
          intro x hx
          simp only [List.mem_cons, List.not_mem_nil, or_false] at hx ⊢
          rcases hx with rfl | rfl | rfl | rfl
          · exact .inr rfl
          · exact .inl ⟨.inr (.inr (.inl rfl)), by simp only; omega⟩
          · exact .inl ⟨.inr (.inr (.inr (.inl rfl))), by simp only; omega⟩
          · exact .inl ⟨.inr (.inr (.inr (.inr rfl))), by simp only; omega⟩)
        have HB9 := Lib.hid B9
        clear B9 HB4
        go_upto_region 18 with fail
        try rw [e9]
        clear e9 c0_0 c0_1 c0_2 c0_3 c0_4 c1_0 c1_1 c1_2 c1_3 c1_4 f0 f1 f2 f3 f4
        go_wp2_with fail
        exact ⟨⟨k + 1, g0, g1, g2, g3, g4, by go_num, by omega, HS2.out, HB9.out⟩, by simp [intOf]; omega⟩
      · have d1 : (FE == 0) = false := f_beq hF
        obtain ⟨t1, t2, t3⟩ := HT.out hF
        have HT1 := Lib.hid t1; have HT2 := Lib.hid t2
        subst t3
        clear t1 t2 HS HT HB3 hF
        go_upto_region 16 with fail
        rw [← hW4]
        clear hW4
        obtain ⟨c0_0, c0_1, c0_2, c0_3, c0_4⟩ := HB4.out.five (List.mem_cons_of_mem _ (List.mem_cons_of_mem _ (List.mem_cons_of_mem _ (List.mem_cons_of_mem _ (List.mem_cons_self ..)))))
        obtain ⟨f0, f1, f2, f3, f4⟩ := HB4.out.fr (List.mem_cons_of_mem _ (List.mem_cons_of_mem _ (List.mem_cons_of_mem _ (List.mem_cons_of_mem _ (List.mem_cons_self ..)))))
        obtain ⟨W9, e9, B9, -, -, q0, q1, q2, q3, q4⟩ := HB4.out.put5 (List.mem_cons_of_mem _ (List.mem_cons_of_mem _ (List.mem_cons_of_mem _ (List.mem_cons_of_mem _ (List.mem_cons_self ..))))) (.int .i64 0) (.int .i64 0) (.int .i64 0) (.int .i64 0) (.int .i64 0) (L' := []) (fun x hx => by cases hx)
        go_wp2_with fail
        try rw [e9]
        refine bodyPost_ret (v := .tuple #[.agg #[.int .i64 0, .int .i64 0, .int .i64 0, .int .i64 0, .int .i64 0], .int .i64 8]) (by simp [results, Tryd.results21, go_sem, q0, q1, q2, q3, q4]) rfl ?_
        exact ⟨by rw [← HRQ.out, ← HRE.out, HT1.out, HT2.out]; rfl, B9.below⟩
    · obtain rfl : k = N := by omega
      have HD := Lib.hid (pow_done HO.out)
      obtain ⟨W9, e9, B9, -, -, q0, q1, q2, q3, q4⟩ := HB.out.put5 (List.mem_cons_of_mem _ (List.mem_cons_of_mem _ (List.mem_cons_of_mem _ (List.mem_cons_self ..)))) (.int .i64 o0) (.int .i64 o1) (.int .i64 o2) (.int .i64 o3) (.int .i64 o4) (L' := []) (fun x hx => by cases hx)
      clear HO HB
      go_wp2_with fail
      try rw [e9]
      refine bodyPost_ret (v := .tuple #[.agg #[.int .i64 o0, .int .i64 o1, .int .i64 o2, .int .i64 o3, .int .i64 o4], .int .i64 0]) (by simp [results, Tryd.results21, go_sem, q0, q1, q2, q3, q4]) rfl ?_
      exact ⟨by rw [← HRQ.out, ← HRE.out, HD.out.1, HD.out.2], B9.below⟩

set_option maxHeartbeats 4000000 in
set_option maxRecDepth 100000 in
theorem qPower_neg0 (a b p0 p1 p2 p3 p4 : Int) (N : Nat) (w : World) (hN : 1 ≤ N ∧ N ≤ 60) (hq : qB ⟨p0, p1, p2, p3, p4⟩ = true) (ha : aE a b = 0) (hI : ivE a b ⟨p0, p1, p2, p3, p4⟩ ≠ 0) :
    Calls Tryd.prog 21 #[.agg #[.int .i64 a, .int .i64 b], qv ⟨p0, p1, p2, p3, p4⟩, .int .i64 (-(N : Int))] w fun r w' => r = .returned (.tuple #[qv Qt.zero, .int .i64 (ivE a b ⟨p0, p1, p2, p3, p4⟩)]) ∧ Below w.heap.size w w' := by
  have hE : allE a b [⟨p0, p1, p2, p3, p4⟩] = 0 := allE_zero.2 ⟨ha, by simp [hq]⟩
  have HC := Lib.hid (fun A c w hx => hE ▸ qboth_any a b A [⟨p0, p1, p2, p3, p4⟩] 1 c w hx rfl (by omega))
  have hInv := fun w => qInverse_any a b p0 p1 p2 p3 p4 w
  have e1 : orQ 0 (ivQ a b ⟨p0, p1, p2, p3, p4⟩) = ivQ a b ⟨p0, p1, p2, p3, p4⟩ := if_pos rfl
  have e2 : orE 0 (ivE a b ⟨p0, p1, p2, p3, p4⟩) = ivE a b ⟨p0, p1, p2, p3, p4⟩ := if_pos rfl
  simp only [hE, e1, e2] at hInv
  have HInv := Lib.hid hInv
  have dI : (ivE a b ⟨p0, p1, p2, p3, p4⟩ == 0) = false := f_beq hI
  clear hInv e1 e2 hE hq ha hI
  generalize ivQ a b ⟨p0, p1, p2, p3, p4⟩ = Q at *
  generalize ivE a b ⟨p0, p1, p2, p3, p4⟩ = IE at *
  obtain ⟨i0, i1, i2, i3, i4⟩ := Q
  simp only [qv] at HC HInv
  have d1 : decide (-(N : Int) < -60) = false := decide_eq_false (by omega)
  have d2 : decide (60 < -(N : Int)) = false := decide_eq_false (by omega)
  have d3 : decide (-(N : Int) < 0) = true := decide_eq_true (by omega)
  simp only [qv, Qt.zero]
  go_enter Tryd.func21, Tryd.ntmps21
  go_wp2_with fail
  refine (HC.out _ _ _ (shows_flat1 (by simp) p0 p1 p2 p3 p4)).mono ?_
  rintro e1 w1 ⟨rfl, hbb⟩
  have HB1 := Lib.hid (show Bx w [(w.heap.size, #[.int .i64 a, .int .i64 b]), (w.heap.size + 1, #[.int .i64 p0, .int .i64 p1, .int .i64 p2, .int .i64 p3, .int .i64 p4]), (w.heap.size + 2, #[.int .i64 0, .int .i64 0, .int .i64 0, .int .i64 0, .int .i64 0])] w1 from (((((Bx.nil (((((Below.refl _ _).alloc (by simp; try omega) _).alloc (by simp; try omega) _).alloc (by simp; try omega) _).alloc (by simp; try omega) _)).cons (by omega) ((Cells.new _ _ _ (by simp)).alloc _)).cons (by omega) (((Cells.new _ _ _ (by simp)).alloc _).alloc _)).cons (by omega) ((((Cells.new _ _ _ (by simp)).alloc _).alloc _).alloc _))).keep hbb)
  clear hbb HC
  go_upto_region 7 with fail
  obtain ⟨c0_0, c0_1⟩ := HB1.out.two (List.mem_cons_self ..)
  obtain ⟨c1_0, c1_1, c1_2, c1_3, c1_4⟩ := HB1.out.five (List.mem_cons_of_mem _ (List.mem_cons_self ..))
  go_wp2_with fail
  refine (HInv.out _).mono ?_
  rintro e1 w3 ⟨rfl, hbb⟩
  have HB3 := Lib.hid (HB1.out.keep hbb)
  clear hbb HB1 HInv c0_0 c0_1 c1_0 c1_1 c1_2 c1_3 c1_4
  go_upto_region 9 with fail
  obtain ⟨V1, hV1⟩ : ∃ V1 : World, V1 = w3.alloc (.cells #[.int .i64 i0, .int .i64 i1, .int .i64 i2, .int .i64 i3, .int .i64 i4] 25) := ⟨_, rfl⟩
  rw [← hV1]
  have hIB := (HB3.out.lt (List.mem_cons_of_mem _ (List.mem_cons_of_mem _ (List.mem_cons_self ..)))).2
  have HV1 := Lib.hid (show Bx w ((w3.heap.size, #[.int .i64 i0, .int .i64 i1, .int .i64 i2, .int .i64 i3, .int .i64 i4]) :: [(w.heap.size, #[.int .i64 a, .int .i64 b]), (w.heap.size + 1, #[.int .i64 p0, .int .i64 p1, .int .i64 p2, .int .i64 p3, .int .i64 p4]), (w.heap.size + 2, #[.int .i64 0, .int .i64 0, .int .i64 0, .int .i64 0, .int .i64 0])]) V1 from hV1 ▸ HB3.out.new _ _)
  clear hV1 HB3
  generalize w3.heap.size = IB at *
  obtain ⟨z0, z1, z2, z3, z4⟩ := HV1.out.five (List.mem_cons_of_mem _ (List.mem_cons_of_mem _ (List.mem_cons_of_mem _ (List.mem_cons_self ..))))
  obtain ⟨f0, f1, f2, f3, f4⟩ := HV1.out.fr (List.mem_cons_of_mem _ (List.mem_cons_of_mem _ (List.mem_cons_of_mem _ (List.mem_cons_self ..))))
  obtain ⟨W9, e9, B9, -, -, q0, q1, q2, q3, q4⟩ := HV1.out.put5 (List.mem_cons_of_mem _ (List.mem_cons_of_mem _ (List.mem_cons_of_mem _ (List.mem_cons_self ..)))) (.int .i64 0) (.int .i64 0) (.int .i64 0) (.int .i64 0) (.int .i64 0) (L' := []) (fun x hx => by cases hx)
  go_wp2_with fail
  try rw [e9]
  refine bodyPost_ret (v := .tuple #[.agg #[.int .i64 0, .int .i64 0, .int .i64 0, .int .i64 0, .int .i64 0], .int .i64 IE]) (by simp [results, Tryd.results21, go_sem, q0, q1, q2, q3, q4]) rfl ?_
  exact ⟨rfl, B9.below⟩

set_option maxHeartbeats 4000000 in
set_option maxRecDepth 100000 in
theorem qPower_far (a b p0 p1 p2 p3 p4 n : Int) (w : World) (hn : n < -60 ∨ 60 < n) (hq : qB ⟨p0, p1, p2, p3, p4⟩ = true) (ha : aE a b = 0) :
    Calls Tryd.prog 21 #[.agg #[.int .i64 a, .int .i64 b], qv ⟨p0, p1, p2, p3, p4⟩, .int .i64 n] w fun r w' => r = .returned (.tuple #[qv Qt.zero, .int .i64 2]) ∧ Below w.heap.size w w' := by
  have hE : allE a b [⟨p0, p1, p2, p3, p4⟩] = 0 := allE_zero.2 ⟨ha, by simp [hq]⟩
  have HC := Lib.hid (fun A c w hx => hE ▸ qboth_any a b A [⟨p0, p1, p2, p3, p4⟩] 1 c w hx rfl (by omega))
  clear hE hq ha
  simp only [qv, Qt.zero]
  rcases hn with hn | hn
  · go_enter Tryd.func21, Tryd.ntmps21
    go_wp2_with fail
    refine (HC.out _ _ _ (shows_flat1 (by simp) p0 p1 p2 p3 p4)).mono ?_
    rintro e1 w1 ⟨rfl, hbb⟩
    have HB1 := Lib.hid (show Bx w [(w.heap.size, #[.int .i64 a, .int .i64 b]), (w.heap.size + 1, #[.int .i64 p0, .int .i64 p1, .int .i64 p2, .int .i64 p3, .int .i64 p4]), (w.heap.size + 2, #[.int .i64 0, .int .i64 0, .int .i64 0, .int .i64 0, .int .i64 0])] w1 from (((((Bx.nil (((((Below.refl _ _).alloc (by simp; try omega) _).alloc (by simp; try omega) _).alloc (by simp; try omega) _).alloc (by simp; try omega) _)).cons (by omega) ((Cells.new _ _ _ (by simp)).alloc _)).cons (by omega) (((Cells.new _ _ _ (by simp)).alloc _).alloc _)).cons (by omega) ((((Cells.new _ _ _ (by simp)).alloc _).alloc _).alloc _))).keep hbb)
    clear hbb HC
    obtain ⟨z0, z1, z2, z3, z4⟩ := HB1.out.five (List.mem_cons_of_mem _ (List.mem_cons_of_mem _ (List.mem_cons_self ..)))
    obtain ⟨f0, f1, f2, f3, f4⟩ := HB1.out.fr (List.mem_cons_of_mem _ (List.mem_cons_of_mem _ (List.mem_cons_self ..)))
    obtain ⟨W9, e9, B9, -, -, q0, q1, q2, q3, q4⟩ := HB1.out.put5 (List.mem_cons_of_mem _ (List.mem_cons_of_mem _ (List.mem_cons_self ..))) (.int .i64 0) (.int .i64 0) (.int .i64 0) (.int .i64 0) (.int .i64 0) (L' := []) (fun x hx => by cases hx)
    go_wp2_with fail
    try rw [e9]
    refine bodyPost_ret (v := .tuple #[.agg #[.int .i64 0, .int .i64 0, .int .i64 0, .int .i64 0, .int .i64 0], .int .i64 2]) (by simp [results, Tryd.results21, go_sem, q0, q1, q2, q3, q4]) rfl ?_
    exact ⟨rfl, B9.below⟩
  · go_enter Tryd.func21, Tryd.ntmps21
    go_wp2_with fail
    refine (HC.out _ _ _ (shows_flat1 (by simp) p0 p1 p2 p3 p4)).mono ?_
    rintro e1 w1 ⟨rfl, hbb⟩
    have HB1 := Lib.hid (show Bx w [(w.heap.size, #[.int .i64 a, .int .i64 b]), (w.heap.size + 1, #[.int .i64 p0, .int .i64 p1, .int .i64 p2, .int .i64 p3, .int .i64 p4]), (w.heap.size + 2, #[.int .i64 0, .int .i64 0, .int .i64 0, .int .i64 0, .int .i64 0])] w1 from (((((Bx.nil (((((Below.refl _ _).alloc (by simp; try omega) _).alloc (by simp; try omega) _).alloc (by simp; try omega) _).alloc (by simp; try omega) _)).cons (by omega) ((Cells.new _ _ _ (by simp)).alloc _)).cons (by omega) (((Cells.new _ _ _ (by simp)).alloc _).alloc _)).cons (by omega) ((((Cells.new _ _ _ (by simp)).alloc _).alloc _).alloc _))).keep hbb)
    clear hbb HC
    obtain ⟨z0, z1, z2, z3, z4⟩ := HB1.out.five (List.mem_cons_of_mem _ (List.mem_cons_of_mem _ (List.mem_cons_self ..)))
    obtain ⟨f0, f1, f2, f3, f4⟩ := HB1.out.fr (List.mem_cons_of_mem _ (List.mem_cons_of_mem _ (List.mem_cons_self ..)))
    obtain ⟨W9, e9, B9, -, -, q0, q1, q2, q3, q4⟩ := HB1.out.put5 (List.mem_cons_of_mem _ (List.mem_cons_of_mem _ (List.mem_cons_self ..))) (.int .i64 0) (.int .i64 0) (.int .i64 0) (.int .i64 0) (.int .i64 0) (L' := []) (fun x hx => by cases hx)
    go_wp2_with fail
    try rw [e9]
    refine bodyPost_ret (v := .tuple #[.agg #[.int .i64 0, .int .i64 0, .int .i64 0, .int .i64 0, .int .i64 0], .int .i64 2]) (by simp [results, Tryd.results21, go_sem, q0, q1, q2, q3, q4]) rfl ?_
    exact ⟨rfl, B9.below⟩

set_option maxHeartbeats 4000000 in
set_option maxRecDepth 100000 in
theorem qPower_bad (a b p0 p1 p2 p3 p4 n : Int) (w : World) (hE : allE a b [⟨p0, p1, p2, p3, p4⟩] ≠ 0) :
    Calls Tryd.prog 21 #[.agg #[.int .i64 a, .int .i64 b], qv ⟨p0, p1, p2, p3, p4⟩, .int .i64 n] w fun r w' => r = .returned (.tuple #[qv Qt.zero, .int .i64 (allE a b [⟨p0, p1, p2, p3, p4⟩])]) ∧ Below w.heap.size w w' := by
  have HC := Lib.hid (fun A c w hx => qboth_any a b A [⟨p0, p1, p2, p3, p4⟩] 1 c w hx rfl (by omega))
  have dE : (allE a b [⟨p0, p1, p2, p3, p4⟩] == 0) = false := f_beq hE
  clear hE
  generalize allE a b [⟨p0, p1, p2, p3, p4⟩] = E at *
  simp only [qv, Qt.zero]
  go_enter Tryd.func21, Tryd.ntmps21
  go_wp2_with fail
  refine (HC.out _ _ _ (shows_flat1 (by simp) p0 p1 p2 p3 p4)).mono ?_
  rintro e1 w1 ⟨rfl, hbb⟩
  have HB1 := Lib.hid (show Bx w [(w.heap.size, #[.int .i64 a, .int .i64 b]), (w.heap.size + 1, #[.int .i64 p0, .int .i64 p1, .int .i64 p2, .int .i64 p3, .int .i64 p4]), (w.heap.size + 2, #[.int .i64 0, .int .i64 0, .int .i64 0, .int .i64 0, .int .i64 0])] w1 from (((((Bx.nil (((((Below.refl _ _).alloc (by simp; try omega) _).alloc (by simp; try omega) _).alloc (by simp; try omega) _).alloc (by simp; try omega) _)).cons (by omega) ((Cells.new _ _ _ (by simp)).alloc _)).cons (by omega) (((Cells.new _ _ _ (by simp)).alloc _).alloc _)).cons (by omega) ((((Cells.new _ _ _ (by simp)).alloc _).alloc _).alloc _))).keep hbb)
  clear hbb HC
  obtain ⟨z0, z1, z2, z3, z4⟩ := HB1.out.five (List.mem_cons_of_mem _ (List.mem_cons_of_mem _ (List.mem_cons_self ..)))
  obtain ⟨f0, f1, f2, f3, f4⟩ := HB1.out.fr (List.mem_cons_of_mem _ (List.mem_cons_of_mem _ (List.mem_cons_self ..)))
  obtain ⟨W9, e9, B9, -, -, q0, q1, q2, q3, q4⟩ := HB1.out.put5 (List.mem_cons_of_mem _ (List.mem_cons_of_mem _ (List.mem_cons_self ..))) (.int .i64 0) (.int .i64 0) (.int .i64 0) (.int .i64 0) (.int .i64 0) (L' := []) (fun x hx => by cases hx)
  go_wp2_with fail
  try rw [e9]
  refine bodyPost_ret (v := .tuple #[.agg #[.int .i64 0, .int .i64 0, .int .i64 0, .int .i64 0, .int .i64 0], .int .i64 E]) (by simp [results, Tryd.results21, go_sem, q0, q1, q2, q3, q4]) rfl ?_
  exact ⟨rfl, B9.below⟩

theorem rOne_any (w : World) : Calls Tryd.prog 54 #[] w fun r w' => r = .returned (.agg #[.int .i64 1, .int .i64 0, .int .i64 0, .int .i64 0, .int .i64 1]) ∧ Below w.heap.size w w' := by
  go_enter Tryd.func54, Tryd.ntmps54
  go_wp2_with fail
  refine bodyPost_ret (v := .agg #[.int .i64 1, .int .i64 0, .int .i64 0, .int .i64 0, .int .i64 1]) (by simp [results, Tryd.results54, go_sem]) rfl ?_
  exact ⟨rfl, (Below.refl _ _).alloc (Nat.le_refl _) _⟩

set_option maxHeartbeats 4000000 in
set_option maxRecDepth 100000 in
theorem rPower_pos (a b p0 p1 p2 p3 p4 : Int) (N : Nat) (w : World) (hN : N ≤ 60) (hq : qB ⟨p0, p1, p2, p3, p4⟩ = true) (ha : aE a b = 0) :
    Calls Tryd.prog 25 #[.agg #[.int .i64 a, .int .i64 b], qv ⟨p0, p1, p2, p3, p4⟩, .int .i64 N] w fun r w' => r = .returned (.tuple #[qv (powQ a b ⟨p0, p1, p2, p3, p4⟩ N), .int .i64 (powE a b ⟨p0, p1, p2, p3, p4⟩ N)]) ∧ Below w.heap.size w w' := by
  have HMu := Lib.hid (fun (o : Qt) w (ho : qB o = true) => rMul_any a b o.w o.x o.y o.z o.d p0 p1 p2 p3 p4 w ho hq ha)
  have HOne := Lib.hid rOne_any
  clear hq ha
  simp only [qv] at HMu
  generalize hRQ : powQ a b ⟨p0, p1, p2, p3, p4⟩ N = RQ at *
  generalize hRE : powE a b ⟨p0, p1, p2, p3, p4⟩ N = RE at *
  have HRQ := Lib.hid hRQ; have HRE := Lib.hid hRE
  clear hRQ hRE
  have d3 : decide ((N : Int) < 0) = false := decide_eq_false (by omega)
  simp only [qv]
  go_enter Tryd.func25, Tryd.ntmps25
  go_upto_region 6 with fail
  obtain ⟨W0, hW0⟩ : ∃ W0 : World, W0 = (((w.alloc (.cells #[.int .i64 a, .int .i64 b] 23)).alloc (.cells #[.int .i64 p0, .int .i64 p1, .int .i64 p2, .int .i64 p3, .int .i64 p4] 25)).alloc (.cells #[.int .i64 0, .int .i64 0, .int .i64 0, .int .i64 0, .int .i64 0] 25)) := ⟨_, rfl⟩
  rw [← hW0]
  have HB1 := Lib.hid (show Bx w [(w.heap.size, #[.int .i64 a, .int .i64 b]), (w.heap.size + 1, #[.int .i64 p0, .int .i64 p1, .int .i64 p2, .int .i64 p3, .int .i64 p4]), (w.heap.size + 2, #[.int .i64 0, .int .i64 0, .int .i64 0, .int .i64 0, .int .i64 0])] W0 by rw [hW0]; exact (((((Bx.nil ((((Below.refl _ _).alloc (by simp; try omega) _).alloc (by simp; try omega) _).alloc (by simp; try omega) _)).cons (by omega) (Cells.new _ _ _ (by simp))).cons (by omega) ((Cells.new _ _ _ (by simp)).alloc _)).cons (by omega) (((Cells.new _ _ _ (by simp)).alloc _).alloc _))))
  clear hW0
  go_wp2_with fail
  refine (HOne.out _).mono ?_
  rintro e1 w7 ⟨rfl, hbb⟩
  have HB7 := Lib.hid (HB1.out.keep hbb)
  clear hbb HB1
  have hOB : w.heap.size + 2 < w7.heap.size := (HB7.out.lt (List.mem_cons_of_mem _ (List.mem_cons_of_mem _ (List.mem_cons_self ..)))).2
  obtain ⟨W2, hW2⟩ : ∃ W2 : World, W2 = w7.alloc (.cells #[.int .i64 1, .int .i64 0, .int .i64 0, .int .i64 0, .int .i64 1] 25) := ⟨_, rfl⟩
  have HB0 := Lib.hid (show Bx w ((w7.heap.size, #[.int .i64 1, .int .i64 0, .int .i64 0, .int .i64 0, .int .i64 1]) :: [(w.heap.size, #[.int .i64 a, .int .i64 b]), (w.heap.size + 1, #[.int .i64 p0, .int .i64 p1, .int .i64 p2, .int .i64 p3, .int .i64 p4]), (w.heap.size + 2, #[.int .i64 0, .int .i64 0, .int .i64 0, .int .i64 0, .int .i64 0])]) W2 from hW2 ▸ HB7.out.new _ _)
  go_wp2_with fail
  rw [← hW2]
  clear hW2
  generalize w7.heap.size = OB at *
  clear HB7
  go_loopw [11, 12, 13] (fun s11 _ _ wx => ∃ (k : Nat) (o0 o1 o2 o3 o4 : Int), s11 = .int .i64 k ∧ k ≤ N ∧ powS a b ⟨p0, p1, p2, p3, p4⟩ k = some ⟨o0, o1, o2, o3, o4⟩ ∧ Bx w [(OB, #[.int .i64 o0, .int .i64 o1, .int .i64 o2, .int .i64 o3, .int .i64 o4]), (w.heap.size, #[.int .i64 a, .int .i64 b]), (w.heap.size + 1, #[.int .i64 p0, .int .i64 p1, .int .i64 p2, .int .i64 p3, .int .i64 p4]), (w.heap.size + 2, #[.int .i64 0, .int .i64 0, .int .i64 0, .int .i64 0, .int .i64 0])] wx) (fun s11 _ _ _ => N - (intOf s11).toNat)
  case atStart => exact ⟨0, 1, 0, 0, 0, 1, rfl, Nat.zero_le _, rfl, HB0.out⟩
  case round =>
    clear HB0
    obtain ⟨k, o0, o1, o2, o3, o4, rfl, hk, ho, hb⟩ := hrel
    have HO := Lib.hid ho; have HB := Lib.hid hb
    clear ho hb
    obtain ⟨c0_0, c0_1, c0_2, c0_3, c0_4⟩ := HB.out.five (List.mem_cons_self ..)
    obtain ⟨c1_0, c1_1⟩ := HB.out.two (List.mem_cons_of_mem _ (List.mem_cons_self ..))
    obtain ⟨c2_0, c2_1, c2_2, c2_3, c2_4⟩ := HB.out.five (List.mem_cons_of_mem _ (List.mem_cons_of_mem _ (List.mem_cons_self ..)))
    obtain ⟨c3_0, c3_1, c3_2, c3_3, c3_4⟩ := HB.out.five (List.mem_cons_of_mem _ (List.mem_cons_of_mem _ (List.mem_cons_of_mem _ (List.mem_cons_self ..))))
    obtain ⟨f0, f1, f2, f3, f4⟩ := HB.out.fr (List.mem_cons_of_mem _ (List.mem_cons_of_mem _ (List.mem_cons_of_mem _ (List.mem_cons_self ..))))
    by_cases hlt : k < N
    · have HM := Lib.hid (fun w => HMu.out ⟨o0, o1, o2, o3, o4⟩ w (powS_valid HO.out))
      have HS := Lib.hid (fun h => powS_next HO.out h)
      have HT := Lib.hid (fun h => pow_fell HO.out hlt h)
      generalize fitQ (mulQ a b ⟨o0, o1, o2, o3, o4⟩ ⟨p0, p1, p2, p3, p4⟩) = FQ at *
      generalize fitE (mulQ a b ⟨o0, o1, o2, o3, o4⟩ ⟨p0, p1, p2, p3, p4⟩) = FE at *
      obtain ⟨g0, g1, g2, g3, g4⟩ := FQ
      simp only at HM
      clear HO
      go_wp2_with fail
      refine (HM.out _).mono ?_
      rintro e1 w3 ⟨rfl, hbb⟩
      have HB3 := Lib.hid (HB.out.keep hbb)
      clear hbb HB HM c0_0 c0_1 c0_2 c0_3 c0_4 c1_0 c1_1 c2_0 c2_1 c2_2 c2_3 c2_4 c3_0 c3_1 c3_2 c3_3 c3_4 f0 f1 f2 f3 f4
      obtain ⟨W4, hW4⟩ : ∃ W4 : World, W4 = w3.alloc (.cells #[.int .i64 g0, .int .i64 g1, .int .i64 g2, .int .i64 g3, .int .i64 g4] 25) := ⟨_, rfl⟩
      have HB4 := Lib.hid (show Bx w ((w3.heap.size, #[.int .i64 g0, .int .i64 g1, .int .i64 g2, .int .i64 g3, .int .i64 g4]) :: [(OB, #[.int .i64 o0, .int .i64 o1, .int .i64 o2, .int .i64 o3, .int .i64 o4]), (w.heap.size, #[.int .i64 a, .int .i64 b]), (w.heap.size + 1, #[.int .i64 p0, .int .i64 p1, .int .i64 p2, .int .i64 p3, .int .i64 p4]), (w.heap.size + 2, #[.int .i64 0, .int .i64 0, .int .i64 0, .int .i64 0, .int .i64 0])]) W4 from hW4 ▸ HB3.out.new _ _)
      have hOB := (HB3.out.lt (List.mem_cons_self ..)).2
      by_cases hF : FE = 0
      · subst hF
        have HS2 := Lib.hid (HS.out rfl)
        clear HS HT HB3
        go_upto_region 13 with fail
        rw [← hW4]
        clear hW4
        obtain ⟨c0_0, c0_1, c0_2, c0_3, c0_4⟩ := HB4.out.five (List.mem_cons_self ..)
        obtain ⟨c1_0, c1_1, c1_2, c1_3, c1_4⟩ := HB4.out.five (List.mem_cons_of_mem _ (List.mem_cons_self ..))
        obtain ⟨f0, f1, f2, f3, f4⟩ := HB4.out.fr (List.mem_cons_of_mem _ (List.mem_cons_self ..))
        obtain ⟨W9, e9, B9, -⟩ := HB4.out.put5 (List.mem_cons_of_mem _ (List.mem_cons_self ..)) (.int .i64 g0) (.int .i64 g1) (.int .i64 g2) (.int .i64 g3) (.int .i64 g4) (L' := [(OB, #[.int .i64 g0, .int .i64 g1, .int .i64 g2, .int .i64 g3, .int .i64 g4]), (w.heap.size, #[.int .i64 a, .int .i64 b]), (w.heap.size + 1, #[.int .i64 p0, .int .i64 p1, .int .i64 p2, .int .i64 p3, .int .i64 p4]), (w.heap.size + 2, #[.int .i64 0, .int .i64 0, .int .i64 0, .int .i64 0, .int .i64 0])]) (by
          intro x hx
          simp only [List.mem_cons, List.not_mem_nil, or_false] at hx ⊢
          rcases hx with rfl | rfl | rfl | rfl
          · exact .inr rfl
          · exact .inl ⟨.inr (.inr (.inl rfl)), by simp only; omega⟩
          · exact .inl ⟨.inr (.inr (.inr (.inl rfl))), by simp only; omega⟩
          · exact .inl ⟨.inr (.inr (.inr (.inr rfl))), by simp only; omega⟩)
        have HB9 := Lib.hid B9
        clear B9 HB4
        go_upto_region 9 with fail
        try rw [e9]
        clear e9 c0_0 c0_1 c0_2 c0_3 c0_4 c1_0 c1_1 c1_2 c1_3 c1_4 f0 f1 f2 f3 f4
        go_wp2_with fail
        exact ⟨⟨k + 1, g0, g1, g2, g3, g4, by go_num, by omega, HS2.out, HB9.out⟩, by simp [intOf]; omega⟩
      · have d1 : (FE == 0) = false := f_beq hF
        obtain ⟨t1, t2, t3⟩ := HT.out hF
        have HT1 := Lib.hid t1; have HT2 := Lib.hid t2
        subst t3
        clear t1 t2 HS HT HB3 hF
        go_upto_region 12 with fail
        rw [← hW4]
        clear hW4
        obtain ⟨c0_0, c0_1, c0_2, c0_3, c0_4⟩ := HB4.out.five (List.mem_cons_of_mem _ (List.mem_cons_of_mem _ (List.mem_cons_of_mem _ (List.mem_cons_of_mem _ (List.mem_cons_self ..)))))
        obtain ⟨f0, f1, f2, f3, f4⟩ := HB4.out.fr (List.mem_cons_of_mem _ (List.mem_cons_of_mem _ (List.mem_cons_of_mem _ (List.mem_cons_of_mem _ (List.mem_cons_self ..)))))
        obtain ⟨W9, e9, B9, -, -, q0, q1, q2, q3, q4⟩ := HB4.out.put5 (List.mem_cons_of_mem _ (List.mem_cons_of_mem _ (List.mem_cons_of_mem _ (List.mem_cons_of_mem _ (List.mem_cons_self ..))))) (.int .i64 0) (.int .i64 0) (.int .i64 0) (.int .i64 0) (.int .i64 0) (L' := []) (fun x hx => by cases hx)
        go_wp2_with fail
        try rw [e9]
        refine bodyPost_ret (v := .tuple #[.agg #[.int .i64 0, .int .i64 0, .int .i64 0, .int .i64 0, .int .i64 0], .int .i64 8]) (by simp [results, Tryd.results25, go_sem, q0, q1, q2, q3, q4]) rfl ?_
        exact ⟨by rw [← HRQ.out, ← HRE.out, HT1.out, HT2.out]; rfl, B9.below⟩
    · obtain rfl : k = N := by omega
      have HD := Lib.hid (pow_done HO.out)
      obtain ⟨W9, e9, B9, -, -, q0, q1, q2, q3, q4⟩ := HB.out.put5 (List.mem_cons_of_mem _ (List.mem_cons_of_mem _ (List.mem_cons_of_mem _ (List.mem_cons_self ..)))) (.int .i64 o0) (.int .i64 o1) (.int .i64 o2) (.int .i64 o3) (.int .i64 o4) (L' := []) (fun x hx => by cases hx)
      clear HO HB
      go_wp2_with fail
      try rw [e9]
      refine bodyPost_ret (v := .tuple #[.agg #[.int .i64 o0, .int .i64 o1, .int .i64 o2, .int .i64 o3, .int .i64 o4], .int .i64 0]) (by simp [results, Tryd.results25, go_sem, q0, q1, q2, q3, q4]) rfl ?_
      exact ⟨by rw [← HRQ.out, ← HRE.out, HD.out.1, HD.out.2], B9.below⟩

set_option maxHeartbeats 4000000 in
set_option maxRecDepth 100000 in
theorem rPower_neg (a b p0 p1 p2 p3 p4 : Int) (N : Nat) (w : World) (hN : 1 ≤ N ∧ N ≤ 60) (hq : qB ⟨p0, p1, p2, p3, p4⟩ = true) (ha : aE a b = 0) (hI : ivE a b ⟨p0, p1, p2, p3, p4⟩ = 0) :
    Calls Tryd.prog 25 #[.agg #[.int .i64 a, .int .i64 b], qv ⟨p0, p1, p2, p3, p4⟩, .int .i64 (-(N : Int))] w fun r w' => r = .returned (.tuple #[qv (powQ a b (ivQ a b ⟨p0, p1, p2, p3, p4⟩) N), .int .i64 (powE a b (ivQ a b ⟨p0, p1, p2, p3, p4⟩) N)]) ∧ Below w.heap.size w w' := by
  have hInv := fun w => rInverse_any a b p0 p1 p2 p3 p4 w hq ha
  rw [hI] at hInv
  have HInv := Lib.hid hInv
  have hiv := iv_valid hI
  have HMu := Lib.hid (fun (o : Qt) w (ho : qB o = true) => rMul_any a b o.w o.x o.y o.z o.d (ivQ a b ⟨p0, p1, p2, p3, p4⟩).w (ivQ a b ⟨p0, p1, p2, p3, p4⟩).x (ivQ a b ⟨p0, p1, p2, p3, p4⟩).y (ivQ a b ⟨p0, p1, p2, p3, p4⟩).z (ivQ a b ⟨p0, p1, p2, p3, p4⟩).d w ho hiv ha)
  have HOne := Lib.hid rOne_any
  clear hInv hq ha hiv hI
  generalize ivQ a b ⟨p0, p1, p2, p3, p4⟩ = Q at *
  obtain ⟨i0, i1, i2, i3, i4⟩ := Q
  simp only [qv] at HMu HInv
  generalize hRQ : powQ a b ⟨i0, i1, i2, i3, i4⟩ N = RQ at *
  generalize hRE : powE a b ⟨i0, i1, i2, i3, i4⟩ N = RE at *
  have HRQ := Lib.hid hRQ; have HRE := Lib.hid hRE
  clear hRQ hRE
  have d1 : decide (-(N : Int) < -60) = false := decide_eq_false (by omega)
  have d2 : decide (60 < -(N : Int)) = false := decide_eq_false (by omega)
  have d3 : decide (-(N : Int) < 0) = true := decide_eq_true (by omega)
  simp only [qv]
  go_enter Tryd.func25, Tryd.ntmps25
  go_upto_region 2 with fail
  obtain ⟨W0, hW0⟩ : ∃ W0 : World, W0 = (((w.alloc (.cells #[.int .i64 a, .int .i64 b] 23)).alloc (.cells #[.int .i64 p0, .int .i64 p1, .int .i64 p2, .int .i64 p3, .int .i64 p4] 25)).alloc (.cells #[.int .i64 0, .int .i64 0, .int .i64 0, .int .i64 0, .int .i64 0] 25)) := ⟨_, rfl⟩
  rw [← hW0]
  have HB1 := Lib.hid (show Bx w [(w.heap.size, #[.int .i64 a, .int .i64 b]), (w.heap.size + 1, #[.int .i64 p0, .int .i64 p1, .int .i64 p2, .int .i64 p3, .int .i64 p4]), (w.heap.size + 2, #[.int .i64 0, .int .i64 0, .int .i64 0, .int .i64 0, .int .i64 0])] W0 by rw [hW0]; exact (((((Bx.nil ((((Below.refl _ _).alloc (by simp; try omega) _).alloc (by simp; try omega) _).alloc (by simp; try omega) _)).cons (by omega) (Cells.new _ _ _ (by simp))).cons (by omega) ((Cells.new _ _ _ (by simp)).alloc _)).cons (by omega) (((Cells.new _ _ _ (by simp)).alloc _).alloc _))))
  clear hW0
  obtain ⟨c0_0, c0_1⟩ := HB1.out.two (List.mem_cons_self ..)
  obtain ⟨c1_0, c1_1, c1_2, c1_3, c1_4⟩ := HB1.out.five (List.mem_cons_of_mem _ (List.mem_cons_self ..))
  go_wp2_with fail
  refine (HInv.out _).mono ?_
  rintro e1 w3 ⟨rfl, hbb⟩
  have HB3 := Lib.hid (HB1.out.keep hbb)
  clear hbb HB1 HInv c0_0 c0_1 c1_0 c1_1 c1_2 c1_3 c1_4
  go_upto_region 5 with fail
  obtain ⟨V1, hV1⟩ : ∃ V1 : World, V1 = w3.alloc (.cells #[.int .i64 i0, .int .i64 i1, .int .i64 i2, .int .i64 i3, .int .i64 i4] 25) := ⟨_, rfl⟩
  rw [← hV1]
  have hIB := (HB3.out.lt (List.mem_cons_of_mem _ (List.mem_cons_of_mem _ (List.mem_cons_self ..)))).2
  have HV1 := Lib.hid (show Bx w ((w3.heap.size, #[.int .i64 i0, .int .i64 i1, .int .i64 i2, .int .i64 i3, .int .i64 i4]) :: [(w.heap.size, #[.int .i64 a, .int .i64 b]), (w.heap.size + 1, #[.int .i64 p0, .int .i64 p1, .int .i64 p2, .int .i64 p3, .int .i64 p4]), (w.heap.size + 2, #[.int .i64 0, .int .i64 0, .int .i64 0, .int .i64 0, .int .i64 0])]) V1 from hV1 ▸ HB3.out.new _ _)
  clear hV1 HB3
  generalize w3.heap.size = IB at *
  obtain ⟨c0_0, c0_1, c0_2, c0_3, c0_4⟩ := HV1.out.five (List.mem_cons_self ..)
  obtain ⟨c1_0, c1_1, c1_2, c1_3, c1_4⟩ := HV1.out.five (List.mem_cons_of_mem _ (List.mem_cons_of_mem _ (List.mem_cons_self ..)))
  obtain ⟨f0, f1, f2, f3, f4⟩ := HV1.out.fr (List.mem_cons_of_mem _ (List.mem_cons_of_mem _ (List.mem_cons_self ..)))
  obtain ⟨W5, e5, B5, -⟩ := HV1.out.put5 (List.mem_cons_of_mem _ (List.mem_cons_of_mem _ (List.mem_cons_self ..))) (.int .i64 i0) (.int .i64 i1) (.int .i64 i2) (.int .i64 i3) (.int .i64 i4) (L' := [(w.heap.size, #[.int .i64 a, .int .i64 b]), (w.heap.size + 1, #[.int .i64 i0, .int .i64 i1, .int .i64 i2, .int .i64 i3, .int .i64 i4]), (w.heap.size + 2, #[.int .i64 0, .int .i64 0, .int .i64 0, .int .i64 0, .int .i64 0])]) (by
    intro x hx
    simp only [List.mem_cons, List.not_mem_nil, or_false] at hx ⊢
    rcases hx with rfl | rfl | rfl
    · exact .inl ⟨.inr (.inl rfl), by simp only; omega⟩
    · exact .inr rfl
    · exact .inl ⟨.inr (.inr (.inr rfl)), by simp only; omega⟩)
  have HB5 := Lib.hid B5
  go_upto_region 6 with fail
  try rw [e5]
  clear B5 HV1 e5 c0_0 c0_1 c0_2 c0_3 c0_4 c1_0 c1_1 c1_2 c1_3 c1_4 f0 f1 f2 f3 f4
  go_wp2_with fail
  refine (HOne.out _).mono ?_
  rintro e1 w7 ⟨rfl, hbb⟩
  have HB7 := Lib.hid (HB5.out.keep hbb)
  clear hbb HB5
  have hOB : w.heap.size + 2 < w7.heap.size := (HB7.out.lt (List.mem_cons_of_mem _ (List.mem_cons_of_mem _ (List.mem_cons_self ..)))).2
  obtain ⟨W2, hW2⟩ : ∃ W2 : World, W2 = w7.alloc (.cells #[.int .i64 1, .int .i64 0, .int .i64 0, .int .i64 0, .int .i64 1] 25) := ⟨_, rfl⟩
  have HB0 := Lib.hid (show Bx w ((w7.heap.size, #[.int .i64 1, .int .i64 0, .int .i64 0, .int .i64 0, .int .i64 1]) :: [(w.heap.size, #[.int .i64 a, .int .i64 b]), (w.heap.size + 1, #[.int .i64 i0, .int .i64 i1, .int .i64 i2, .int .i64 i3, .int .i64 i4]), (w.heap.size + 2, #[.int .i64 0, .int .i64 0, .int .i64 0, .int .i64 0, .int .i64 0])]) W2 from hW2 ▸ HB7.out.new _ _)
  go_wp2_with fail
  rw [← hW2]
  clear hW2
  generalize w7.heap.size = OB at *
  clear HB7
  go_loopw [11, 12, 13] (fun s11 _ _ wx => ∃ (k : Nat) (o0 o1 o2 o3 o4 : Int), s11 = .int .i64 k ∧ k ≤ N ∧ powS a b ⟨i0, i1, i2, i3, i4⟩ k = some ⟨o0, o1, o2, o3, o4⟩ ∧ Bx w [(OB, #[.int .i64 o0, .int .i64 o1, .int .i64 o2, .int .i64 o3, .int .i64 o4]), (w.heap.size, #[.int .i64 a, .int .i64 b]), (w.heap.size + 1, #[.int .i64 i0, .int .i64 i1, .int .i64 i2, .int .i64 i3, .int .i64 i4]), (w.heap.size + 2, #[.int .i64 0, .int .i64 0, .int .i64 0, .int .i64 0, .int .i64 0])] wx) (fun s11 _ _ _ => N - (intOf s11).toNat)
  case atStart => exact ⟨0, 1, 0, 0, 0, 1, rfl, Nat.zero_le _, rfl, HB0.out⟩
  case round =>
    clear HB0
    obtain ⟨k, o0, o1, o2, o3, o4, rfl, hk, ho, hb⟩ := hrel
    have HO := Lib.hid ho; have HB := Lib.hid hb
    clear ho hb
    obtain ⟨c0_0, c0_1, c0_2, c0_3, c0_4⟩ := HB.out.five (List.mem_cons_self ..)
    obtain ⟨c1_0, c1_1⟩ := HB.out.two (List.mem_cons_of_mem _ (List.mem_cons_self ..))
    obtain ⟨c2_0, c2_1, c2_2, c2_3, c2_4⟩ := HB.out.five (List.mem_cons_of_mem _ (List.mem_cons_of_mem _ (List.mem_cons_self ..)))
    obtain ⟨c3_0, c3_1, c3_2, c3_3, c3_4⟩ := HB.out.five (List.mem_cons_of_mem _ (List.mem_cons_of_mem _ (List.mem_cons_of_mem _ (List.mem_cons_self ..))))
    obtain ⟨f0, f1, f2, f3, f4⟩ := HB.out.fr (List.mem_cons_of_mem _ (List.mem_cons_of_mem _ (List.mem_cons_of_mem _ (List.mem_cons_self ..))))
    by_cases hlt : k < N
    · have HM := Lib.hid (fun w => HMu.out ⟨o0, o1, o2, o3, o4⟩ w (powS_valid HO.out))
      have HS := Lib.hid (fun h => powS_next HO.out h)
      have HT := Lib.hid (fun h => pow_fell HO.out hlt h)
      generalize fitQ (mulQ a b ⟨o0, o1, o2, o3, o4⟩ ⟨i0, i1, i2, i3, i4⟩) = FQ at *
      generalize fitE (mulQ a b ⟨o0, o1, o2, o3, o4⟩ ⟨i0, i1, i2, i3, i4⟩) = FE at *
      obtain ⟨g0, g1, g2, g3, g4⟩ := FQ
      simp only at HM
      clear HO
      go_wp2_with fail
      refine (HM.out _).mono ?_
      rintro e1 w3 ⟨rfl, hbb⟩
      have HB3 := Lib.hid (HB.out.keep hbb)
      clear hbb HB HM c0_0 c0_1 c0_2 c0_3 c0_4 c1_0 c1_1 c2_0 c2_1 c2_2 c2_3 c2_4 c3_0 c3_1 c3_2 c3_3 c3_4 f0 f1 f2 f3 f4
      obtain ⟨W4, hW4⟩ : ∃ W4 : World, W4 = w3.alloc (.cells #[.int .i64 g0, .int .i64 g1, .int .i64 g2, .int .i64 g3, .int .i64 g4] 25) := ⟨_, rfl⟩
      have HB4 := Lib.hid (show Bx w ((w3.heap.size, #[.int .i64 g0, .int .i64 g1, .int .i64 g2, .int .i64 g3, .int .i64 g4]) :: [(OB, #[.int .i64 o0, .int .i64 o1, .int .i64 o2, .int .i64 o3, .int .i64 o4]), (w.heap.size, #[.int .i64 a, .int .i64 b]), (w.heap.size + 1, #[.int .i64 i0, .int .i64 i1, .int .i64 i2, .int .i64 i3, .int .i64 i4]), (w.heap.size + 2, #[.int .i64 0, .int .i64 0, .int .i64 0, .int .i64 0, .int .i64 0])]) W4 from hW4 ▸ HB3.out.new _ _)
      have hOB := (HB3.out.lt (List.mem_cons_self ..)).2
      by_cases hF : FE = 0
      · subst hF
        have HS2 := Lib.hid (HS.out rfl)
        clear HS HT HB3
        go_upto_region 13 with fail
        rw [← hW4]
        clear hW4
        obtain ⟨c0_0, c0_1, c0_2, c0_3, c0_4⟩ := HB4.out.five (List.mem_cons_self ..)
        obtain ⟨c1_0, c1_1, c1_2, c1_3, c1_4⟩ := HB4.out.five (List.mem_cons_of_mem _ (List.mem_cons_self ..))
        obtain ⟨f0, f1, f2, f3, f4⟩ := HB4.out.fr (List.mem_cons_of_mem _ (List.mem_cons_self ..))
        obtain ⟨W9, e9, B9, -⟩ := HB4.out.put5 (List.mem_cons_of_mem _ (List.mem_cons_self ..)) (.int .i64 g0) (.int .i64 g1) (.int .i64 g2) (.int .i64 g3) (.int .i64 g4) (L' := [(OB, #[.int .i64 g0, .int .i64 g1, .int .i64 g2, .int .i64 g3, .int .i64 g4]), (w.heap.size, #[.int .i64 a, .int .i64 b]), (w.heap.size + 1, #[.int .i64 i0, .int .i64 i1, .int .i64 i2, .int .i64 i3, .int .i64 i4]), (w.heap.size + 2, #[.int .i64 0, .int .i64 0, .int .i64 0, .int .i64 0, .int .i64 0])]) (by
          intro x hx
          simp only [List.mem_cons, List.not_mem_nil, or_false] at hx ⊢
          rcases hx with rfl | rfl | rfl | rfl
          · exact .inr rfl
          · exact .inl ⟨.inr (.inr (.inl rfl)), by simp only; omega⟩
          · exact .inl ⟨.inr (.inr (.inr (.inl rfl))), by simp only; omega⟩
          · exact .inl ⟨.inr (.inr (.inr (.inr rfl))), by simp only; omega⟩)
        have HB9 := Lib.hid B9
        clear B9 HB4
        go_upto_region 9 with fail
        try rw [e9]
        clear e9 c0_0 c0_1 c0_2 c0_3 c0_4 c1_0 c1_1 c1_2 c1_3 c1_4 f0 f1 f2 f3 f4
        go_wp2_with fail
        exact ⟨⟨k + 1, g0, g1, g2, g3, g4, by go_num, by omega, HS2.out, HB9.out⟩, by simp [intOf]; omega⟩
      · have d1 : (FE == 0) = false := f_beq hF
        obtain ⟨t1, t2, t3⟩ := HT.out hF
        have HT1 := Lib.hid t1; have HT2 := Lib.hid t2
        subst t3
        clear t1 t2 HS HT HB3 hF
        go_upto_region 12 with fail
        rw [← hW4]
        clear hW4
        obtain ⟨c0_0, c0_1, c0_2, c0_3, c0_4⟩ := HB4.out.five (List.mem_cons_of_mem _ (List.mem_cons_of_mem _ (List.mem_cons_of_mem _ (List.mem_cons_of_mem _ (List.mem_cons_self ..)))))
        obtain ⟨f0, f1, f2, f3, f4⟩ := HB4.out.fr (List.mem_cons_of_mem _ (List.mem_cons_of_mem _ (List.mem_cons_of_mem _ (List.mem_cons_of_mem _ (List.mem_cons_self ..)))))
        obtain ⟨W9, e9, B9, -, -, q0, q1, q2, q3, q4⟩ := HB4.out.put5 (List.mem_cons_of_mem _ (List.mem_cons_of_mem _ (List.mem_cons_of_mem _ (List.mem_cons_of_mem _ (List.mem_cons_self ..))))) (.int .i64 0) (.int .i64 0) (.int .i64 0) (.int .i64 0) (.int .i64 0) (L' := []) (fun x hx => by cases hx)
        go_wp2_with fail
        try rw [e9]
        refine bodyPost_ret (v := .tuple #[.agg #[.int .i64 0, .int .i64 0, .int .i64 0, .int .i64 0, .int .i64 0], .int .i64 8]) (by simp [results, Tryd.results25, go_sem, q0, q1, q2, q3, q4]) rfl ?_
        exact ⟨by rw [← HRQ.out, ← HRE.out, HT1.out, HT2.out]; rfl, B9.below⟩
    · obtain rfl : k = N := by omega
      have HD := Lib.hid (pow_done HO.out)
      obtain ⟨W9, e9, B9, -, -, q0, q1, q2, q3, q4⟩ := HB.out.put5 (List.mem_cons_of_mem _ (List.mem_cons_of_mem _ (List.mem_cons_of_mem _ (List.mem_cons_self ..)))) (.int .i64 o0) (.int .i64 o1) (.int .i64 o2) (.int .i64 o3) (.int .i64 o4) (L' := []) (fun x hx => by cases hx)
      clear HO HB
      go_wp2_with fail
      try rw [e9]
      refine bodyPost_ret (v := .tuple #[.agg #[.int .i64 o0, .int .i64 o1, .int .i64 o2, .int .i64 o3, .int .i64 o4], .int .i64 0]) (by simp [results, Tryd.results25, go_sem, q0, q1, q2, q3, q4]) rfl ?_
      exact ⟨by rw [← HRQ.out, ← HRE.out, HD.out.1, HD.out.2], B9.below⟩

set_option maxHeartbeats 4000000 in
set_option maxRecDepth 100000 in
theorem rPower_neg0 (a b p0 p1 p2 p3 p4 : Int) (N : Nat) (w : World) (hN : 1 ≤ N ∧ N ≤ 60) (hq : qB ⟨p0, p1, p2, p3, p4⟩ = true) (ha : aE a b = 0) (hI : ivE a b ⟨p0, p1, p2, p3, p4⟩ ≠ 0) :
    Calls Tryd.prog 25 #[.agg #[.int .i64 a, .int .i64 b], qv ⟨p0, p1, p2, p3, p4⟩, .int .i64 (-(N : Int))] w fun r w' => r = .returned (.tuple #[qv Qt.zero, .int .i64 (ivE a b ⟨p0, p1, p2, p3, p4⟩)]) ∧ Below w.heap.size w w' := by
  have HInv := Lib.hid (fun w => rInverse_any a b p0 p1 p2 p3 p4 w hq ha)
  have dI : (ivE a b ⟨p0, p1, p2, p3, p4⟩ == 0) = false := f_beq hI
  clear hq ha hI
  generalize ivQ a b ⟨p0, p1, p2, p3, p4⟩ = Q at *
  generalize ivE a b ⟨p0, p1, p2, p3, p4⟩ = IE at *
  obtain ⟨i0, i1, i2, i3, i4⟩ := Q
  simp only [qv] at HInv
  have d3 : decide (-(N : Int) < 0) = true := decide_eq_true (by omega)
  simp only [qv, Qt.zero]
  go_enter Tryd.func25, Tryd.ntmps25
  go_upto_region 2 with fail
  obtain ⟨W0, hW0⟩ : ∃ W0 : World, W0 = (((w.alloc (.cells #[.int .i64 a, .int .i64 b] 23)).alloc (.cells #[.int .i64 p0, .int .i64 p1, .int .i64 p2, .int .i64 p3, .int .i64 p4] 25)).alloc (.cells #[.int .i64 0, .int .i64 0, .int .i64 0, .int .i64 0, .int .i64 0] 25)) := ⟨_, rfl⟩
  rw [← hW0]
  have HB1 := Lib.hid (show Bx w [(w.heap.size, #[.int .i64 a, .int .i64 b]), (w.heap.size + 1, #[.int .i64 p0, .int .i64 p1, .int .i64 p2, .int .i64 p3, .int .i64 p4]), (w.heap.size + 2, #[.int .i64 0, .int .i64 0, .int .i64 0, .int .i64 0, .int .i64 0])] W0 by rw [hW0]; exact (((((Bx.nil ((((Below.refl _ _).alloc (by simp; try omega) _).alloc (by simp; try omega) _).alloc (by simp; try omega) _)).cons (by omega) (Cells.new _ _ _ (by simp))).cons (by omega) ((Cells.new _ _ _ (by simp)).alloc _)).cons (by omega) (((Cells.new _ _ _ (by simp)).alloc _).alloc _))))
  clear hW0
  obtain ⟨c0_0, c0_1⟩ := HB1.out.two (List.mem_cons_self ..)
  obtain ⟨c1_0, c1_1, c1_2, c1_3, c1_4⟩ := HB1.out.five (List.mem_cons_of_mem _ (List.mem_cons_self ..))
  go_wp2_with fail
  refine (HInv.out _).mono ?_
  rintro e1 w3 ⟨rfl, hbb⟩
  have HB3 := Lib.hid (HB1.out.keep hbb)
  clear hbb HB1 HInv c0_0 c0_1 c1_0 c1_1 c1_2 c1_3 c1_4
  go_upto_region 4 with fail
  obtain ⟨V1, hV1⟩ : ∃ V1 : World, V1 = w3.alloc (.cells #[.int .i64 i0, .int .i64 i1, .int .i64 i2, .int .i64 i3, .int .i64 i4] 25) := ⟨_, rfl⟩
  rw [← hV1]
  have hIB := (HB3.out.lt (List.mem_cons_of_mem _ (List.mem_cons_of_mem _ (List.mem_cons_self ..)))).2
  have HV1 := Lib.hid (show Bx w ((w3.heap.size, #[.int .i64 i0, .int .i64 i1, .int .i64 i2, .int .i64 i3, .int .i64 i4]) :: [(w.heap.size, #[.int .i64 a, .int .i64 b]), (w.heap.size + 1, #[.int .i64 p0, .int .i64 p1, .int .i64 p2, .int .i64 p3, .int .i64 p4]), (w.heap.size + 2, #[.int .i64 0, .int .i64 0, .int .i64 0, .int .i64 0, .int .i64 0])]) V1 from hV1 ▸ HB3.out.new _ _)
  clear hV1 HB3
  generalize w3.heap.size = IB at *
  obtain ⟨z0, z1, z2, z3, z4⟩ := HV1.out.five (List.mem_cons_of_mem _ (List.mem_cons_of_mem _ (List.mem_cons_of_mem _ (List.mem_cons_self ..))))
  obtain ⟨f0, f1, f2, f3, f4⟩ := HV1.out.fr (List.mem_cons_of_mem _ (List.mem_cons_of_mem _ (List.mem_cons_of_mem _ (List.mem_cons_self ..))))
  obtain ⟨W9, e9, B9, -, -, q0, q1, q2, q3, q4⟩ := HV1.out.put5 (List.mem_cons_of_mem _ (List.mem_cons_of_mem _ (List.mem_cons_of_mem _ (List.mem_cons_self ..)))) (.int .i64 0) (.int .i64 0) (.int .i64 0) (.int .i64 0) (.int .i64 0) (L' := []) (fun x hx => by cases hx)
  go_wp2_with fail
  try rw [e9]
  refine bodyPost_ret (v := .tuple #[.agg #[.int .i64 0, .int .i64 0, .int .i64 0, .int .i64 0, .int .i64 0], .int .i64 IE]) (by simp [results, Tryd.results25, go_sem, q0, q1, q2, q3, q4]) rfl ?_
  exact ⟨rfl, B9.below⟩
end Go.Proofs.YtekkbdpggghcjaaDoor
