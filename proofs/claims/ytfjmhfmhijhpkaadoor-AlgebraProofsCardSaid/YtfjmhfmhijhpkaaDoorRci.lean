/- Images of i and j: which are accepted by the reference; a slice of elements that came in. -/
import Derived.Test.YtfjmhfmhijhpkaaDoorIso
import Derived.Test.YtfjmhfmhijhpkaaDoorOpen4
namespace Go.Proofs.YtfjmhfmhijhpkaaDoor
open Go.RowKit Go.WideShapes Go.ChangeShapes Go.Joins Go.Deep FF

theorem sqB_smul {a b n k : Int} {q : Qt} (hk : k ≠ 0) : sqB a b n (smul k q) = sqB a b n q := by
  have hkk : k * k ≠ 0 := Int.mul_ne_zero hk hk
  have z : ∀ x : Int, k * k * x = 0 ↔ x = 0 := fun x => ⟨fun h => (Int.mul_eq_zero.1 h).resolve_left hkk, fun h => by rw [h, Int.mul_zero]⟩
  have e : ∀ x : Int, k * k * x = n * (k * q.d) * (k * q.d) ↔ x = n * q.d * q.d := fun x => by
    rw [show n * (k * q.d) * (k * q.d) = k * k * (n * q.d * q.d) by grind]
    exact ⟨fun h => Int.eq_of_mul_eq_mul_left hkk h, fun h => by rw [h]⟩
  unfold sqB
  rw [mulQ_smul, Bool.eq_iff_iff]
  simp only [smul, Bool.and_eq_true, beq_iff_eq, z, e]
theorem opB_smul {a b k l : Int} {p q : Qt} (hk : k ≠ 0) (hl : l ≠ 0) : opB a b (smul k p) (smul l q) = opB a b p q := by
  have hkk : k * l ≠ 0 := Int.mul_ne_zero hk hl
  have z : ∀ x y : Int, k * l * x + k * l * y = 0 ↔ x + y = 0 := fun x y => by
    rw [← Int.mul_add]
    exact ⟨fun h => (Int.mul_eq_zero.1 h).resolve_left hkk, fun h => by rw [h, Int.mul_zero]⟩
  unfold opB
  rw [mulQ_smul, mulQ_smul, Int.mul_comm l k, Bool.eq_iff_iff]
  simp only [smul, Bool.and_eq_true, beq_iff_eq, z]
theorem sqB_nrm {a b n : Int} {q : Qt} (hd : q.d ≠ 0) : sqB a b n (nrm q) = sqB a b n q := by
  conv => rhs; rw [nrm_spec q]
  rw [sqB_smul (gs_ne hd)]
theorem opB_nrm {a b : Int} {p q : Qt} (hp : p.d ≠ 0) (hq : q.d ≠ 0) : opB a b (nrm p) (nrm q) = opB a b p q := by
  conv => rhs; rw [nrm_spec p, nrm_spec q]
  rw [opB_smul (gs_ne hp) (gs_ne hq)]

set_option maxHeartbeats 4000000 in
theorem rCheckIso_short (a b c d : Int) (A : Option Addr) (n cp : Nat) (w : World) (hn2 : n ≠ 2) :
    Calls Tryd.prog 11 #[.agg #[.int .i64 a, .int .i64 b], .agg #[.int .i64 c, .int .i64 d], .slice A n cp] w fun r w' => r = .returned (.int .i64 9) ∧ Below w.heap.size w w' := by
  have dn : ((n : Int) != 2) = true := bne_iff_ne.2 (by omega)
  go_enter Tryd.func11, Tryd.ntmps11
  go_wp2_with fail
  go_ret
  exact ⟨rfl, ((Below.refl _ _).alloc (Nat.le_refl _) _).alloc (by simp) _⟩

set_option maxHeartbeats 4000000 in
set_option maxRecDepth 100000 in
theorem rCheckIso_two (a b c d p0 p1 p2 p3 p4 q0 q1 q2 q3 q4 : Int) (A : Option Addr) (cp : Nat) (w : World) (ha : aE a b = 0) (hc : aE c d = 0) (hx : ShowsI w A (flatQ [⟨p0, p1, p2, p3, p4⟩, ⟨q0, q1, q2, q3, q4⟩])) :
    Calls Tryd.prog 11 #[.agg #[.int .i64 a, .int .i64 b], .agg #[.int .i64 c, .int .i64 d], .slice A 2 cp] w fun r w' => r = .returned (.int .i64 (isoE a b c d [⟨p0, p1, p2, p3, p4⟩, ⟨q0, q1, q2, q3, q4⟩])) ∧ Below w.heap.size w w' := by
  have HK1 := Lib.hid (fun w => rCheckQuat_any ⟨p0, p1, p2, p3, p4⟩ w)
  have HK2 := Lib.hid (fun w => rCheckQuat_any ⟨q0, q1, q2, q3, q4⟩ w)
  obtain ⟨b1, o1, rfl, hb1, z0, z1, z2, z3, z4, z5, z6, z7, z8, z9⟩ := cells10 hx
  clear hx
  have hF : isoE a b c d [⟨p0, p1, p2, p3, p4⟩, ⟨q0, q1, q2, q3, q4⟩] = (if qsE [⟨p0, p1, p2, p3, p4⟩, ⟨q0, q1, q2, q3, q4⟩] = 0 then (if sqB c d a ⟨p0, p1, p2, p3, p4⟩ && (sqB c d b ⟨q0, q1, q2, q3, q4⟩ && opB c d ⟨p0, p1, p2, p3, p4⟩ ⟨q0, q1, q2, q3, q4⟩) then 0 else 18) else qsE [⟨p0, p1, p2, p3, p4⟩, ⟨q0, q1, q2, q3, q4⟩]) := rfl
  have HF1 := Lib.hid (show qE ⟨p0, p1, p2, p3, p4⟩ ≠ 0 → isoE a b c d [⟨p0, p1, p2, p3, p4⟩, ⟨q0, q1, q2, q3, q4⟩] = qE ⟨p0, p1, p2, p3, p4⟩ from fun h => by
    rcases qE_cases ⟨p0, p1, p2, p3, p4⟩ with ⟨h1, h2⟩ | ⟨h1, h2⟩
    · exact absurd h2 h
    · have : qsE [⟨p0, p1, p2, p3, p4⟩, ⟨q0, q1, q2, q3, q4⟩] = 3 := by unfold qsE; rw [if_neg]; simp [h1]
      rw [hF, this, h2, if_neg (by omega)])
  have HF2 := Lib.hid (show qE ⟨q0, q1, q2, q3, q4⟩ ≠ 0 → isoE a b c d [⟨p0, p1, p2, p3, p4⟩, ⟨q0, q1, q2, q3, q4⟩] = qE ⟨q0, q1, q2, q3, q4⟩ from fun h => by
    rcases qE_cases ⟨q0, q1, q2, q3, q4⟩ with ⟨h1, h2⟩ | ⟨h1, h2⟩
    · exact absurd h2 h
    · have : qsE [⟨p0, p1, p2, p3, p4⟩, ⟨q0, q1, q2, q3, q4⟩] = 3 := by unfold qsE; rw [if_neg]; simp [h1]
      rw [hF, this, h2, if_neg (by omega)])
  have HG0 : qE ⟨p0, p1, p2, p3, p4⟩ = 0 → qE ⟨q0, q1, q2, q3, q4⟩ = 0 → isoE a b c d [⟨p0, p1, p2, p3, p4⟩, ⟨q0, q1, q2, q3, q4⟩] = (if sqB c d a (nrm ⟨p0, p1, p2, p3, p4⟩) && (sqB c d b (nrm ⟨q0, q1, q2, q3, q4⟩) && opB c d (nrm ⟨p0, p1, p2, p3, p4⟩) (nrm ⟨q0, q1, q2, q3, q4⟩)) then 0 else 18) ∧
      RowKit.Hid (∀ w, Calls Tryd.prog 27 #[.agg #[.int .i64 c, .int .i64 d], qv (nrm ⟨p0, p1, p2, p3, p4⟩), .int .i64 a] w fun r w' => r = .returned (.bool (sqB c d a (nrm ⟨p0, p1, p2, p3, p4⟩))) ∧ Below w.heap.size w w') ∧
      RowKit.Hid (∀ w, Calls Tryd.prog 27 #[.agg #[.int .i64 c, .int .i64 d], qv (nrm ⟨q0, q1, q2, q3, q4⟩), .int .i64 b] w fun r w' => r = .returned (.bool (sqB c d b (nrm ⟨q0, q1, q2, q3, q4⟩))) ∧ Below w.heap.size w w') ∧
      RowKit.Hid (∀ w, Calls Tryd.prog 28 #[.agg #[.int .i64 c, .int .i64 d], qv (nrm ⟨p0, p1, p2, p3, p4⟩), qv (nrm ⟨q0, q1, q2, q3, q4⟩)] w fun r w' => r = .returned (.bool (opB c d (nrm ⟨p0, p1, p2, p3, p4⟩) (nrm ⟨q0, q1, q2, q3, q4⟩))) ∧ Below w.heap.size w w') ∧
      RowKit.Hid (∀ w, Calls Tryd.prog 26 #[qv ⟨p0, p1, p2, p3, p4⟩] w fun r w' => r = .returned (qv (nrm ⟨p0, p1, p2, p3, p4⟩)) ∧ Below w.heap.size w w') ∧
      RowKit.Hid (∀ w, Calls Tryd.prog 26 #[qv ⟨q0, q1, q2, q3, q4⟩] w fun r w' => r = .returned (qv (nrm ⟨q0, q1, q2, q3, q4⟩)) ∧ Below w.heap.size w w') := by
    intro h1 h2
    have g1 := qE_zero.1 h1; have g2 := qE_zero.1 h2
    have d1 := (qB_iff.1 g1).2.2.2.2; have d2 := (qB_iff.1 g2).2.2.2.2
    simp only at d1 d2
    have n1 : (⟨p0, p1, p2, p3, p4⟩ : Qt).d ≠ 0 := by show p4 ≠ 0; omega
    have n2 : (⟨q0, q1, q2, q3, q4⟩ : Qt).d ≠ 0 := by show q4 ≠ 0; omega
    have k1 := qB_nrm g1; have k2 := qB_nrm g2
    have hs : qsE [⟨p0, p1, p2, p3, p4⟩, ⟨q0, q1, q2, q3, q4⟩] = 0 := qsE_zero.2 (by simp [g1, g2])
    have hbs := aE_zero.1 ha
    refine ⟨?_, Lib.hid fun w => ?_, Lib.hid fun w => ?_, Lib.hid fun w => ?_, Lib.hid fun w => rNormal_any _ w (fitBound_of g1) n1, Lib.hid fun w => rNormal_any _ w (fitBound_of g2) n2⟩
    · rw [sqB_nrm n1, sqB_nrm n2, opB_nrm n1 n2, hF, hs, if_pos rfl]
    · exact rSquare_any c d a _ _ _ _ _ w k1 hc hbs.2.2.1
    · exact rSquare_any c d b _ _ _ _ _ w k2 hc hbs.2.2.2
    · exact rTurned_any c d _ _ _ _ _ _ _ _ _ _ w k1 k2 hc
  have HG := Lib.hid HG0
  clear ha hc hF HG0
  generalize isoE a b c d [⟨p0, p1, p2, p3, p4⟩, ⟨q0, q1, q2, q3, q4⟩] = F at *
  generalize sqB c d a (nrm ⟨p0, p1, p2, p3, p4⟩) = S1 at *
  generalize sqB c d b (nrm ⟨q0, q1, q2, q3, q4⟩) = S2 at *
  generalize opB c d (nrm ⟨p0, p1, p2, p3, p4⟩) (nrm ⟨q0, q1, q2, q3, q4⟩) = S3 at *
  generalize nrm ⟨p0, p1, p2, p3, p4⟩ = M at *
  generalize nrm ⟨q0, q1, q2, q3, q4⟩ = N at *
  generalize qE ⟨p0, p1, p2, p3, p4⟩ = E1 at *
  generalize qE ⟨q0, q1, q2, q3, q4⟩ = E2 at *
  obtain ⟨m0, m1, m2, m3, m4⟩ := M
  obtain ⟨n0, n1, n2, n3, n4⟩ := N
  simp only [qv] at HK1 HK2 HG
  go_enter Tryd.func11, Tryd.ntmps11
  go_upto_region 1 with fail
  obtain ⟨W0, hW0⟩ : ∃ W0 : World, W0 = ((w.alloc (.cells #[.int .i64 a, .int .i64 b] 23)).alloc (.cells #[.int .i64 c, .int .i64 d] 23)) := ⟨_, rfl⟩
  rw [← hW0]
  have HB0 := Lib.hid (show Bx w [(w.heap.size + 1, #[.int .i64 c, .int .i64 d]), (w.heap.size, #[.int .i64 a, .int .i64 b])] W0 by rw [hW0]; simpa using (((Bx.nil (Below.refl w.heap.size w)).new #[.int .i64 a, .int .i64 b] 23).new #[.int .i64 c, .int .i64 d] 23))
  clear hW0
  have dn : (((2 : Nat) : Int) != 2) = false := rfl
  go_wp2_with fail
  go_loopw [7] (fun s7 wr => ∃ k : Nat, s7 = .int .i64 k ∧ k ≤ 2 ∧ (1 ≤ k → E1 = 0) ∧ (2 ≤ k → E2 = 0) ∧ Bx w [(w.heap.size + 1, #[.int .i64 c, .int .i64 d]), (w.heap.size, #[.int .i64 a, .int .i64 b])] wr) (fun s _ => 2 - (intOf s).toNat)
  case atStart => exact ⟨0, rfl, by omega, fun h => absurd h (by omega), fun h => absurd h (by omega), HB0.out⟩
  case round =>
    obtain ⟨k, rfl, hk, hk1, hk2, hb⟩ := hrel
    have HB := Lib.hid hb; clear hb
    have hz := HB.out.below
    have x0 := (hz.cell (p := ⟨b1, o1, none⟩) hb1).trans z0
    have x1 := (hz.cell (p := ⟨b1, o1 + 1, none⟩) hb1).trans z1
    have x2 := (hz.cell (p := ⟨b1, o1 + 2, none⟩) hb1).trans z2
    have x3 := (hz.cell (p := ⟨b1, o1 + 3, none⟩) hb1).trans z3
    have x4 := (hz.cell (p := ⟨b1, o1 + 4, none⟩) hb1).trans z4
    have x5 := (hz.cell (p := ⟨b1, o1 + 5, none⟩) hb1).trans z5
    have x6 := (hz.cell (p := ⟨b1, o1 + 6, none⟩) hb1).trans z6
    have x7 := (hz.cell (p := ⟨b1, o1 + 7, none⟩) hb1).trans z7
    have x8 := (hz.cell (p := ⟨b1, o1 + 8, none⟩) hb1).trans z8
    have x9 := (hz.cell (p := ⟨b1, o1 + 9, none⟩) hb1).trans z9
    clear z0 z1 z2 z3 z4 z5 z6 z7 z8 z9
    by_cases h0 : k = 0
    · subst h0
      clear hz
      go_wp2_with fail
      refine (HK1.out _).mono ?_
      rintro e w1 ⟨rfl, hbb⟩
      have HB2 := Lib.hid (HB.out.keep hbb)
      clear hbb HB x0 x1 x2 x3 x4 x5 x6 x7 x8 x9
      by_cases hE : E1 = 0
      · have HEk := Lib.hid hE
        have d1 : (E1 != 0) = false := by rw [hE]; rfl
        clear hE
        go_wp2_with fail
        exact ⟨⟨1, by go_num, by omega, fun _ => HEk.out, fun h => absurd h (by omega), HB2.out⟩, by simp [intOf]⟩
      · have HEk := Lib.hid (HF1.out hE)
        have d1 : (E1 != 0) = true := bne_iff_ne.2 hE
        clear hE hk1 hk2
        go_wp2_with fail
        go_ret
        exact ⟨ret_int HEk.out.symm, HB2.out.below⟩
    by_cases h1 : k = 1
    · subst h1
      clear hz
      go_wp2_with fail
      refine (HK2.out _).mono ?_
      rintro e w1 ⟨rfl, hbb⟩
      have HB2 := Lib.hid (HB.out.keep hbb)
      clear hbb HB x0 x1 x2 x3 x4 x5 x6 x7 x8 x9
      by_cases hE : E2 = 0
      · have HEk := Lib.hid hE
        have d1 : (E2 != 0) = false := by rw [hE]; rfl
        clear hE
        go_wp2_with fail
        exact ⟨⟨2, by go_num, by omega, fun _ => hk1 (by omega), fun _ => HEk.out, HB2.out⟩, by simp [intOf]⟩
      · have HEk := Lib.hid (HF2.out hE)
        have d1 : (E2 != 0) = true := bne_iff_ne.2 hE
        have HE1 := Lib.hid (hk1 (by omega))
        clear hE hk1 hk2
        go_wp2_with fail
        go_ret
        exact ⟨ret_int HEk.out.symm, HB2.out.below⟩
    obtain rfl : k = 2 := by omega
    obtain ⟨hF, HSm, HSn, HTu, HNp, HNq⟩ := HG.out (hk1 (by omega)) (hk2 (by omega))
    have HH := Lib.hid hF; clear hF HG hk1 hk2 h0 h1 hk HK1 HK2 HF1 HF2
    go_upto_region 9 with fail
    refine wp_region_inv (w.heap.size) [(0, 26, .slice (some ⟨b1, o1, none⟩) 2 cp), (1, 27, .pointer (some ⟨b1, o1, none⟩)), (2, 28, .agg #[.int .i64 p0, .int .i64 p1, .int .i64 p2, .int .i64 p3, .int .i64 p4]), (3, 29, .agg #[.int .i64 m0, .int .i64 m1, .int .i64 m2, .int .i64 m3, .int .i64 m4]), (4, 30, .slice (some ⟨b1, o1, none⟩) 2 cp), (5, 31, .pointer (some ⟨b1, o1 + 5, none⟩)), (6, 32, .agg #[.int .i64 q0, .int .i64 q1, .int .i64 q2, .int .i64 q3, .int .i64 q4]), (7, 33, .agg #[.int .i64 n0, .int .i64 n1, .int .i64 n2, .int .i64 n3, .int .i64 n4])] [⟨8, 9, 10, #[.int .i64 0, .int .i64 0, .int .i64 0, .int .i64 0, .int .i64 0], #[.int .i64 m0, .int .i64 m1, .int .i64 m2, .int .i64 m3, .int .i64 m4]⟩, ⟨9, 10, 11, #[.int .i64 0, .int .i64 0, .int .i64 0, .int .i64 0, .int .i64 0], #[.int .i64 n0, .int .i64 n1, .int .i64 n2, .int .i64 n3, .int .i64 n4]⟩] [⟨w.heap.size + 1, 999, #[.int .i64 c, .int .i64 d], #[.int .i64 c, .int .i64 d]⟩, ⟨w.heap.size, 999, #[.int .i64 a, .int .i64 b], #[.int .i64 a, .int .i64 b]⟩] [26, 27, 28, 29, 30, 31, 32, 33, 9, 10] ?_ (by kernel_rfl) (by kernel_rfl) (by kernel_rfl) ?_ (forall_ops ⟨?_, ?_, ?_, ?_, ?_, ?_, ?_, ?_, ?_, ?_, ?_, ?_, trivial⟩) ?_
    · exact HB.out.below.size
    · intro c hc
      simp only [List.mem_cons, List.not_mem_nil, or_false] at hc
      rcases hc with rfl | rfl
      · exact ⟨(HB.out.own _ (List.mem_cons_self ..)).2, .inr rfl⟩
      · exact ⟨(HB.out.own _ (List.mem_cons_of_mem _ (List.mem_cons_self ..))).2, .inr rfl⟩
    · refine .inl ⟨.inl rfl, .inl ⟨.slice (some ⟨b1, o1, none⟩) 2 cp, by simp, by simp, by simp, fun y W hB hO hV K Q' hK => ?_⟩⟩
      simp only [fr, putAll, List.foldl_cons, List.foldl_nil, List.setIfInBounds_toArray, List.set_cons_zero, List.set_cons_succ] at hK ⊢
      go_simp
      exact hK W (Below.refl _ _)
    · refine .inl ⟨.inl rfl, .inl ⟨.pointer (some ⟨b1, o1, none⟩), by simp, by simp, by simp, fun y W hB hO hV K Q' hK => ?_⟩⟩
      have y26 := hV _ (List.mem_cons_self ..) (by kernel_rfl)
      simp only [fr, putAll, List.foldl_cons, List.foldl_nil, List.setIfInBounds_toArray, List.set_cons_zero, List.set_cons_succ] at hK ⊢
      simp only [y26] at hK ⊢
      go_simp
      exact hK W (Below.refl _ _)
    · refine .inl ⟨.inl rfl, .inl ⟨.agg #[.int .i64 p0, .int .i64 p1, .int .i64 p2, .int .i64 p3, .int .i64 p4], by simp, by simp, by simp, fun y W hB hO hV K Q' hK => ?_⟩⟩
      have y27 := hV _ (List.mem_cons_of_mem _ (List.mem_cons_self ..)) (by kernel_rfl)
      have k0 := (hB.cell (p := ⟨b1, o1, none⟩) hb1).trans x0
      have k1 := (hB.cell (p := ⟨b1, o1 + 1, none⟩) hb1).trans x1
      have k2 := (hB.cell (p := ⟨b1, o1 + 2, none⟩) hb1).trans x2
      have k3 := (hB.cell (p := ⟨b1, o1 + 3, none⟩) hb1).trans x3
      have k4 := (hB.cell (p := ⟨b1, o1 + 4, none⟩) hb1).trans x4
      simp only [fr, putAll, List.foldl_cons, List.foldl_nil, List.setIfInBounds_toArray, List.set_cons_zero, List.set_cons_succ] at hK ⊢
      simp only [y27] at hK ⊢
      go_simp
      exact hK W (Below.refl _ _)
    · refine .inl ⟨.inl rfl, .inl ⟨.agg #[.int .i64 m0, .int .i64 m1, .int .i64 m2, .int .i64 m3, .int .i64 m4], by simp, by simp, by simp, fun y W hB hO hV K Q' hK => ?_⟩⟩
      have y28 := hV _ (List.mem_cons_of_mem _ (List.mem_cons_of_mem _ (List.mem_cons_self ..))) (by kernel_rfl)
      simp only [fr, putAll, List.foldl_cons, List.foldl_nil, List.setIfInBounds_toArray, List.set_cons_zero, List.set_cons_succ] at hK ⊢
      simp only [y28] at hK ⊢
      go_simp
      refine (HNp.out _).mono ?_
      intro e w' h
      rw [h.1]
      exact hK w' h.2
    · refine .inl ⟨.inl rfl, .inl ⟨.slice (some ⟨b1, o1, none⟩) 2 cp, by simp, by simp, by simp, fun y W hB hO hV K Q' hK => ?_⟩⟩
      simp only [fr, putAll, List.foldl_cons, List.foldl_nil, List.setIfInBounds_toArray, List.set_cons_zero, List.set_cons_succ] at hK ⊢
      go_simp
      exact hK W (Below.refl _ _)
    · refine .inl ⟨.inl rfl, .inl ⟨.pointer (some ⟨b1, o1 + 5, none⟩), by simp, by simp, by simp, fun y W hB hO hV K Q' hK => ?_⟩⟩
      have y30 := hV _ (List.mem_cons_of_mem _ (List.mem_cons_of_mem _ (List.mem_cons_of_mem _ (List.mem_cons_of_mem _ (List.mem_cons_self ..))))) (by kernel_rfl)
      simp only [fr, putAll, List.foldl_cons, List.foldl_nil, List.setIfInBounds_toArray, List.set_cons_zero, List.set_cons_succ] at hK ⊢
      simp only [y30] at hK ⊢
      go_simp
      exact hK W (Below.refl _ _)
    · refine .inl ⟨.inl rfl, .inl ⟨.agg #[.int .i64 q0, .int .i64 q1, .int .i64 q2, .int .i64 q3, .int .i64 q4], by simp, by simp, by simp, fun y W hB hO hV K Q' hK => ?_⟩⟩
      have y31 := hV _ (List.mem_cons_of_mem _ (List.mem_cons_of_mem _ (List.mem_cons_of_mem _ (List.mem_cons_of_mem _ (List.mem_cons_of_mem _ (List.mem_cons_self ..)))))) (by kernel_rfl)
      have k0 := (hB.cell (p := ⟨b1, o1 + 5, none⟩) hb1).trans x5
      have k1 := (hB.cell (p := ⟨b1, o1 + 6, none⟩) hb1).trans x6
      have k2 := (hB.cell (p := ⟨b1, o1 + 7, none⟩) hb1).trans x7
      have k3 := (hB.cell (p := ⟨b1, o1 + 8, none⟩) hb1).trans x8
      have k4 := (hB.cell (p := ⟨b1, o1 + 9, none⟩) hb1).trans x9
      simp only [fr, putAll, List.foldl_cons, List.foldl_nil, List.setIfInBounds_toArray, List.set_cons_zero, List.set_cons_succ] at hK ⊢
      simp only [y31] at hK ⊢
      go_simp
      exact hK W (Below.refl _ _)
    · refine .inl ⟨.inl rfl, .inl ⟨.agg #[.int .i64 n0, .int .i64 n1, .int .i64 n2, .int .i64 n3, .int .i64 n4], by simp, by simp, by simp, fun y W hB hO hV K Q' hK => ?_⟩⟩
      have y32 := hV _ (List.mem_cons_of_mem _ (List.mem_cons_of_mem _ (List.mem_cons_of_mem _ (List.mem_cons_of_mem _ (List.mem_cons_of_mem _ (List.mem_cons_of_mem _ (List.mem_cons_self ..))))))) (by kernel_rfl)
      simp only [fr, putAll, List.foldl_cons, List.foldl_nil, List.setIfInBounds_toArray, List.set_cons_zero, List.set_cons_succ] at hK ⊢
      simp only [y32] at hK ⊢
      go_simp
      refine (HNq.out _).mono ?_
      intro e w' h
      rw [h.1]
      exact hK w' h.2
    · refine .inl ⟨.inl rfl, .inr (.inl ⟨by simp, by simp, _, (List.mem_cons_self ..), rfl, by simp, by simp, 39, fun y W K Q' hK => ?_⟩)⟩
      simp only [fr, putAll, List.foldl_cons, List.foldl_nil, List.setIfInBounds_toArray, List.set_cons_zero, List.set_cons_succ] at hK ⊢
      go_simp
      exact hK
    · refine .inl ⟨.inl rfl, .inr (.inl ⟨by simp, by simp, _, (List.mem_cons_of_mem _ (List.mem_cons_self ..)), rfl, by simp, by simp, 39, fun y W K Q' hK => ?_⟩)⟩
      simp only [fr, putAll, List.foldl_cons, List.foldl_nil, List.setIfInBounds_toArray, List.set_cons_zero, List.set_cons_succ] at hK ⊢
      go_simp
      exact hK
    · refine .inl ⟨.inl rfl, .inr (.inr (.inl ⟨by simp, by simp, _, (List.mem_cons_self ..), rfl, by simp, by simp, by kernel_rfl, fun y W g hB hV hg hgw hc K Q' hK => ?_⟩))⟩
      have y29 := hV _ (List.mem_cons_of_mem _ (List.mem_cons_of_mem _ (List.mem_cons_of_mem _ (List.mem_cons_self ..)))) (by kernel_rfl)
      have kk := hc.five
      have k0 := kk.1
      have k1 := kk.2.1
      have k2 := kk.2.2.1
      have k3 := kk.2.2.2.1
      have k4 := kk.2.2.2.2
      clear kk
      have kk := hc.fr
      have f0 := kk.1
      have f1 := kk.2.1
      have f2 := kk.2.2.1
      have f3 := kk.2.2.2.1
      have f4 := kk.2.2.2.2
      clear kk
      dsimp only at hg
      simp only [fr, putAll, List.foldl_cons, List.foldl_nil, List.setIfInBounds_toArray, List.set_cons_zero, List.set_cons_succ] at hK ⊢
      simp only [hg, y29] at hK ⊢
      go_simp
      exact hK _ (hc.put5 (.int .i64 m0) (.int .i64 m1) (.int .i64 m2) (.int .i64 m3) (.int .i64 m4)) (Only.put5 ..)
    · refine .inl ⟨.inl rfl, .inr (.inr (.inl ⟨by simp, by simp, _, (List.mem_cons_of_mem _ (List.mem_cons_self ..)), rfl, by simp, by simp, by kernel_rfl, fun y W g hB hV hg hgw hc K Q' hK => ?_⟩))⟩
      have y33 := hV _ (List.mem_cons_of_mem _ (List.mem_cons_of_mem _ (List.mem_cons_of_mem _ (List.mem_cons_of_mem _ (List.mem_cons_of_mem _ (List.mem_cons_of_mem _ (List.mem_cons_of_mem _ (List.mem_cons_self ..)))))))) (by kernel_rfl)
      have kk := hc.five
      have k0 := kk.1
      have k1 := kk.2.1
      have k2 := kk.2.2.1
      have k3 := kk.2.2.2.1
      have k4 := kk.2.2.2.2
      clear kk
      have kk := hc.fr
      have f0 := kk.1
      have f1 := kk.2.1
      have f2 := kk.2.2.1
      have f3 := kk.2.2.2.1
      have f4 := kk.2.2.2.2
      clear kk
      dsimp only at hg
      simp only [fr, putAll, List.foldl_cons, List.foldl_nil, List.setIfInBounds_toArray, List.set_cons_zero, List.set_cons_succ] at hK ⊢
      simp only [hg, y33] at hK ⊢
      go_simp
      exact hK _ (hc.put5 (.int .i64 n0) (.int .i64 n1) (.int .i64 n2) (.int .i64 n3) (.int .i64 n4)) (Only.put5 ..)
    intro y W hB hO hV hX hA
    have y26 := hV _ (List.mem_cons_self ..)
    dsimp only at y26
    have y27 := hV _ (List.mem_cons_of_mem _ (List.mem_cons_self ..))
    dsimp only at y27
    have y28 := hV _ (List.mem_cons_of_mem _ (List.mem_cons_of_mem _ (List.mem_cons_self ..)))
    dsimp only at y28
    have y29 := hV _ (List.mem_cons_of_mem _ (List.mem_cons_of_mem _ (List.mem_cons_of_mem _ (List.mem_cons_self ..))))
    dsimp only at y29
    have y30 := hV _ (List.mem_cons_of_mem _ (List.mem_cons_of_mem _ (List.mem_cons_of_mem _ (List.mem_cons_of_mem _ (List.mem_cons_self ..)))))
    dsimp only at y30
    have y31 := hV _ (List.mem_cons_of_mem _ (List.mem_cons_of_mem _ (List.mem_cons_of_mem _ (List.mem_cons_of_mem _ (List.mem_cons_of_mem _ (List.mem_cons_self ..))))))
    dsimp only at y31
    have y32 := hV _ (List.mem_cons_of_mem _ (List.mem_cons_of_mem _ (List.mem_cons_of_mem _ (List.mem_cons_of_mem _ (List.mem_cons_of_mem _ (List.mem_cons_of_mem _ (List.mem_cons_self ..)))))))
    dsimp only at y32
    have y33 := hV _ (List.mem_cons_of_mem _ (List.mem_cons_of_mem _ (List.mem_cons_of_mem _ (List.mem_cons_of_mem _ (List.mem_cons_of_mem _ (List.mem_cons_of_mem _ (List.mem_cons_of_mem _ (List.mem_cons_self ..))))))))
    dsimp only at y33
    obtain ⟨g0, z0, g0l, g0c⟩ := hX _ (List.mem_cons_self ..)
    dsimp only at z0 g0c
    obtain ⟨g1, z1, g1l, g1c⟩ := hX _ (List.mem_cons_of_mem _ (List.mem_cons_self ..))
    dsimp only at z1 g1c
    have g0neg1 : g0 ≠ g1 := fun e => hA _ (List.mem_cons_self ..) _ (List.mem_cons_of_mem _ (List.mem_cons_self ..)) (by simp) (by simp only [z0, z1, e])
    have ho0 := hO _ (List.mem_cons_self ..)
    have ho1 := hO _ (List.mem_cons_of_mem _ (List.mem_cons_self ..))
    dsimp only at ho0 ho1
    have HB4 := Lib.hid (show Bx w [(g1, #[.int .i64 n0, .int .i64 n1, .int .i64 n2, .int .i64 n3, .int .i64 n4]), (g0, #[.int .i64 m0, .int .i64 m1, .int .i64 m2, .int .i64 m3, .int .i64 m4]), (w.heap.size + 1, #[.int .i64 c, .int .i64 d]), (w.heap.size, #[.int .i64 a, .int .i64 b])] W from (((((Bx.nil (HB.out.below.trans hB)).cons (HB.out.own _ (List.mem_cons_of_mem _ (List.mem_cons_self ..))).1 ho1).cons (HB.out.own _ (List.mem_cons_self ..)).1 ho0).cons (Nat.le_trans HB.out.below.size g0l) g0c).cons (Nat.le_trans HB.out.below.size g1l) g1c))
    simp only [fr, putAll, List.foldl_cons, List.foldl_nil, List.setIfInBounds_toArray, List.set_cons_zero, List.set_cons_succ]
    simp only [y26, y27, y28, y29, y30, y31, y32, y33, z0, z1]
    clear y26 y27 y28 y29 y30 y31 y32 y33 z0 z1 g0l g0c g1l g1c hB hO hV hX hA ho0 ho1
    clear HB hz HNp HNq x0 x1 x2 x3 x4 x5 x6 x7 x8 x9
    obtain ⟨Av0, Av1, Av2, Av3, Av4⟩ := HB4.out.five (List.mem_cons_self ..)
    obtain ⟨Au0, Au1, Au2, Au3, Au4⟩ := HB4.out.five (List.mem_cons_of_mem _ (List.mem_cons_self ..))
    obtain ⟨As0, As1⟩ := HB4.out.two (List.mem_cons_of_mem _ (List.mem_cons_of_mem _ (List.mem_cons_self ..)))
    obtain ⟨At0, At1⟩ := HB4.out.two (List.mem_cons_of_mem _ (List.mem_cons_of_mem _ (List.mem_cons_of_mem _ (List.mem_cons_self ..))))
    go_wp2_with fail
    refine (HSm.out _).mono ?_
    rintro e5 w5 ⟨rfl, hbb⟩
    have HB5 := Lib.hid (HB4.out.keep hbb)
    clear Av0 Au0 Av1 Au1 Av2 Au2 Av3 Au3 Av4 Au4 As0 At0 As1 At1
    clear hbb HB4
    cases S1
    · go_wp2_with fail
      go_ret
      exact ⟨ret_int HH.out.symm, HB5.out.below⟩
    obtain ⟨Bv0, Bv1, Bv2, Bv3, Bv4⟩ := HB5.out.five (List.mem_cons_self ..)
    obtain ⟨Bu0, Bu1, Bu2, Bu3, Bu4⟩ := HB5.out.five (List.mem_cons_of_mem _ (List.mem_cons_self ..))
    obtain ⟨Bs0, Bs1⟩ := HB5.out.two (List.mem_cons_of_mem _ (List.mem_cons_of_mem _ (List.mem_cons_self ..)))
    obtain ⟨Bt0, Bt1⟩ := HB5.out.two (List.mem_cons_of_mem _ (List.mem_cons_of_mem _ (List.mem_cons_of_mem _ (List.mem_cons_self ..))))
    go_wp2_with fail
    refine (HSn.out _).mono ?_
    rintro e6 w6 ⟨rfl, hbb⟩
    have HB6 := Lib.hid (HB5.out.keep hbb)
    clear Bv0 Bu0 Bv1 Bu1 Bv2 Bu2 Bv3 Bu3 Bv4 Bu4 Bs0 Bt0 Bs1 Bt1
    clear hbb HB5
    cases S2
    · go_wp2_with fail
      go_ret
      exact ⟨ret_int HH.out.symm, HB6.out.below⟩
    obtain ⟨Cv0, Cv1, Cv2, Cv3, Cv4⟩ := HB6.out.five (List.mem_cons_self ..)
    obtain ⟨Cu0, Cu1, Cu2, Cu3, Cu4⟩ := HB6.out.five (List.mem_cons_of_mem _ (List.mem_cons_self ..))
    obtain ⟨Cs0, Cs1⟩ := HB6.out.two (List.mem_cons_of_mem _ (List.mem_cons_of_mem _ (List.mem_cons_self ..)))
    obtain ⟨Ct0, Ct1⟩ := HB6.out.two (List.mem_cons_of_mem _ (List.mem_cons_of_mem _ (List.mem_cons_of_mem _ (List.mem_cons_self ..))))
    go_wp2_with fail
    refine (HTu.out _).mono ?_
    rintro e7 w7 ⟨rfl, hbb⟩
    have HB7 := Lib.hid (HB6.out.keep hbb)
    clear Cv0 Cu0 Cv1 Cu1 Cv2 Cu2 Cv3 Cu3 Cv4 Cu4 Cs0 Ct0 Cs1 Ct1
    clear hbb HB6
    cases S3
    · go_wp2_with fail
      go_ret
      exact ⟨ret_int HH.out.symm, HB7.out.below⟩
    go_wp2_with fail
    go_ret
    exact ⟨ret_int HH.out.symm, HB7.out.below⟩


end Go.Proofs.YtfjmhfmhijhpkaaDoor
