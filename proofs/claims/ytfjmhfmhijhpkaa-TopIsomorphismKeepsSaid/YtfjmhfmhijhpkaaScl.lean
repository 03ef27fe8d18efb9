/- Products with fractions in the program; which fractions are valid. -/
import Derived.Test.YtfjmhfmhijhpkaaQo0
namespace Go.Proofs.Ytfjmhfmhijhpkaa
open Go.RowKit FF

/-- what abs gives, the least number too -/
def absW (n : Int) : Int := if n = -9223372036854775808 then n else n.natAbs
set_option maxHeartbeats 400000 in
theorem qabs64_any (n : Int) (w : World) (h : I64 n) : Calls Try.prog 105 #[.int .i64 n] w (Ret w (.int .i64 (absW n))) := by
  by_cases hm : n = -9223372036854775808
  · subst hm
    have e : absW (-9223372036854775808) = -9223372036854775808 := rfl
    rw [e]
    have e9 : wrap64 9223372036854775808 = -9223372036854775808 := by kernel_rfl
    go_enter Try.func105, Try.ntmps105
    go_wp2_with fail
    go_ret
    exact Ret.eq0 rfl
  · have e : absW n = n.natAbs := if_neg hm
    rw [e]
    exact qabs_any n w (by have := h.1; omega) h.2
theorem absW_le {n : Int} : absW n ≤ 1000000000 ↔ n ≤ 1000000000 ∧ (-1000000000 ≤ n ∨ n = -9223372036854775808) := by
  unfold absW; split <;> omega

set_option maxHeartbeats 4000000 in
theorem validFrac_any (n d : Int) (w : World) (hn : I64 n) (hd : I64 d) :
    Calls Try.prog 119 #[fvv n d] w fun r w' => r = .returned (.bool (frB n d)) ∧ Below w.heap.size w w' := by
  have HN := Lib.hid (fun w => qabs64_any n w hn)
  have HD := Lib.hid (fun w => qabs64_any d w hd)
  have an := absW_le (n := n)
  have ad := absW_le (n := d)
  have HF := Lib.hid (frB_iff (n := n) (d := d))
  generalize absW n = A at *
  generalize absW d = D at *
  generalize frB n d = F at *
  obtain ⟨n1, n2⟩ := hn
  obtain ⟨d1, d2⟩ := hd
  unfold fvv

  by_cases c0 : d = 0
  · have HQ := Lib.hid (show F = false by cases hF : F with | false => rfl | true => exact absurd c0 (HF.out.1 hF).1)
    subst c0
    clear HF an ad
    go_enter Try.func119, Try.ntmps119
    go_wp2_with fail
    go_ret
    exact ⟨ret_bool HQ.out.symm, (Below.refl _ _).alloc (Nat.le_refl _) _⟩
  have e0 : (d == 0) = false := f_beq c0
  have e0' : (d != 0) = true := bne_iff_ne.2 c0
  by_cases c1 : 1000000000 < A
  · have e1 : decide (A ≤ 1000000000) = false := decide_eq_false (by omega)
    have HQ := Lib.hid (show F = false by cases hF : F with | false => rfl | true => exact absurd (HF.out.1 hF) (by omega))
    clear HF an ad
    go_enter Try.func119, Try.ntmps119
    go_wp2_with fail
    refine (HN.out _).mono ?_
    rintro e w' ⟨rfl, m1, rfl⟩
    go_wp2_with fail
    go_ret
    exact ⟨ret_bool HQ.out.symm, below_drewN ((Below.refl _ _).alloc (Nat.le_refl _) _) _⟩
  have e1 : decide (A ≤ 1000000000) = true := decide_eq_true (by omega)
  by_cases c2 : 1000000000 < D
  · have e2 : decide (D ≤ 1000000000) = false := decide_eq_false (by omega)
    have HQ := Lib.hid (show F = false by cases hF : F with | false => rfl | true => exact absurd (HF.out.1 hF) (by omega))
    clear HF an ad
    go_enter Try.func119, Try.ntmps119
    go_wp2_with fail
    refine (HN.out _).mono ?_
    rintro e w' ⟨rfl, m1, rfl⟩
    go_wp2_with fail
    refine (HD.out _).mono ?_
    rintro e w' ⟨rfl, m2, rfl⟩
    go_wp2_with fail
    go_ret
    exact ⟨ret_bool HQ.out.symm, by first | exact below_drewN ((Below.refl _ _).alloc (Nat.le_refl _) _) _ | exact below_drewN (below_drewN ((Below.refl _ _).alloc (Nat.le_refl _) _) _) _⟩
  have e2 : decide (D ≤ 1000000000) = true := decide_eq_true (by omega)
  by_cases c3 : n < -1000000000
  · have e3 : decide (-1000000000 ≤ n) = false := decide_eq_false (by omega)
    have HQ := Lib.hid (show F = false by cases hF : F with | false => rfl | true => exact absurd (HF.out.1 hF) (by omega))
    clear HF an ad
    go_enter Try.func119, Try.ntmps119
    go_wp2_with fail
    refine (HN.out _).mono ?_
    rintro e w' ⟨rfl, m1, rfl⟩
    go_wp2_with fail
    refine (HD.out _).mono ?_
    rintro e w' ⟨rfl, m2, rfl⟩
    go_wp2_with fail
    go_ret
    exact ⟨ret_bool HQ.out.symm, by first | exact below_drewN ((Below.refl _ _).alloc (Nat.le_refl _) _) _ | exact below_drewN (below_drewN ((Below.refl _ _).alloc (Nat.le_refl _) _) _) _⟩
  have e3 : decide (-1000000000 ≤ n) = true := decide_eq_true (by omega)
  by_cases c4 : d < -1000000000
  · have e4 : decide (-1000000000 ≤ d) = false := decide_eq_false (by omega)
    have HQ := Lib.hid (show F = false by cases hF : F with | false => rfl | true => exact absurd (HF.out.1 hF) (by omega))
    clear HF an ad
    go_enter Try.func119, Try.ntmps119
    go_wp2_with fail
    refine (HN.out _).mono ?_
    rintro e w' ⟨rfl, m1, rfl⟩
    go_wp2_with fail
    refine (HD.out _).mono ?_
    rintro e w' ⟨rfl, m2, rfl⟩
    go_wp2_with fail
    go_ret
    exact ⟨ret_bool HQ.out.symm, by first | exact below_drewN ((Below.refl _ _).alloc (Nat.le_refl _) _) _ | exact below_drewN (below_drewN ((Below.refl _ _).alloc (Nat.le_refl _) _) _) _⟩
  have e4 : decide (-1000000000 ≤ d) = true := decide_eq_true (by omega)
  have HQ := Lib.hid (show F = true from HF.out.2 (by omega))
  clear HF an ad
  go_enter Try.func119, Try.ntmps119
  go_wp2_with fail
  refine (HN.out _).mono ?_
  rintro e w' ⟨rfl, m1, rfl⟩
  go_wp2_with fail
  refine (HD.out _).mono ?_
  rintro e w' ⟨rfl, m2, rfl⟩
  go_wp2_with fail
  go_ret
  exact ⟨ret_bool HQ.out.symm, by first | exact below_drewN ((Below.refl _ _).alloc (Nat.le_refl _) _) _ | exact below_drewN (below_drewN ((Below.refl _ _).alloc (Nat.le_refl _) _) _) _⟩

/-- the error of a product with a fraction -/
def sclE (n d : Int) (q : Qt) : Int := if qE q = 0 then (if frB n d = true then fitE (scaleQ n d q) else 3) else qE q
def sclQ (n d : Int) (q : Qt) : Qt := if qE q = 0 then (if frB n d = true then fitQ (scaleQ n d q) else Qt.zero) else Qt.zero
set_option maxHeartbeats 4000000 in
set_option maxRecDepth 100000 in
theorem qScale_any (p0 p1 p2 p3 p4 n d : Int) (w : World) (hn : I64 n) (hd : I64 d) :
    Calls Try.prog 77 #[qv ⟨p0, p1, p2, p3, p4⟩, fvv n d] w fun r w' => r = .returned (.tuple #[qv (sclQ n d ⟨p0, p1, p2, p3, p4⟩), .int .i64 (sclE n d ⟨p0, p1, p2, p3, p4⟩)]) ∧ Below w.heap.size w w' := by
  have HE := Lib.hid (show sclQ n d ⟨p0, p1, p2, p3, p4⟩ = (if qE ⟨p0, p1, p2, p3, p4⟩ = 0 then (if frB n d = true then fitQ (scaleQ n d ⟨p0, p1, p2, p3, p4⟩) else Qt.zero) else Qt.zero) ∧ sclE n d ⟨p0, p1, p2, p3, p4⟩ = (if qE ⟨p0, p1, p2, p3, p4⟩ = 0 then (if frB n d = true then fitE (scaleQ n d ⟨p0, p1, p2, p3, p4⟩) else 3) else qE ⟨p0, p1, p2, p3, p4⟩) from ⟨rfl, rfl⟩)
  have HC := Lib.hid (fun w => qcheck_any ⟨p0, p1, p2, p3, p4⟩ w)
  have HV := Lib.hid (fun w => validFrac_any n d w hn hd)
  have HF := Lib.hid (fun (h : qE ⟨p0, p1, p2, p3, p4⟩ = 0) (hf : frB n d = true) => (show IntKind.i64.wrap (p4 * d) = p4 * d ∧ (∀ w, Calls Try.prog 48 #[qv ⟨p0, p1, p2, p3, p4⟩] w fun r w' => r = .returned (cv p0 p1 p2 p3) ∧ Below w.heap.size w w') ∧ (∀ w, Calls Try.prog 120 #[cv p0 p1 p2 p3, .int .i64 n] w fun r w' => r = .returned (cv (p0 * n) (p1 * n) (p2 * n) (p3 * n)) ∧ Below w.heap.size w w') ∧ (∀ w, Calls Try.prog 71 #[cv (p0 * n) (p1 * n) (p2 * n) (p3 * n), .int .i64 (p4 * d)] w fun r w' => r = .returned (.tuple #[qv (fitQ (scaleQ n d ⟨p0, p1, p2, p3, p4⟩)), .int .i64 (fitE (scaleQ n d ⟨p0, p1, p2, p3, p4⟩))]) ∧ Below w.heap.size w w') from by
    have hq := qE_zero.1 h
    obtain ⟨k0, k1, k2, k3, k4⟩ := qB_iff.1 hq
    simp only at k0 k1 k2 k3 k4
    obtain ⟨f1, f2, f3⟩ := frB_iff.1 hf
    have hfit := scaleQ_fit hq hf
    have b4 := mulb (m := 1000000) (x := p4) (by omega) f3
    simp only [Int.reduceMul, Int.reduceNeg] at b4
    exact ⟨wrap_id _ (by omega) (by omega), fun w => qof_any _ _ _ _ _ w, fun w => qscaled_any _ _ _ _ _ w k0 k1 k2 k3 f2, fun w => qfit_any (scaleQ n d ⟨p0, p1, p2, p3, p4⟩) w hfit.1 hfit.2⟩))
  generalize sclQ n d ⟨p0, p1, p2, p3, p4⟩ = RQ at *
  generalize sclE n d ⟨p0, p1, p2, p3, p4⟩ = RE at *
  generalize qE ⟨p0, p1, p2, p3, p4⟩ = E at *
  generalize frB n d = FB at *
  generalize fitQ (scaleQ n d ⟨p0, p1, p2, p3, p4⟩) = FQ at *
  generalize fitE (scaleQ n d ⟨p0, p1, p2, p3, p4⟩) = FE at *
  clear hn hd
  simp only [qv, cv, fvv] at HC HF HV
  simp only [qv, fvv]
  go_enter Try.func77, Try.ntmps77
  go_wp2_with fail
  refine (HC.out _).mono ?_
  rintro e1 w1 ⟨rfl, hbb⟩
  have HG := Lib.hid (show Reg w [(w.heap.size, #[.int .i64 p0, .int .i64 p1, .int .i64 p2, .int .i64 p3, .int .i64 p4]), (w.heap.size + 1, #[.int .i64 n, .int .i64 d])] (w.heap.size + 2) 5 w1 from (((Reg.nil (vs := #[.int .i64 0, .int .i64 0, .int .i64 0, .int .i64 0, .int .i64 0]) ((((Below.refl _ _).alloc (Nat.le_refl _) _).alloc (by simp; try omega) _).alloc (by simp; try omega) _) (by omega) (Cells.new _ _ _ (by simp))).cons ((Cells.new _ _ _ (by simp)).alloc _) (by omega)).cons (((Cells.new _ _ _ (by simp)).alloc _).alloc _) (by omega)).keep hbb)
  clear hbb HC
  obtain ⟨z0, z1, z2, z3, z4, f0, f1, f2, f3, f4⟩ := HG.out.res5
  obtain ⟨c0, c1⟩ := HG.out.two (List.mem_cons_of_mem _ (List.mem_cons_self ..))
  by_cases hE : E = 0
  · subst hE
    go_wp2_with fail
    refine (HV.out _).mono ?_
    clear c0 c1 z0 z1 z2 z3 z4 f0 f1 f2 f3 f4
    rintro e1 w2 ⟨rfl, hbb⟩
    have HG1 := Lib.hid (HG.out.keep hbb)
    clear hbb HG HV
    cases FB
    · obtain ⟨h1, h2⟩ := HE.out
      replace h1 : RQ = Qt.zero := by simpa using h1
      replace h2 : RE = 3 := by simpa using h2
      subst h1; subst h2
      clear HE HF
      obtain ⟨z0, z1, z2, z3, z4, f0, f1, f2, f3, f4⟩ := HG1.out.res5
      go_wp2_with fail
      obtain ⟨W9, e9, q0, q1, q2, q3, q4, B9⟩ := HG1.out.fin5 (.int .i64 (0)) (.int .i64 (0)) (.int .i64 (0)) (.int .i64 (0)) (.int .i64 (0))
      rw [e9]
      refine bodyPost_ret (v := .tuple #[.agg #[.int .i64 0, .int .i64 0, .int .i64 0, .int .i64 0, .int .i64 0], .int .i64 3]) (by simp [results, Try.results77, go_sem, q0, q1, q2, q3, q4]) rfl ?_
      exact ⟨rfl, B9⟩
    · obtain ⟨h1, h2⟩ := HE.out
      replace h1 : RQ = FQ := by simpa using h1
      replace h2 : RE = FE := by simpa using h2
      subst h1; subst h2
      obtain ⟨e2, hHO, hHS, hHT⟩ := HF.out (by trivial) (by trivial)
      clear HF HE
      obtain ⟨g0, g1, g2, g3, g4⟩ := RQ
      have HO := Lib.hid hHO
      have HS := Lib.hid hHS
      have HT := Lib.hid hHT
      clear hHO hHS hHT
      generalize p0 * n = s0 at *
      generalize p1 * n = s1 at *
      generalize p2 * n = s2 at *
      generalize p3 * n = s3 at *
      have mk := fun w' (h : Reg w [(w.heap.size, #[.int .i64 p0, .int .i64 p1, .int .i64 p2, .int .i64 p3, .int .i64 p4]), (w.heap.size + 1, #[.int .i64 n, .int .i64 d])] (w.heap.size + 2) 5 w') => And.intro h (And.intro (h.five (List.mem_cons_self ..)) (And.intro (h.two (List.mem_cons_of_mem _ (List.mem_cons_self ..))) h.res5))
      have MK := Lib.hid mk
      have HG2 := Lib.hid (mk _ (HG1.out.keep (Below.refl _ _).drew))
      clear mk
      go_upto_region 6 with fail
      go_region_held3 (fun w' => Reg w [(w.heap.size, #[.int .i64 p0, .int .i64 p1, .int .i64 p2, .int .i64 p3, .int .i64 p4]), (w.heap.size + 1, #[.int .i64 n, .int .i64 d])] (w.heap.size + 2) 5 w' ∧ (w'.cell? ⟨w.heap.size, 0, none⟩ = some (.int .i64 p0) ∧ w'.cell? ⟨w.heap.size, 1, none⟩ = some (.int .i64 p1) ∧ w'.cell? ⟨w.heap.size, 2, none⟩ = some (.int .i64 p2) ∧ w'.cell? ⟨w.heap.size, 3, none⟩ = some (.int .i64 p3) ∧ w'.cell? ⟨w.heap.size, 4, none⟩ = some (.int .i64 p4)) ∧ (w'.cell? ⟨w.heap.size + 1, 0, none⟩ = some (.int .i64 n) ∧ w'.cell? ⟨w.heap.size + 1, 1, none⟩ = some (.int .i64 d)) ∧ Res5 (w.heap.size + 2) w')
        (first
          | exact HG2.out
          | exact MK.out _ (Reg.keep (And.left (by assumption)) (by assumption))
          | exact MK.out _ (Reg.set5 (And.left (by assumption)) _ _ _ _ _))
        (first
          | (go_at_call 48; (with_reducible refine (HO.out _).mono ?_); rintro e w' ⟨rfl, hb⟩)
          | (go_at_call 120; (with_reducible refine (HS.out _).mono ?_); rintro e w' ⟨rfl, hb⟩)
          | (go_at_call 71; (with_reducible refine (HT.out _).mono ?_); rintro e w' ⟨rfl, hb⟩))
      have hR : Reg w [(w.heap.size, #[.int .i64 p0, .int .i64 p1, .int .i64 p2, .int .i64 p3, .int .i64 p4]), (w.heap.size + 1, #[.int .i64 n, .int .i64 d])] (w.heap.size + 2) 5 w' := by repeat (first | exact HG2.out.1 | refine Reg.keep ?_ (by assumption))
      obtain ⟨W9, e9, q0, q1, q2, q3, q4, B9⟩ := Reg.fin5 hR (.int .i64 g0) (.int .i64 g1) (.int .i64 g2) (.int .i64 g3) (.int .i64 g4)
      rw [e9]
      clear hR HG2 MK HG1
      go_wp2_with fail
      refine bodyPost_ret (v := .tuple #[.agg #[.int .i64 g0, .int .i64 g1, .int .i64 g2, .int .i64 g3, .int .i64 g4], .int .i64 RE]) (by simp [results, Try.results77, go_sem, q0, q1, q2, q3, q4]) rfl ?_
      exact ⟨rfl, B9⟩
  · have d1 : (E == 0) = false := f_beq hE
    obtain ⟨h1, h2⟩ := HE.out
    rw [if_neg hE] at h1 h2
    subst h1; subst h2
    clear HE HF HV
    go_wp2_with fail
    obtain ⟨W9, e9, q0, q1, q2, q3, q4, B9⟩ := HG.out.fin5 (.int .i64 (0)) (.int .i64 (0)) (.int .i64 (0)) (.int .i64 (0)) (.int .i64 (0))
    rw [e9]
    refine bodyPost_ret (v := .tuple #[.agg #[.int .i64 0, .int .i64 0, .int .i64 0, .int .i64 0, .int .i64 0], .int .i64 RE]) (by simp [results, Try.results77, go_sem, q0, q1, q2, q3, q4]) rfl ?_
    exact ⟨rfl, B9⟩
end Go.Proofs.Ytfjmhfmhijhpkaa
