/- The law AlgebraMultiplies answers true at all algebras and elements. -/
import Derived.Test.YtekkbdpggghcjaaDoorAlgebraChecks
import Derived.Test.YtekkbdpggghcjaaDoorSm3
namespace Go.Proofs.YtekkbdpggghcjaaDoor
open Go.RowKit FF

theorem lit_small {a b : Int} (h : litB a b = true) : aE a b = 0 ∧ a.natAbs ≤ 20 ∧ b.natAbs ≤ 20 := by
  unfold litB at h
  simp only [Bool.and_eq_true, decide_eq_true_iff, winB_iff] at h
  omega
theorem fit_of_qB {q : Qt} (h : qB (nrm q) = true) : fitQ q = nrm q ∧ fitE q = 0 := ⟨if_pos h, if_pos h⟩
/-- the product of valid elements whose product fits -/
theorem qMul_fit (a b : Int) (p q : Qt) (w : World) (hp : qB p = true) (hq : qB q = true) (ha : aE a b = 0) (hr : qB (nrm (mulQ a b p q)) = true) :
    Calls Tryd.prog 28 #[.agg #[.int .i64 a, .int .i64 b], qv p, qv q] w fun r w' => r = .returned (.tuple #[qv (nrm (mulQ a b p q)), .int .i64 0]) ∧ Below w.heap.size w w' := by
  have h := qMul_ok a b p q w hp hq ha
  rw [(fit_of_qB hr).1, (fit_of_qB hr).2] at h
  exact h
theorem qConj_fit (p : Qt) (w : World) (hp : qB p = true) :
    Calls Tryd.prog 26 #[qv p] w fun r w' => r = .returned (.tuple #[qv (nrm (conjQ p)), .int .i64 0]) ∧ Below w.heap.size w w' := by
  obtain ⟨p0, p1, p2, p3, p4⟩ := p
  have h := qConj_any p0 p1 p2 p3 p4 w
  have e0 := qE_zero.2 hp
  have e1 : resQ 0 (conjQ ⟨p0, p1, p2, p3, p4⟩) = nrm (conjQ ⟨p0, p1, p2, p3, p4⟩) := (if_pos rfl).trans (fitQ_of (conjQ_fit hp))
  have e2 : resE 0 (conjQ ⟨p0, p1, p2, p3, p4⟩) = 0 := (if_pos rfl).trans (fitE_of (conjQ_fit hp))
  rw [e0, e1, e2] at h
  exact h
theorem qNorm_fit (a b : Int) (p : Qt) (w : World) (hp : qB p = true) (ha : aE a b = 0) :
    Calls Tryd.prog 39 #[.agg #[.int .i64 a, .int .i64 b], qv p] w fun r w' => r = .returned (.tuple #[fvv (nmN a b p) (nmD a b p), .int .i64 0]) ∧ Below w.heap.size w w' := by
  obtain ⟨p0, p1, p2, p3, p4⟩ := p
  exact qNorm_good a b p0 p1 p2 p3 p4 w hp ha
theorem nm_small {a b : Int} {q : Qt} (ha : a.natAbs ≤ 20) (hb : b.natAbs ≤ 20) (hq : smB q = true) : -10000 ≤ nmQ a b q ∧ nmQ a b q ≤ 10000 := by
  obtain ⟨h0, h1, h2, h3, -⟩ := smB_iff.1 hq
  have ha' : -20 ≤ a ∧ a ≤ 20 := by omega
  have hb' : -20 ≤ b ∧ b ≤ 20 := by omega
  have b1 := mulb h0 h0
  have b2 := mulb (mulb ha' h1) h1
  have b3 := mulb (mulb hb' h2) h2
  have b4 := mulb (mulb (mulb ha' hb') h3) h3
  simp only [Int.reduceMul, Int.reduceNeg] at *
  unfold nmQ
  omega
/-- what the law asks of two small elements of a small algebra -/
theorem mult_facts {a b : Int} {p q : Qt} (hl : litB a b = true) (hp : smB p = true) (hq : smB q = true) :
    qB p = true ∧ qB q = true ∧ qB (nrm (mulQ a b p q)) = true ∧ qB (nrm (conjQ p)) = true ∧ qB (nrm (conjQ q)) = true ∧ qB (nrm (mulQ a b (nrm (conjQ q)) (nrm (conjQ p)))) = true ∧ qB (nrm (mulQ a b p (nrm (conjQ p)))) = true ∧
    nmN a b (nrm (mulQ a b p q)) = lowN (nmN a b p * nmN a b q) (nmD a b p * nmD a b q) ∧ nmD a b (nrm (mulQ a b p q)) = lowD (nmN a b p * nmN a b q) (nmD a b p * nmD a b q) ∧
    nrm (mulQ a b (nrm (conjQ q)) (nrm (conjQ p))) = nrm (conjQ (nrm (mulQ a b p q))) ∧ nrm (mulQ a b p (nrm (conjQ p))) = ⟨nmN a b p, 0, 0, 0, nmD a b p⟩ ∧
    0 < nmD a b p ∧ 0 < nmD a b q ∧ (-10000 ≤ nmN a b p ∧ nmN a b p ≤ 10000) ∧ (-10000 ≤ nmN a b q ∧ nmN a b q ≤ 10000) ∧ nmD a b p ≤ 9 ∧ nmD a b q ≤ 9 := by
  obtain ⟨-, ha, hb⟩ := lit_small hl
  have Bp := Bd.of hp
  have Bq := Bd.of hq
  have Bpq := Bp.mul Bq (a := a) (b := b) ha hb (r := 32943) (by omega)
  have Bcp := Bp.conj.nrm
  have Bcq := Bq.conj.nrm
  have Byx := Bcq.mul Bcp (a := a) (b := b) ha hb (r := 32943) (by omega)
  have Bpx := Bp.mul Bcp (a := a) (b := b) ha hb (r := 32943) (by omega)
  have hd : ∀ {r : Qt}, smB r = true → 0 < r.d * r.d ∧ r.d * r.d ≤ 9 := fun {r} h => by
    obtain ⟨-, -, -, -, h4⟩ := smB_iff.1 h
    have h5 : r.d = 1 ∨ r.d = 2 ∨ r.d = 3 := by omega
    rcases h5 with e | e | e <;> rw [e] <;> omega
  have low : ∀ {r : Qt}, smB r = true → 0 < nmD a b r ∧ (-10000 ≤ nmN a b r ∧ nmN a b r ≤ 10000) ∧ nmD a b r ≤ 9 := fun {r} h => by
    have h1 := hd h
    have h2 := nm_small ha hb h
    obtain ⟨g, hg, -, -, hpos⟩ := low_spec (a := nmQ a b r) (b := r.d * r.d) (by omega)
    have t1 := tdiv_le (a := nmQ a b r) (g := if r.d * r.d < 0 then -(Int.gcd (nmQ a b r) (r.d * r.d) : Int) else Int.gcd (nmQ a b r) (r.d * r.d)) (m := 10000) h2
    have t2 := tdiv_le (a := r.d * r.d) (g := if r.d * r.d < 0 then -(Int.gcd (nmQ a b r) (r.d * r.d) : Int) else Int.gcd (nmQ a b r) (r.d * r.d)) (m := 9) (by omega)
    exact ⟨hpos, t1, t2.2⟩
  have hnm := norm_mul (a := a) (b := b) Bp.ne Bq.ne
  have e1 : nrm (mulQ a b (nrm (conjQ q)) (nrm (conjQ p))) = nrm (conjQ (nrm (mulQ a b p q))) := by
    rw [nrm_mul (p := conjQ q) (q := conjQ p) Bq.conj.ne Bp.conj.ne, ← conjQ_mul, nrm_conj (p := mulQ a b p q) Bpq.ne]
  have e2 : nrm (mulQ a b p (nrm (conjQ p))) = ⟨nmN a b p, 0, 0, 0, nmD a b p⟩ := by
    rw [nrm_mul_right (q := conjQ p) Bp.ne Bp.conj.ne, mulQ_conj, low_nrm]; rfl
  exact ⟨smB_qB hp, smB_qB hq, Bpq.nrm.qB (by omega) (by omega), Bcp.qB (by omega) (by omega), Bcq.qB (by omega) (by omega), Byx.nrm.qB (by omega) (by omega), Bpx.nrm.qB (by omega) (by omega),
    hnm.1, hnm.2, e1, e2, (low hp).1, (low hq).1, (low hp).2.1, (low hq).2.1, (low hp).2.2, (low hq).2.2⟩

set_option maxHeartbeats 4000000 in
set_option maxRecDepth 100000 in
theorem Mult_1 (a b p0 p1 p2 p3 p4 q0 q1 q2 q3 q4 : Int) (w : World) (hl : litB a b = false) :
    Calls Tryd.prog 7 #[.agg #[.int .i64 a, .int .i64 b], qv ⟨p0, p1, p2, p3, p4⟩, qv ⟨q0, q1, q2, q3, q4⟩] w fun e w' => e = .returned (.bool true) ∧ Below w.heap.size w w' := by
  have HA := Lib.hid awake3_any
  have hL := fun w => little_any a b w
  have hSm := fun A c w hx => small_any A [⟨p0, p1, p2, p3, p4⟩, ⟨q0, q1, q2, q3, q4⟩] 2 c w hx rfl (by omega)
  simp only [hl] at hL
  have HL := Lib.hid hL
  clear hL hSm hl
  simp only [qv]
  go_enter Tryd.func7, Tryd.ntmps7
  go_upto_region 1 with fail
  obtain ⟨W0, hW0⟩ : ∃ W0 : World, W0 = (((w.alloc (.cells #[.int .i64 a, .int .i64 b] 23)).alloc (.cells #[.int .i64 p0, .int .i64 p1, .int .i64 p2, .int .i64 p3, .int .i64 p4] 25)).alloc (.cells #[.int .i64 q0, .int .i64 q1, .int .i64 q2, .int .i64 q3, .int .i64 q4] 25)) := ⟨_, rfl⟩
  rw [← hW0]
  have HB0 := Lib.hid (show Bx w [(w.heap.size + 2, #[.int .i64 q0, .int .i64 q1, .int .i64 q2, .int .i64 q3, .int .i64 q4]), (w.heap.size + 1, #[.int .i64 p0, .int .i64 p1, .int .i64 p2, .int .i64 p3, .int .i64 p4]), (w.heap.size, #[.int .i64 a, .int .i64 b])] W0 by rw [hW0]; simpa using ((((Bx.nil (Below.refl w.heap.size w)).new #[.int .i64 a, .int .i64 b] 23).new #[.int .i64 p0, .int .i64 p1, .int .i64 p2, .int .i64 p3, .int .i64 p4] 25).new #[.int .i64 q0, .int .i64 q1, .int .i64 q2, .int .i64 q3, .int .i64 q4] 25))
  clear hW0
  go_wp2_with fail
  refine (HA.out _).mono ?_
  rintro e1 w1 ⟨rfl, hbb⟩
  have HB1 := Lib.hid (HB0.out.keep hbb)
  clear hbb HB0
  go_upto_region 3 with fail
  obtain ⟨c0_0, c0_1, c0_2, c0_3, c0_4⟩ := HB1.out.five (List.mem_cons_self ..)
  obtain ⟨c1_0, c1_1, c1_2, c1_3, c1_4⟩ := HB1.out.five (List.mem_cons_of_mem _ (List.mem_cons_self ..))
  obtain ⟨c2_0, c2_1⟩ := HB1.out.two (List.mem_cons_of_mem _ (List.mem_cons_of_mem _ (List.mem_cons_self ..)))
  go_wp2_with fail
  refine (HL.out _).mono ?_
  rintro e2 w2 ⟨rfl, hbb⟩
  have HB2 := Lib.hid (HB1.out.keep hbb)
  clear c0_0 c0_1 c0_2 c0_3 c0_4 c1_0 c1_1 c1_2 c1_3 c1_4 c2_0 c2_1
  clear hbb HB1
  go_wp2_with fail
  go_ret
  exact ⟨rfl, HB2.out.below⟩

set_option maxHeartbeats 4000000 in
set_option maxRecDepth 100000 in
theorem Mult_2 (a b p0 p1 p2 p3 p4 q0 q1 q2 q3 q4 : Int) (w : World) (hl : litB a b = true) (hs : [⟨p0, p1, p2, p3, p4⟩, ⟨q0, q1, q2, q3, q4⟩].all smB = false) :
    Calls Tryd.prog 7 #[.agg #[.int .i64 a, .int .i64 b], qv ⟨p0, p1, p2, p3, p4⟩, qv ⟨q0, q1, q2, q3, q4⟩] w fun e w' => e = .returned (.bool true) ∧ Below w.heap.size w w' := by
  have HA := Lib.hid awake3_any
  have hL := fun w => little_any a b w
  have hSm := fun A c w hx => small_any A [⟨p0, p1, p2, p3, p4⟩, ⟨q0, q1, q2, q3, q4⟩] 2 c w hx rfl (by omega)
  simp only [hl] at hL
  simp only [hs] at hSm
  have HL := Lib.hid hL; have HSm := Lib.hid hSm
  clear hL hSm hl hs
  simp only [qv]
  go_enter Tryd.func7, Tryd.ntmps7
  go_upto_region 1 with fail
  obtain ⟨W0, hW0⟩ : ∃ W0 : World, W0 = (((w.alloc (.cells #[.int .i64 a, .int .i64 b] 23)).alloc (.cells #[.int .i64 p0, .int .i64 p1, .int .i64 p2, .int .i64 p3, .int .i64 p4] 25)).alloc (.cells #[.int .i64 q0, .int .i64 q1, .int .i64 q2, .int .i64 q3, .int .i64 q4] 25)) := ⟨_, rfl⟩
  rw [← hW0]
  have HB0 := Lib.hid (show Bx w [(w.heap.size + 2, #[.int .i64 q0, .int .i64 q1, .int .i64 q2, .int .i64 q3, .int .i64 q4]), (w.heap.size + 1, #[.int .i64 p0, .int .i64 p1, .int .i64 p2, .int .i64 p3, .int .i64 p4]), (w.heap.size, #[.int .i64 a, .int .i64 b])] W0 by rw [hW0]; simpa using ((((Bx.nil (Below.refl w.heap.size w)).new #[.int .i64 a, .int .i64 b] 23).new #[.int .i64 p0, .int .i64 p1, .int .i64 p2, .int .i64 p3, .int .i64 p4] 25).new #[.int .i64 q0, .int .i64 q1, .int .i64 q2, .int .i64 q3, .int .i64 q4] 25))
  clear hW0
  go_wp2_with fail
  refine (HA.out _).mono ?_
  rintro e1 w1 ⟨rfl, hbb⟩
  have HB1 := Lib.hid (HB0.out.keep hbb)
  clear hbb HB0
  go_upto_region 3 with fail
  obtain ⟨c0_0, c0_1, c0_2, c0_3, c0_4⟩ := HB1.out.five (List.mem_cons_self ..)
  obtain ⟨c1_0, c1_1, c1_2, c1_3, c1_4⟩ := HB1.out.five (List.mem_cons_of_mem _ (List.mem_cons_self ..))
  obtain ⟨c2_0, c2_1⟩ := HB1.out.two (List.mem_cons_of_mem _ (List.mem_cons_of_mem _ (List.mem_cons_self ..)))
  go_wp2_with fail
  refine (HL.out _).mono ?_
  rintro e2 w2 ⟨rfl, hbb⟩
  have HB2 := Lib.hid (HB1.out.keep hbb)
  clear c0_0 c0_1 c0_2 c0_3 c0_4 c1_0 c1_1 c1_2 c1_3 c1_4 c2_0 c2_1
  clear hbb HB1
  obtain ⟨c0_0, c0_1, c0_2, c0_3, c0_4⟩ := HB2.out.five (List.mem_cons_self ..)
  obtain ⟨c1_0, c1_1, c1_2, c1_3, c1_4⟩ := HB2.out.five (List.mem_cons_of_mem _ (List.mem_cons_self ..))
  go_wp2_with fail
  refine (HSm.out _ _ _ (shows_flat2 rfl p0 p1 p2 p3 p4 q0 q1 q2 q3 q4)).mono ?_
  rintro e3 w3 ⟨rfl, hbb⟩
  have HB3 := Lib.hid ((HB2.out.keep ((Below.refl _ _).alloc (Nat.le_refl _) _)).keep hbb)
  clear c0_0 c0_1 c0_2 c0_3 c0_4 c1_0 c1_1 c1_2 c1_3 c1_4
  clear hbb HB2
  go_wp2_with fail
  go_ret
  exact ⟨rfl, HB3.out.below⟩

set_option maxHeartbeats 4000000 in
set_option maxRecDepth 100000 in
theorem Mult_3 (a b p0 p1 p2 p3 p4 q0 q1 q2 q3 q4 : Int) (w : World) (hl : litB a b = true) (hs : [⟨p0, p1, p2, p3, p4⟩, ⟨q0, q1, q2, q3, q4⟩].all smB = true) :
    Calls Tryd.prog 7 #[.agg #[.int .i64 a, .int .i64 b], qv ⟨p0, p1, p2, p3, p4⟩, qv ⟨q0, q1, q2, q3, q4⟩] w fun e w' => e = .returned (.bool true) ∧ Below w.heap.size w w' := by
  have HA := Lib.hid awake3_any
  have hL := fun w => little_any a b w
  have hSm := fun A c w hx => small_any A [⟨p0, p1, p2, p3, p4⟩, ⟨q0, q1, q2, q3, q4⟩] 2 c w hx rfl (by omega)
  have hs2 := List.all_eq_true.1 hs
  have hsp := hs2 ⟨p0, p1, p2, p3, p4⟩ (by simp)
  have hsq := hs2 ⟨q0, q1, q2, q3, q4⟩ (by simp)
  obtain ⟨ha, -, -⟩ := lit_small hl
  obtain ⟨hp, hq, hpq, hcp, hcq, hyx, hpx, n1, n2, e1, e2, d1, d2, b1, b2, b3, b4⟩ := mult_facts hl hsp hsq
  simp only [hl] at hL
  simp only [hs] at hSm
  have HL := Lib.hid hL; have HSm := Lib.hid hSm
  have HM := Lib.hid (fun w => qMul_fit a b ⟨p0, p1, p2, p3, p4⟩ ⟨q0, q1, q2, q3, q4⟩ w hp hq ha hpq)
  have HNp := Lib.hid (fun w => qNorm_fit a b ⟨p0, p1, p2, p3, p4⟩ w hp ha)
  have HNq := Lib.hid (fun w => qNorm_fit a b ⟨q0, q1, q2, q3, q4⟩ w hq ha)
  have hNm := fun w => qNorm_fit a b (nrm (mulQ a b ⟨p0, p1, p2, p3, p4⟩ ⟨q0, q1, q2, q3, q4⟩)) w hpq ha
  have HCp := Lib.hid (fun w => qConj_fit ⟨p0, p1, p2, p3, p4⟩ w hp)
  have HCq := Lib.hid (fun w => qConj_fit ⟨q0, q1, q2, q3, q4⟩ w hq)
  have hYX := fun w => qMul_fit a b (nrm (conjQ ⟨q0, q1, q2, q3, q4⟩)) (nrm (conjQ ⟨p0, p1, p2, p3, p4⟩)) w hcq hcp ha hyx
  have HCm := Lib.hid (fun w => qConj_fit (nrm (mulQ a b ⟨p0, p1, p2, p3, p4⟩ ⟨q0, q1, q2, q3, q4⟩)) w hpq)
  have hPX := fun w => qMul_fit a b ⟨p0, p1, p2, p3, p4⟩ (nrm (conjQ ⟨p0, p1, p2, p3, p4⟩)) w hp hcp ha hpx
  simp only [e1] at hYX
  simp only [e2] at hPX
  simp only [n1, n2] at hNm
  have HNm := Lib.hid hNm; have HYX := Lib.hid hYX; have HPX := Lib.hid hPX
  have m1 := mulb b1 b2
  have m2 := mulb (m := 9) (n := 9) (x := nmD a b ⟨p0, p1, p2, p3, p4⟩) (y := nmD a b ⟨q0, q1, q2, q3, q4⟩) (by omega) (by omega)
  have m3 := Int.mul_pos d1 d2
  simp only [Int.reduceMul, Int.reduceNeg] at m1 m2
  have HLo := Lib.hid (fun w => rLowest_any (nmN a b ⟨p0, p1, p2, p3, p4⟩ * nmN a b ⟨q0, q1, q2, q3, q4⟩) (nmD a b ⟨p0, p1, p2, p3, p4⟩ * nmD a b ⟨q0, q1, q2, q3, q4⟩) w (by omega) (by omega) (by omega))
  have wx1 : IntKind.i64.wrap (nmN a b ⟨p0, p1, p2, p3, p4⟩ * nmN a b ⟨q0, q1, q2, q3, q4⟩) = nmN a b ⟨p0, p1, p2, p3, p4⟩ * nmN a b ⟨q0, q1, q2, q3, q4⟩ := wrap_id _ (by omega) (by omega)
  have wx2 : IntKind.i64.wrap (nmD a b ⟨p0, p1, p2, p3, p4⟩ * nmD a b ⟨q0, q1, q2, q3, q4⟩) = nmD a b ⟨p0, p1, p2, p3, p4⟩ * nmD a b ⟨q0, q1, q2, q3, q4⟩ := wrap_id _ (by omega) (by omega)
  have z1 : (nmD a b ⟨p0, p1, p2, p3, p4⟩ == 0) = false := f_beq (by omega)
  have z2 : (nmD a b ⟨q0, q1, q2, q3, q4⟩ == 0) = false := f_beq (by omega)
  obtain ⟨m1a, m1b⟩ := m1
  obtain ⟨m2a, m2b⟩ := m2
  clear hL hSm hl hs hs2 hsp hsq ha hp hq hpq hcp hcq hyx hpx n1 n2 e1 e2 d1 d2 b1 b2 b3 b4 hNm hYX hPX m3
  generalize nrm (conjQ (nrm (mulQ a b ⟨p0, p1, p2, p3, p4⟩ ⟨q0, q1, q2, q3, q4⟩))) = CC at *
  generalize nrm (mulQ a b ⟨p0, p1, p2, p3, p4⟩ ⟨q0, q1, q2, q3, q4⟩) = MM at *
  generalize nrm (conjQ ⟨p0, p1, p2, p3, p4⟩) = XX at *
  generalize nrm (conjQ ⟨q0, q1, q2, q3, q4⟩) = YY at *
  generalize nmN a b ⟨p0, p1, p2, p3, p4⟩ = fa at *
  generalize nmD a b ⟨p0, p1, p2, p3, p4⟩ = fb at *
  generalize nmN a b ⟨q0, q1, q2, q3, q4⟩ = ga at *
  generalize nmD a b ⟨q0, q1, q2, q3, q4⟩ = gb at *
  generalize lowN (fa * ga) (fb * gb) = kn at *
  generalize lowD (fa * ga) (fb * gb) = kd at *
  obtain ⟨m0, m1, m2, m3, m4⟩ := MM
  obtain ⟨x0, x1, x2, x3, x4⟩ := XX
  obtain ⟨y0, y1, y2, y3, y4⟩ := YY
  obtain ⟨c0, c1, c2, c3, c4⟩ := CC
  simp only [qv, fvv] at HM HNp HNq HNm HCp HCq HYX HCm HPX HLo
  simp only [qv]
  go_enter Tryd.func7, Tryd.ntmps7
  go_upto_region 1 with fail
  obtain ⟨W0, hW0⟩ : ∃ W0 : World, W0 = (((w.alloc (.cells #[.int .i64 a, .int .i64 b] 23)).alloc (.cells #[.int .i64 p0, .int .i64 p1, .int .i64 p2, .int .i64 p3, .int .i64 p4] 25)).alloc (.cells #[.int .i64 q0, .int .i64 q1, .int .i64 q2, .int .i64 q3, .int .i64 q4] 25)) := ⟨_, rfl⟩
  rw [← hW0]
  have HB0 := Lib.hid (show Bx w [(w.heap.size + 2, #[.int .i64 q0, .int .i64 q1, .int .i64 q2, .int .i64 q3, .int .i64 q4]), (w.heap.size + 1, #[.int .i64 p0, .int .i64 p1, .int .i64 p2, .int .i64 p3, .int .i64 p4]), (w.heap.size, #[.int .i64 a, .int .i64 b])] W0 by rw [hW0]; simpa using ((((Bx.nil (Below.refl w.heap.size w)).new #[.int .i64 a, .int .i64 b] 23).new #[.int .i64 p0, .int .i64 p1, .int .i64 p2, .int .i64 p3, .int .i64 p4] 25).new #[.int .i64 q0, .int .i64 q1, .int .i64 q2, .int .i64 q3, .int .i64 q4] 25))
  clear hW0
  go_wp2_with fail
  refine (HA.out _).mono ?_
  rintro e1 w1 ⟨rfl, hbb⟩
  have HB1 := Lib.hid (HB0.out.keep hbb)
  clear hbb HB0
  go_upto_region 3 with fail
  obtain ⟨c0_0, c0_1, c0_2, c0_3, c0_4⟩ := HB1.out.five (List.mem_cons_self ..)
  obtain ⟨c1_0, c1_1, c1_2, c1_3, c1_4⟩ := HB1.out.five (List.mem_cons_of_mem _ (List.mem_cons_self ..))
  obtain ⟨c2_0, c2_1⟩ := HB1.out.two (List.mem_cons_of_mem _ (List.mem_cons_of_mem _ (List.mem_cons_self ..)))
  go_wp2_with fail
  refine (HL.out _).mono ?_
  rintro e2 w2 ⟨rfl, hbb⟩
  have HB2 := Lib.hid (HB1.out.keep hbb)
  clear c0_0 c0_1 c0_2 c0_3 c0_4 c1_0 c1_1 c1_2 c1_3 c1_4 c2_0 c2_1
  clear hbb HB1
  obtain ⟨c0_0, c0_1, c0_2, c0_3, c0_4⟩ := HB2.out.five (List.mem_cons_self ..)
  obtain ⟨c1_0, c1_1, c1_2, c1_3, c1_4⟩ := HB2.out.five (List.mem_cons_of_mem _ (List.mem_cons_self ..))
  go_wp2_with fail
  refine (HSm.out _ _ _ (shows_flat2 rfl p0 p1 p2 p3 p4 q0 q1 q2 q3 q4)).mono ?_
  rintro e3 w3 ⟨rfl, hbb⟩
  have HB3 := Lib.hid ((HB2.out.keep ((Below.refl _ _).alloc (Nat.le_refl _) _)).keep hbb)
  clear c0_0 c0_1 c0_2 c0_3 c0_4 c1_0 c1_1 c1_2 c1_3 c1_4
  clear hbb HB2
  go_upto_region 5 with fail
  obtain ⟨c0_0, c0_1, c0_2, c0_3, c0_4⟩ := HB3.out.five (List.mem_cons_self ..)
  obtain ⟨c1_0, c1_1, c1_2, c1_3, c1_4⟩ := HB3.out.five (List.mem_cons_of_mem _ (List.mem_cons_self ..))
  obtain ⟨c2_0, c2_1⟩ := HB3.out.two (List.mem_cons_of_mem _ (List.mem_cons_of_mem _ (List.mem_cons_self ..)))
  go_wp2_with fail
  refine (HM.out _).mono ?_
  rintro e4 w4 ⟨rfl, hbb⟩
  have HB4 := Lib.hid (HB3.out.keep hbb)
  clear c0_0 c0_1 c0_2 c0_3 c0_4 c1_0 c1_1 c1_2 c1_3 c1_4 c2_0 c2_1
  clear hbb HB3
  go_upto_region 6 with fail
  obtain ⟨V1, hV1⟩ : ∃ V1 : World, V1 = w4.alloc (.cells #[.int .i64 m0, .int .i64 m1, .int .i64 m2, .int .i64 m3, .int .i64 m4] 25) := ⟨_, rfl⟩
  rw [← hV1]
  have HV1 := Lib.hid (show Bx w [(w4.heap.size, #[.int .i64 m0, .int .i64 m1, .int .i64 m2, .int .i64 m3, .int .i64 m4]), (w.heap.size + 2, #[.int .i64 q0, .int .i64 q1, .int .i64 q2, .int .i64 q3, .int .i64 q4]), (w.heap.size + 1, #[.int .i64 p0, .int .i64 p1, .int .i64 p2, .int .i64 p3, .int .i64 p4]), (w.heap.size, #[.int .i64 a, .int .i64 b])] V1 from hV1 ▸ HB4.out.new _ _)
  have hlt1 := HB4.out.lt (List.mem_cons_self ..)
  clear hV1 HB4
  generalize w4.heap.size = B1 at *
  obtain ⟨c2_0, c2_1, c2_2, c2_3, c2_4⟩ := HV1.out.five (List.mem_cons_of_mem _ (List.mem_cons_of_mem _ (List.mem_cons_self ..)))
  obtain ⟨c3_0, c3_1⟩ := HV1.out.two (List.mem_cons_of_mem _ (List.mem_cons_of_mem _ (List.mem_cons_of_mem _ (List.mem_cons_self ..))))
  go_wp2_with fail
  refine (HNp.out _).mono ?_
  rintro e5 w5 ⟨rfl, hbb⟩
  have HB5 := Lib.hid (HV1.out.keep hbb)
  clear c2_0 c2_1 c2_2 c2_3 c2_4 c3_0 c3_1
  clear hbb HV1
  go_upto_region 7 with fail
  obtain ⟨V2, hV2⟩ : ∃ V2 : World, V2 = w5.alloc (.cells #[.int .i64 fa, .int .i64 fb] 61) := ⟨_, rfl⟩
  rw [← hV2]
  have HV2 := Lib.hid (show Bx w [(w5.heap.size, #[.int .i64 fa, .int .i64 fb]), (B1, #[.int .i64 m0, .int .i64 m1, .int .i64 m2, .int .i64 m3, .int .i64 m4]), (w.heap.size + 2, #[.int .i64 q0, .int .i64 q1, .int .i64 q2, .int .i64 q3, .int .i64 q4]), (w.heap.size + 1, #[.int .i64 p0, .int .i64 p1, .int .i64 p2, .int .i64 p3, .int .i64 p4]), (w.heap.size, #[.int .i64 a, .int .i64 b])] V2 from hV2 ▸ HB5.out.new _ _)
  have hlt2 := HB5.out.lt (List.mem_cons_self ..)
  clear hV2 HB5
  generalize w5.heap.size = B2 at *
  obtain ⟨c2_0, c2_1, c2_2, c2_3, c2_4⟩ := HV2.out.five (List.mem_cons_of_mem _ (List.mem_cons_of_mem _ (List.mem_cons_self ..)))
  obtain ⟨c4_0, c4_1⟩ := HV2.out.two (List.mem_cons_of_mem _ (List.mem_cons_of_mem _ (List.mem_cons_of_mem _ (List.mem_cons_of_mem _ (List.mem_cons_self ..)))))
  go_wp2_with fail
  refine (HNq.out _).mono ?_
  rintro e6 w6 ⟨rfl, hbb⟩
  have HB6 := Lib.hid (HV2.out.keep hbb)
  clear c2_0 c2_1 c2_2 c2_3 c2_4 c4_0 c4_1
  clear hbb HV2
  go_upto_region 8 with fail
  obtain ⟨V3, hV3⟩ : ∃ V3 : World, V3 = w6.alloc (.cells #[.int .i64 ga, .int .i64 gb] 61) := ⟨_, rfl⟩
  rw [← hV3]
  have HV3 := Lib.hid (show Bx w [(w6.heap.size, #[.int .i64 ga, .int .i64 gb]), (B2, #[.int .i64 fa, .int .i64 fb]), (B1, #[.int .i64 m0, .int .i64 m1, .int .i64 m2, .int .i64 m3, .int .i64 m4]), (w.heap.size + 2, #[.int .i64 q0, .int .i64 q1, .int .i64 q2, .int .i64 q3, .int .i64 q4]), (w.heap.size + 1, #[.int .i64 p0, .int .i64 p1, .int .i64 p2, .int .i64 p3, .int .i64 p4]), (w.heap.size, #[.int .i64 a, .int .i64 b])] V3 from hV3 ▸ HB6.out.new _ _)
  have hlt3 := HB6.out.lt (List.mem_cons_self ..)
  clear hV3 HB6
  generalize w6.heap.size = B3 at *
  obtain ⟨c2_0, c2_1, c2_2, c2_3, c2_4⟩ := HV3.out.five (List.mem_cons_of_mem _ (List.mem_cons_of_mem _ (List.mem_cons_self ..)))
  obtain ⟨c5_0, c5_1⟩ := HV3.out.two (List.mem_cons_of_mem _ (List.mem_cons_of_mem _ (List.mem_cons_of_mem _ (List.mem_cons_of_mem _ (List.mem_cons_of_mem _ (List.mem_cons_self ..))))))
  go_wp2_with fail
  refine (HNm.out _).mono ?_
  rintro e7 w7 ⟨rfl, hbb⟩
  have HB7 := Lib.hid (HV3.out.keep hbb)
  clear c2_0 c2_1 c2_2 c2_3 c2_4 c5_0 c5_1
  clear hbb HV3
  go_upto_region 9 with fail
  obtain ⟨V4, hV4⟩ : ∃ V4 : World, V4 = w7.alloc (.cells #[.int .i64 kn, .int .i64 kd] 61) := ⟨_, rfl⟩
  rw [← hV4]
  have HV4 := Lib.hid (show Bx w [(w7.heap.size, #[.int .i64 kn, .int .i64 kd]), (B3, #[.int .i64 ga, .int .i64 gb]), (B2, #[.int .i64 fa, .int .i64 fb]), (B1, #[.int .i64 m0, .int .i64 m1, .int .i64 m2, .int .i64 m3, .int .i64 m4]), (w.heap.size + 2, #[.int .i64 q0, .int .i64 q1, .int .i64 q2, .int .i64 q3, .int .i64 q4]), (w.heap.size + 1, #[.int .i64 p0, .int .i64 p1, .int .i64 p2, .int .i64 p3, .int .i64 p4]), (w.heap.size, #[.int .i64 a, .int .i64 b])] V4 from hV4 ▸ HB7.out.new _ _)
  have hlt4 := HB7.out.lt (List.mem_cons_self ..)
  clear hV4 HB7
  generalize w7.heap.size = B4 at *
  obtain ⟨c5_0, c5_1, c5_2, c5_3, c5_4⟩ := HV4.out.five (List.mem_cons_of_mem _ (List.mem_cons_of_mem _ (List.mem_cons_of_mem _ (List.mem_cons_of_mem _ (List.mem_cons_of_mem _ (List.mem_cons_self ..))))))
  go_wp2_with fail
  refine (HCp.out _).mono ?_
  rintro e8 w8 ⟨rfl, hbb⟩
  have HB8 := Lib.hid (HV4.out.keep hbb)
  clear c5_0 c5_1 c5_2 c5_3 c5_4
  clear hbb HV4
  go_upto_region 10 with fail
  obtain ⟨V5, hV5⟩ : ∃ V5 : World, V5 = w8.alloc (.cells #[.int .i64 x0, .int .i64 x1, .int .i64 x2, .int .i64 x3, .int .i64 x4] 25) := ⟨_, rfl⟩
  rw [← hV5]
  have HV5 := Lib.hid (show Bx w [(w8.heap.size, #[.int .i64 x0, .int .i64 x1, .int .i64 x2, .int .i64 x3, .int .i64 x4]), (B4, #[.int .i64 kn, .int .i64 kd]), (B3, #[.int .i64 ga, .int .i64 gb]), (B2, #[.int .i64 fa, .int .i64 fb]), (B1, #[.int .i64 m0, .int .i64 m1, .int .i64 m2, .int .i64 m3, .int .i64 m4]), (w.heap.size + 2, #[.int .i64 q0, .int .i64 q1, .int .i64 q2, .int .i64 q3, .int .i64 q4]), (w.heap.size + 1, #[.int .i64 p0, .int .i64 p1, .int .i64 p2, .int .i64 p3, .int .i64 p4]), (w.heap.size, #[.int .i64 a, .int .i64 b])] V5 from hV5 ▸ HB8.out.new _ _)
  have hlt5 := HB8.out.lt (List.mem_cons_self ..)
  clear hV5 HB8
  generalize w8.heap.size = B5 at *
  obtain ⟨c5_0, c5_1, c5_2, c5_3, c5_4⟩ := HV5.out.five (List.mem_cons_of_mem _ (List.mem_cons_of_mem _ (List.mem_cons_of_mem _ (List.mem_cons_of_mem _ (List.mem_cons_of_mem _ (List.mem_cons_self ..))))))
  go_wp2_with fail
  refine (HCq.out _).mono ?_
  rintro e9 w9 ⟨rfl, hbb⟩
  have HB9 := Lib.hid (HV5.out.keep hbb)
  clear c5_0 c5_1 c5_2 c5_3 c5_4
  clear hbb HV5
  go_upto_region 11 with fail
  obtain ⟨V6, hV6⟩ : ∃ V6 : World, V6 = w9.alloc (.cells #[.int .i64 y0, .int .i64 y1, .int .i64 y2, .int .i64 y3, .int .i64 y4] 25) := ⟨_, rfl⟩
  rw [← hV6]
  have HV6 := Lib.hid (show Bx w [(w9.heap.size, #[.int .i64 y0, .int .i64 y1, .int .i64 y2, .int .i64 y3, .int .i64 y4]), (B5, #[.int .i64 x0, .int .i64 x1, .int .i64 x2, .int .i64 x3, .int .i64 x4]), (B4, #[.int .i64 kn, .int .i64 kd]), (B3, #[.int .i64 ga, .int .i64 gb]), (B2, #[.int .i64 fa, .int .i64 fb]), (B1, #[.int .i64 m0, .int .i64 m1, .int .i64 m2, .int .i64 m3, .int .i64 m4]), (w.heap.size + 2, #[.int .i64 q0, .int .i64 q1, .int .i64 q2, .int .i64 q3, .int .i64 q4]), (w.heap.size + 1, #[.int .i64 p0, .int .i64 p1, .int .i64 p2, .int .i64 p3, .int .i64 p4]), (w.heap.size, #[.int .i64 a, .int .i64 b])] V6 from hV6 ▸ HB9.out.new _ _)
  have hlt6 := HB9.out.lt (List.mem_cons_self ..)
  clear hV6 HB9
  generalize w9.heap.size = B6 at *
  obtain ⟨c0_0, c0_1, c0_2, c0_3, c0_4⟩ := HV6.out.five (List.mem_cons_self ..)
  obtain ⟨c1_0, c1_1, c1_2, c1_3, c1_4⟩ := HV6.out.five (List.mem_cons_of_mem _ (List.mem_cons_self ..))
  obtain ⟨c8_0, c8_1⟩ := HV6.out.two (List.mem_cons_of_mem _ (List.mem_cons_of_mem _ (List.mem_cons_of_mem _ (List.mem_cons_of_mem _ (List.mem_cons_of_mem _ (List.mem_cons_of_mem _ (List.mem_cons_of_mem _ (List.mem_cons_of_mem _ (List.mem_cons_self ..)))))))))
  go_wp2_with fail
  refine (HYX.out _).mono ?_
  rintro e10 w10 ⟨rfl, hbb⟩
  have HB10 := Lib.hid (HV6.out.keep hbb)
  clear c0_0 c0_1 c0_2 c0_3 c0_4 c1_0 c1_1 c1_2 c1_3 c1_4 c8_0 c8_1
  clear hbb HV6
  go_upto_region 12 with fail
  obtain ⟨V7, hV7⟩ : ∃ V7 : World, V7 = w10.alloc (.cells #[.int .i64 c0, .int .i64 c1, .int .i64 c2, .int .i64 c3, .int .i64 c4] 25) := ⟨_, rfl⟩
  rw [← hV7]
  have HV7 := Lib.hid (show Bx w [(w10.heap.size, #[.int .i64 c0, .int .i64 c1, .int .i64 c2, .int .i64 c3, .int .i64 c4]), (B6, #[.int .i64 y0, .int .i64 y1, .int .i64 y2, .int .i64 y3, .int .i64 y4]), (B5, #[.int .i64 x0, .int .i64 x1, .int .i64 x2, .int .i64 x3, .int .i64 x4]), (B4, #[.int .i64 kn, .int .i64 kd]), (B3, #[.int .i64 ga, .int .i64 gb]), (B2, #[.int .i64 fa, .int .i64 fb]), (B1, #[.int .i64 m0, .int .i64 m1, .int .i64 m2, .int .i64 m3, .int .i64 m4]), (w.heap.size + 2, #[.int .i64 q0, .int .i64 q1, .int .i64 q2, .int .i64 q3, .int .i64 q4]), (w.heap.size + 1, #[.int .i64 p0, .int .i64 p1, .int .i64 p2, .int .i64 p3, .int .i64 p4]), (w.heap.size, #[.int .i64 a, .int .i64 b])] V7 from hV7 ▸ HB10.out.new _ _)
  have hlt7 := HB10.out.lt (List.mem_cons_self ..)
  clear hV7 HB10
  generalize w10.heap.size = B7 at *
  obtain ⟨c6_0, c6_1, c6_2, c6_3, c6_4⟩ := HV7.out.five (List.mem_cons_of_mem _ (List.mem_cons_of_mem _ (List.mem_cons_of_mem _ (List.mem_cons_of_mem _ (List.mem_cons_of_mem _ (List.mem_cons_of_mem _ (List.mem_cons_self ..)))))))
  go_wp2_with fail
  refine (HCm.out _).mono ?_
  rintro e11 w11 ⟨rfl, hbb⟩
  have HB11 := Lib.hid (HV7.out.keep hbb)
  clear c6_0 c6_1 c6_2 c6_3 c6_4
  clear hbb HV7
  go_upto_region 13 with fail
  obtain ⟨V8, hV8⟩ : ∃ V8 : World, V8 = w11.alloc (.cells #[.int .i64 c0, .int .i64 c1, .int .i64 c2, .int .i64 c3, .int .i64 c4] 25) := ⟨_, rfl⟩
  rw [← hV8]
  have HV8 := Lib.hid (show Bx w [(w11.heap.size, #[.int .i64 c0, .int .i64 c1, .int .i64 c2, .int .i64 c3, .int .i64 c4]), (B7, #[.int .i64 c0, .int .i64 c1, .int .i64 c2, .int .i64 c3, .int .i64 c4]), (B6, #[.int .i64 y0, .int .i64 y1, .int .i64 y2, .int .i64 y3, .int .i64 y4]), (B5, #[.int .i64 x0, .int .i64 x1, .int .i64 x2, .int .i64 x3, .int .i64 x4]), (B4, #[.int .i64 kn, .int .i64 kd]), (B3, #[.int .i64 ga, .int .i64 gb]), (B2, #[.int .i64 fa, .int .i64 fb]), (B1, #[.int .i64 m0, .int .i64 m1, .int .i64 m2, .int .i64 m3, .int .i64 m4]), (w.heap.size + 2, #[.int .i64 q0, .int .i64 q1, .int .i64 q2, .int .i64 q3, .int .i64 q4]), (w.heap.size + 1, #[.int .i64 p0, .int .i64 p1, .int .i64 p2, .int .i64 p3, .int .i64 p4]), (w.heap.size, #[.int .i64 a, .int .i64 b])] V8 from hV8 ▸ HB11.out.new _ _)
  have hlt8 := HB11.out.lt (List.mem_cons_self ..)
  clear hV8 HB11
  generalize w11.heap.size = B8 at *
  obtain ⟨c3_0, c3_1, c3_2, c3_3, c3_4⟩ := HV8.out.five (List.mem_cons_of_mem _ (List.mem_cons_of_mem _ (List.mem_cons_of_mem _ (List.mem_cons_self ..))))
  obtain ⟨c9_0, c9_1, c9_2, c9_3, c9_4⟩ := HV8.out.five (List.mem_cons_of_mem _ (List.mem_cons_of_mem _ (List.mem_cons_of_mem _ (List.mem_cons_of_mem _ (List.mem_cons_of_mem _ (List.mem_cons_of_mem _ (List.mem_cons_of_mem _ (List.mem_cons_of_mem _ (List.mem_cons_of_mem _ (List.mem_cons_self ..))))))))))
  obtain ⟨c10_0, c10_1⟩ := HV8.out.two (List.mem_cons_of_mem _ (List.mem_cons_of_mem _ (List.mem_cons_of_mem _ (List.mem_cons_of_mem _ (List.mem_cons_of_mem _ (List.mem_cons_of_mem _ (List.mem_cons_of_mem _ (List.mem_cons_of_mem _ (List.mem_cons_of_mem _ (List.mem_cons_of_mem _ (List.mem_cons_self ..)))))))))))
  go_wp2_with fail
  refine (HPX.out _).mono ?_
  rintro e12 w12 ⟨rfl, hbb⟩
  have HB12 := Lib.hid (HV8.out.keep hbb)
  clear c3_0 c3_1 c3_2 c3_3 c3_4 c9_0 c9_1 c9_2 c9_3 c9_4 c10_0 c10_1
  clear hbb HV8
  go_upto_region 14 with fail
  obtain ⟨V9, hV9⟩ : ∃ V9 : World, V9 = w12.alloc (.cells #[.int .i64 fa, .int .i64 0, .int .i64 0, .int .i64 0, .int .i64 fb] 25) := ⟨_, rfl⟩
  rw [← hV9]
  have HV9 := Lib.hid (show Bx w [(w12.heap.size, #[.int .i64 fa, .int .i64 0, .int .i64 0, .int .i64 0, .int .i64 fb]), (B8, #[.int .i64 c0, .int .i64 c1, .int .i64 c2, .int .i64 c3, .int .i64 c4]), (B7, #[.int .i64 c0, .int .i64 c1, .int .i64 c2, .int .i64 c3, .int .i64 c4]), (B6, #[.int .i64 y0, .int .i64 y1, .int .i64 y2, .int .i64 y3, .int .i64 y4]), (B5, #[.int .i64 x0, .int .i64 x1, .int .i64 x2, .int .i64 x3, .int .i64 x4]), (B4, #[.int .i64 kn, .int .i64 kd]), (B3, #[.int .i64 ga, .int .i64 gb]), (B2, #[.int .i64 fa, .int .i64 fb]), (B1, #[.int .i64 m0, .int .i64 m1, .int .i64 m2, .int .i64 m3, .int .i64 m4]), (w.heap.size + 2, #[.int .i64 q0, .int .i64 q1, .int .i64 q2, .int .i64 q3, .int .i64 q4]), (w.heap.size + 1, #[.int .i64 p0, .int .i64 p1, .int .i64 p2, .int .i64 p3, .int .i64 p4]), (w.heap.size, #[.int .i64 a, .int .i64 b])] V9 from hV9 ▸ HB12.out.new _ _)
  have hlt9 := HB12.out.lt (List.mem_cons_self ..)
  clear hV9 HB12
  generalize w12.heap.size = B9 at *
  obtain ⟨c6_0, c6_1⟩ := HV9.out.two (List.mem_cons_of_mem _ (List.mem_cons_of_mem _ (List.mem_cons_of_mem _ (List.mem_cons_of_mem _ (List.mem_cons_of_mem _ (List.mem_cons_of_mem _ (List.mem_cons_self ..)))))))
  obtain ⟨c7_0, c7_1⟩ := HV9.out.two (List.mem_cons_of_mem _ (List.mem_cons_of_mem _ (List.mem_cons_of_mem _ (List.mem_cons_of_mem _ (List.mem_cons_of_mem _ (List.mem_cons_of_mem _ (List.mem_cons_of_mem _ (List.mem_cons_self ..))))))))
  go_upto_region 16 with fail
  clear c6_0 c6_1 c7_0 c7_1
  have MK := Lib.hid (fun w' (h : Bx w [(B9, #[.int .i64 fa, .int .i64 0, .int .i64 0, .int .i64 0, .int .i64 fb]), (B8, #[.int .i64 c0, .int .i64 c1, .int .i64 c2, .int .i64 c3, .int .i64 c4]), (B7, #[.int .i64 c0, .int .i64 c1, .int .i64 c2, .int .i64 c3, .int .i64 c4]), (B6, #[.int .i64 y0, .int .i64 y1, .int .i64 y2, .int .i64 y3, .int .i64 y4]), (B5, #[.int .i64 x0, .int .i64 x1, .int .i64 x2, .int .i64 x3, .int .i64 x4]), (B4, #[.int .i64 kn, .int .i64 kd]), (B3, #[.int .i64 ga, .int .i64 gb]), (B2, #[.int .i64 fa, .int .i64 fb]), (B1, #[.int .i64 m0, .int .i64 m1, .int .i64 m2, .int .i64 m3, .int .i64 m4]), (w.heap.size + 2, #[.int .i64 q0, .int .i64 q1, .int .i64 q2, .int .i64 q3, .int .i64 q4]), (w.heap.size + 1, #[.int .i64 p0, .int .i64 p1, .int .i64 p2, .int .i64 p3, .int .i64 p4]), (w.heap.size, #[.int .i64 a, .int .i64 b])] w') => And.intro h (And.intro (h.five (List.mem_cons_self ..)) (And.intro (h.five (List.mem_cons_of_mem _ (List.mem_cons_self ..))) (And.intro (h.five (List.mem_cons_of_mem _ (List.mem_cons_of_mem _ (List.mem_cons_self ..)))) (And.intro (h.two (List.mem_cons_of_mem _ (List.mem_cons_of_mem _ (List.mem_cons_of_mem _ (List.mem_cons_of_mem _ (List.mem_cons_of_mem _ (List.mem_cons_self ..))))))) (And.intro (h.two (List.mem_cons_of_mem _ (List.mem_cons_of_mem _ (List.mem_cons_of_mem _ (List.mem_cons_of_mem _ (List.mem_cons_of_mem _ (List.mem_cons_of_mem _ (List.mem_cons_self ..)))))))) (h.two (List.mem_cons_of_mem _ (List.mem_cons_of_mem _ (List.mem_cons_of_mem _ (List.mem_cons_of_mem _ (List.mem_cons_of_mem _ (List.mem_cons_of_mem _ (List.mem_cons_of_mem _ (List.mem_cons_self ..)))))))))))))))
  have HG2 := Lib.hid (MK.out _ (HV9.out.keep (Below.refl _ _).drew))
  go_region_held3 (fun w' => Bx w [(B9, #[.int .i64 fa, .int .i64 0, .int .i64 0, .int .i64 0, .int .i64 fb]), (B8, #[.int .i64 c0, .int .i64 c1, .int .i64 c2, .int .i64 c3, .int .i64 c4]), (B7, #[.int .i64 c0, .int .i64 c1, .int .i64 c2, .int .i64 c3, .int .i64 c4]), (B6, #[.int .i64 y0, .int .i64 y1, .int .i64 y2, .int .i64 y3, .int .i64 y4]), (B5, #[.int .i64 x0, .int .i64 x1, .int .i64 x2, .int .i64 x3, .int .i64 x4]), (B4, #[.int .i64 kn, .int .i64 kd]), (B3, #[.int .i64 ga, .int .i64 gb]), (B2, #[.int .i64 fa, .int .i64 fb]), (B1, #[.int .i64 m0, .int .i64 m1, .int .i64 m2, .int .i64 m3, .int .i64 m4]), (w.heap.size + 2, #[.int .i64 q0, .int .i64 q1, .int .i64 q2, .int .i64 q3, .int .i64 q4]), (w.heap.size + 1, #[.int .i64 p0, .int .i64 p1, .int .i64 p2, .int .i64 p3, .int .i64 p4]), (w.heap.size, #[.int .i64 a, .int .i64 b])] w' ∧ (w'.cell? ⟨B9, 0, none⟩ = some (.int .i64 fa) ∧ w'.cell? ⟨B9, 1, none⟩ = some (.int .i64 0) ∧ w'.cell? ⟨B9, 2, none⟩ = some (.int .i64 0) ∧ w'.cell? ⟨B9, 3, none⟩ = some (.int .i64 0) ∧ w'.cell? ⟨B9, 4, none⟩ = some (.int .i64 fb)) ∧ (w'.cell? ⟨B8, 0, none⟩ = some (.int .i64 c0) ∧ w'.cell? ⟨B8, 1, none⟩ = some (.int .i64 c1) ∧ w'.cell? ⟨B8, 2, none⟩ = some (.int .i64 c2) ∧ w'.cell? ⟨B8, 3, none⟩ = some (.int .i64 c3) ∧ w'.cell? ⟨B8, 4, none⟩ = some (.int .i64 c4)) ∧ (w'.cell? ⟨B7, 0, none⟩ = some (.int .i64 c0) ∧ w'.cell? ⟨B7, 1, none⟩ = some (.int .i64 c1) ∧ w'.cell? ⟨B7, 2, none⟩ = some (.int .i64 c2) ∧ w'.cell? ⟨B7, 3, none⟩ = some (.int .i64 c3) ∧ w'.cell? ⟨B7, 4, none⟩ = some (.int .i64 c4)) ∧ (w'.cell? ⟨B4, 0, none⟩ = some (.int .i64 kn) ∧ w'.cell? ⟨B4, 1, none⟩ = some (.int .i64 kd)) ∧ (w'.cell? ⟨B3, 0, none⟩ = some (.int .i64 ga) ∧ w'.cell? ⟨B3, 1, none⟩ = some (.int .i64 gb)) ∧ (w'.cell? ⟨B2, 0, none⟩ = some (.int .i64 fa) ∧ w'.cell? ⟨B2, 1, none⟩ = some (.int .i64 fb)))
    (first
      | assumption
      | exact HG2.out
      | exact MK.out _ (Bx.keep (And.left (by assumption)) (by assumption)))
    (first
      | (go_at_call 40; (with_reducible refine (HLo.out _).mono ?_); rintro e w' ⟨rfl, hb⟩))
  have hR : Bx w [(B9, #[.int .i64 fa, .int .i64 0, .int .i64 0, .int .i64 0, .int .i64 fb]), (B8, #[.int .i64 c0, .int .i64 c1, .int .i64 c2, .int .i64 c3, .int .i64 c4]), (B7, #[.int .i64 c0, .int .i64 c1, .int .i64 c2, .int .i64 c3, .int .i64 c4]), (B6, #[.int .i64 y0, .int .i64 y1, .int .i64 y2, .int .i64 y3, .int .i64 y4]), (B5, #[.int .i64 x0, .int .i64 x1, .int .i64 x2, .int .i64 x3, .int .i64 x4]), (B4, #[.int .i64 kn, .int .i64 kd]), (B3, #[.int .i64 ga, .int .i64 gb]), (B2, #[.int .i64 fa, .int .i64 fb]), (B1, #[.int .i64 m0, .int .i64 m1, .int .i64 m2, .int .i64 m3, .int .i64 m4]), (w.heap.size + 2, #[.int .i64 q0, .int .i64 q1, .int .i64 q2, .int .i64 q3, .int .i64 q4]), (w.heap.size + 1, #[.int .i64 p0, .int .i64 p1, .int .i64 p2, .int .i64 p3, .int .i64 p4]), (w.heap.size, #[.int .i64 a, .int .i64 b])] w' := by repeat (first | exact HG2.out.1 | refine Bx.keep ?_ (by assumption))
  go_wp2_with fail
  go_ret
  exact ⟨rfl, hR.below⟩

theorem AlgebraMultiplies_law (a b p0 p1 p2 p3 p4 q0 q1 q2 q3 q4 : Int) (w : World) :
    Calls Tryd.prog 7 #[.agg #[.int .i64 a, .int .i64 b], qv ⟨p0, p1, p2, p3, p4⟩, qv ⟨q0, q1, q2, q3, q4⟩] w fun e w' => e = .returned (.bool true) ∧ Below w.heap.size w w' := by
  cases hl : litB a b
  · exact Mult_1 a b p0 p1 p2 p3 p4 q0 q1 q2 q3 q4 w hl
  · cases hs : [(⟨p0, p1, p2, p3, p4⟩ : Qt), ⟨q0, q1, q2, q3, q4⟩].all smB
    · exact Mult_2 a b p0 p1 p2 p3 p4 q0 q1 q2 q3 q4 w hl hs
    · exact Mult_3 a b p0 p1 p2 p3 p4 q0 q1 q2 q3 q4 w hl hs
end Go.Proofs.YtekkbdpggghcjaaDoor
