/- The law AlgebraRing answers true at all algebras and elements. -/
import Derived.Test.YtekkbdpggghcjaaDoorSmsA
import Derived.Test.YtekkbdpggghcjaaDoorAlgebraMultiplies
import Derived.Test.YtekkbdpggghcjaaDoorPly
import Derived.Test.YtekkbdpggghcjaaDoorRgm
import Derived.Test.YtekkbdpggghcjaaDoorPwr
import Derived.Deep.DeepCutAuto
namespace Go.Proofs.YtekkbdpggghcjaaDoor
open Go.RowKit FF

theorem Bx.fifteen {w W : World} {L : List (Nat × Array Value)} {b : Nat} {v0 v1 v2 v3 v4 v5 v6 v7 v8 v9 v10 v11 v12 v13 v14 : Value} (h : Bx w L W) (hm : (b, #[v0, v1, v2, v3, v4, v5, v6, v7, v8, v9, v10, v11, v12, v13, v14]) ∈ L) :
    W.cell? ⟨b, 0, none⟩ = some v0 ∧ W.cell? ⟨b, 1, none⟩ = some v1 ∧ W.cell? ⟨b, 2, none⟩ = some v2 ∧ W.cell? ⟨b, 3, none⟩ = some v3 ∧ W.cell? ⟨b, 4, none⟩ = some v4 ∧ W.cell? ⟨b, 5, none⟩ = some v5 ∧ W.cell? ⟨b, 6, none⟩ = some v6 ∧ W.cell? ⟨b, 7, none⟩ = some v7 ∧ W.cell? ⟨b, 8, none⟩ = some v8 ∧ W.cell? ⟨b, 9, none⟩ = some v9 ∧ W.cell? ⟨b, 10, none⟩ = some v10 ∧ W.cell? ⟨b, 11, none⟩ = some v11 ∧ W.cell? ⟨b, 12, none⟩ = some v12 ∧ W.cell? ⟨b, 13, none⟩ = some v13 ∧ W.cell? ⟨b, 14, none⟩ = some v14 := by
  have k := (h.own _ hm).2.2.1
  exact ⟨k 0 (by simp), k 1 (by simp), k 2 (by simp), k 3 (by simp), k 4 (by simp), k 5 (by simp), k 6 (by simp), k 7 (by simp), k 8 (by simp), k 9 (by simp), k 10 (by simp), k 11 (by simp), k 12 (by simp), k 13 (by simp), k 14 (by simp)⟩
theorem shows_flat3 {W : World} {T : TypeId} {B : Nat} (hB : W.heap.size = B) (p0 p1 p2 p3 p4 q0 q1 q2 q3 q4 r0 r1 r2 r3 r4 : Int) :
    ShowsI (W.alloc (.cells #[.int .i64 p0, .int .i64 p1, .int .i64 p2, .int .i64 p3, .int .i64 p4, .int .i64 q0, .int .i64 q1, .int .i64 q2, .int .i64 q3, .int .i64 q4, .int .i64 r0, .int .i64 r1, .int .i64 r2, .int .i64 r3, .int .i64 r4] T)) (some ⟨B, 0, none⟩) (flatQ [⟨p0, p1, p2, p3, p4⟩, ⟨q0, q1, q2, q3, q4⟩, ⟨r0, r1, r2, r3, r4⟩]) := by
  subst hB
  exact ShowsI.new fun i hi => by match i, hi with | 0, _ => rfl | 1, _ => rfl | 2, _ => rfl | 3, _ => rfl | 4, _ => rfl | 5, _ => rfl | 6, _ => rfl | 7, _ => rfl | 8, _ => rfl | 9, _ => rfl | 10, _ => rfl | 11, _ => rfl | 12, _ => rfl | 13, _ => rfl | 14, _ => rfl
theorem qAdd_fit (p q : Qt) (w : World) (hp : qB p = true) (hq : qB q = true) (hr : qB (nrm (addQ p q)) = true) :
    Calls Tryd.prog 46 #[qv p, qv q] w fun r w' => r = .returned (.tuple #[qv (nrm (addQ p q)), .int .i64 0]) ∧ Below w.heap.size w w' := by
  obtain ⟨p0, p1, p2, p3, p4⟩ := p
  obtain ⟨q0, q1, q2, q3, q4⟩ := q
  have h := qAdd_any p0 p1 p2 p3 p4 q0 q1 q2 q3 q4 w
  have e0 : qsE [⟨p0, p1, p2, p3, p4⟩, ⟨q0, q1, q2, q3, q4⟩] = 0 := qsE_zero.2 (by simp [hp, hq])
  have e1 : resQ 0 (addQ ⟨p0, p1, p2, p3, p4⟩ ⟨q0, q1, q2, q3, q4⟩) = fitQ (addQ ⟨p0, p1, p2, p3, p4⟩ ⟨q0, q1, q2, q3, q4⟩) := if_pos rfl
  have e2 : resE 0 (addQ ⟨p0, p1, p2, p3, p4⟩ ⟨q0, q1, q2, q3, q4⟩) = fitE (addQ ⟨p0, p1, p2, p3, p4⟩ ⟨q0, q1, q2, q3, q4⟩) := if_pos rfl
  rw [e0, e1, e2, (fit_of_qB hr).1, (fit_of_qB hr).2] at h
  exact h
theorem qScale_one (n d : Int) (w : World) (h : qB ⟨n, 0, 0, 0, d⟩ = true) (hl : nrm ⟨n, 0, 0, 0, d⟩ = ⟨n, 0, 0, 0, d⟩) :
    Calls Tryd.prog 48 #[.agg #[.int .i64 1, .int .i64 0, .int .i64 0, .int .i64 0, .int .i64 1], .agg #[.int .i64 n, .int .i64 d]] w fun r w' => r = .returned (.tuple #[.agg #[.int .i64 n, .int .i64 0, .int .i64 0, .int .i64 0, .int .i64 d], .int .i64 0]) ∧ Below w.heap.size w w' := by
  obtain ⟨h0, -, -, -, h4⟩ := qB_iff.1 h
  simp only at h0 h4
  have k := qScale_any 1 0 0 0 1 n d w ⟨by omega, by omega⟩ ⟨by omega, by omega⟩
  have e0 : qE ⟨1, 0, 0, 0, 1⟩ = 0 := by decide
  have hf : frB n d = true := frB_iff.2 ⟨by omega, ⟨by omega, by omega⟩, ⟨by omega, by omega⟩⟩
  have hs : scaleQ n d ⟨1, 0, 0, 0, 1⟩ = ⟨n, 0, 0, 0, d⟩ := by simp [scaleQ]
  have e1 : sclQ n d ⟨1, 0, 0, 0, 1⟩ = ⟨n, 0, 0, 0, d⟩ := by
    unfold sclQ; rw [if_pos e0, if_pos hf, hs, (fit_of_qB (by rw [hl]; exact h)).1, hl]
  have e2 : sclE n d ⟨1, 0, 0, 0, 1⟩ = 0 := by
    unfold sclE; rw [if_pos e0, if_pos hf, hs, (fit_of_qB (by rw [hl]; exact h)).2]
  rw [e1, e2] at k
  exact k
/-- the coefficients in memory -/
def CfB (n : Nat) (C : Nat → Qt) (cs : Array Value) : Prop := cs.size = 2 * n ∧ ∀ i, i < n → cs[i * 2]? = some (.int .i64 (C i).w) ∧ cs[i * 2 + 1]? = some (.int .i64 (C i).d) ∧ C i = ⟨(C i).w, 0, 0, 0, (C i).d⟩ ∧ nrm (C i) = C i

set_option maxHeartbeats 4000000 in
set_option maxRecDepth 100000 in
theorem Ring_1 (a b p0 p1 p2 p3 p4 q0 q1 q2 q3 q4 r0 r1 r2 r3 r4 : Int) (w : World) (hl : litB a b = false) :
    Calls Tryd.prog 11 #[.agg #[.int .i64 a, .int .i64 b], .agg #[.int .i64 p0, .int .i64 p1, .int .i64 p2, .int .i64 p3, .int .i64 p4, .int .i64 q0, .int .i64 q1, .int .i64 q2, .int .i64 q3, .int .i64 q4, .int .i64 r0, .int .i64 r1, .int .i64 r2, .int .i64 r3, .int .i64 r4]] w fun e w' => e = .returned (.bool true) ∧ Below w.heap.size w w' := by
  have HA := Lib.hid awake3_any
  have hL := fun w => little_any a b w
  have hSm := fun A c w hx => small_any A [⟨p0, p1, p2, p3, p4⟩, ⟨q0, q1, q2, q3, q4⟩, ⟨r0, r1, r2, r3, r4⟩] 3 c w hx rfl (by omega)
  simp only [hl] at hL
  have HL := Lib.hid hL
  clear hL hSm hl
  go_enter Tryd.func11, Tryd.ntmps11
  go_upto_region 1 with fail
  obtain ⟨W0, hW0⟩ : ∃ W0 : World, W0 = ((w.alloc (.cells #[.int .i64 a, .int .i64 b] 23)).alloc (.cells #[.int .i64 p0, .int .i64 p1, .int .i64 p2, .int .i64 p3, .int .i64 p4, .int .i64 q0, .int .i64 q1, .int .i64 q2, .int .i64 q3, .int .i64 q4, .int .i64 r0, .int .i64 r1, .int .i64 r2, .int .i64 r3, .int .i64 r4] 82)) := ⟨_, rfl⟩
  rw [← hW0]
  have HB0 := Lib.hid (show Bx w [(w.heap.size + 1, #[.int .i64 p0, .int .i64 p1, .int .i64 p2, .int .i64 p3, .int .i64 p4, .int .i64 q0, .int .i64 q1, .int .i64 q2, .int .i64 q3, .int .i64 q4, .int .i64 r0, .int .i64 r1, .int .i64 r2, .int .i64 r3, .int .i64 r4]), (w.heap.size, #[.int .i64 a, .int .i64 b])] W0 by rw [hW0]; simpa using (((Bx.nil (Below.refl w.heap.size w)).new #[.int .i64 a, .int .i64 b] 23).new #[.int .i64 p0, .int .i64 p1, .int .i64 p2, .int .i64 p3, .int .i64 p4, .int .i64 q0, .int .i64 q1, .int .i64 q2, .int .i64 q3, .int .i64 q4, .int .i64 r0, .int .i64 r1, .int .i64 r2, .int .i64 r3, .int .i64 r4] 82))
  clear hW0
  go_wp2_with fail
  refine (HA.out _).mono ?_
  rintro e1 w1 ⟨rfl, hbb⟩
  have HB1 := Lib.hid (HB0.out.keep hbb)
  clear hbb HB0
  go_upto_region 3 with fail
  obtain ⟨c0_0, c0_1, c0_2, c0_3, c0_4, c0_5, c0_6, c0_7, c0_8, c0_9, c0_10, c0_11, c0_12, c0_13, c0_14⟩ := HB1.out.fifteen (List.mem_cons_self ..)
  obtain ⟨c1_0, c1_1⟩ := HB1.out.two (List.mem_cons_of_mem _ (List.mem_cons_self ..))
  go_wp2_with fail
  refine (HL.out _).mono ?_
  rintro e2 w2 ⟨rfl, hbb⟩
  have HB2 := Lib.hid (HB1.out.keep hbb)
  clear c0_0 c0_1 c0_2 c0_3 c0_4 c0_5 c0_6 c0_7 c0_8 c0_9 c0_10 c0_11 c0_12 c0_13 c0_14 c1_0 c1_1
  clear hbb HB1
  go_wp2_with fail
  go_ret
  exact ⟨rfl, HB2.out.below⟩

set_option maxHeartbeats 4000000 in
set_option maxRecDepth 100000 in
theorem Ring_2 (a b p0 p1 p2 p3 p4 q0 q1 q2 q3 q4 r0 r1 r2 r3 r4 : Int) (w : World) (hl : litB a b = true) (hs : [⟨p0, p1, p2, p3, p4⟩, ⟨q0, q1, q2, q3, q4⟩, ⟨r0, r1, r2, r3, r4⟩].all smB = false) :
    Calls Tryd.prog 11 #[.agg #[.int .i64 a, .int .i64 b], .agg #[.int .i64 p0, .int .i64 p1, .int .i64 p2, .int .i64 p3, .int .i64 p4, .int .i64 q0, .int .i64 q1, .int .i64 q2, .int .i64 q3, .int .i64 q4, .int .i64 r0, .int .i64 r1, .int .i64 r2, .int .i64 r3, .int .i64 r4]] w fun e w' => e = .returned (.bool true) ∧ Below w.heap.size w w' := by
  have HA := Lib.hid awake3_any
  have hL := fun w => little_any a b w
  have hSm := fun A c w hx => small_any A [⟨p0, p1, p2, p3, p4⟩, ⟨q0, q1, q2, q3, q4⟩, ⟨r0, r1, r2, r3, r4⟩] 3 c w hx rfl (by omega)
  simp only [hl] at hL
  simp only [hs] at hSm
  have HL := Lib.hid hL; have HSm := Lib.hid hSm
  clear hL hSm hl hs
  go_enter Tryd.func11, Tryd.ntmps11
  go_upto_region 1 with fail
  obtain ⟨W0, hW0⟩ : ∃ W0 : World, W0 = ((w.alloc (.cells #[.int .i64 a, .int .i64 b] 23)).alloc (.cells #[.int .i64 p0, .int .i64 p1, .int .i64 p2, .int .i64 p3, .int .i64 p4, .int .i64 q0, .int .i64 q1, .int .i64 q2, .int .i64 q3, .int .i64 q4, .int .i64 r0, .int .i64 r1, .int .i64 r2, .int .i64 r3, .int .i64 r4] 82)) := ⟨_, rfl⟩
  rw [← hW0]
  have HB0 := Lib.hid (show Bx w [(w.heap.size + 1, #[.int .i64 p0, .int .i64 p1, .int .i64 p2, .int .i64 p3, .int .i64 p4, .int .i64 q0, .int .i64 q1, .int .i64 q2, .int .i64 q3, .int .i64 q4, .int .i64 r0, .int .i64 r1, .int .i64 r2, .int .i64 r3, .int .i64 r4]), (w.heap.size, #[.int .i64 a, .int .i64 b])] W0 by rw [hW0]; simpa using (((Bx.nil (Below.refl w.heap.size w)).new #[.int .i64 a, .int .i64 b] 23).new #[.int .i64 p0, .int .i64 p1, .int .i64 p2, .int .i64 p3, .int .i64 p4, .int .i64 q0, .int .i64 q1, .int .i64 q2, .int .i64 q3, .int .i64 q4, .int .i64 r0, .int .i64 r1, .int .i64 r2, .int .i64 r3, .int .i64 r4] 82))
  clear hW0
  go_wp2_with fail
  refine (HA.out _).mono ?_
  rintro e1 w1 ⟨rfl, hbb⟩
  have HB1 := Lib.hid (HB0.out.keep hbb)
  clear hbb HB0
  go_upto_region 3 with fail
  obtain ⟨c0_0, c0_1, c0_2, c0_3, c0_4, c0_5, c0_6, c0_7, c0_8, c0_9, c0_10, c0_11, c0_12, c0_13, c0_14⟩ := HB1.out.fifteen (List.mem_cons_self ..)
  obtain ⟨c1_0, c1_1⟩ := HB1.out.two (List.mem_cons_of_mem _ (List.mem_cons_self ..))
  go_wp2_with fail
  refine (HL.out _).mono ?_
  rintro e2 w2 ⟨rfl, hbb⟩
  have HB2 := Lib.hid (HB1.out.keep hbb)
  clear c0_0 c0_1 c0_2 c0_3 c0_4 c0_5 c0_6 c0_7 c0_8 c0_9 c0_10 c0_11 c0_12 c0_13 c0_14 c1_0 c1_1
  clear hbb HB1
  obtain ⟨c0_0, c0_1, c0_2, c0_3, c0_4, c0_5, c0_6, c0_7, c0_8, c0_9, c0_10, c0_11, c0_12, c0_13, c0_14⟩ := HB2.out.fifteen (List.mem_cons_self ..)
  go_wp2_with fail
  refine (HSm.out _ _ _ (shows_flat3 rfl p0 p1 p2 p3 p4 q0 q1 q2 q3 q4 r0 r1 r2 r3 r4)).mono ?_
  rintro e3 w3 ⟨rfl, hbb⟩
  have HB3 := Lib.hid ((HB2.out.keep ((Below.refl _ _).alloc (Nat.le_refl _) _)).keep hbb)
  clear c0_0 c0_1 c0_2 c0_3 c0_4 c0_5 c0_6 c0_7 c0_8 c0_9 c0_10 c0_11 c0_12 c0_13 c0_14
  clear hbb HB2
  go_wp2_with fail
  go_ret
  exact ⟨rfl, HB3.out.below⟩

set_option maxHeartbeats 4000000 in
set_option maxRecDepth 100000 in
theorem Ring_3 (a b p0 p1 p2 p3 p4 q0 q1 q2 q3 q4 r0 r1 r2 r3 r4 : Int) (w : World) (hl : litB a b = true) (hs : [⟨p0, p1, p2, p3, p4⟩, ⟨q0, q1, q2, q3, q4⟩, ⟨r0, r1, r2, r3, r4⟩].all smB = true) (n : Nat) (hn : n = 2 ∨ n = 3) (cs : Array Value) (C H : Nat → Qt) (hCf : CfB n C cs) (hH : Hrn a b ⟨p0, p1, p2, p3, p4⟩ n C H)
    (hPo : ∀ w, Calls Tryd.prog 53 #[.agg #[.int .i64 a, .int .i64 b], qv ⟨p0, p1, p2, p3, p4⟩] w (PolPost w n cs)) :
    Calls Tryd.prog 11 #[.agg #[.int .i64 a, .int .i64 b], .agg #[.int .i64 p0, .int .i64 p1, .int .i64 p2, .int .i64 p3, .int .i64 p4, .int .i64 q0, .int .i64 q1, .int .i64 q2, .int .i64 q3, .int .i64 q4, .int .i64 r0, .int .i64 r1, .int .i64 r2, .int .i64 r3, .int .i64 r4]] w fun e w' => e = .returned (.bool true) ∧ Below w.heap.size w w' := by
  have HA := Lib.hid awake3_any
  have hL := fun w => little_any a b w
  have hSm := fun A c w hx => small_any A [⟨p0, p1, p2, p3, p4⟩, ⟨q0, q1, q2, q3, q4⟩, ⟨r0, r1, r2, r3, r4⟩] 3 c w hx rfl (by omega)
  have hs2 := List.all_eq_true.1 hs
  have hsp := hs2 ⟨p0, p1, p2, p3, p4⟩ (by simp)
  have hsq := hs2 ⟨q0, q1, q2, q3, q4⟩ (by simp)
  have hsr := hs2 ⟨r0, r1, r2, r3, r4⟩ (by simp)
  obtain ⟨ha, hna, hnb⟩ := lit_small hl
  obtain ⟨hp, hq, hr, v1, v2, v3, e1, v5, v6, v7, e2⟩ := ring_facts hna hnb hsp hsq hsr
  simp only [hl] at hL
  simp only [hs] at hSm
  have HL := Lib.hid hL; have HSm := Lib.hid hSm
  have HPQ := Lib.hid (fun w => qMul_fit a b ⟨p0, p1, p2, p3, p4⟩ ⟨q0, q1, q2, q3, q4⟩ w hp hq ha v1)
  have HQR := Lib.hid (fun w => qMul_fit a b ⟨q0, q1, q2, q3, q4⟩ ⟨r0, r1, r2, r3, r4⟩ w hq hr ha v2)
  have HX := Lib.hid (fun w => qMul_fit a b (nrm (mulQ a b ⟨p0, p1, p2, p3, p4⟩ ⟨q0, q1, q2, q3, q4⟩)) ⟨r0, r1, r2, r3, r4⟩ w v1 hr ha v3)
  have hY := fun w => qMul_fit a b ⟨p0, p1, p2, p3, p4⟩ (nrm (mulQ a b ⟨q0, q1, q2, q3, q4⟩ ⟨r0, r1, r2, r3, r4⟩)) w hp v2 ha (by rw [e1]; exact v3)
  have HS := Lib.hid (fun w => qAdd_fit ⟨q0, q1, q2, q3, q4⟩ ⟨r0, r1, r2, r3, r4⟩ w hq hr v5)
  have HU := Lib.hid (fun w => qMul_fit a b ⟨p0, p1, p2, p3, p4⟩ (nrm (addQ ⟨q0, q1, q2, q3, q4⟩ ⟨r0, r1, r2, r3, r4⟩)) w hp v5 ha v6)
  have HV := Lib.hid (fun w => qMul_fit a b ⟨p0, p1, p2, p3, p4⟩ ⟨r0, r1, r2, r3, r4⟩ w hp hr ha v7)
  have hW := fun w => qAdd_fit (nrm (mulQ a b ⟨p0, p1, p2, p3, p4⟩ ⟨q0, q1, q2, q3, q4⟩)) (nrm (mulQ a b ⟨p0, p1, p2, p3, p4⟩ ⟨r0, r1, r2, r3, r4⟩)) w v1 v7 (by rw [e2]; exact v6)
  simp only [e1] at hY
  simp only [e2] at hW
  have HY := Lib.hid hY; have HW := Lib.hid hW
  have HPo := Lib.hid hPo
  have HCf := Lib.hid hCf; have HH := Lib.hid hH
  have HPv := Lib.hid hp; have hal := Lib.hid ha
  have HOn := Lib.hid rOne_any
  have hn1 : 2 ≤ n := by omega
  have hn3 : n ≤ 3 := by omega
  unfold PolPost at HPo
  clear hL hSm hl hs hs2 hsp hsq hsr ha hna hnb hp hq hr v1 v2 v3 e1 v5 v6 v7 e2 hY hW hPo hCf hH hn
  generalize nrm (mulQ a b (nrm (mulQ a b ⟨p0, p1, p2, p3, p4⟩ ⟨q0, q1, q2, q3, q4⟩)) ⟨r0, r1, r2, r3, r4⟩) = XX at *
  generalize nrm (mulQ a b ⟨p0, p1, p2, p3, p4⟩ ⟨q0, q1, q2, q3, q4⟩) = UU at *
  generalize nrm (mulQ a b ⟨q0, q1, q2, q3, q4⟩ ⟨r0, r1, r2, r3, r4⟩) = VV at *
  generalize nrm (mulQ a b ⟨p0, p1, p2, p3, p4⟩ (nrm (addQ ⟨q0, q1, q2, q3, q4⟩ ⟨r0, r1, r2, r3, r4⟩))) = YY at *
  generalize nrm (addQ ⟨q0, q1, q2, q3, q4⟩ ⟨r0, r1, r2, r3, r4⟩) = SS at *
  generalize nrm (mulQ a b ⟨p0, p1, p2, p3, p4⟩ ⟨r0, r1, r2, r3, r4⟩) = ZZ at *
  obtain ⟨x0, x1, x2, x3, x4⟩ := XX
  obtain ⟨u0, u1, u2, u3, u4⟩ := UU
  obtain ⟨v0, v1, v2, v3, v4⟩ := VV
  obtain ⟨y0, y1, y2, y3, y4⟩ := YY
  obtain ⟨s0, s1, s2, s3, s4⟩ := SS
  obtain ⟨z0, z1, z2, z3, z4⟩ := ZZ
  simp only [qv] at HPQ HQR HX HY HS HU HV HW HPo
  go_enter Tryd.func11, Tryd.ntmps11
  go_upto_region 1 with fail
  obtain ⟨W0, hW0⟩ : ∃ W0 : World, W0 = ((w.alloc (.cells #[.int .i64 a, .int .i64 b] 23)).alloc (.cells #[.int .i64 p0, .int .i64 p1, .int .i64 p2, .int .i64 p3, .int .i64 p4, .int .i64 q0, .int .i64 q1, .int .i64 q2, .int .i64 q3, .int .i64 q4, .int .i64 r0, .int .i64 r1, .int .i64 r2, .int .i64 r3, .int .i64 r4] 82)) := ⟨_, rfl⟩
  rw [← hW0]
  have HB0 := Lib.hid (show Bx w [(w.heap.size + 1, #[.int .i64 p0, .int .i64 p1, .int .i64 p2, .int .i64 p3, .int .i64 p4, .int .i64 q0, .int .i64 q1, .int .i64 q2, .int .i64 q3, .int .i64 q4, .int .i64 r0, .int .i64 r1, .int .i64 r2, .int .i64 r3, .int .i64 r4]), (w.heap.size, #[.int .i64 a, .int .i64 b])] W0 by rw [hW0]; simpa using (((Bx.nil (Below.refl w.heap.size w)).new #[.int .i64 a, .int .i64 b] 23).new #[.int .i64 p0, .int .i64 p1, .int .i64 p2, .int .i64 p3, .int .i64 p4, .int .i64 q0, .int .i64 q1, .int .i64 q2, .int .i64 q3, .int .i64 q4, .int .i64 r0, .int .i64 r1, .int .i64 r2, .int .i64 r3, .int .i64 r4] 82))
  clear hW0
  go_wp2_with fail
  refine (HA.out _).mono ?_
  rintro e1 w1 ⟨rfl, hbb⟩
  have HB1 := Lib.hid (HB0.out.keep hbb)
  clear hbb HB0
  go_upto_region 3 with fail
  obtain ⟨c0_0, c0_1, c0_2, c0_3, c0_4, c0_5, c0_6, c0_7, c0_8, c0_9, c0_10, c0_11, c0_12, c0_13, c0_14⟩ := HB1.out.fifteen (List.mem_cons_self ..)
  obtain ⟨c1_0, c1_1⟩ := HB1.out.two (List.mem_cons_of_mem _ (List.mem_cons_self ..))
  go_wp2_with fail
  refine (HL.out _).mono ?_
  rintro e2 w2 ⟨rfl, hbb⟩
  have HB2 := Lib.hid (HB1.out.keep hbb)
  clear c0_0 c0_1 c0_2 c0_3 c0_4 c0_5 c0_6 c0_7 c0_8 c0_9 c0_10 c0_11 c0_12 c0_13 c0_14 c1_0 c1_1
  clear hbb HB1
  obtain ⟨c0_0, c0_1, c0_2, c0_3, c0_4, c0_5, c0_6, c0_7, c0_8, c0_9, c0_10, c0_11, c0_12, c0_13, c0_14⟩ := HB2.out.fifteen (List.mem_cons_self ..)
  go_wp2_with fail
  refine (HSm.out _ _ _ (shows_flat3 rfl p0 p1 p2 p3 p4 q0 q1 q2 q3 q4 r0 r1 r2 r3 r4)).mono ?_
  rintro e3 w3 ⟨rfl, hbb⟩
  have HB3 := Lib.hid ((HB2.out.keep ((Below.refl _ _).alloc (Nat.le_refl _) _)).keep hbb)
  clear c0_0 c0_1 c0_2 c0_3 c0_4 c0_5 c0_6 c0_7 c0_8 c0_9 c0_10 c0_11 c0_12 c0_13 c0_14
  clear hbb HB2
  go_upto_region 5 with fail
  obtain ⟨c0_0, c0_1, c0_2, c0_3, c0_4, c0_5, c0_6, c0_7, c0_8, c0_9, c0_10, c0_11, c0_12, c0_13, c0_14⟩ := HB3.out.fifteen (List.mem_cons_self ..)
  obtain ⟨c1_0, c1_1⟩ := HB3.out.two (List.mem_cons_of_mem _ (List.mem_cons_self ..))
  go_wp2_with fail
  refine (HPQ.out _).mono ?_
  rintro e4 w4 ⟨rfl, hbb⟩
  have HB4 := Lib.hid (HB3.out.keep hbb)
  clear c0_0 c0_1 c0_2 c0_3 c0_4 c0_5 c0_6 c0_7 c0_8 c0_9 c0_10 c0_11 c0_12 c0_13 c0_14 c1_0 c1_1
  clear hbb HB3
  go_upto_region 6 with fail
  obtain ⟨V1, hV1⟩ : ∃ V1 : World, V1 = w4.alloc (.cells #[.int .i64 u0, .int .i64 u1, .int .i64 u2, .int .i64 u3, .int .i64 u4] 25) := ⟨_, rfl⟩
  rw [← hV1]
  have HV1 := Lib.hid (show Bx w [(w4.heap.size, #[.int .i64 u0, .int .i64 u1, .int .i64 u2, .int .i64 u3, .int .i64 u4]), (w.heap.size + 1, #[.int .i64 p0, .int .i64 p1, .int .i64 p2, .int .i64 p3, .int .i64 p4, .int .i64 q0, .int .i64 q1, .int .i64 q2, .int .i64 q3, .int .i64 q4, .int .i64 r0, .int .i64 r1, .int .i64 r2, .int .i64 r3, .int .i64 r4]), (w.heap.size, #[.int .i64 a, .int .i64 b])] V1 from hV1 ▸ HB4.out.new _ _)
  have hlt1 := HB4.out.lt (List.mem_cons_self ..)
  clear hV1 HB4
  generalize w4.heap.size = B1 at *
  obtain ⟨c1_0, c1_1, c1_2, c1_3, c1_4, c1_5, c1_6, c1_7, c1_8, c1_9, c1_10, c1_11, c1_12, c1_13, c1_14⟩ := HV1.out.fifteen (List.mem_cons_of_mem _ (List.mem_cons_self ..))
  obtain ⟨c2_0, c2_1⟩ := HV1.out.two (List.mem_cons_of_mem _ (List.mem_cons_of_mem _ (List.mem_cons_self ..)))
  go_wp2_with fail
  refine (HQR.out _).mono ?_
  rintro e5 w5 ⟨rfl, hbb⟩
  have HB5 := Lib.hid (HV1.out.keep hbb)
  clear c1_0 c1_1 c1_2 c1_3 c1_4 c1_5 c1_6 c1_7 c1_8 c1_9 c1_10 c1_11 c1_12 c1_13 c1_14 c2_0 c2_1
  clear hbb HV1
  go_upto_region 7 with fail
  obtain ⟨V2, hV2⟩ : ∃ V2 : World, V2 = w5.alloc (.cells #[.int .i64 v0, .int .i64 v1, .int .i64 v2, .int .i64 v3, .int .i64 v4] 25) := ⟨_, rfl⟩
  rw [← hV2]
  have HV2 := Lib.hid (show Bx w [(w5.heap.size, #[.int .i64 v0, .int .i64 v1, .int .i64 v2, .int .i64 v3, .int .i64 v4]), (B1, #[.int .i64 u0, .int .i64 u1, .int .i64 u2, .int .i64 u3, .int .i64 u4]), (w.heap.size + 1, #[.int .i64 p0, .int .i64 p1, .int .i64 p2, .int .i64 p3, .int .i64 p4, .int .i64 q0, .int .i64 q1, .int .i64 q2, .int .i64 q3, .int .i64 q4, .int .i64 r0, .int .i64 r1, .int .i64 r2, .int .i64 r3, .int .i64 r4]), (w.heap.size, #[.int .i64 a, .int .i64 b])] V2 from hV2 ▸ HB5.out.new _ _)
  have hlt2 := HB5.out.lt (List.mem_cons_self ..)
  clear hV2 HB5
  generalize w5.heap.size = B2 at *
  obtain ⟨c1_0, c1_1, c1_2, c1_3, c1_4⟩ := HV2.out.five (List.mem_cons_of_mem _ (List.mem_cons_self ..))
  obtain ⟨c2_0, c2_1, c2_2, c2_3, c2_4, c2_5, c2_6, c2_7, c2_8, c2_9, c2_10, c2_11, c2_12, c2_13, c2_14⟩ := HV2.out.fifteen (List.mem_cons_of_mem _ (List.mem_cons_of_mem _ (List.mem_cons_self ..)))
  obtain ⟨c3_0, c3_1⟩ := HV2.out.two (List.mem_cons_of_mem _ (List.mem_cons_of_mem _ (List.mem_cons_of_mem _ (List.mem_cons_self ..))))
  go_wp2_with fail
  refine (HX.out _).mono ?_
  rintro e6 w6 ⟨rfl, hbb⟩
  have HB6 := Lib.hid (HV2.out.keep hbb)
  clear c1_0 c1_1 c1_2 c1_3 c1_4 c2_0 c2_1 c2_2 c2_3 c2_4 c2_5 c2_6 c2_7 c2_8 c2_9 c2_10 c2_11 c2_12 c2_13 c2_14 c3_0 c3_1
  clear hbb HV2
  go_upto_region 8 with fail
  obtain ⟨V3, hV3⟩ : ∃ V3 : World, V3 = w6.alloc (.cells #[.int .i64 x0, .int .i64 x1, .int .i64 x2, .int .i64 x3, .int .i64 x4] 25) := ⟨_, rfl⟩
  rw [← hV3]
  have HV3 := Lib.hid (show Bx w [(w6.heap.size, #[.int .i64 x0, .int .i64 x1, .int .i64 x2, .int .i64 x3, .int .i64 x4]), (B2, #[.int .i64 v0, .int .i64 v1, .int .i64 v2, .int .i64 v3, .int .i64 v4]), (B1, #[.int .i64 u0, .int .i64 u1, .int .i64 u2, .int .i64 u3, .int .i64 u4]), (w.heap.size + 1, #[.int .i64 p0, .int .i64 p1, .int .i64 p2, .int .i64 p3, .int .i64 p4, .int .i64 q0, .int .i64 q1, .int .i64 q2, .int .i64 q3, .int .i64 q4, .int .i64 r0, .int .i64 r1, .int .i64 r2, .int .i64 r3, .int .i64 r4]), (w.heap.size, #[.int .i64 a, .int .i64 b])] V3 from hV3 ▸ HB6.out.new _ _)
  have hlt3 := HB6.out.lt (List.mem_cons_self ..)
  clear hV3 HB6
  generalize w6.heap.size = B3 at *
  obtain ⟨c1_0, c1_1, c1_2, c1_3, c1_4⟩ := HV3.out.five (List.mem_cons_of_mem _ (List.mem_cons_self ..))
  obtain ⟨c3_0, c3_1, c3_2, c3_3, c3_4, c3_5, c3_6, c3_7, c3_8, c3_9, c3_10, c3_11, c3_12, c3_13, c3_14⟩ := HV3.out.fifteen (List.mem_cons_of_mem _ (List.mem_cons_of_mem _ (List.mem_cons_of_mem _ (List.mem_cons_self ..))))
  obtain ⟨c4_0, c4_1⟩ := HV3.out.two (List.mem_cons_of_mem _ (List.mem_cons_of_mem _ (List.mem_cons_of_mem _ (List.mem_cons_of_mem _ (List.mem_cons_self ..)))))
  go_wp2_with fail
  refine (HY.out _).mono ?_
  rintro e7 w7 ⟨rfl, hbb⟩
  have HB7 := Lib.hid (HV3.out.keep hbb)
  clear c1_0 c1_1 c1_2 c1_3 c1_4 c3_0 c3_1 c3_2 c3_3 c3_4 c3_5 c3_6 c3_7 c3_8 c3_9 c3_10 c3_11 c3_12 c3_13 c3_14 c4_0 c4_1
  clear hbb HV3
  go_upto_region 9 with fail
  obtain ⟨V4, hV4⟩ : ∃ V4 : World, V4 = w7.alloc (.cells #[.int .i64 x0, .int .i64 x1, .int .i64 x2, .int .i64 x3, .int .i64 x4] 25) := ⟨_, rfl⟩
  rw [← hV4]
  have HV4 := Lib.hid (show Bx w [(w7.heap.size, #[.int .i64 x0, .int .i64 x1, .int .i64 x2, .int .i64 x3, .int .i64 x4]), (B3, #[.int .i64 x0, .int .i64 x1, .int .i64 x2, .int .i64 x3, .int .i64 x4]), (B2, #[.int .i64 v0, .int .i64 v1, .int .i64 v2, .int .i64 v3, .int .i64 v4]), (B1, #[.int .i64 u0, .int .i64 u1, .int .i64 u2, .int .i64 u3, .int .i64 u4]), (w.heap.size + 1, #[.int .i64 p0, .int .i64 p1, .int .i64 p2, .int .i64 p3, .int .i64 p4, .int .i64 q0, .int .i64 q1, .int .i64 q2, .int .i64 q3, .int .i64 q4, .int .i64 r0, .int .i64 r1, .int .i64 r2, .int .i64 r3, .int .i64 r4]), (w.heap.size, #[.int .i64 a, .int .i64 b])] V4 from hV4 ▸ HB7.out.new _ _)
  have hlt4 := HB7.out.lt (List.mem_cons_self ..)
  clear hV4 HB7
  generalize w7.heap.size = B4 at *
  obtain ⟨c0_0, c0_1, c0_2, c0_3, c0_4⟩ := HV4.out.five (List.mem_cons_self ..)
  obtain ⟨c1_0, c1_1, c1_2, c1_3, c1_4⟩ := HV4.out.five (List.mem_cons_of_mem _ (List.mem_cons_self ..))
  go_upto_region 11 with fail
  clear c0_0 c0_1 c0_2 c0_3 c0_4 c1_0 c1_1 c1_2 c1_3 c1_4
  obtain ⟨c4_0, c4_1, c4_2, c4_3, c4_4, c4_5, c4_6, c4_7, c4_8, c4_9, c4_10, c4_11, c4_12, c4_13, c4_14⟩ := HV4.out.fifteen (List.mem_cons_of_mem _ (List.mem_cons_of_mem _ (List.mem_cons_of_mem _ (List.mem_cons_of_mem _ (List.mem_cons_self ..)))))
  go_wp2_with fail
  refine (HS.out _).mono ?_
  rintro e8 w8 ⟨rfl, hbb⟩
  have HB8 := Lib.hid (HV4.out.keep hbb)
  clear c4_0 c4_1 c4_2 c4_3 c4_4 c4_5 c4_6 c4_7 c4_8 c4_9 c4_10 c4_11 c4_12 c4_13 c4_14
  clear hbb HV4
  go_upto_region 12 with fail
  obtain ⟨V5, hV5⟩ : ∃ V5 : World, V5 = w8.alloc (.cells #[.int .i64 s0, .int .i64 s1, .int .i64 s2, .int .i64 s3, .int .i64 s4] 25) := ⟨_, rfl⟩
  rw [← hV5]
  have HV5 := Lib.hid (show Bx w [(w8.heap.size, #[.int .i64 s0, .int .i64 s1, .int .i64 s2, .int .i64 s3, .int .i64 s4]), (B4, #[.int .i64 x0, .int .i64 x1, .int .i64 x2, .int .i64 x3, .int .i64 x4]), (B3, #[.int .i64 x0, .int .i64 x1, .int .i64 x2, .int .i64 x3, .int .i64 x4]), (B2, #[.int .i64 v0, .int .i64 v1, .int .i64 v2, .int .i64 v3, .int .i64 v4]), (B1, #[.int .i64 u0, .int .i64 u1, .int .i64 u2, .int .i64 u3, .int .i64 u4]), (w.heap.size + 1, #[.int .i64 p0, .int .i64 p1, .int .i64 p2, .int .i64 p3, .int .i64 p4, .int .i64 q0, .int .i64 q1, .int .i64 q2, .int .i64 q3, .int .i64 q4, .int .i64 r0, .int .i64 r1, .int .i64 r2, .int .i64 r3, .int .i64 r4]), (w.heap.size, #[.int .i64 a, .int .i64 b])] V5 from hV5 ▸ HB8.out.new _ _)
  have hlt5 := HB8.out.lt (List.mem_cons_self ..)
  clear hV5 HB8
  generalize w8.heap.size = B5 at *
  obtain ⟨c0_0, c0_1, c0_2, c0_3, c0_4⟩ := HV5.out.five (List.mem_cons_self ..)
  obtain ⟨c5_0, c5_1, c5_2, c5_3, c5_4, c5_5, c5_6, c5_7, c5_8, c5_9, c5_10, c5_11, c5_12, c5_13, c5_14⟩ := HV5.out.fifteen (List.mem_cons_of_mem _ (List.mem_cons_of_mem _ (List.mem_cons_of_mem _ (List.mem_cons_of_mem _ (List.mem_cons_of_mem _ (List.mem_cons_self ..))))))
  obtain ⟨c6_0, c6_1⟩ := HV5.out.two (List.mem_cons_of_mem _ (List.mem_cons_of_mem _ (List.mem_cons_of_mem _ (List.mem_cons_of_mem _ (List.mem_cons_of_mem _ (List.mem_cons_of_mem _ (List.mem_cons_self ..)))))))
  go_wp2_with fail
  refine (HU.out _).mono ?_
  rintro e9 w9 ⟨rfl, hbb⟩
  have HB9 := Lib.hid (HV5.out.keep hbb)
  clear c0_0 c0_1 c0_2 c0_3 c0_4 c5_0 c5_1 c5_2 c5_3 c5_4 c5_5 c5_6 c5_7 c5_8 c5_9 c5_10 c5_11 c5_12 c5_13 c5_14 c6_0 c6_1
  clear hbb HV5
  go_upto_region 13 with fail
  obtain ⟨V6, hV6⟩ : ∃ V6 : World, V6 = w9.alloc (.cells #[.int .i64 y0, .int .i64 y1, .int .i64 y2, .int .i64 y3, .int .i64 y4] 25) := ⟨_, rfl⟩
  rw [← hV6]
  have HV6 := Lib.hid (show Bx w [(w9.heap.size, #[.int .i64 y0, .int .i64 y1, .int .i64 y2, .int .i64 y3, .int .i64 y4]), (B5, #[.int .i64 s0, .int .i64 s1, .int .i64 s2, .int .i64 s3, .int .i64 s4]), (B4, #[.int .i64 x0, .int .i64 x1, .int .i64 x2, .int .i64 x3, .int .i64 x4]), (B3, #[.int .i64 x0, .int .i64 x1, .int .i64 x2, .int .i64 x3, .int .i64 x4]), (B2, #[.int .i64 v0, .int .i64 v1, .int .i64 v2, .int .i64 v3, .int .i64 v4]), (B1, #[.int .i64 u0, .int .i64 u1, .int .i64 u2, .int .i64 u3, .int .i64 u4]), (w.heap.size + 1, #[.int .i64 p0, .int .i64 p1, .int .i64 p2, .int .i64 p3, .int .i64 p4, .int .i64 q0, .int .i64 q1, .int .i64 q2, .int .i64 q3, .int .i64 q4, .int .i64 r0, .int .i64 r1, .int .i64 r2, .int .i64 r3, .int .i64 r4]), (w.heap.size, #[.int .i64 a, .int .i64 b])] V6 from hV6 ▸ HB9.out.new _ _)
  have hlt6 := HB9.out.lt (List.mem_cons_self ..)
  clear hV6 HB9
  generalize w9.heap.size = B6 at *
  obtain ⟨c6_0, c6_1, c6_2, c6_3, c6_4, c6_5, c6_6, c6_7, c6_8, c6_9, c6_10, c6_11, c6_12, c6_13, c6_14⟩ := HV6.out.fifteen (List.mem_cons_of_mem _ (List.mem_cons_of_mem _ (List.mem_cons_of_mem _ (List.mem_cons_of_mem _ (List.mem_cons_of_mem _ (List.mem_cons_of_mem _ (List.mem_cons_self ..)))))))
  obtain ⟨c7_0, c7_1⟩ := HV6.out.two (List.mem_cons_of_mem _ (List.mem_cons_of_mem _ (List.mem_cons_of_mem _ (List.mem_cons_of_mem _ (List.mem_cons_of_mem _ (List.mem_cons_of_mem _ (List.mem_cons_of_mem _ (List.mem_cons_self ..))))))))
  go_wp2_with fail
  refine (HV.out _).mono ?_
  rintro e10 w10 ⟨rfl, hbb⟩
  have HB10 := Lib.hid (HV6.out.keep hbb)
  clear c6_0 c6_1 c6_2 c6_3 c6_4 c6_5 c6_6 c6_7 c6_8 c6_9 c6_10 c6_11 c6_12 c6_13 c6_14 c7_0 c7_1
  clear hbb HV6
  go_upto_region 14 with fail
  obtain ⟨V7, hV7⟩ : ∃ V7 : World, V7 = w10.alloc (.cells #[.int .i64 z0, .int .i64 z1, .int .i64 z2, .int .i64 z3, .int .i64 z4] 25) := ⟨_, rfl⟩
  rw [← hV7]
  have HV7 := Lib.hid (show Bx w [(w10.heap.size, #[.int .i64 z0, .int .i64 z1, .int .i64 z2, .int .i64 z3, .int .i64 z4]), (B6, #[.int .i64 y0, .int .i64 y1, .int .i64 y2, .int .i64 y3, .int .i64 y4]), (B5, #[.int .i64 s0, .int .i64 s1, .int .i64 s2, .int .i64 s3, .int .i64 s4]), (B4, #[.int .i64 x0, .int .i64 x1, .int .i64 x2, .int .i64 x3, .int .i64 x4]), (B3, #[.int .i64 x0, .int .i64 x1, .int .i64 x2, .int .i64 x3, .int .i64 x4]), (B2, #[.int .i64 v0, .int .i64 v1, .int .i64 v2, .int .i64 v3, .int .i64 v4]), (B1, #[.int .i64 u0, .int .i64 u1, .int .i64 u2, .int .i64 u3, .int .i64 u4]), (w.heap.size + 1, #[.int .i64 p0, .int .i64 p1, .int .i64 p2, .int .i64 p3, .int .i64 p4, .int .i64 q0, .int .i64 q1, .int .i64 q2, .int .i64 q3, .int .i64 q4, .int .i64 r0, .int .i64 r1, .int .i64 r2, .int .i64 r3, .int .i64 r4]), (w.heap.size, #[.int .i64 a, .int .i64 b])] V7 from hV7 ▸ HB10.out.new _ _)
  have hlt7 := HB10.out.lt (List.mem_cons_self ..)
  clear hV7 HB10
  generalize w10.heap.size = B7 at *
  obtain ⟨c0_0, c0_1, c0_2, c0_3, c0_4⟩ := HV7.out.five (List.mem_cons_self ..)
  obtain ⟨c6_0, c6_1, c6_2, c6_3, c6_4⟩ := HV7.out.five (List.mem_cons_of_mem _ (List.mem_cons_of_mem _ (List.mem_cons_of_mem _ (List.mem_cons_of_mem _ (List.mem_cons_of_mem _ (List.mem_cons_of_mem _ (List.mem_cons_self ..)))))))
  go_wp2_with fail
  refine (HW.out _).mono ?_
  rintro e11 w11 ⟨rfl, hbb⟩
  have HB11 := Lib.hid (HV7.out.keep hbb)
  clear c0_0 c0_1 c0_2 c0_3 c0_4 c6_0 c6_1 c6_2 c6_3 c6_4
  clear hbb HV7
  go_upto_region 15 with fail
  obtain ⟨V8, hV8⟩ : ∃ V8 : World, V8 = w11.alloc (.cells #[.int .i64 y0, .int .i64 y1, .int .i64 y2, .int .i64 y3, .int .i64 y4] 25) := ⟨_, rfl⟩
  rw [← hV8]
  have HV8 := Lib.hid (show Bx w [(w11.heap.size, #[.int .i64 y0, .int .i64 y1, .int .i64 y2, .int .i64 y3, .int .i64 y4]), (B7, #[.int .i64 z0, .int .i64 z1, .int .i64 z2, .int .i64 z3, .int .i64 z4]), (B6, #[.int .i64 y0, .int .i64 y1, .int .i64 y2, .int .i64 y3, .int .i64 y4]), (B5, #[.int .i64 s0, .int .i64 s1, .int .i64 s2, .int .i64 s3, .int .i64 s4]), (B4, #[.int .i64 x0, .int .i64 x1, .int .i64 x2, .int .i64 x3, .int .i64 x4]), (B3, #[.int .i64 x0, .int .i64 x1, .int .i64 x2, .int .i64 x3, .int .i64 x4]), (B2, #[.int .i64 v0, .int .i64 v1, .int .i64 v2, .int .i64 v3, .int .i64 v4]), (B1, #[.int .i64 u0, .int .i64 u1, .int .i64 u2, .int .i64 u3, .int .i64 u4]), (w.heap.size + 1, #[.int .i64 p0, .int .i64 p1, .int .i64 p2, .int .i64 p3, .int .i64 p4, .int .i64 q0, .int .i64 q1, .int .i64 q2, .int .i64 q3, .int .i64 q4, .int .i64 r0, .int .i64 r1, .int .i64 r2, .int .i64 r3, .int .i64 r4]), (w.heap.size, #[.int .i64 a, .int .i64 b])] V8 from hV8 ▸ HB11.out.new _ _)
  have hlt8 := HB11.out.lt (List.mem_cons_self ..)
  clear hV8 HB11
  generalize w11.heap.size = B8 at *
  obtain ⟨c0_0, c0_1, c0_2, c0_3, c0_4⟩ := HV8.out.five (List.mem_cons_self ..)
  obtain ⟨c2_0, c2_1, c2_2, c2_3, c2_4⟩ := HV8.out.five (List.mem_cons_of_mem _ (List.mem_cons_of_mem _ (List.mem_cons_self ..)))
  go_upto_region 17 with fail
  clear c0_0 c0_1 c0_2 c0_3 c0_4 c2_0 c2_1 c2_2 c2_3 c2_4
  have HBs := Lib.hid (show Bx w [(w.heap.size + 1, #[.int .i64 p0, .int .i64 p1, .int .i64 p2, .int .i64 p3, .int .i64 p4, .int .i64 q0, .int .i64 q1, .int .i64 q2, .int .i64 q3, .int .i64 q4, .int .i64 r0, .int .i64 r1, .int .i64 r2, .int .i64 r3, .int .i64 r4]), (w.heap.size, #[.int .i64 a, .int .i64 b])] V8 from HV8.out.sub (by intro x hx; simp only [List.mem_cons, List.not_mem_nil, or_false] at hx ⊢; rcases hx with rfl | rfl <;> simp))
  clear HV8
  obtain ⟨c0_0, c0_1, c0_2, c0_3, c0_4, c0_5, c0_6, c0_7, c0_8, c0_9, c0_10, c0_11, c0_12, c0_13, c0_14⟩ := HBs.out.fifteen (List.mem_cons_self ..)
  obtain ⟨c1_0, c1_1⟩ := HBs.out.two (List.mem_cons_of_mem _ (List.mem_cons_self ..))
  go_wp2_with fail
  refine (HPo.out _).mono ?_
  rintro e30 w30 ⟨g, c, rfl, hge, hC, hnc, hc9, hbb⟩
  have HB30 := Lib.hid (show Bx w [(g, cs), (w.heap.size + 1, #[.int .i64 p0, .int .i64 p1, .int .i64 p2, .int .i64 p3, .int .i64 p4, .int .i64 q0, .int .i64 q1, .int .i64 q2, .int .i64 q3, .int .i64 q4, .int .i64 r0, .int .i64 r1, .int .i64 r2, .int .i64 r3, .int .i64 r4]), (w.heap.size, #[.int .i64 a, .int .i64 b])] w30 from (HBs.out.keep hbb).cons (Nat.le_trans HBs.out.below.size hge) hC)
  clear c0_0 c0_1 c0_2 c0_3 c0_4 c0_5 c0_6 c0_7 c0_8 c0_9 c0_10 c0_11 c0_12 c0_13 c0_14 c1_0 c1_1
  clear hbb hC HBs hge
  have hn1 : decide ((n : Int) < 2) = false := decide_eq_false (by omega)
  have hn2 : decide (3 < (n : Int)) = false := decide_eq_false (by omega)
  have hgs := (HB30.out.lt (List.mem_cons_self ..)).2
  have hts := (HB30.out.lt (List.mem_cons_of_mem _ (List.mem_cons_self ..))).2
  go_upto_region 20 with fail
  go_upto_region 21 with fail
  obtain ⟨V9, hV9⟩ : ∃ V9 : World, V9 = w30.alloc (.cells #[.int .i64 0, .int .i64 0, .int .i64 0, .int .i64 0, .int .i64 1] 25) := ⟨_, rfl⟩
  rw [← hV9]
  have HV9 := Lib.hid (show Bx w [(w30.heap.size, #[.int .i64 0, .int .i64 0, .int .i64 0, .int .i64 0, .int .i64 1]), (g, cs), (w.heap.size + 1, #[.int .i64 p0, .int .i64 p1, .int .i64 p2, .int .i64 p3, .int .i64 p4, .int .i64 q0, .int .i64 q1, .int .i64 q2, .int .i64 q3, .int .i64 q4, .int .i64 r0, .int .i64 r1, .int .i64 r2, .int .i64 r3, .int .i64 r4]), (w.heap.size, #[.int .i64 a, .int .i64 b])] V9 from hV9 ▸ HB30.out.new _ _)
  have hlt9 := HB30.out.lt (List.mem_cons_self ..)
  clear hV9 HB30
  generalize w30.heap.size = SB at *
  go_wp2_with fail
  go_loopw [24, 25, 26, 27, 28, 29, 30] (fun s24 _ _ _ _ _ _ wr => ∃ (i : Nat) (h0 h1 h2 h3 h4 : Int), s24 = .int .i64 ((i : Int) - 1) ∧ i ≤ n ∧ H i = ⟨h0, h1, h2, h3, h4⟩ ∧ Bx w [(SB, #[.int .i64 h0, .int .i64 h1, .int .i64 h2, .int .i64 h3, .int .i64 h4]), (g, cs), (w.heap.size + 1, #[.int .i64 p0, .int .i64 p1, .int .i64 p2, .int .i64 p3, .int .i64 p4, .int .i64 q0, .int .i64 q1, .int .i64 q2, .int .i64 q3, .int .i64 q4, .int .i64 r0, .int .i64 r1, .int .i64 r2, .int .i64 r3, .int .i64 r4]), (w.heap.size, #[.int .i64 a, .int .i64 b])] wr) (fun s24 _ _ _ _ _ _ _ => (intOf s24 + 1).toNat)
  case atStart => exact ⟨n, 0, 0, 0, 0, 1, rfl, Nat.le_refl _, HH.out.top, HV9.out⟩
  case round =>
    clear HV9
    obtain ⟨i, h0, h1, h2, h3, h4, rfl, hi, hH, hB⟩ := hrel
    have HHi := Lib.hid hH; have HB31 := Lib.hid hB
    clear hH hB
    cases i with
    | zero =>
      have hz := HHi.out.symm.trans HH.out.bot
      unfold zQ at hz
      injection hz with z0 z1 z2 z3 z4
      subst z0; subst z1; subst z2; subst z3; subst z4
      obtain ⟨c0_0, c0_1, c0_2, c0_3, c0_4⟩ := HB31.out.five (List.mem_cons_self ..)
      go_wp2_with fail
      go_ret
      exact ⟨rfl, HB31.out.below⟩
    | succ j =>
      obtain ⟨k1, k2, k3, k4⟩ := HCf.out.2 j (by omega)
      obtain ⟨st1, st2, st3⟩ := HH.out.step j (by omega)
      have hvj := HH.out.val j (by omega)
      have hvj1 := HH.out.val (j + 1) (by omega)
      rw [HHi.out] at st1 st2 hvj1
      rw [k3] at k4 st1 st3
      have HSc := Lib.hid (fun w => qScale_one (C j).w (C j).d w st3 k4)
      have HMu := Lib.hid (fun w => qMul_fit a b ⟨h0, h1, h2, h3, h4⟩ ⟨p0, p1, p2, p3, p4⟩ w hvj1 HPv.out hal.out st2)
      have hAd := fun w => qAdd_fit (nrm (mulQ a b ⟨h0, h1, h2, h3, h4⟩ ⟨p0, p1, p2, p3, p4⟩)) ⟨(C j).w, 0, 0, 0, (C j).d⟩ w st2 st3 (by rw [← st1]; exact hvj)
      rw [← st1] at hAd
      have HAd := Lib.hid hAd
      have hsz := HCf.out.1
      have jb1 : (0 : Int) ≤ (j : Int) := by omega
      have jb2 : (j : Int) < (n : Int) := by omega
      have g1 : wr.cell? ⟨g, j * 2, none⟩ = some (.int .i64 (C j).w) := ((HB31.out.own _ (List.mem_cons_of_mem _ (List.mem_cons_self ..))).2.2.1 (j * 2) (by show j * 2 < cs.size; omega)).trans k1
      have g2 : wr.cell? ⟨g, j * 2 + 1, none⟩ = some (.int .i64 (C j).d) := ((HB31.out.own _ (List.mem_cons_of_mem _ (List.mem_cons_self ..))).2.2.1 (j * 2 + 1) (by show j * 2 + 1 < cs.size; omega)).trans k2
      have hglt := (HB31.out.lt (List.mem_cons_of_mem _ (List.mem_cons_self ..))).2
      clear k1 k2 k3 k4 st1 st2 st3 hvj hvj1 hAd
      generalize nrm (mulQ a b ⟨h0, h1, h2, h3, h4⟩ ⟨p0, p1, p2, p3, p4⟩) = MM at *
      obtain ⟨m0, m1, m2, m3, m4⟩ := MM
      obtain ⟨cw, hcw⟩ : ∃ cw, (C j).w = cw := ⟨_, rfl⟩
      obtain ⟨cd, hcd⟩ : ∃ cd, (C j).d = cd := ⟨_, rfl⟩
      rw [hcw] at g1 HSc HAd
      rw [hcd] at g2 HSc HAd
      clear hcw hcd
      obtain ⟨HJ, hHJ⟩ : ∃ HJ, H j = HJ := ⟨_, rfl⟩
      rw [hHJ] at HAd
      obtain ⟨y0j, y1j, y2j, y3j, y4j⟩ := HJ
      have HHJ := Lib.hid hHJ
      clear hHJ
      simp only [qv] at HMu HAd
      have e0 : (((j + 1 : Nat) : Int) - 1) = (j : Int) := by omega
      rw [e0]
      go_upto_region 24 with fail
      have HV := Lib.hid HB31.out
      have MK := Lib.hid (fun w' (h : Bx w [(SB, #[.int .i64 h0, .int .i64 h1, .int .i64 h2, .int .i64 h3, .int .i64 h4]), (g, cs), (w.heap.size + 1, #[.int .i64 p0, .int .i64 p1, .int .i64 p2, .int .i64 p3, .int .i64 p4, .int .i64 q0, .int .i64 q1, .int .i64 q2, .int .i64 q3, .int .i64 q4, .int .i64 r0, .int .i64 r1, .int .i64 r2, .int .i64 r3, .int .i64 r4]), (w.heap.size, #[.int .i64 a, .int .i64 b])] w') => And.intro h (And.intro (((h.own _ (List.mem_cons_of_mem _ (List.mem_cons_self ..))).2.2.1 (j * 2) (by show j * 2 < cs.size; omega)).trans (((HV.out.own _ (List.mem_cons_of_mem _ (List.mem_cons_self ..))).2.2.1 (j * 2) (by show j * 2 < cs.size; omega)).symm.trans g1)) (((h.own _ (List.mem_cons_of_mem _ (List.mem_cons_self ..))).2.2.1 (j * 2 + 1) (by show j * 2 + 1 < cs.size; omega)).trans (((HV.out.own _ (List.mem_cons_of_mem _ (List.mem_cons_self ..))).2.2.1 (j * 2 + 1) (by show j * 2 + 1 < cs.size; omega)).symm.trans g2))))
      have HG2 := Lib.hid (MK.out _ (HB31.out.keep (Below.refl _ _).drew))
      clear g1 g2
      go_cut [25, 26] (fun s25 s26 wx => ∃ gc : Nat, s25 = .pointer (some ⟨gc, 0, none⟩) ∧ s26 = .int .i64 0 ∧ Bx w ((gc, #[.int .i64 cw, .int .i64 0, .int .i64 0, .int .i64 0, .int .i64 cd]) :: [(SB, #[.int .i64 h0, .int .i64 h1, .int .i64 h2, .int .i64 h3, .int .i64 h4]), (g, cs), (w.heap.size + 1, #[.int .i64 p0, .int .i64 p1, .int .i64 p2, .int .i64 p3, .int .i64 p4, .int .i64 q0, .int .i64 q1, .int .i64 q2, .int .i64 q3, .int .i64 q4, .int .i64 r0, .int .i64 r1, .int .i64 r2, .int .i64 r3, .int .i64 r4]), (w.heap.size, #[.int .i64 a, .int .i64 b])]) wx)
      case first =>
        go_region_held3 (fun w' => Bx w [(SB, #[.int .i64 h0, .int .i64 h1, .int .i64 h2, .int .i64 h3, .int .i64 h4]), (g, cs), (w.heap.size + 1, #[.int .i64 p0, .int .i64 p1, .int .i64 p2, .int .i64 p3, .int .i64 p4, .int .i64 q0, .int .i64 q1, .int .i64 q2, .int .i64 q3, .int .i64 q4, .int .i64 r0, .int .i64 r1, .int .i64 r2, .int .i64 r3, .int .i64 r4]), (w.heap.size, #[.int .i64 a, .int .i64 b])] w' ∧ w'.cell? ⟨g, j * 2, none⟩ = some (.int .i64 cw) ∧ w'.cell? ⟨g, j * 2 + 1, none⟩ = some (.int .i64 cd))
          (first
            | assumption
            | exact HG2.out
            | exact MK.out _ (Bx.keep (And.left (by assumption)) (by first | assumption | exact (Below.refl _ _).alloc (Nat.le_refl _) _))
            | exact MK.out _ (Bx.store_ge (And.left (by assumption)) HV.out (by first | exact Nat.le_refl _ | assumption) _ _ _ _ _)
            | exact MK.out _ (Bx.again (And.left (by assumption)) HV.out (by first | exact Nat.le_refl _ | assumption)))
          (first
            | (go_at_call 54; (with_reducible refine (HOn.out _).mono ?_); rintro e w' ⟨rfl, hb3⟩; have hz3 : wr.heap.size ≤ w'.heap.size := (by have := hb3.size; (try simp at this); omega); (first | (have kk3 := Lib.hid (newq_drew hb3); obtain ⟨k30, k31, k32, k33, k34⟩ := kk3.out.five; obtain ⟨g30, g31, g32, g33, g34⟩ := kk3.out.fr) | (have kk3 := Lib.hid (newq_keep hb3); obtain ⟨k30, k31, k32, k33, k34⟩ := kk3.out.five; obtain ⟨g30, g31, g32, g33, g34⟩ := kk3.out.fr) | skip))
            | (go_at_call 48; (with_reducible refine (HSc.out _).mono ?_); rintro e w' ⟨rfl, hb4⟩; have hz4 : wr.heap.size ≤ w'.heap.size := (by have := hb4.size; (try simp at this); omega); (first | (have kk4 := Lib.hid (newq_drew hb4); obtain ⟨k40, k41, k42, k43, k44⟩ := kk4.out.five; obtain ⟨g40, g41, g42, g43, g44⟩ := kk4.out.fr) | (have kk4 := Lib.hid (newq_keep hb4); obtain ⟨k40, k41, k42, k43, k44⟩ := kk4.out.five; obtain ⟨g40, g41, g42, g43, g44⟩ := kk4.out.fr) | (have kk4 := Lib.hid (kk3.out.keep hb4); obtain ⟨k40, k41, k42, k43, k44⟩ := kk4.out.five; obtain ⟨g40, g41, g42, g43, g44⟩ := kk4.out.fr; clear k30 k31 k32 k33 k34 g30 g31 g32 g33 g34) | skip)))
        all_goals
          go_wp2_with fail
          go_meet
          first
          | exact ⟨_, rfl, rfl, Bx.cons (And.left (by assumption)) (Nat.le_trans HV.out.below.size (by first | exact Nat.le_refl _ | assumption)) (Cells.put5 kk4.out _ _ _ _ _)⟩
          | exact ⟨_, rfl, rfl, Bx.cons (And.left (by assumption)) (Nat.le_trans HV.out.below.size (by first | exact Nat.le_refl _ | assumption)) (Cells.new _ _ _ rfl)⟩
      case rest =>
        obtain ⟨gc, rfl, rfl, hB⟩ := hcut
        have HC1 := Lib.hid hB
        clear hB HV MK HG2 HB31
        obtain ⟨c1_0, c1_1, c1_2, c1_3, c1_4⟩ := HC1.out.five (List.mem_cons_of_mem _ (List.mem_cons_self ..))
        obtain ⟨c3_0, c3_1, c3_2, c3_3, c3_4, c3_5, c3_6, c3_7, c3_8, c3_9, c3_10, c3_11, c3_12, c3_13, c3_14⟩ := HC1.out.fifteen (List.mem_cons_of_mem _ (List.mem_cons_of_mem _ (List.mem_cons_of_mem _ (List.mem_cons_self ..))))
        obtain ⟨c4_0, c4_1⟩ := HC1.out.two (List.mem_cons_of_mem _ (List.mem_cons_of_mem _ (List.mem_cons_of_mem _ (List.mem_cons_of_mem _ (List.mem_cons_self ..)))))
        go_wp2_with fail
        refine (HMu.out _).mono ?_
        rintro e12 w12 ⟨rfl, hbb⟩
        have HB12 := Lib.hid (HC1.out.keep hbb)
        clear c1_0 c1_1 c1_2 c1_3 c1_4 c3_0 c3_1 c3_2 c3_3 c3_4 c3_5 c3_6 c3_7 c3_8 c3_9 c3_10 c3_11 c3_12 c3_13 c3_14 c4_0 c4_1
        clear hbb HC1
        go_upto_region 26 with fail
        obtain ⟨V10, hV10⟩ : ∃ V10 : World, V10 = w12.alloc (.cells #[.int .i64 m0, .int .i64 m1, .int .i64 m2, .int .i64 m3, .int .i64 m4] 25) := ⟨_, rfl⟩
        rw [← hV10]
        have HV10 := Lib.hid (show Bx w [(w12.heap.size, #[.int .i64 m0, .int .i64 m1, .int .i64 m2, .int .i64 m3, .int .i64 m4]), (gc, #[.int .i64 cw, .int .i64 0, .int .i64 0, .int .i64 0, .int .i64 cd]), (SB, #[.int .i64 h0, .int .i64 h1, .int .i64 h2, .int .i64 h3, .int .i64 h4]), (g, cs), (w.heap.size + 1, #[.int .i64 p0, .int .i64 p1, .int .i64 p2, .int .i64 p3, .int .i64 p4, .int .i64 q0, .int .i64 q1, .int .i64 q2, .int .i64 q3, .int .i64 q4, .int .i64 r0, .int .i64 r1, .int .i64 r2, .int .i64 r3, .int .i64 r4]), (w.heap.size, #[.int .i64 a, .int .i64 b])] V10 from hV10 ▸ HB12.out.new _ _)
        have hlt10 := HB12.out.lt (List.mem_cons_self ..)
        clear hV10 HB12
        generalize w12.heap.size = B10 at *
        obtain ⟨c0_0, c0_1, c0_2, c0_3, c0_4⟩ := HV10.out.five (List.mem_cons_self ..)
        obtain ⟨c1_0, c1_1, c1_2, c1_3, c1_4⟩ := HV10.out.five (List.mem_cons_of_mem _ (List.mem_cons_self ..))
        go_wp2_with fail
        refine (HAd.out _).mono ?_
        rintro e13 w13 ⟨rfl, hbb⟩
        have HB13 := Lib.hid (HV10.out.keep hbb)
        clear c0_0 c0_1 c0_2 c0_3 c0_4 c1_0 c1_1 c1_2 c1_3 c1_4
        clear hbb HV10
        go_upto_region 27 with fail
        obtain ⟨V11, hV11⟩ : ∃ V11 : World, V11 = w13.alloc (.cells #[.int .i64 y0j, .int .i64 y1j, .int .i64 y2j, .int .i64 y3j, .int .i64 y4j] 25) := ⟨_, rfl⟩
        rw [← hV11]
        have HV11 := Lib.hid (show Bx w [(w13.heap.size, #[.int .i64 y0j, .int .i64 y1j, .int .i64 y2j, .int .i64 y3j, .int .i64 y4j]), (B10, #[.int .i64 m0, .int .i64 m1, .int .i64 m2, .int .i64 m3, .int .i64 m4]), (gc, #[.int .i64 cw, .int .i64 0, .int .i64 0, .int .i64 0, .int .i64 cd]), (SB, #[.int .i64 h0, .int .i64 h1, .int .i64 h2, .int .i64 h3, .int .i64 h4]), (g, cs), (w.heap.size + 1, #[.int .i64 p0, .int .i64 p1, .int .i64 p2, .int .i64 p3, .int .i64 p4, .int .i64 q0, .int .i64 q1, .int .i64 q2, .int .i64 q3, .int .i64 q4, .int .i64 r0, .int .i64 r1, .int .i64 r2, .int .i64 r3, .int .i64 r4]), (w.heap.size, #[.int .i64 a, .int .i64 b])] V11 from hV11 ▸ HB13.out.new _ _)
        have hlt11 := HB13.out.lt (List.mem_cons_self ..)
        clear hV11 HB13
        generalize w13.heap.size = B11 at *
        go_upto_region 29 with fail
        obtain ⟨c0_0, c0_1, c0_2, c0_3, c0_4⟩ := HV11.out.five (List.mem_cons_self ..)
        obtain ⟨c3_0, c3_1, c3_2, c3_3, c3_4⟩ := HV11.out.five (List.mem_cons_of_mem _ (List.mem_cons_of_mem _ (List.mem_cons_of_mem _ (List.mem_cons_self ..))))
        obtain ⟨f0, f1, f2, f3, f4⟩ := HV11.out.fr (List.mem_cons_of_mem _ (List.mem_cons_of_mem _ (List.mem_cons_of_mem _ (List.mem_cons_self ..))))
        obtain ⟨W9, e9, B9, -⟩ := HV11.out.put5 (List.mem_cons_of_mem _ (List.mem_cons_of_mem _ (List.mem_cons_of_mem _ (List.mem_cons_self ..)))) (.int .i64 y0j) (.int .i64 y1j) (.int .i64 y2j) (.int .i64 y3j) (.int .i64 y4j) (L' := [(SB, #[.int .i64 y0j, .int .i64 y1j, .int .i64 y2j, .int .i64 y3j, .int .i64 y4j]), (g, cs), (w.heap.size + 1, #[.int .i64 p0, .int .i64 p1, .int .i64 p2, .int .i64 p3, .int .i64 p4, .int .i64 q0, .int .i64 q1, .int .i64 q2, .int .i64 q3, .int .i64 q4, .int .i64 r0, .int .i64 r1, .int .i64 r2, .int .i64 r3, .int .i64 r4]), (w.heap.size, #[.int .i64 a, .int .i64 b])]) (by
          intro x hx
          have hS := HV11.out.lt (List.mem_cons_of_mem _ (List.mem_cons_of_mem _ (List.mem_cons_of_mem _ (List.mem_cons_self ..))))
          simp only [List.mem_cons, List.not_mem_nil, or_false] at hx ⊢
          rcases hx with rfl | rfl | rfl | rfl
          · exact .inr rfl
          · exact .inl ⟨.inr (.inr (.inr (.inr (.inl rfl)))), by simp only; omega⟩
          · exact .inl ⟨.inr (.inr (.inr (.inr (.inr (.inl rfl))))), by simp only; omega⟩
          · exact .inl ⟨.inr (.inr (.inr (.inr (.inr (.inr rfl))))), by simp only; omega⟩)
        go_upto_region 23 with fail
        try rw [e9]
        clear c0_0 c0_1 c0_2 c0_3 c0_4 c3_0 c3_1 c3_2 c3_3 c3_4
        have HB9 := Lib.hid B9
        clear e9 B9 f0 f1 f2 f3 f4 HV11
        go_wp2_with fail
        exact ⟨⟨j, y0j, y1j, y2j, y3j, y4j, rfl, by omega, HHJ.out, HB9.out⟩, by simp [intOf] <;> omega⟩

theorem cf_low {n d : Int} (h : d ≠ 0) : nrm ⟨lowN n d, 0, 0, 0, lowD n d⟩ = ⟨lowN n d, 0, 0, 0, lowD n d⟩ := by
  rw [← low_nrm]; exact nrm_nrm (q := ⟨n, 0, 0, 0, d⟩) h
theorem one_low : nrm ⟨1, 0, 0, 0, 1⟩ = ⟨1, 0, 0, 0, 1⟩ := by unfold nrm; simp only [Qt.mk.injEq]; decide +kernel
theorem AlgebraRing_law (a b p0 p1 p2 p3 p4 q0 q1 q2 q3 q4 r0 r1 r2 r3 r4 : Int) (w : World) :
    Calls Tryd.prog 11 #[.agg #[.int .i64 a, .int .i64 b], .agg #[.int .i64 p0, .int .i64 p1, .int .i64 p2, .int .i64 p3, .int .i64 p4, .int .i64 q0, .int .i64 q1, .int .i64 q2, .int .i64 q3, .int .i64 q4, .int .i64 r0, .int .i64 r1, .int .i64 r2, .int .i64 r3, .int .i64 r4]] w fun e w' => e = .returned (.bool true) ∧ Below w.heap.size w w' := by
  cases hl : litB a b
  · exact Ring_1 a b p0 p1 p2 p3 p4 q0 q1 q2 q3 q4 r0 r1 r2 r3 r4 w hl
  · cases hs : [⟨p0, p1, p2, p3, p4⟩, ⟨q0, q1, q2, q3, q4⟩, ⟨r0, r1, r2, r3, r4⟩].all smB
    · exact Ring_2 a b p0 p1 p2 p3 p4 q0 q1 q2 q3 q4 r0 r1 r2 r3 r4 w hl hs
    · obtain ⟨ha, hna, hnb⟩ := lit_small hl
      have hsp := List.all_eq_true.1 hs ⟨p0, p1, p2, p3, p4⟩ (by simp)
      have hp := smB_qB hsp
      have hd := (smB_iff.1 hsp).2.2.2.2
      simp only at hd
      by_cases hr : p1 = 0 ∧ p2 = 0 ∧ p3 = 0
      · obtain ⟨H, hH⟩ := hrn_rat (a := a) (b := b) hsp hr
        refine Ring_3 a b p0 p1 p2 p3 p4 q0 q1 q2 q3 q4 r0 r1 r2 r3 r4 w hl hs 2 (.inl rfl) #[.int .i64 (lowN (-p0) p4), .int .i64 (lowD (-p0) p4), .int .i64 1, .int .i64 1] _ H ⟨rfl, fun i hi => ?_⟩ hH (fun w => qPoly_rat a b p0 p1 p2 p3 p4 w hp ha hr)
        match i, hi with
        | 0, _ => exact ⟨rfl, rfl, rfl, cf_low (by show p4 ≠ 0; omega)⟩
        | 1, _ => exact ⟨rfl, rfl, rfl, one_low⟩
      · obtain ⟨H, hH⟩ := hrn_gen (a := a) (b := b) hna hnb hsp (nm_small hna hnb hsp)
        refine Ring_3 a b p0 p1 p2 p3 p4 q0 q1 q2 q3 q4 r0 r1 r2 r3 r4 w hl hs 3 (.inr rfl) #[.int .i64 (nmN a b ⟨p0, p1, p2, p3, p4⟩), .int .i64 (nmD a b ⟨p0, p1, p2, p3, p4⟩), .int .i64 (lowN (-2 * p0) p4), .int .i64 (lowD (-2 * p0) p4), .int .i64 1, .int .i64 1] _ H ⟨rfl, fun i hi => ?_⟩ hH (fun w => qPoly_gen a b p0 p1 p2 p3 p4 w hp ha hr)
        match i, hi with
        | 0, _ => exact ⟨rfl, rfl, rfl, cf_low (Int.mul_ne_zero (by show p4 ≠ 0; omega) (by show p4 ≠ 0; omega))⟩
        | 1, _ => exact ⟨rfl, rfl, rfl, cf_low (by show p4 ≠ 0; omega)⟩
        | 2, _ => exact ⟨rfl, rfl, rfl, one_low⟩
end Go.Proofs.YtekkbdpggghcjaaDoor
