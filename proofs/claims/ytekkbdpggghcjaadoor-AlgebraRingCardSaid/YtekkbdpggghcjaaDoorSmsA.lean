/- The law AlgebraSums answers true at all elements and fractions. -/
import Derived.Test.YtekkbdpggghcjaaDoorAlgebraChecks
import Derived.Test.YtekkbdpggghcjaaDoorScl
import Derived.Deep.DeepCutAuto
namespace Go.Proofs.YtekkbdpggghcjaaDoor
open Go.RowKit FF

section
variable {w W W0 : World} {L : List (Nat × Array Value)}
theorem Bx.store_ge (h : Bx w L W) (h0 : Bx w L W0) {g : Nat} (hg : W0.heap.size ≤ g) (u0 u1 u2 u3 u4 : Value) : Bx w L (((((W.setCell ⟨g, 0, none⟩ u0).setCell ⟨g, 1, none⟩ u1).setCell ⟨g, 2, none⟩ u2).setCell ⟨g, 3, none⟩ u3).setCell ⟨g, 4, none⟩ u4) :=
  ⟨below_set5 h.below (Nat.le_trans h0.below.size hg) u0 u1 u2 u3 u4, fun x hx => ⟨(h.own x hx).1, by
    have hne : g ≠ x.1 := fun e => by have := (h0.own x hx).2.1; omega
    exact (((((h.own x hx).2.set_ne hne _ _).set_ne hne _ _).set_ne hne _ _).set_ne hne _ _).set_ne hne _ _⟩⟩
theorem Cells.put5 {b : Nat} {v0 v1 v2 v3 v4 : Value} (hc : Cells W b #[v0, v1, v2, v3, v4]) (u0 u1 u2 u3 u4 : Value) : Cells (((((W.setCell ⟨b, 0, none⟩ u0).setCell ⟨b, 1, none⟩ u1).setCell ⟨b, 2, none⟩ u2).setCell ⟨b, 3, none⟩ u3).setCell ⟨b, 4, none⟩ u4) b #[u0, u1, u2, u3, u4] := by
  obtain ⟨h0, h1, h2, h3, h4⟩ := hc.five
  refine ⟨by simpa [World.setCell] using hc.1, fun i hi => ?_, fun i => by simp [go_sem, hc.2.2 i]⟩
  match i, hi with
  | 0, _ => simp [go_sem, h0]
  | 1, _ => simp [go_sem, h1]
  | 2, _ => simp [go_sem, h2]
  | 3, _ => simp [go_sem, h3]
  | 4, _ => simp [go_sem, h4]
theorem Bx.again {o o2 : Obj} (h : Bx w L (W.alloc o)) (h0 : Bx w L W0) (hg : W0.heap.size ≤ W.heap.size) : Bx w L (W.alloc o2) := by
  have hw : w.heap.size ≤ W.heap.size := Nat.le_trans h0.below.size hg
  have hb : Below w.heap.size w (W.alloc o2) := by
    refine ⟨h.below.os, h.below.tape, h.below.output, by rw [World.size_alloc]; have := h.below.size; rw [World.size_alloc] at this; exact this, fun j hj => ?_⟩
    have := h.below.block j hj
    rw [Below.heap_alloc W o j (by omega)] at this
    rw [Below.heap_alloc W o2 j (by omega)]
    exact this
  refine ⟨hb, fun x hx => ⟨(h.own x hx).1, ?_⟩⟩
  have hlt : x.1 < W.heap.size := Nat.lt_of_lt_of_le (h0.own x hx).2.1 hg
  have hc := (h.own x hx).2
  refine ⟨by rw [World.size_alloc]; omega, fun i hi => ?_, fun i => ?_⟩
  · have := hc.2.1 i hi
    rw [World.cell?_alloc_lt _ _ _ hlt] at this
    rw [World.cell?_alloc_lt _ _ _ hlt]; exact this
  · have := hc.2.2 i
    simp only [World.frozen?, Below.heap_alloc W o x.1 hlt] at this
    simp only [World.frozen?, Below.heap_alloc W o2 x.1 hlt]; exact this
theorem newq_keep {c : Array Value} {T : TypeId} (b : Below (W.alloc (.cells c T)).heap.size (W.alloc (.cells c T)) W0) : Cells W0 W.heap.size c := (Cells.new W c T rfl).keep b
theorem newq_drew {c : Array Value} {T : TypeId} (b : Below (W.alloc (.cells c T)).drew.heap.size (W.alloc (.cells c T)).drew W0) : Cells W0 W.heap.size c := newq_keep ⟨b.os, b.tape, b.output, b.size, b.block⟩
end

set_option maxHeartbeats 4000000 in
set_option maxRecDepth 100000 in
theorem Sums_1 (p0 p1 p2 p3 p4 q0 q1 q2 q3 q4 n d : Int) (w : World) (hn : I64 n) (hd : I64 d) (hq : qE ⟨p0, p1, p2, p3, p4⟩ = 3) :
    Calls Tryd.prog 10 #[qv ⟨p0, p1, p2, p3, p4⟩, qv ⟨q0, q1, q2, q3, q4⟩, fvv n d] w fun e w' => e = .returned (.bool true) ∧ Below w.heap.size w w' := by
  have HA := Lib.hid awake3_any
  have hS := fun w => qAdd_any p0 p1 p2 p3 p4 q0 q1 q2 q3 q4 w
  have hT := fun w => qSub_any p0 p1 p2 p3 p4 q0 q1 q2 q3 q4 w
  have hU := fun w => qScale_any p0 p1 p2 p3 p4 n d w hn hd
  have hCp := fun w => rCheckQuat_any ⟨p0, p1, p2, p3, p4⟩ w
  have hCq := fun w => rCheckQuat_any ⟨q0, q1, q2, q3, q4⟩ w
  have hCf := fun w => rCheckFrac_any n d w
  have e0 : qsE [⟨p0, p1, p2, p3, p4⟩, ⟨q0, q1, q2, q3, q4⟩] = 3 := by
    rcases Decidable.em (qsE [⟨p0, p1, p2, p3, p4⟩, ⟨q0, q1, q2, q3, q4⟩] = 0) with h | h
    · have := qsE_zero.1 h ⟨p0, p1, p2, p3, p4⟩ (by simp); rw [qE_zero.2 this] at hq; cases hq
    · unfold qsE at h ⊢; split at h <;> simp_all
  have e1 : resQ 3 (addQ ⟨p0, p1, p2, p3, p4⟩ ⟨q0, q1, q2, q3, q4⟩) = Qt.zero := if_neg (by decide)
  have e2 : resE 3 (addQ ⟨p0, p1, p2, p3, p4⟩ ⟨q0, q1, q2, q3, q4⟩) = 3 := if_neg (by decide)
  have e3 : resQ 3 (subQ ⟨p0, p1, p2, p3, p4⟩ ⟨q0, q1, q2, q3, q4⟩) = Qt.zero := if_neg (by decide)
  have e4 : resE 3 (subQ ⟨p0, p1, p2, p3, p4⟩ ⟨q0, q1, q2, q3, q4⟩) = 3 := if_neg (by decide)
  have e5 : sclQ n d ⟨p0, p1, p2, p3, p4⟩ = Qt.zero := if_neg (by rw [hq]; decide)
  have e6 : sclE n d ⟨p0, p1, p2, p3, p4⟩ = 3 := (if_neg (by rw [hq]; decide)).trans hq
  simp only [e0, e1, e2] at hS
  simp only [e0, e3, e4] at hT
  simp only [e5, e6] at hU
  simp only [hq] at hCp
  have HS := Lib.hid hS; have HT := Lib.hid hT; have HU := Lib.hid hU; have HCp := Lib.hid hCp
  clear hS hT hU hCp hCq hCf e0 e1 e2 e3 e4 e5 e6 hq hn hd
  simp only [qv, Qt.zero, fvv] at HS HT HU HCp
  simp only [qv, fvv]
  go_enter Tryd.func10, Tryd.ntmps10
  go_upto_region 1 with fail
  obtain ⟨W0, hW0⟩ : ∃ W0 : World, W0 = (((w.alloc (.cells #[.int .i64 p0, .int .i64 p1, .int .i64 p2, .int .i64 p3, .int .i64 p4] 25)).alloc (.cells #[.int .i64 q0, .int .i64 q1, .int .i64 q2, .int .i64 q3, .int .i64 q4] 25)).alloc (.cells #[.int .i64 n, .int .i64 d] 61)) := ⟨_, rfl⟩
  rw [← hW0]
  have HB0 := Lib.hid (show Bx w [(w.heap.size + 2, #[.int .i64 n, .int .i64 d]), (w.heap.size + 1, #[.int .i64 q0, .int .i64 q1, .int .i64 q2, .int .i64 q3, .int .i64 q4]), (w.heap.size, #[.int .i64 p0, .int .i64 p1, .int .i64 p2, .int .i64 p3, .int .i64 p4])] W0 by rw [hW0]; simpa using ((((Bx.nil (Below.refl w.heap.size w)).new #[.int .i64 p0, .int .i64 p1, .int .i64 p2, .int .i64 p3, .int .i64 p4] 25).new #[.int .i64 q0, .int .i64 q1, .int .i64 q2, .int .i64 q3, .int .i64 q4] 25).new #[.int .i64 n, .int .i64 d] 61))
  clear hW0
  go_wp2_with fail
  refine (HA.out _).mono ?_
  rintro e1 w1 ⟨rfl, hbb⟩
  have HB1 := Lib.hid (HB0.out.keep hbb)
  clear hbb HB0
  go_upto_region 3 with fail
  obtain ⟨c1_0, c1_1, c1_2, c1_3, c1_4⟩ := HB1.out.five (List.mem_cons_of_mem _ (List.mem_cons_self ..))
  obtain ⟨c2_0, c2_1, c2_2, c2_3, c2_4⟩ := HB1.out.five (List.mem_cons_of_mem _ (List.mem_cons_of_mem _ (List.mem_cons_self ..)))
  go_wp2_with fail
  refine (HS.out _).mono ?_
  rintro e2 w2 ⟨rfl, hbb⟩
  have HB2 := Lib.hid (HB1.out.keep hbb)
  clear c1_0 c1_1 c1_2 c1_3 c1_4 c2_0 c2_1 c2_2 c2_3 c2_4
  clear hbb HB1
  go_upto_region 4 with fail
  obtain ⟨V1, hV1⟩ : ∃ V1 : World, V1 = w2.alloc (.cells #[.int .i64 0, .int .i64 0, .int .i64 0, .int .i64 0, .int .i64 0] 25) := ⟨_, rfl⟩
  rw [← hV1]
  have HV1 := Lib.hid (show Bx w [(w2.heap.size, #[.int .i64 0, .int .i64 0, .int .i64 0, .int .i64 0, .int .i64 0]), (w.heap.size + 2, #[.int .i64 n, .int .i64 d]), (w.heap.size + 1, #[.int .i64 q0, .int .i64 q1, .int .i64 q2, .int .i64 q3, .int .i64 q4]), (w.heap.size, #[.int .i64 p0, .int .i64 p1, .int .i64 p2, .int .i64 p3, .int .i64 p4])] V1 from hV1 ▸ HB2.out.new _ _)
  have hlt1 := HB2.out.lt (List.mem_cons_self ..)
  clear hV1 HB2
  generalize w2.heap.size = B1 at *
  obtain ⟨c2_0, c2_1, c2_2, c2_3, c2_4⟩ := HV1.out.five (List.mem_cons_of_mem _ (List.mem_cons_of_mem _ (List.mem_cons_self ..)))
  obtain ⟨c3_0, c3_1, c3_2, c3_3, c3_4⟩ := HV1.out.five (List.mem_cons_of_mem _ (List.mem_cons_of_mem _ (List.mem_cons_of_mem _ (List.mem_cons_self ..))))
  go_wp2_with fail
  refine (HT.out _).mono ?_
  rintro e3 w3 ⟨rfl, hbb⟩
  have HB3 := Lib.hid (HV1.out.keep hbb)
  clear c2_0 c2_1 c2_2 c2_3 c2_4 c3_0 c3_1 c3_2 c3_3 c3_4
  clear hbb HV1
  go_upto_region 5 with fail
  obtain ⟨V2, hV2⟩ : ∃ V2 : World, V2 = w3.alloc (.cells #[.int .i64 0, .int .i64 0, .int .i64 0, .int .i64 0, .int .i64 0] 25) := ⟨_, rfl⟩
  rw [← hV2]
  have HV2 := Lib.hid (show Bx w [(w3.heap.size, #[.int .i64 0, .int .i64 0, .int .i64 0, .int .i64 0, .int .i64 0]), (B1, #[.int .i64 0, .int .i64 0, .int .i64 0, .int .i64 0, .int .i64 0]), (w.heap.size + 2, #[.int .i64 n, .int .i64 d]), (w.heap.size + 1, #[.int .i64 q0, .int .i64 q1, .int .i64 q2, .int .i64 q3, .int .i64 q4]), (w.heap.size, #[.int .i64 p0, .int .i64 p1, .int .i64 p2, .int .i64 p3, .int .i64 p4])] V2 from hV2 ▸ HB3.out.new _ _)
  have hlt2 := HB3.out.lt (List.mem_cons_self ..)
  clear hV2 HB3
  generalize w3.heap.size = B2 at *
  obtain ⟨c2_0, c2_1⟩ := HV2.out.two (List.mem_cons_of_mem _ (List.mem_cons_of_mem _ (List.mem_cons_self ..)))
  obtain ⟨c4_0, c4_1, c4_2, c4_3, c4_4⟩ := HV2.out.five (List.mem_cons_of_mem _ (List.mem_cons_of_mem _ (List.mem_cons_of_mem _ (List.mem_cons_of_mem _ (List.mem_cons_self ..)))))
  go_wp2_with fail
  refine (HU.out _).mono ?_
  rintro e4 w4 ⟨rfl, hbb⟩
  have HB4 := Lib.hid (HV2.out.keep hbb)
  clear c2_0 c2_1 c4_0 c4_1 c4_2 c4_3 c4_4
  clear hbb HV2
  go_upto_region 6 with fail
  obtain ⟨V3, hV3⟩ : ∃ V3 : World, V3 = w4.alloc (.cells #[.int .i64 0, .int .i64 0, .int .i64 0, .int .i64 0, .int .i64 0] 25) := ⟨_, rfl⟩
  rw [← hV3]
  have HV3 := Lib.hid (show Bx w [(w4.heap.size, #[.int .i64 0, .int .i64 0, .int .i64 0, .int .i64 0, .int .i64 0]), (B2, #[.int .i64 0, .int .i64 0, .int .i64 0, .int .i64 0, .int .i64 0]), (B1, #[.int .i64 0, .int .i64 0, .int .i64 0, .int .i64 0, .int .i64 0]), (w.heap.size + 2, #[.int .i64 n, .int .i64 d]), (w.heap.size + 1, #[.int .i64 q0, .int .i64 q1, .int .i64 q2, .int .i64 q3, .int .i64 q4]), (w.heap.size, #[.int .i64 p0, .int .i64 p1, .int .i64 p2, .int .i64 p3, .int .i64 p4])] V3 from hV3 ▸ HB4.out.new _ _)
  have hlt3 := HB4.out.lt (List.mem_cons_self ..)
  clear hV3 HB4
  generalize w4.heap.size = B3 at *
  obtain ⟨c5_0, c5_1, c5_2, c5_3, c5_4⟩ := HV3.out.five (List.mem_cons_of_mem _ (List.mem_cons_of_mem _ (List.mem_cons_of_mem _ (List.mem_cons_of_mem _ (List.mem_cons_of_mem _ (List.mem_cons_self ..))))))
  go_wp2_with fail
  refine (HCp.out _).mono ?_
  rintro e5 w5 ⟨rfl, hbb⟩
  have HB5 := Lib.hid (HV3.out.keep hbb)
  clear c5_0 c5_1 c5_2 c5_3 c5_4
  clear hbb HV3
  go_upto_region 12 with fail
  obtain ⟨c2_0, c2_1, c2_2, c2_3, c2_4⟩ := HB5.out.five (List.mem_cons_of_mem _ (List.mem_cons_of_mem _ (List.mem_cons_self ..)))
  go_wp2_with fail
  refine (same_refl _ _ _ _ _ _ _).mono ?_
  rintro e6 w6 ⟨rfl, hbb⟩
  have HB6 := Lib.hid (HB5.out.keep hbb)
  clear c2_0 c2_1 c2_2 c2_3 c2_4
  clear hbb HB5
  obtain ⟨c1_0, c1_1, c1_2, c1_3, c1_4⟩ := HB6.out.five (List.mem_cons_of_mem _ (List.mem_cons_self ..))
  go_wp2_with fail
  refine (same_refl _ _ _ _ _ _ _).mono ?_
  rintro e7 w7 ⟨rfl, hbb⟩
  have HB7 := Lib.hid (HB6.out.keep hbb)
  clear c1_0 c1_1 c1_2 c1_3 c1_4
  clear hbb HB6
  go_upto_region 19 with fail
  obtain ⟨c0_0, c0_1, c0_2, c0_3, c0_4⟩ := HB7.out.five (List.mem_cons_self ..)
  go_wp2_with fail
  refine (same_refl _ _ _ _ _ _ _).mono ?_
  rintro e8 w8 ⟨rfl, hbb⟩
  have HB8 := Lib.hid (HB7.out.keep hbb)
  clear c0_0 c0_1 c0_2 c0_3 c0_4
  clear hbb HB7
  go_wp2_with fail
  go_ret
  exact ⟨rfl, HB8.out.below⟩

set_option maxHeartbeats 4000000 in
set_option maxRecDepth 100000 in
theorem Sums_2 (p0 p1 p2 p3 p4 q0 q1 q2 q3 q4 n d : Int) (w : World) (hn : I64 n) (hd : I64 d) (hq : qE ⟨p0, p1, p2, p3, p4⟩ = 0) (hr : qE ⟨q0, q1, q2, q3, q4⟩ = 3) (hf : frB n d = true) :
    Calls Tryd.prog 10 #[qv ⟨p0, p1, p2, p3, p4⟩, qv ⟨q0, q1, q2, q3, q4⟩, fvv n d] w fun e w' => e = .returned (.bool true) ∧ Below w.heap.size w w' := by
  have HA := Lib.hid awake3_any
  have hS := fun w => qAdd_any p0 p1 p2 p3 p4 q0 q1 q2 q3 q4 w
  have hT := fun w => qSub_any p0 p1 p2 p3 p4 q0 q1 q2 q3 q4 w
  have hU := fun w => qScale_any p0 p1 p2 p3 p4 n d w hn hd
  have hCp := fun w => rCheckQuat_any ⟨p0, p1, p2, p3, p4⟩ w
  have hCq := fun w => rCheckQuat_any ⟨q0, q1, q2, q3, q4⟩ w
  have hCf := fun w => rCheckFrac_any n d w
  have hp0 := qE_zero.1 hq
  have e0 : qsE [⟨p0, p1, p2, p3, p4⟩, ⟨q0, q1, q2, q3, q4⟩] = 3 := by
    rcases Decidable.em (qsE [⟨p0, p1, p2, p3, p4⟩, ⟨q0, q1, q2, q3, q4⟩] = 0) with h | h
    · have := qsE_zero.1 h ⟨q0, q1, q2, q3, q4⟩ (by simp); rw [qE_zero.2 this] at hr; cases hr
    · unfold qsE at h ⊢; split at h <;> simp_all
  have e1 : resQ 3 (addQ ⟨p0, p1, p2, p3, p4⟩ ⟨q0, q1, q2, q3, q4⟩) = Qt.zero := if_neg (by decide)
  have e2 : resE 3 (addQ ⟨p0, p1, p2, p3, p4⟩ ⟨q0, q1, q2, q3, q4⟩) = 3 := if_neg (by decide)
  have e3 : resQ 3 (subQ ⟨p0, p1, p2, p3, p4⟩ ⟨q0, q1, q2, q3, q4⟩) = Qt.zero := if_neg (by decide)
  have e4 : resE 3 (subQ ⟨p0, p1, p2, p3, p4⟩ ⟨q0, q1, q2, q3, q4⟩) = 3 := if_neg (by decide)
  have e7 : frE n d = 0 := if_pos hf
  have e5 : sclQ n d ⟨p0, p1, p2, p3, p4⟩ = fitQ (scaleQ n d ⟨p0, p1, p2, p3, p4⟩) := (if_pos hq).trans (if_pos hf)
  have e6 : sclE n d ⟨p0, p1, p2, p3, p4⟩ = fitE (scaleQ n d ⟨p0, p1, p2, p3, p4⟩) := (if_pos hq).trans (if_pos hf)
  have HRS := Lib.hid (fun w => rScale_any p0 p1 p2 p3 p4 n d w hp0 hf)
  simp only [e0, e1, e2] at hS
  simp only [e0, e3, e4] at hT
  simp only [e5, e6] at hU
  simp only [hq] at hCp
  simp only [hr] at hCq
  simp only [e7] at hCf
  have HS := Lib.hid hS; have HT := Lib.hid hT; have HU := Lib.hid hU; have HCp := Lib.hid hCp; have HCq := Lib.hid hCq; have HCf := Lib.hid hCf
  clear hS hT hU hCp hCq hCf e0 e1 e2 e3 e4 e5 e6 e7 hq hr hf hn hd hp0
  generalize fitQ (scaleQ n d ⟨p0, p1, p2, p3, p4⟩) = UU at *
  generalize fitE (scaleQ n d ⟨p0, p1, p2, p3, p4⟩) = FU at *
  obtain ⟨u0, u1, u2, u3, u4⟩ := UU
  simp only [qv, Qt.zero, fvv] at HS HT HU HCp HCq HCf HRS
  simp only [qv, fvv]
  go_enter Tryd.func10, Tryd.ntmps10
  go_upto_region 1 with fail
  obtain ⟨W0, hW0⟩ : ∃ W0 : World, W0 = (((w.alloc (.cells #[.int .i64 p0, .int .i64 p1, .int .i64 p2, .int .i64 p3, .int .i64 p4] 25)).alloc (.cells #[.int .i64 q0, .int .i64 q1, .int .i64 q2, .int .i64 q3, .int .i64 q4] 25)).alloc (.cells #[.int .i64 n, .int .i64 d] 61)) := ⟨_, rfl⟩
  rw [← hW0]
  have HB0 := Lib.hid (show Bx w [(w.heap.size + 2, #[.int .i64 n, .int .i64 d]), (w.heap.size + 1, #[.int .i64 q0, .int .i64 q1, .int .i64 q2, .int .i64 q3, .int .i64 q4]), (w.heap.size, #[.int .i64 p0, .int .i64 p1, .int .i64 p2, .int .i64 p3, .int .i64 p4])] W0 by rw [hW0]; simpa using ((((Bx.nil (Below.refl w.heap.size w)).new #[.int .i64 p0, .int .i64 p1, .int .i64 p2, .int .i64 p3, .int .i64 p4] 25).new #[.int .i64 q0, .int .i64 q1, .int .i64 q2, .int .i64 q3, .int .i64 q4] 25).new #[.int .i64 n, .int .i64 d] 61))
  clear hW0
  go_wp2_with fail
  refine (HA.out _).mono ?_
  rintro e1 w1 ⟨rfl, hbb⟩
  have HB1 := Lib.hid (HB0.out.keep hbb)
  clear hbb HB0
  go_upto_region 3 with fail
  obtain ⟨c1_0, c1_1, c1_2, c1_3, c1_4⟩ := HB1.out.five (List.mem_cons_of_mem _ (List.mem_cons_self ..))
  obtain ⟨c2_0, c2_1, c2_2, c2_3, c2_4⟩ := HB1.out.five (List.mem_cons_of_mem _ (List.mem_cons_of_mem _ (List.mem_cons_self ..)))
  go_wp2_with fail
  refine (HS.out _).mono ?_
  rintro e2 w2 ⟨rfl, hbb⟩
  have HB2 := Lib.hid (HB1.out.keep hbb)
  clear c1_0 c1_1 c1_2 c1_3 c1_4 c2_0 c2_1 c2_2 c2_3 c2_4
  clear hbb HB1
  go_upto_region 4 with fail
  obtain ⟨V1, hV1⟩ : ∃ V1 : World, V1 = w2.alloc (.cells #[.int .i64 0, .int .i64 0, .int .i64 0, .int .i64 0, .int .i64 0] 25) := ⟨_, rfl⟩
  rw [← hV1]
  have HV1 := Lib.hid (show Bx w [(w2.heap.size, #[.int .i64 0, .int .i64 0, .int .i64 0, .int .i64 0, .int .i64 0]), (w.heap.size + 2, #[.int .i64 n, .int .i64 d]), (w.heap.size + 1, #[.int .i64 q0, .int .i64 q1, .int .i64 q2, .int .i64 q3, .int .i64 q4]), (w.heap.size, #[.int .i64 p0, .int .i64 p1, .int .i64 p2, .int .i64 p3, .int .i64 p4])] V1 from hV1 ▸ HB2.out.new _ _)
  have hlt1 := HB2.out.lt (List.mem_cons_self ..)
  clear hV1 HB2
  generalize w2.heap.size = B1 at *
  obtain ⟨c2_0, c2_1, c2_2, c2_3, c2_4⟩ := HV1.out.five (List.mem_cons_of_mem _ (List.mem_cons_of_mem _ (List.mem_cons_self ..)))
  obtain ⟨c3_0, c3_1, c3_2, c3_3, c3_4⟩ := HV1.out.five (List.mem_cons_of_mem _ (List.mem_cons_of_mem _ (List.mem_cons_of_mem _ (List.mem_cons_self ..))))
  go_wp2_with fail
  refine (HT.out _).mono ?_
  rintro e3 w3 ⟨rfl, hbb⟩
  have HB3 := Lib.hid (HV1.out.keep hbb)
  clear c2_0 c2_1 c2_2 c2_3 c2_4 c3_0 c3_1 c3_2 c3_3 c3_4
  clear hbb HV1
  go_upto_region 5 with fail
  obtain ⟨V2, hV2⟩ : ∃ V2 : World, V2 = w3.alloc (.cells #[.int .i64 0, .int .i64 0, .int .i64 0, .int .i64 0, .int .i64 0] 25) := ⟨_, rfl⟩
  rw [← hV2]
  have HV2 := Lib.hid (show Bx w [(w3.heap.size, #[.int .i64 0, .int .i64 0, .int .i64 0, .int .i64 0, .int .i64 0]), (B1, #[.int .i64 0, .int .i64 0, .int .i64 0, .int .i64 0, .int .i64 0]), (w.heap.size + 2, #[.int .i64 n, .int .i64 d]), (w.heap.size + 1, #[.int .i64 q0, .int .i64 q1, .int .i64 q2, .int .i64 q3, .int .i64 q4]), (w.heap.size, #[.int .i64 p0, .int .i64 p1, .int .i64 p2, .int .i64 p3, .int .i64 p4])] V2 from hV2 ▸ HB3.out.new _ _)
  have hlt2 := HB3.out.lt (List.mem_cons_self ..)
  clear hV2 HB3
  generalize w3.heap.size = B2 at *
  obtain ⟨c2_0, c2_1⟩ := HV2.out.two (List.mem_cons_of_mem _ (List.mem_cons_of_mem _ (List.mem_cons_self ..)))
  obtain ⟨c4_0, c4_1, c4_2, c4_3, c4_4⟩ := HV2.out.five (List.mem_cons_of_mem _ (List.mem_cons_of_mem _ (List.mem_cons_of_mem _ (List.mem_cons_of_mem _ (List.mem_cons_self ..)))))
  go_wp2_with fail
  refine (HU.out _).mono ?_
  rintro e4 w4 ⟨rfl, hbb⟩
  have HB4 := Lib.hid (HV2.out.keep hbb)
  clear c2_0 c2_1 c4_0 c4_1 c4_2 c4_3 c4_4
  clear hbb HV2
  go_upto_region 6 with fail
  obtain ⟨V3, hV3⟩ : ∃ V3 : World, V3 = w4.alloc (.cells #[.int .i64 u0, .int .i64 u1, .int .i64 u2, .int .i64 u3, .int .i64 u4] 25) := ⟨_, rfl⟩
  rw [← hV3]
  have HV3 := Lib.hid (show Bx w [(w4.heap.size, #[.int .i64 u0, .int .i64 u1, .int .i64 u2, .int .i64 u3, .int .i64 u4]), (B2, #[.int .i64 0, .int .i64 0, .int .i64 0, .int .i64 0, .int .i64 0]), (B1, #[.int .i64 0, .int .i64 0, .int .i64 0, .int .i64 0, .int .i64 0]), (w.heap.size + 2, #[.int .i64 n, .int .i64 d]), (w.heap.size + 1, #[.int .i64 q0, .int .i64 q1, .int .i64 q2, .int .i64 q3, .int .i64 q4]), (w.heap.size, #[.int .i64 p0, .int .i64 p1, .int .i64 p2, .int .i64 p3, .int .i64 p4])] V3 from hV3 ▸ HB4.out.new _ _)
  have hlt3 := HB4.out.lt (List.mem_cons_self ..)
  clear hV3 HB4
  generalize w4.heap.size = B3 at *
  obtain ⟨c5_0, c5_1, c5_2, c5_3, c5_4⟩ := HV3.out.five (List.mem_cons_of_mem _ (List.mem_cons_of_mem _ (List.mem_cons_of_mem _ (List.mem_cons_of_mem _ (List.mem_cons_of_mem _ (List.mem_cons_self ..))))))
  go_wp2_with fail
  refine (HCp.out _).mono ?_
  rintro e5 w5 ⟨rfl, hbb⟩
  have HB5 := Lib.hid (HV3.out.keep hbb)
  clear c5_0 c5_1 c5_2 c5_3 c5_4
  clear hbb HV3
  go_upto_region 9 with fail
  obtain ⟨c4_0, c4_1, c4_2, c4_3, c4_4⟩ := HB5.out.five (List.mem_cons_of_mem _ (List.mem_cons_of_mem _ (List.mem_cons_of_mem _ (List.mem_cons_of_mem _ (List.mem_cons_self ..)))))
  go_wp2_with fail
  refine (HCq.out _).mono ?_
  rintro e6 w6 ⟨rfl, hbb⟩
  have HB6 := Lib.hid (HB5.out.keep hbb)
  clear c4_0 c4_1 c4_2 c4_3 c4_4
  clear hbb HB5
  go_upto_region 10 with fail
  obtain ⟨c3_0, c3_1⟩ := HB6.out.two (List.mem_cons_of_mem _ (List.mem_cons_of_mem _ (List.mem_cons_of_mem _ (List.mem_cons_self ..))))
  go_wp2_with fail
  refine (HCf.out _).mono ?_
  rintro e7 w7 ⟨rfl, hbb⟩
  have HB7 := Lib.hid (HB6.out.keep hbb)
  clear c3_0 c3_1
  clear hbb HB6
  go_upto_region 12 with fail
  obtain ⟨c2_0, c2_1, c2_2, c2_3, c2_4⟩ := HB7.out.five (List.mem_cons_of_mem _ (List.mem_cons_of_mem _ (List.mem_cons_self ..)))
  go_wp2_with fail
  refine (same_refl _ _ _ _ _ _ _).mono ?_
  rintro e8 w8 ⟨rfl, hbb⟩
  have HB8 := Lib.hid (HB7.out.keep hbb)
  clear c2_0 c2_1 c2_2 c2_3 c2_4
  clear hbb HB7
  obtain ⟨c1_0, c1_1, c1_2, c1_3, c1_4⟩ := HB8.out.five (List.mem_cons_of_mem _ (List.mem_cons_self ..))
  go_wp2_with fail
  refine (same_refl _ _ _ _ _ _ _).mono ?_
  rintro e9 w9 ⟨rfl, hbb⟩
  have HB9 := Lib.hid (HB8.out.keep hbb)
  clear c1_0 c1_1 c1_2 c1_3 c1_4
  clear hbb HB8
  go_upto_region 20 with fail
  obtain ⟨c3_0, c3_1⟩ := HB9.out.two (List.mem_cons_of_mem _ (List.mem_cons_of_mem _ (List.mem_cons_of_mem _ (List.mem_cons_self ..))))
  obtain ⟨c5_0, c5_1, c5_2, c5_3, c5_4⟩ := HB9.out.five (List.mem_cons_of_mem _ (List.mem_cons_of_mem _ (List.mem_cons_of_mem _ (List.mem_cons_of_mem _ (List.mem_cons_of_mem _ (List.mem_cons_self ..))))))
  go_wp2_with fail
  refine (HRS.out _).mono ?_
  rintro e10 w10 ⟨rfl, hbb⟩
  have HB10 := Lib.hid (HB9.out.keep hbb)
  clear c3_0 c3_1 c5_0 c5_1 c5_2 c5_3 c5_4
  clear hbb HB9
  go_upto_region 21 with fail
  obtain ⟨V4, hV4⟩ : ∃ V4 : World, V4 = w10.alloc (.cells #[.int .i64 u0, .int .i64 u1, .int .i64 u2, .int .i64 u3, .int .i64 u4] 25) := ⟨_, rfl⟩
  rw [← hV4]
  have HV4 := Lib.hid (show Bx w [(w10.heap.size, #[.int .i64 u0, .int .i64 u1, .int .i64 u2, .int .i64 u3, .int .i64 u4]), (B3, #[.int .i64 u0, .int .i64 u1, .int .i64 u2, .int .i64 u3, .int .i64 u4]), (B2, #[.int .i64 0, .int .i64 0, .int .i64 0, .int .i64 0, .int .i64 0]), (B1, #[.int .i64 0, .int .i64 0, .int .i64 0, .int .i64 0, .int .i64 0]), (w.heap.size + 2, #[.int .i64 n, .int .i64 d]), (w.heap.size + 1, #[.int .i64 q0, .int .i64 q1, .int .i64 q2, .int .i64 q3, .int .i64 q4]), (w.heap.size, #[.int .i64 p0, .int .i64 p1, .int .i64 p2, .int .i64 p3, .int .i64 p4])] V4 from hV4 ▸ HB10.out.new _ _)
  have hlt4 := HB10.out.lt (List.mem_cons_self ..)
  clear hV4 HB10
  generalize w10.heap.size = B4 at *
  obtain ⟨c0_0, c0_1, c0_2, c0_3, c0_4⟩ := HV4.out.five (List.mem_cons_self ..)
  obtain ⟨c1_0, c1_1, c1_2, c1_3, c1_4⟩ := HV4.out.five (List.mem_cons_of_mem _ (List.mem_cons_self ..))
  go_wp2_with fail
  refine (same_refl _ _ _ _ _ _ _).mono ?_
  rintro e11 w11 ⟨rfl, hbb⟩
  have HB11 := Lib.hid (HV4.out.keep hbb)
  clear c0_0 c0_1 c0_2 c0_3 c0_4 c1_0 c1_1 c1_2 c1_3 c1_4
  clear hbb HV4
  go_wp2_with fail
  go_ret
  exact ⟨rfl, HB11.out.below⟩

set_option maxHeartbeats 4000000 in
set_option maxRecDepth 100000 in
theorem Sums_3 (p0 p1 p2 p3 p4 q0 q1 q2 q3 q4 n d : Int) (w : World) (hn : I64 n) (hd : I64 d) (hq : qE ⟨p0, p1, p2, p3, p4⟩ = 0) (hr : qE ⟨q0, q1, q2, q3, q4⟩ = 3) (hf : frB n d = false) :
    Calls Tryd.prog 10 #[qv ⟨p0, p1, p2, p3, p4⟩, qv ⟨q0, q1, q2, q3, q4⟩, fvv n d] w fun e w' => e = .returned (.bool true) ∧ Below w.heap.size w w' := by
  have HA := Lib.hid awake3_any
  have hS := fun w => qAdd_any p0 p1 p2 p3 p4 q0 q1 q2 q3 q4 w
  have hT := fun w => qSub_any p0 p1 p2 p3 p4 q0 q1 q2 q3 q4 w
  have hU := fun w => qScale_any p0 p1 p2 p3 p4 n d w hn hd
  have hCp := fun w => rCheckQuat_any ⟨p0, p1, p2, p3, p4⟩ w
  have hCq := fun w => rCheckQuat_any ⟨q0, q1, q2, q3, q4⟩ w
  have hCf := fun w => rCheckFrac_any n d w
  have hp0 := qE_zero.1 hq
  have e0 : qsE [⟨p0, p1, p2, p3, p4⟩, ⟨q0, q1, q2, q3, q4⟩] = 3 := by
    rcases Decidable.em (qsE [⟨p0, p1, p2, p3, p4⟩, ⟨q0, q1, q2, q3, q4⟩] = 0) with h | h
    · have := qsE_zero.1 h ⟨q0, q1, q2, q3, q4⟩ (by simp); rw [qE_zero.2 this] at hr; cases hr
    · unfold qsE at h ⊢; split at h <;> simp_all
  have e1 : resQ 3 (addQ ⟨p0, p1, p2, p3, p4⟩ ⟨q0, q1, q2, q3, q4⟩) = Qt.zero := if_neg (by decide)
  have e2 : resE 3 (addQ ⟨p0, p1, p2, p3, p4⟩ ⟨q0, q1, q2, q3, q4⟩) = 3 := if_neg (by decide)
  have e3 : resQ 3 (subQ ⟨p0, p1, p2, p3, p4⟩ ⟨q0, q1, q2, q3, q4⟩) = Qt.zero := if_neg (by decide)
  have e4 : resE 3 (subQ ⟨p0, p1, p2, p3, p4⟩ ⟨q0, q1, q2, q3, q4⟩) = 3 := if_neg (by decide)
  have e7 : frE n d = 3 := if_neg (by rw [hf]; decide)
  have e5 : sclQ n d ⟨p0, p1, p2, p3, p4⟩ = Qt.zero := (if_pos hq).trans (if_neg (by rw [hf]; decide))
  have e6 : sclE n d ⟨p0, p1, p2, p3, p4⟩ = 3 := (if_pos hq).trans (if_neg (by rw [hf]; decide))
  simp only [e0, e1, e2] at hS
  simp only [e0, e3, e4] at hT
  simp only [e5, e6] at hU
  simp only [hq] at hCp
  simp only [hr] at hCq
  simp only [e7] at hCf
  have HS := Lib.hid hS; have HT := Lib.hid hT; have HU := Lib.hid hU; have HCp := Lib.hid hCp; have HCq := Lib.hid hCq; have HCf := Lib.hid hCf
  clear hS hT hU hCp hCq hCf e0 e1 e2 e3 e4 e5 e6 e7 hq hr hf hn hd hp0
  simp only [qv, Qt.zero, fvv] at HS HT HU HCp HCq HCf
  simp only [qv, fvv]
  go_enter Tryd.func10, Tryd.ntmps10
  go_upto_region 1 with fail
  obtain ⟨W0, hW0⟩ : ∃ W0 : World, W0 = (((w.alloc (.cells #[.int .i64 p0, .int .i64 p1, .int .i64 p2, .int .i64 p3, .int .i64 p4] 25)).alloc (.cells #[.int .i64 q0, .int .i64 q1, .int .i64 q2, .int .i64 q3, .int .i64 q4] 25)).alloc (.cells #[.int .i64 n, .int .i64 d] 61)) := ⟨_, rfl⟩
  rw [← hW0]
  have HB0 := Lib.hid (show Bx w [(w.heap.size + 2, #[.int .i64 n, .int .i64 d]), (w.heap.size + 1, #[.int .i64 q0, .int .i64 q1, .int .i64 q2, .int .i64 q3, .int .i64 q4]), (w.heap.size, #[.int .i64 p0, .int .i64 p1, .int .i64 p2, .int .i64 p3, .int .i64 p4])] W0 by rw [hW0]; simpa using ((((Bx.nil (Below.refl w.heap.size w)).new #[.int .i64 p0, .int .i64 p1, .int .i64 p2, .int .i64 p3, .int .i64 p4] 25).new #[.int .i64 q0, .int .i64 q1, .int .i64 q2, .int .i64 q3, .int .i64 q4] 25).new #[.int .i64 n, .int .i64 d] 61))
  clear hW0
  go_wp2_with fail
  refine (HA.out _).mono ?_
  rintro e1 w1 ⟨rfl, hbb⟩
  have HB1 := Lib.hid (HB0.out.keep hbb)
  clear hbb HB0
  go_upto_region 3 with fail
  obtain ⟨c1_0, c1_1, c1_2, c1_3, c1_4⟩ := HB1.out.five (List.mem_cons_of_mem _ (List.mem_cons_self ..))
  obtain ⟨c2_0, c2_1, c2_2, c2_3, c2_4⟩ := HB1.out.five (List.mem_cons_of_mem _ (List.mem_cons_of_mem _ (List.mem_cons_self ..)))
  go_wp2_with fail
  refine (HS.out _).mono ?_
  rintro e2 w2 ⟨rfl, hbb⟩
  have HB2 := Lib.hid (HB1.out.keep hbb)
  clear c1_0 c1_1 c1_2 c1_3 c1_4 c2_0 c2_1 c2_2 c2_3 c2_4
  clear hbb HB1
  go_upto_region 4 with fail
  obtain ⟨V1, hV1⟩ : ∃ V1 : World, V1 = w2.alloc (.cells #[.int .i64 0, .int .i64 0, .int .i64 0, .int .i64 0, .int .i64 0] 25) := ⟨_, rfl⟩
  rw [← hV1]
  have HV1 := Lib.hid (show Bx w [(w2.heap.size, #[.int .i64 0, .int .i64 0, .int .i64 0, .int .i64 0, .int .i64 0]), (w.heap.size + 2, #[.int .i64 n, .int .i64 d]), (w.heap.size + 1, #[.int .i64 q0, .int .i64 q1, .int .i64 q2, .int .i64 q3, .int .i64 q4]), (w.heap.size, #[.int .i64 p0, .int .i64 p1, .int .i64 p2, .int .i64 p3, .int .i64 p4])] V1 from hV1 ▸ HB2.out.new _ _)
  have hlt1 := HB2.out.lt (List.mem_cons_self ..)
  clear hV1 HB2
  generalize w2.heap.size = B1 at *
  obtain ⟨c2_0, c2_1, c2_2, c2_3, c2_4⟩ := HV1.out.five (List.mem_cons_of_mem _ (List.mem_cons_of_mem _ (List.mem_cons_self ..)))
  obtain ⟨c3_0, c3_1, c3_2, c3_3, c3_4⟩ := HV1.out.five (List.mem_cons_of_mem _ (List.mem_cons_of_mem _ (List.mem_cons_of_mem _ (List.mem_cons_self ..))))
  go_wp2_with fail
  refine (HT.out _).mono ?_
  rintro e3 w3 ⟨rfl, hbb⟩
  have HB3 := Lib.hid (HV1.out.keep hbb)
  clear c2_0 c2_1 c2_2 c2_3 c2_4 c3_0 c3_1 c3_2 c3_3 c3_4
  clear hbb HV1
  go_upto_region 5 with fail
  obtain ⟨V2, hV2⟩ : ∃ V2 : World, V2 = w3.alloc (.cells #[.int .i64 0, .int .i64 0, .int .i64 0, .int .i64 0, .int .i64 0] 25) := ⟨_, rfl⟩
  rw [← hV2]
  have HV2 := Lib.hid (show Bx w [(w3.heap.size, #[.int .i64 0, .int .i64 0, .int .i64 0, .int .i64 0, .int .i64 0]), (B1, #[.int .i64 0, .int .i64 0, .int .i64 0, .int .i64 0, .int .i64 0]), (w.heap.size + 2, #[.int .i64 n, .int .i64 d]), (w.heap.size + 1, #[.int .i64 q0, .int .i64 q1, .int .i64 q2, .int .i64 q3, .int .i64 q4]), (w.heap.size, #[.int .i64 p0, .int .i64 p1, .int .i64 p2, .int .i64 p3, .int .i64 p4])] V2 from hV2 ▸ HB3.out.new _ _)
  have hlt2 := HB3.out.lt (List.mem_cons_self ..)
  clear hV2 HB3
  generalize w3.heap.size = B2 at *
  obtain ⟨c2_0, c2_1⟩ := HV2.out.two (List.mem_cons_of_mem _ (List.mem_cons_of_mem _ (List.mem_cons_self ..)))
  obtain ⟨c4_0, c4_1, c4_2, c4_3, c4_4⟩ := HV2.out.five (List.mem_cons_of_mem _ (List.mem_cons_of_mem _ (List.mem_cons_of_mem _ (List.mem_cons_of_mem _ (List.mem_cons_self ..)))))
  go_wp2_with fail
  refine (HU.out _).mono ?_
  rintro e4 w4 ⟨rfl, hbb⟩
  have HB4 := Lib.hid (HV2.out.keep hbb)
  clear c2_0 c2_1 c4_0 c4_1 c4_2 c4_3 c4_4
  clear hbb HV2
  go_upto_region 6 with fail
  obtain ⟨V3, hV3⟩ : ∃ V3 : World, V3 = w4.alloc (.cells #[.int .i64 0, .int .i64 0, .int .i64 0, .int .i64 0, .int .i64 0] 25) := ⟨_, rfl⟩
  rw [← hV3]
  have HV3 := Lib.hid (show Bx w [(w4.heap.size, #[.int .i64 0, .int .i64 0, .int .i64 0, .int .i64 0, .int .i64 0]), (B2, #[.int .i64 0, .int .i64 0, .int .i64 0, .int .i64 0, .int .i64 0]), (B1, #[.int .i64 0, .int .i64 0, .int .i64 0, .int .i64 0, .int .i64 0]), (w.heap.size + 2, #[.int .i64 n, .int .i64 d]), (w.heap.size + 1, #[.int .i64 q0, .int .i64 q1, .int .i64 q2, .int .i64 q3, .int .i64 q4]), (w.heap.size, #[.int .i64 p0, .int .i64 p1, .int .i64 p2, .int .i64 p3, .int .i64 p4])] V3 from hV3 ▸ HB4.out.new _ _)
  have hlt3 := HB4.out.lt (List.mem_cons_self ..)
  clear hV3 HB4
  generalize w4.heap.size = B3 at *
  obtain ⟨c5_0, c5_1, c5_2, c5_3, c5_4⟩ := HV3.out.five (List.mem_cons_of_mem _ (List.mem_cons_of_mem _ (List.mem_cons_of_mem _ (List.mem_cons_of_mem _ (List.mem_cons_of_mem _ (List.mem_cons_self ..))))))
  go_wp2_with fail
  refine (HCp.out _).mono ?_
  rintro e5 w5 ⟨rfl, hbb⟩
  have HB5 := Lib.hid (HV3.out.keep hbb)
  clear c5_0 c5_1 c5_2 c5_3 c5_4
  clear hbb HV3
  go_upto_region 9 with fail
  obtain ⟨c4_0, c4_1, c4_2, c4_3, c4_4⟩ := HB5.out.five (List.mem_cons_of_mem _ (List.mem_cons_of_mem _ (List.mem_cons_of_mem _ (List.mem_cons_of_mem _ (List.mem_cons_self ..)))))
  go_wp2_with fail
  refine (HCq.out _).mono ?_
  rintro e6 w6 ⟨rfl, hbb⟩
  have HB6 := Lib.hid (HB5.out.keep hbb)
  clear c4_0 c4_1 c4_2 c4_3 c4_4
  clear hbb HB5
  go_upto_region 10 with fail
  obtain ⟨c3_0, c3_1⟩ := HB6.out.two (List.mem_cons_of_mem _ (List.mem_cons_of_mem _ (List.mem_cons_of_mem _ (List.mem_cons_self ..))))
  go_wp2_with fail
  refine (HCf.out _).mono ?_
  rintro e7 w7 ⟨rfl, hbb⟩
  have HB7 := Lib.hid (HB6.out.keep hbb)
  clear c3_0 c3_1
  clear hbb HB6
  go_upto_region 12 with fail
  obtain ⟨c2_0, c2_1, c2_2, c2_3, c2_4⟩ := HB7.out.five (List.mem_cons_of_mem _ (List.mem_cons_of_mem _ (List.mem_cons_self ..)))
  go_wp2_with fail
  refine (same_refl _ _ _ _ _ _ _).mono ?_
  rintro e8 w8 ⟨rfl, hbb⟩
  have HB8 := Lib.hid (HB7.out.keep hbb)
  clear c2_0 c2_1 c2_2 c2_3 c2_4
  clear hbb HB7
  obtain ⟨c1_0, c1_1, c1_2, c1_3, c1_4⟩ := HB8.out.five (List.mem_cons_of_mem _ (List.mem_cons_self ..))
  go_wp2_with fail
  refine (same_refl _ _ _ _ _ _ _).mono ?_
  rintro e9 w9 ⟨rfl, hbb⟩
  have HB9 := Lib.hid (HB8.out.keep hbb)
  clear c1_0 c1_1 c1_2 c1_3 c1_4
  clear hbb HB8
  go_upto_region 19 with fail
  obtain ⟨c0_0, c0_1, c0_2, c0_3, c0_4⟩ := HB9.out.five (List.mem_cons_self ..)
  go_wp2_with fail
  refine (same_refl _ _ _ _ _ _ _).mono ?_
  rintro e10 w10 ⟨rfl, hbb⟩
  have HB10 := Lib.hid (HB9.out.keep hbb)
  clear c0_0 c0_1 c0_2 c0_3 c0_4
  clear hbb HB9
  go_wp2_with fail
  go_ret
  exact ⟨rfl, HB10.out.below⟩

end Go.Proofs.YtekkbdpggghcjaaDoor
