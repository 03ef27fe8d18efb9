/- The law AlgebraNorms answers true at all algebras and elements. -/
import Derived.Test.YtekkbdpggghcjaaGreatDoorAw30
import Derived.Test.YtekkbdpggghcjaaGreatDoorNms
namespace Go.Proofs.YtekkbdpggghcjaaGreatDoor
open Go.RowKit FF

theorem shows_cellsI {W : World} {g : Nat} {l : List Int} {L : Array Value} (h : Cells W g L) (hl : l.length = L.size) (hv : ∀ i, i < l.length → L[i]? = some (.int .i64 (l.getD i 0))) : ShowsI W (some ⟨g, 0, none⟩) l := by
  intro _
  refine ⟨g, 0, rfl, h.1, fun i hi => ?_⟩
  rw [Nat.zero_add, h.2.1 i (by omega), hv i hi]

set_option maxHeartbeats 4000000 in
set_option maxRecDepth 100000 in
theorem fracs_any (A B : Option Addr) (l : List Int) (n c1 c2 : Nat) (w : World) (hA : ShowsI w A l) (hB : ShowsI w B l) (hl : l.length = 2 * n) (hn9 : n ≤ 100) :
    Calls Tryz.prog 17 #[.slice A n c1, .slice B n c2] w fun e w' => e = .returned (.bool true) ∧ Below w.heap.size w w' := by
  have HXA := Lib.hid hA
  have HXB := Lib.hid hB
  have HN := Lib.hid hl
  clear hA hB hl
  go_enter Tryz.func17, Tryz.ntmps17
  go_wp2_with fail
  go_loopw [5] (fun s5 wr => ∃ (k : Nat), s5 = .int .i64 k ∧ k ≤ n ∧ Below w.heap.size w wr) (fun s _ => n - (intOf s).toNat)
  case atStart => exact ⟨0, rfl, by omega, Below.refl _ _⟩
  case round =>
    obtain ⟨k, rfl, hk, hb⟩ := hrel
    have HB := Lib.hid hb; clear hb
    by_cases h0 : k < n
    · obtain ⟨b1, o1, rfl, hb1, hc1⟩ := (HXA.out.below HB.out) (by have := HN.out; omega)
      obtain ⟨b2, o2, rfl, hb2, hc2⟩ := (HXB.out.below HB.out) (by have := HN.out; omega)
      have x0 := hc1 (2 * k) (by have := HN.out; omega)
      have x1 := hc1 (2 * k + 1) (by have := HN.out; omega)
      have y0 := hc2 (2 * k) (by have := HN.out; omega)
      have y1 := hc2 (2 * k + 1) (by have := HN.out; omega)
      rw [show o1 + 2 * k = o1 + k * 2 by omega] at x0
      rw [show o1 + (2 * k + 1) = o1 + k * 2 + 1 by omega] at x1
      rw [show o2 + 2 * k = o2 + k * 2 by omega] at y0
      rw [show o2 + (2 * k + 1) = o2 + k * 2 + 1 by omega] at y1
      clear hc1 hc2 HXA HXB
      generalize l.getD (2 * k) 0 = u0 at *
      generalize l.getD (2 * k + 1) 0 = u1 at *
      have kb1 : (0 : Int) ≤ (k : Int) := by omega
      have kb2 : (k : Int) < (n : Int) := by omega
      go_upto_region 6 with fail
      go_region
      go_wp2_with fail
      exact ⟨⟨k + 1, by go_num, by omega, HB.out.drew⟩, by simp [intOf]; omega⟩
    · obtain rfl : k = n := by omega
      go_wp2_with fail
      go_ret
      exact ⟨rfl, HB.out⟩

set_option maxHeartbeats 4000000 in
set_option maxRecDepth 100000 in
theorem Norms_1 (a b p0 p1 p2 p3 p4 : Int) (w : World) (hq : qE ⟨p0, p1, p2, p3, p4⟩ ≠ 0) :
    Calls Tryz.prog 3 #[.agg #[.int .i64 a, .int .i64 b], qv ⟨p0, p1, p2, p3, p4⟩] w fun e w' => e = .returned (.bool true) ∧ Below w.heap.size w w' := by
  have HA := Lib.hid awake3_any
  have hE : allE a b [⟨p0, p1, p2, p3, p4⟩] ≠ 0 := fun h => hq (qE_zero.2 ((allE_zero.1 h).2 _ (by simp)))
  have HT := Lib.hid (fun w => qTrace_bad p0 p1 p2 p3 p4 w hq)
  have HC := Lib.hid (fun w => rCheckQuat_any ⟨p0, p1, p2, p3, p4⟩ w)
  have HN := Lib.hid (fun w => qNorm_bad a b p0 p1 p2 p3 p4 w hE)
  have HP := Lib.hid (fun w => qPoly_bad a b p0 p1 p2 p3 p4 w hE)
  have HI := Lib.hid (fun w => qIntegral_bad a b p0 p1 p2 p3 p4 w hE)
  have HCA := Lib.hid (fun A c w hx => rCheckAll_any a b A [⟨p0, p1, p2, p3, p4⟩] 1 c w hx rfl (by omega))
  have h0 : (qE ⟨p0, p1, p2, p3, p4⟩ == 0) = false := f_beq hq
  have h1 : (allE a b [⟨p0, p1, p2, p3, p4⟩] == 0) = false := f_beq hE
  clear hq hE
  generalize allE a b [⟨p0, p1, p2, p3, p4⟩] = E at *
  generalize qE ⟨p0, p1, p2, p3, p4⟩ = D at *
  simp only [qv, fvv] at HT HC HN HP HI
  simp only [qv]
  go_enter Tryz.func3, Tryz.ntmps3
  go_upto_region 1 with fail
  obtain ⟨W0, hW0⟩ : ∃ W0 : World, W0 = ((w.alloc (.cells #[.int .i64 a, .int .i64 b] 23)).alloc (.cells #[.int .i64 p0, .int .i64 p1, .int .i64 p2, .int .i64 p3, .int .i64 p4] 25)) := ⟨_, rfl⟩
  rw [← hW0]
  have HB0 := Lib.hid (show Bx w [(w.heap.size + 1, #[.int .i64 p0, .int .i64 p1, .int .i64 p2, .int .i64 p3, .int .i64 p4]), (w.heap.size, #[.int .i64 a, .int .i64 b])] W0 by rw [hW0]; simpa using (((Bx.nil (Below.refl w.heap.size w)).new #[.int .i64 a, .int .i64 b] 23).new #[.int .i64 p0, .int .i64 p1, .int .i64 p2, .int .i64 p3, .int .i64 p4] 25))
  clear hW0
  go_wp2_with fail
  refine (HA.out _).mono ?_
  rintro e1 w1 ⟨rfl, hbb⟩
  have HB1 := Lib.hid (HB0.out.keep hbb)
  clear hbb HB0
  go_upto_region 3 with fail
  obtain ⟨c0_0, c0_1, c0_2, c0_3, c0_4⟩ := HB1.out.five (List.mem_cons_self ..)
  go_wp2_with fail
  refine (HT.out _).mono ?_
  rintro e2 w2 ⟨rfl, hbb⟩
  have HB2 := Lib.hid (HB1.out.keep hbb)
  clear c0_0 c0_1 c0_2 c0_3 c0_4
  clear hbb HB1
  go_upto_region 4 with fail
  obtain ⟨V1, hV1⟩ : ∃ V1 : World, V1 = w2.alloc (.cells #[.int .i64 0, .int .i64 0] 28) := ⟨_, rfl⟩
  rw [← hV1]
  have HV1 := Lib.hid (show Bx w [(w2.heap.size, #[.int .i64 0, .int .i64 0]), (w.heap.size + 1, #[.int .i64 p0, .int .i64 p1, .int .i64 p2, .int .i64 p3, .int .i64 p4]), (w.heap.size, #[.int .i64 a, .int .i64 b])] V1 from hV1 ▸ HB2.out.new _ _)
  have hlt1 := HB2.out.lt (List.mem_cons_self ..)
  clear hV1 HB2
  generalize w2.heap.size = B1 at *
  obtain ⟨c1_0, c1_1, c1_2, c1_3, c1_4⟩ := HV1.out.five (List.mem_cons_of_mem _ (List.mem_cons_self ..))
  go_wp2_with fail
  refine (HC.out _).mono ?_
  rintro e3 w3 ⟨rfl, hbb⟩
  have HB3 := Lib.hid (HV1.out.keep hbb)
  clear c1_0 c1_1 c1_2 c1_3 c1_4
  clear hbb HV1
  go_upto_region 6 with fail
  obtain ⟨c0_0, c0_1⟩ := HB3.out.two (List.mem_cons_self ..)
  go_upto_region 10 with fail
  obtain ⟨c1_0, c1_1, c1_2, c1_3, c1_4⟩ := HB3.out.five (List.mem_cons_of_mem _ (List.mem_cons_self ..))
  obtain ⟨c2_0, c2_1⟩ := HB3.out.two (List.mem_cons_of_mem _ (List.mem_cons_of_mem _ (List.mem_cons_self ..)))
  go_wp2_with fail
  refine (HN.out _).mono ?_
  rintro e4 w4 ⟨rfl, hbb⟩
  have HB4 := Lib.hid (HB3.out.keep hbb)
  clear c1_0 c1_1 c1_2 c1_3 c1_4 c2_0 c2_1
  clear hbb HB3
  go_upto_region 11 with fail
  obtain ⟨V2, hV2⟩ : ∃ V2 : World, V2 = w4.alloc (.cells #[.int .i64 0, .int .i64 0] 28) := ⟨_, rfl⟩
  rw [← hV2]
  have HV2 := Lib.hid (show Bx w [(w4.heap.size, #[.int .i64 0, .int .i64 0]), (B1, #[.int .i64 0, .int .i64 0]), (w.heap.size + 1, #[.int .i64 p0, .int .i64 p1, .int .i64 p2, .int .i64 p3, .int .i64 p4]), (w.heap.size, #[.int .i64 a, .int .i64 b])] V2 from hV2 ▸ HB4.out.new _ _)
  have hlt2 := HB4.out.lt (List.mem_cons_self ..)
  clear hV2 HB4
  generalize w4.heap.size = B2 at *
  obtain ⟨c2_0, c2_1, c2_2, c2_3, c2_4⟩ := HV2.out.five (List.mem_cons_of_mem _ (List.mem_cons_of_mem _ (List.mem_cons_self ..)))
  obtain ⟨c3_0, c3_1⟩ := HV2.out.two (List.mem_cons_of_mem _ (List.mem_cons_of_mem _ (List.mem_cons_of_mem _ (List.mem_cons_self ..))))
  go_wp2_with fail
  refine (HP.out _).mono ?_
  rintro e5 w5 ⟨rfl, hbb⟩
  have HB5 := Lib.hid (HV2.out.keep hbb)
  clear c2_0 c2_1 c2_2 c2_3 c2_4 c3_0 c3_1
  clear hbb HV2
  go_upto_region 12 with fail
  obtain ⟨c2_0, c2_1, c2_2, c2_3, c2_4⟩ := HB5.out.five (List.mem_cons_of_mem _ (List.mem_cons_of_mem _ (List.mem_cons_self ..)))
  obtain ⟨c3_0, c3_1⟩ := HB5.out.two (List.mem_cons_of_mem _ (List.mem_cons_of_mem _ (List.mem_cons_of_mem _ (List.mem_cons_self ..))))
  go_wp2_with fail
  refine (HI.out _).mono ?_
  rintro e6 w6 ⟨rfl, hbb⟩
  have HB6 := Lib.hid (HB5.out.keep hbb)
  clear c2_0 c2_1 c2_2 c2_3 c2_4 c3_0 c3_1
  clear hbb HB5
  go_upto_region 13 with fail
  obtain ⟨c2_0, c2_1, c2_2, c2_3, c2_4⟩ := HB6.out.five (List.mem_cons_of_mem _ (List.mem_cons_of_mem _ (List.mem_cons_self ..)))
  obtain ⟨c3_0, c3_1⟩ := HB6.out.two (List.mem_cons_of_mem _ (List.mem_cons_of_mem _ (List.mem_cons_of_mem _ (List.mem_cons_self ..))))
  go_wp2_with fail
  refine (HCA.out _ _ _ (shows_flat1 (by simp) p0 p1 p2 p3 p4)).mono ?_
  rintro e7 w7 ⟨rfl, hbb⟩
  have HB7 := Lib.hid ((HB6.out.keep ((Below.refl _ _).alloc (Nat.le_refl _) _)).keep hbb)
  clear c2_0 c2_1 c2_2 c2_3 c2_4 c3_0 c3_1
  clear hbb HB6
  go_upto_region 15 with fail
  obtain ⟨c0_0, c0_1⟩ := HB7.out.two (List.mem_cons_self ..)
  go_wp2_with fail
  go_ret
  exact ⟨rfl, HB7.out.below⟩

set_option maxHeartbeats 4000000 in
set_option maxRecDepth 100000 in
theorem Norms_2 (a b p0 p1 p2 p3 p4 : Int) (w : World) (hq : qE ⟨p0, p1, p2, p3, p4⟩ = 0) (hE : allE a b [⟨p0, p1, p2, p3, p4⟩] ≠ 0) :
    Calls Tryz.prog 3 #[.agg #[.int .i64 a, .int .i64 b], qv ⟨p0, p1, p2, p3, p4⟩] w fun e w' => e = .returned (.bool true) ∧ Below w.heap.size w w' := by
  have HA := Lib.hid awake3_any
  have hqb := qE_zero.1 hq
  have HT := Lib.hid (fun w => qTrace_good p0 p1 p2 p3 p4 w hqb)
  have HRT := Lib.hid (fun w => rTrace_any p0 p1 p2 p3 p4 w hqb)
  have hC := fun w => rCheckQuat_any ⟨p0, p1, p2, p3, p4⟩ w
  rw [hq] at hC
  have HC := Lib.hid hC
  have HN := Lib.hid (fun w => qNorm_bad a b p0 p1 p2 p3 p4 w hE)
  have HP := Lib.hid (fun w => qPoly_bad a b p0 p1 p2 p3 p4 w hE)
  have HI := Lib.hid (fun w => qIntegral_bad a b p0 p1 p2 p3 p4 w hE)
  have HCA := Lib.hid (fun A c w hx => rCheckAll_any a b A [⟨p0, p1, p2, p3, p4⟩] 1 c w hx rfl (by omega))
  have h1 : (allE a b [⟨p0, p1, p2, p3, p4⟩] == 0) = false := f_beq hE
  clear hq hE hqb hC
  generalize allE a b [⟨p0, p1, p2, p3, p4⟩] = E at *
  generalize trN ⟨p0, p1, p2, p3, p4⟩ = TN at *
  generalize trD ⟨p0, p1, p2, p3, p4⟩ = TD at *
  simp only [qv, fvv] at HT HC HN HP HI HRT
  simp only [qv]
  go_enter Tryz.func3, Tryz.ntmps3
  go_upto_region 1 with fail
  obtain ⟨W0, hW0⟩ : ∃ W0 : World, W0 = ((w.alloc (.cells #[.int .i64 a, .int .i64 b] 23)).alloc (.cells #[.int .i64 p0, .int .i64 p1, .int .i64 p2, .int .i64 p3, .int .i64 p4] 25)) := ⟨_, rfl⟩
  rw [← hW0]
  have HB0 := Lib.hid (show Bx w [(w.heap.size + 1, #[.int .i64 p0, .int .i64 p1, .int .i64 p2, .int .i64 p3, .int .i64 p4]), (w.heap.size, #[.int .i64 a, .int .i64 b])] W0 by rw [hW0]; simpa using (((Bx.nil (Below.refl w.heap.size w)).new #[.int .i64 a, .int .i64 b] 23).new #[.int .i64 p0, .int .i64 p1, .int .i64 p2, .int .i64 p3, .int .i64 p4] 25))
  clear hW0
  go_wp2_with fail
  refine (HA.out _).mono ?_
  rintro e1 w1 ⟨rfl, hbb⟩
  have HB1 := Lib.hid (HB0.out.keep hbb)
  clear hbb HB0
  go_upto_region 3 with fail
  obtain ⟨c0_0, c0_1, c0_2, c0_3, c0_4⟩ := HB1.out.five (List.mem_cons_self ..)
  go_wp2_with fail
  refine (HT.out _).mono ?_
  rintro e2 w2 ⟨rfl, hbb⟩
  have HB2 := Lib.hid (HB1.out.keep hbb)
  clear c0_0 c0_1 c0_2 c0_3 c0_4
  clear hbb HB1
  go_upto_region 4 with fail
  obtain ⟨V1, hV1⟩ : ∃ V1 : World, V1 = w2.alloc (.cells #[.int .i64 TN, .int .i64 TD] 28) := ⟨_, rfl⟩
  rw [← hV1]
  have HV1 := Lib.hid (show Bx w [(w2.heap.size, #[.int .i64 TN, .int .i64 TD]), (w.heap.size + 1, #[.int .i64 p0, .int .i64 p1, .int .i64 p2, .int .i64 p3, .int .i64 p4]), (w.heap.size, #[.int .i64 a, .int .i64 b])] V1 from hV1 ▸ HB2.out.new _ _)
  have hlt1 := HB2.out.lt (List.mem_cons_self ..)
  clear hV1 HB2
  generalize w2.heap.size = B1 at *
  obtain ⟨c1_0, c1_1, c1_2, c1_3, c1_4⟩ := HV1.out.five (List.mem_cons_of_mem _ (List.mem_cons_self ..))
  go_wp2_with fail
  refine (HC.out _).mono ?_
  rintro e3 w3 ⟨rfl, hbb⟩
  have HB3 := Lib.hid (HV1.out.keep hbb)
  clear c1_0 c1_1 c1_2 c1_3 c1_4
  clear hbb HV1
  go_upto_region 8 with fail
  have MK := Lib.hid (fun w' (h : Bx w [(B1, #[.int .i64 TN, .int .i64 TD]), (w.heap.size + 1, #[.int .i64 p0, .int .i64 p1, .int .i64 p2, .int .i64 p3, .int .i64 p4]), (w.heap.size, #[.int .i64 a, .int .i64 b])] w') => And.intro h (And.intro (h.two (List.mem_cons_self ..)) (h.five (List.mem_cons_of_mem _ (List.mem_cons_self ..)))))
  have HG2 := Lib.hid (MK.out _ (HB3.out.keep (Below.refl _ _).drew))
  go_region_held3 (fun w' => Bx w [(B1, #[.int .i64 TN, .int .i64 TD]), (w.heap.size + 1, #[.int .i64 p0, .int .i64 p1, .int .i64 p2, .int .i64 p3, .int .i64 p4]), (w.heap.size, #[.int .i64 a, .int .i64 b])] w' ∧ (w'.cell? ⟨B1, 0, none⟩ = some (.int .i64 TN) ∧ w'.cell? ⟨B1, 1, none⟩ = some (.int .i64 TD)) ∧ (w'.cell? ⟨w.heap.size + 1, 0, none⟩ = some (.int .i64 p0) ∧ w'.cell? ⟨w.heap.size + 1, 1, none⟩ = some (.int .i64 p1) ∧ w'.cell? ⟨w.heap.size + 1, 2, none⟩ = some (.int .i64 p2) ∧ w'.cell? ⟨w.heap.size + 1, 3, none⟩ = some (.int .i64 p3) ∧ w'.cell? ⟨w.heap.size + 1, 4, none⟩ = some (.int .i64 p4)))
    (first
      | assumption
      | exact HG2.out
      | exact MK.out _ (Bx.keep (And.left (by assumption)) (by assumption)))
    (first
      | (go_at_call 11; (with_reducible refine (HRT.out _).mono ?_); rintro e w' ⟨rfl, hb⟩))
  have HB4 := Lib.hid (show Bx w [(B1, #[.int .i64 TN, .int .i64 TD]), (w.heap.size + 1, #[.int .i64 p0, .int .i64 p1, .int .i64 p2, .int .i64 p3, .int .i64 p4]), (w.heap.size, #[.int .i64 a, .int .i64 b])] w' by repeat (first | exact HG2.out.1 | refine Bx.keep ?_ (by assumption)))
  rename_i hHeld
  clear hHeld HG2 MK HB3
  go_upto_region 10 with fail
  obtain ⟨c1_0, c1_1, c1_2, c1_3, c1_4⟩ := HB4.out.five (List.mem_cons_of_mem _ (List.mem_cons_self ..))
  obtain ⟨c2_0, c2_1⟩ := HB4.out.two (List.mem_cons_of_mem _ (List.mem_cons_of_mem _ (List.mem_cons_self ..)))
  go_wp2_with fail
  refine (HN.out _).mono ?_
  rintro e5 w5 ⟨rfl, hbb⟩
  have HB5 := Lib.hid (HB4.out.keep hbb)
  clear c1_0 c1_1 c1_2 c1_3 c1_4 c2_0 c2_1
  clear hbb HB4
  go_upto_region 11 with fail
  obtain ⟨V2, hV2⟩ : ∃ V2 : World, V2 = w5.alloc (.cells #[.int .i64 0, .int .i64 0] 28) := ⟨_, rfl⟩
  rw [← hV2]
  have HV2 := Lib.hid (show Bx w [(w5.heap.size, #[.int .i64 0, .int .i64 0]), (B1, #[.int .i64 TN, .int .i64 TD]), (w.heap.size + 1, #[.int .i64 p0, .int .i64 p1, .int .i64 p2, .int .i64 p3, .int .i64 p4]), (w.heap.size, #[.int .i64 a, .int .i64 b])] V2 from hV2 ▸ HB5.out.new _ _)
  have hlt2 := HB5.out.lt (List.mem_cons_self ..)
  clear hV2 HB5
  generalize w5.heap.size = B2 at *
  obtain ⟨c2_0, c2_1, c2_2, c2_3, c2_4⟩ := HV2.out.five (List.mem_cons_of_mem _ (List.mem_cons_of_mem _ (List.mem_cons_self ..)))
  obtain ⟨c3_0, c3_1⟩ := HV2.out.two (List.mem_cons_of_mem _ (List.mem_cons_of_mem _ (List.mem_cons_of_mem _ (List.mem_cons_self ..))))
  go_wp2_with fail
  refine (HP.out _).mono ?_
  rintro e6 w6 ⟨rfl, hbb⟩
  have HB6 := Lib.hid (HV2.out.keep hbb)
  clear c2_0 c2_1 c2_2 c2_3 c2_4 c3_0 c3_1
  clear hbb HV2
  go_upto_region 12 with fail
  obtain ⟨c2_0, c2_1, c2_2, c2_3, c2_4⟩ := HB6.out.five (List.mem_cons_of_mem _ (List.mem_cons_of_mem _ (List.mem_cons_self ..)))
  obtain ⟨c3_0, c3_1⟩ := HB6.out.two (List.mem_cons_of_mem _ (List.mem_cons_of_mem _ (List.mem_cons_of_mem _ (List.mem_cons_self ..))))
  go_wp2_with fail
  refine (HI.out _).mono ?_
  rintro e7 w7 ⟨rfl, hbb⟩
  have HB7 := Lib.hid (HB6.out.keep hbb)
  clear c2_0 c2_1 c2_2 c2_3 c2_4 c3_0 c3_1
  clear hbb HB6
  go_upto_region 13 with fail
  obtain ⟨c2_0, c2_1, c2_2, c2_3, c2_4⟩ := HB7.out.five (List.mem_cons_of_mem _ (List.mem_cons_of_mem _ (List.mem_cons_self ..)))
  obtain ⟨c3_0, c3_1⟩ := HB7.out.two (List.mem_cons_of_mem _ (List.mem_cons_of_mem _ (List.mem_cons_of_mem _ (List.mem_cons_self ..))))
  go_wp2_with fail
  refine (HCA.out _ _ _ (shows_flat1 (by simp) p0 p1 p2 p3 p4)).mono ?_
  rintro e8 w8 ⟨rfl, hbb⟩
  have HB8 := Lib.hid ((HB7.out.keep ((Below.refl _ _).alloc (Nat.le_refl _) _)).keep hbb)
  clear c2_0 c2_1 c2_2 c2_3 c2_4 c3_0 c3_1
  clear hbb HB7
  go_upto_region 15 with fail
  obtain ⟨c0_0, c0_1⟩ := HB8.out.two (List.mem_cons_self ..)
  go_wp2_with fail
  go_ret
  exact ⟨rfl, HB8.out.below⟩

set_option maxHeartbeats 4000000 in
set_option maxRecDepth 100000 in
theorem Norms_3 (a b p0 p1 p2 p3 p4 : Int) (w : World) (hqb : qB ⟨p0, p1, p2, p3, p4⟩ = true) (ha : aE a b = 0) (n : Nat) (L : Array Value) (l : List Int) (hn : n ≤ 100) (hl : l.length = 2 * n) (hL : l.length = L.size) (hv : ∀ i, i < l.length → L[i]? = some (.int .i64 (l.getD i 0))) (hP : ∀ w, Calls Tryz.prog 13 #[.agg #[.int .i64 a, .int .i64 b], qv ⟨p0, p1, p2, p3, p4⟩] w (PolPost w n L)) (hRP : ∀ w, Calls Tryz.prog 18 #[.agg #[.int .i64 a, .int .i64 b], qv ⟨p0, p1, p2, p3, p4⟩] w (PolPostR w n L)) :
    Calls Tryz.prog 3 #[.agg #[.int .i64 a, .int .i64 b], qv ⟨p0, p1, p2, p3, p4⟩] w fun e w' => e = .returned (.bool true) ∧ Below w.heap.size w w' := by
  have HA := Lib.hid awake3_any
  have hE : allE a b [⟨p0, p1, p2, p3, p4⟩] = 0 := allE_zero.2 ⟨ha, by simp [hqb]⟩
  have HT := Lib.hid (fun w => qTrace_good p0 p1 p2 p3 p4 w hqb)
  have HRT := Lib.hid (fun w => rTrace_any p0 p1 p2 p3 p4 w hqb)
  have hC := fun w => rCheckQuat_any ⟨p0, p1, p2, p3, p4⟩ w
  rw [qE_zero.2 hqb] at hC
  have HC := Lib.hid hC
  have HN := Lib.hid (fun w => qNorm_good a b p0 p1 p2 p3 p4 w hqb ha)
  have HI := Lib.hid (fun w => qIntegral_good a b p0 p1 p2 p3 p4 w hqb ha)
  have HRN := Lib.hid (fun w => rNorm_any a b p0 p1 p2 p3 p4 w hqb ha)
  have HRI := Lib.hid (fun w => rIntegral_any a b p0 p1 p2 p3 p4 w hqb ha)
  have hCA := fun A c w hx => rCheckAll_any a b A [⟨p0, p1, p2, p3, p4⟩] 1 c w hx rfl (by omega)
  rw [hE] at hCA
  have HCA := Lib.hid hCA
  have HFR := Lib.hid (fun g c g2 c2 {L0 : List (Nat × Array Value)} {w w0 : World} (hx : Bx w0 ((g, L) :: L0) w) (hC2 : Cells w g2 L) => fracs_any (some ⟨g, 0, none⟩) (some ⟨g2, 0, none⟩) l n c c2 w (shows_cellsI (hx.own _ (List.mem_cons_self ..)).2 hL hv) (shows_cellsI hC2 hL hv) hl hn)
  have HP := Lib.hid hP
  have HRP := Lib.hid hRP
  clear hE hqb ha hC hCA hP hRP hL hv hl
  generalize (nmD a b ⟨p0, p1, p2, p3, p4⟩ == 1 && trD ⟨p0, p1, p2, p3, p4⟩ == 1) = IN at *
  generalize trN ⟨p0, p1, p2, p3, p4⟩ = TN at *
  generalize trD ⟨p0, p1, p2, p3, p4⟩ = TD at *
  generalize nmN a b ⟨p0, p1, p2, p3, p4⟩ = FN at *
  generalize nmD a b ⟨p0, p1, p2, p3, p4⟩ = FD at *
  unfold PolPost at HP
  unfold PolPostR at HRP
  simp only [qv, fvv] at HT HC HN HP HI HRT HRN HRI HRP
  simp only [qv]
  go_enter Tryz.func3, Tryz.ntmps3
  go_upto_region 1 with fail
  obtain ⟨W0, hW0⟩ : ∃ W0 : World, W0 = ((w.alloc (.cells #[.int .i64 a, .int .i64 b] 23)).alloc (.cells #[.int .i64 p0, .int .i64 p1, .int .i64 p2, .int .i64 p3, .int .i64 p4] 25)) := ⟨_, rfl⟩
  rw [← hW0]
  have HB0 := Lib.hid (show Bx w [(w.heap.size + 1, #[.int .i64 p0, .int .i64 p1, .int .i64 p2, .int .i64 p3, .int .i64 p4]), (w.heap.size, #[.int .i64 a, .int .i64 b])] W0 by rw [hW0]; simpa using (((Bx.nil (Below.refl w.heap.size w)).new #[.int .i64 a, .int .i64 b] 23).new #[.int .i64 p0, .int .i64 p1, .int .i64 p2, .int .i64 p3, .int .i64 p4] 25))
  clear hW0
  go_wp2_with fail
  refine (HA.out _).mono ?_
  rintro e1 w1 ⟨rfl, hbb⟩
  have HB1 := Lib.hid (HB0.out.keep hbb)
  clear hbb HB0
  go_upto_region 3 with fail
  obtain ⟨c0_0, c0_1, c0_2, c0_3, c0_4⟩ := HB1.out.five (List.mem_cons_self ..)
  go_wp2_with fail
  refine (HT.out _).mono ?_
  rintro e2 w2 ⟨rfl, hbb⟩
  have HB2 := Lib.hid (HB1.out.keep hbb)
  clear c0_0 c0_1 c0_2 c0_3 c0_4
  clear hbb HB1
  go_upto_region 4 with fail
  obtain ⟨V1, hV1⟩ : ∃ V1 : World, V1 = w2.alloc (.cells #[.int .i64 TN, .int .i64 TD] 28) := ⟨_, rfl⟩
  rw [← hV1]
  have HV1 := Lib.hid (show Bx w [(w2.heap.size, #[.int .i64 TN, .int .i64 TD]), (w.heap.size + 1, #[.int .i64 p0, .int .i64 p1, .int .i64 p2, .int .i64 p3, .int .i64 p4]), (w.heap.size, #[.int .i64 a, .int .i64 b])] V1 from hV1 ▸ HB2.out.new _ _)
  have hlt1 := HB2.out.lt (List.mem_cons_self ..)
  clear hV1 HB2
  generalize w2.heap.size = B1 at *
  obtain ⟨c1_0, c1_1, c1_2, c1_3, c1_4⟩ := HV1.out.five (List.mem_cons_of_mem _ (List.mem_cons_self ..))
  go_wp2_with fail
  refine (HC.out _).mono ?_
  rintro e3 w3 ⟨rfl, hbb⟩
  have HB3 := Lib.hid (HV1.out.keep hbb)
  clear c1_0 c1_1 c1_2 c1_3 c1_4
  clear hbb HV1
  go_upto_region 8 with fail
  have MK := Lib.hid (fun w' (h : Bx w [(B1, #[.int .i64 TN, .int .i64 TD]), (w.heap.size + 1, #[.int .i64 p0, .int .i64 p1, .int .i64 p2, .int .i64 p3, .int .i64 p4]), (w.heap.size, #[.int .i64 a, .int .i64 b])] w') => And.intro h (And.intro (h.two (List.mem_cons_self ..)) (h.five (List.mem_cons_of_mem _ (List.mem_cons_self ..)))))
  have HG2 := Lib.hid (MK.out _ (HB3.out.keep (Below.refl _ _).drew))
  go_region_held3 (fun w' => Bx w [(B1, #[.int .i64 TN, .int .i64 TD]), (w.heap.size + 1, #[.int .i64 p0, .int .i64 p1, .int .i64 p2, .int .i64 p3, .int .i64 p4]), (w.heap.size, #[.int .i64 a, .int .i64 b])] w' ∧ (w'.cell? ⟨B1, 0, none⟩ = some (.int .i64 TN) ∧ w'.cell? ⟨B1, 1, none⟩ = some (.int .i64 TD)) ∧ (w'.cell? ⟨w.heap.size + 1, 0, none⟩ = some (.int .i64 p0) ∧ w'.cell? ⟨w.heap.size + 1, 1, none⟩ = some (.int .i64 p1) ∧ w'.cell? ⟨w.heap.size + 1, 2, none⟩ = some (.int .i64 p2) ∧ w'.cell? ⟨w.heap.size + 1, 3, none⟩ = some (.int .i64 p3) ∧ w'.cell? ⟨w.heap.size + 1, 4, none⟩ = some (.int .i64 p4)))
    (first
      | assumption
      | exact HG2.out
      | exact MK.out _ (Bx.keep (And.left (by assumption)) (by assumption)))
    (first
      | (go_at_call 11; (with_reducible refine (HRT.out _).mono ?_); rintro e w' ⟨rfl, hb⟩))
  have HB4 := Lib.hid (show Bx w [(B1, #[.int .i64 TN, .int .i64 TD]), (w.heap.size + 1, #[.int .i64 p0, .int .i64 p1, .int .i64 p2, .int .i64 p3, .int .i64 p4]), (w.heap.size, #[.int .i64 a, .int .i64 b])] w' by repeat (first | exact HG2.out.1 | refine Bx.keep ?_ (by assumption)))
  rename_i hHeld
  clear hHeld HG2 MK HB3
  go_upto_region 10 with fail
  obtain ⟨c1_0, c1_1, c1_2, c1_3, c1_4⟩ := HB4.out.five (List.mem_cons_of_mem _ (List.mem_cons_self ..))
  obtain ⟨c2_0, c2_1⟩ := HB4.out.two (List.mem_cons_of_mem _ (List.mem_cons_of_mem _ (List.mem_cons_self ..)))
  go_wp2_with fail
  refine (HN.out _).mono ?_
  rintro e5 w5 ⟨rfl, hbb⟩
  have HB5 := Lib.hid (HB4.out.keep hbb)
  clear c1_0 c1_1 c1_2 c1_3 c1_4 c2_0 c2_1
  clear hbb HB4
  go_upto_region 11 with fail
  obtain ⟨V2, hV2⟩ : ∃ V2 : World, V2 = w5.alloc (.cells #[.int .i64 FN, .int .i64 FD] 28) := ⟨_, rfl⟩
  rw [← hV2]
  have HV2 := Lib.hid (show Bx w [(w5.heap.size, #[.int .i64 FN, .int .i64 FD]), (B1, #[.int .i64 TN, .int .i64 TD]), (w.heap.size + 1, #[.int .i64 p0, .int .i64 p1, .int .i64 p2, .int .i64 p3, .int .i64 p4]), (w.heap.size, #[.int .i64 a, .int .i64 b])] V2 from hV2 ▸ HB5.out.new _ _)
  have hlt2 := HB5.out.lt (List.mem_cons_self ..)
  clear hV2 HB5
  generalize w5.heap.size = B2 at *
  obtain ⟨c2_0, c2_1, c2_2, c2_3, c2_4⟩ := HV2.out.five (List.mem_cons_of_mem _ (List.mem_cons_of_mem _ (List.mem_cons_self ..)))
  obtain ⟨c3_0, c3_1⟩ := HV2.out.two (List.mem_cons_of_mem _ (List.mem_cons_of_mem _ (List.mem_cons_of_mem _ (List.mem_cons_self ..))))
  go_wp2_with fail
  refine (HP.out _).mono ?_
  rintro e6 w6 ⟨g, c, rfl, hg, hC, hc1, hc2, hbb⟩
  have HB6 := Lib.hid (Bx.cons (HV2.out.keep hbb) (Nat.le_trans HV2.out.below.size hg) hC)
  clear c2_0 c2_1 c2_2 c2_3 c2_4 c3_0 c3_1
  clear hbb hC hg HV2
  go_upto_region 12 with fail
  obtain ⟨c3_0, c3_1, c3_2, c3_3, c3_4⟩ := HB6.out.five (List.mem_cons_of_mem _ (List.mem_cons_of_mem _ (List.mem_cons_of_mem _ (List.mem_cons_self ..))))
  obtain ⟨c4_0, c4_1⟩ := HB6.out.two (List.mem_cons_of_mem _ (List.mem_cons_of_mem _ (List.mem_cons_of_mem _ (List.mem_cons_of_mem _ (List.mem_cons_self ..)))))
  go_wp2_with fail
  refine (HI.out _).mono ?_
  rintro e7 w7 ⟨rfl, hbb⟩
  have HB7 := Lib.hid (HB6.out.keep hbb)
  clear c3_0 c3_1 c3_2 c3_3 c3_4 c4_0 c4_1
  clear hbb HB6
  go_upto_region 13 with fail
  obtain ⟨c3_0, c3_1, c3_2, c3_3, c3_4⟩ := HB7.out.five (List.mem_cons_of_mem _ (List.mem_cons_of_mem _ (List.mem_cons_of_mem _ (List.mem_cons_self ..))))
  obtain ⟨c4_0, c4_1⟩ := HB7.out.two (List.mem_cons_of_mem _ (List.mem_cons_of_mem _ (List.mem_cons_of_mem _ (List.mem_cons_of_mem _ (List.mem_cons_self ..)))))
  go_wp2_with fail
  refine (HCA.out _ _ _ (shows_flat1 (by simp) p0 p1 p2 p3 p4)).mono ?_
  rintro e8 w8 ⟨rfl, hbb⟩
  have HB8 := Lib.hid ((HB7.out.keep ((Below.refl _ _).alloc (Nat.le_refl _) _)).keep hbb)
  clear c3_0 c3_1 c3_2 c3_3 c3_4 c4_0 c4_1
  clear hbb HB7
  go_upto_region 16 with fail
  have MK := Lib.hid (fun w' (h : Bx w [(g, L), (B2, #[.int .i64 FN, .int .i64 FD]), (B1, #[.int .i64 TN, .int .i64 TD]), (w.heap.size + 1, #[.int .i64 p0, .int .i64 p1, .int .i64 p2, .int .i64 p3, .int .i64 p4]), (w.heap.size, #[.int .i64 a, .int .i64 b])] w') => And.intro h (And.intro (h.two (List.mem_cons_of_mem _ (List.mem_cons_self ..))) (And.intro (h.five (List.mem_cons_of_mem _ (List.mem_cons_of_mem _ (List.mem_cons_of_mem _ (List.mem_cons_self ..))))) (h.two (List.mem_cons_of_mem _ (List.mem_cons_of_mem _ (List.mem_cons_of_mem _ (List.mem_cons_of_mem _ (List.mem_cons_self ..)))))))))
  have HG2 := Lib.hid (MK.out _ (HB8.out.keep (Below.refl _ _).drew))
  go_region_held3 (fun w' => Bx w [(g, L), (B2, #[.int .i64 FN, .int .i64 FD]), (B1, #[.int .i64 TN, .int .i64 TD]), (w.heap.size + 1, #[.int .i64 p0, .int .i64 p1, .int .i64 p2, .int .i64 p3, .int .i64 p4]), (w.heap.size, #[.int .i64 a, .int .i64 b])] w' ∧ (w'.cell? ⟨B2, 0, none⟩ = some (.int .i64 FN) ∧ w'.cell? ⟨B2, 1, none⟩ = some (.int .i64 FD)) ∧ (w'.cell? ⟨w.heap.size + 1, 0, none⟩ = some (.int .i64 p0) ∧ w'.cell? ⟨w.heap.size + 1, 1, none⟩ = some (.int .i64 p1) ∧ w'.cell? ⟨w.heap.size + 1, 2, none⟩ = some (.int .i64 p2) ∧ w'.cell? ⟨w.heap.size + 1, 3, none⟩ = some (.int .i64 p3) ∧ w'.cell? ⟨w.heap.size + 1, 4, none⟩ = some (.int .i64 p4)) ∧ (w'.cell? ⟨w.heap.size, 0, none⟩ = some (.int .i64 a) ∧ w'.cell? ⟨w.heap.size, 1, none⟩ = some (.int .i64 b)))
    (first
      | assumption
      | exact HG2.out
      | exact MK.out _ (Bx.keep (And.left (by assumption)) (by assumption)))
    (first
      | (go_at_call 16; (with_reducible refine (HRN.out _).mono ?_); rintro e w' ⟨rfl, hb⟩)
      | (go_at_call 18; (with_reducible refine (HRP.out _).mono ?_); rintro e w' ⟨g2, c2, rfl, hg2, hC2, hc3, hc4, hb⟩; have HC2 := Lib.hid hC2; clear hC2)
      | (go_at_call 17; (with_reducible refine (HFR.out _ _ _ _ (And.left (by assumption)) HC2.out).mono ?_); rintro e w' ⟨rfl, hb⟩)
      | (go_at_call 19; (with_reducible refine (HRI.out _).mono ?_); rintro e w' ⟨rfl, hb⟩))
  have hR : Bx w [(g, L), (B2, #[.int .i64 FN, .int .i64 FD]), (B1, #[.int .i64 TN, .int .i64 TD]), (w.heap.size + 1, #[.int .i64 p0, .int .i64 p1, .int .i64 p2, .int .i64 p3, .int .i64 p4]), (w.heap.size, #[.int .i64 a, .int .i64 b])] w' := by repeat (first | exact HG2.out.1 | refine Bx.keep ?_ (by assumption))
  go_wp2_with fail
  go_ret
  exact ⟨rfl, hR.below⟩

theorem AlgebraNorms_law (a b p0 p1 p2 p3 p4 : Int) (w : World) :
    Calls Tryz.prog 3 #[.agg #[.int .i64 a, .int .i64 b], qv ⟨p0, p1, p2, p3, p4⟩] w fun e w' => e = .returned (.bool true) ∧ Below w.heap.size w w' := by
  by_cases hq : qE ⟨p0, p1, p2, p3, p4⟩ = 0
  · by_cases hE : allE a b [⟨p0, p1, p2, p3, p4⟩] = 0
    · obtain ⟨ha, -⟩ := allE_zero.1 hE
      have hqb := qE_zero.1 hq
      by_cases hr : p1 = 0 ∧ p2 = 0 ∧ p3 = 0
      · have hr2 : ratB ⟨p0, p1, p2, p3, p4⟩ = true := by obtain ⟨rfl, rfl, rfl⟩ := hr; rfl
        exact Norms_3 a b p0 p1 p2 p3 p4 w hqb ha 2 _ [lowN (-p0) p4, lowD (-p0) p4, 1, 1] (by omega) rfl rfl (fun i hi => match i, hi with | 0, _ => rfl | 1, _ => rfl | 2, _ => rfl | 3, _ => rfl) (fun w => qPoly_rat a b p0 p1 p2 p3 p4 w hqb ha hr) (fun w => rPoly_rat a b p0 p1 p2 p3 p4 w hqb hr2)
      · have hr2 : ratB ⟨p0, p1, p2, p3, p4⟩ = false := by
          cases h : ratB ⟨p0, p1, p2, p3, p4⟩ with
          | false => rfl
          | true => exfalso; apply hr; unfold ratB at h; simp only [Bool.and_eq_true, beq_iff_eq] at h; exact ⟨h.1.1, h.1.2, h.2⟩
        exact Norms_3 a b p0 p1 p2 p3 p4 w hqb ha 3 _ [nmN a b ⟨p0, p1, p2, p3, p4⟩, nmD a b ⟨p0, p1, p2, p3, p4⟩, lowN (-2 * p0) p4, lowD (-2 * p0) p4, 1, 1] (by omega) rfl rfl (fun i hi => match i, hi with | 0, _ => rfl | 1, _ => rfl | 2, _ => rfl | 3, _ => rfl | 4, _ => rfl | 5, _ => rfl) (fun w => qPoly_gen a b p0 p1 p2 p3 p4 w hqb ha hr) (fun w => rPoly_gen a b p0 p1 p2 p3 p4 w hqb ha hr2)
    · exact Norms_2 a b p0 p1 p2 p3 p4 w hq hE
  · exact Norms_1 a b p0 p1 p2 p3 p4 w hq
end Go.Proofs.YtekkbdpggghcjaaGreatDoor
