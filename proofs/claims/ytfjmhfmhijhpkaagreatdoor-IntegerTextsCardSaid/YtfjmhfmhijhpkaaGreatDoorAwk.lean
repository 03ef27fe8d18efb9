/- the example roots of the verifier the example roots of the verifier, whole the verifier's examples of chapter 1: the plain values the verifier's examples of chapter 1: awake answers true. -/
import Derived.Test.YtfjmhfmhijhpkaaGreatDoorPp
import Derived.Test.YtfjmhfmhijhpkaaGreatDoorSym0
import Derived.Test.YtfjmhfmhijhpkaaGreatDoorUnits0
import Derived.Test.YtfjmhfmhijhpkaaGreatDoorROf
import Derived.Test.YtfjmhfmhijhpkaaGreatDoorIntF
import Derived.Test.YtfjmhfmhijhpkaaGreatDoorWordB
import Derived.Deep.RegionHeld3
import Derived.Deep.DrawnRows
namespace Go.Proofs.YtfjmhfmhijhpkaaGreatDoor
open Go.RowKit FF

theorem vp26 : vp 2 6 = 1 ∧ rest 2 6 = 3 := vp_unique (p := 2) (by decide) (k := 1) (r := 3) (by decide)
theorem inv849 : invM 8 49 = 43 := (invM_unique (by decide) (by decide) (by decide) (by decide) ⟨7, by decide⟩).symm
theorem jac27 : Jac 2 7 = 1 := by decide
theorem jac37 : Jac 3 7 = -1 := by decide
theorem vp22 : vp 7 2 = 0 ∧ rest 7 2 = 2 := vp_unique (p := 7) (by decide) (k := 0) (r := 2) (by decide)
theorem isPB7 : isPB 7 = true := isPB_of_trial (by decide) (by decide) (d := 3) (by decide) (by decide) (fun e h1 h2 => by obtain rfl : e = 2 := by omega
                                                                                                                           decide)
theorem pp72 : ppV 7 2 = 49 ∧ ppE 7 2 = 0 := by
  have : ppE 7 2 = 0 := by unfold ppE; rw [isPB7]; decide
  exact ⟨by unfold ppV; rw [this]; decide, this⟩

set_option maxHeartbeats 1000000 in
theorem rootModulo_ex (w : World) : Calls Tryz.prog 190 #[.int .i64 2, .int .i64 7] w (Ret w (.int .i64 4)) := by
  have c1 := fun w => valuation_any 6 2 w ⟨by decide, by decide⟩ (by decide) (by decide) (by decide)
  rw [vp26.1, vp26.2] at c1
  have c2 := fun w => jacobi_any 2 7 w ⟨by decide, by decide⟩ (by decide) (by decide) (by decide)
  rw [show (7 : Int).toNat = 7 from rfl, jac27] at c2
  have c3 := fun w => jacobi_any 3 7 w ⟨by decide, by decide⟩ (by decide) (by decide) (by decide)
  rw [show (7 : Int).toNat = 7 from rfl, jac37] at c3
  have c4 := fun w => power_any 3 3 7 w ⟨by decide, by decide⟩ (by decide) ⟨by decide, by decide⟩ (by decide) (by decide)
  have c5 := fun w => power_any 2 2 7 w ⟨by decide, by decide⟩ (by decide) ⟨by decide, by decide⟩ (by decide) (by decide)
  have c6 := fun w => power_any 2 3 7 w ⟨by decide, by decide⟩ (by decide) ⟨by decide, by decide⟩ (by decide) (by decide)
  rw [show (3 : Int) ^ (3 : Int).toNat % 7 = 6 by decide] at c4
  rw [show (2 : Int) ^ (2 : Int).toNat % 7 = 4 by decide] at c5
  rw [show (2 : Int) ^ (3 : Int).toNat % 7 = 1 by decide] at c6
  have C1 := Lib.hid c1; have C2 := Lib.hid c2; have C3 := Lib.hid c3; have C4 := Lib.hid c4; have C5 := Lib.hid c5; have C6 := Lib.hid c6
  clear c1 c2 c3 c4 c5 c6
  go_enter Tryz.func190, Tryz.ntmps190
  go_wp2_with fail
  refine (C1.out _).mono ?_
  rintro e w' ⟨rfl, n1, rfl⟩
  go_wp2_with fail
  refine wp_loop_rounds 2 ?_
  rw [rounds_succ]
  go_wp2_with fail
  refine (C2.out _).mono ?_
  rintro e w' ⟨rfl, n2, rfl⟩
  go_wp2_with fail
  rw [rounds_succ]
  go_wp2_with fail
  refine (C3.out _).mono ?_
  rintro e w' ⟨rfl, n3, rfl⟩
  go_wp2_with fail
  refine (C4.out _).mono ?_
  rintro e w' ⟨rfl, n4, rfl⟩
  go_wp2_with fail
  refine (C5.out _).mono ?_
  rintro e w' ⟨rfl, n5, rfl⟩
  go_wp2_with fail
  refine (C6.out _).mono ?_
  rintro e w' ⟨rfl, n6, rfl⟩
  go_wp2_with fail
  refine wp_loop_rounds 1 ?_
  rw [rounds_succ]
  go_wp2_with fail
  go_ret
  exact ⟨rfl, _, rfl⟩

set_option maxHeartbeats 1000000 in
theorem lift_ex (w : World) : Calls Tryz.prog 189 #[.int .i64 2, .int .i64 7, .int .i64 49, .int .i64 4] w (Ret w (.int .i64 39)) := by
  have hM := Lib.hid (fun (a m : Int) (w : World) (h : I64 a ∧ 0 < m ∧ I64 m) => mod_any a m w h.1 h.2.1 h.2.2)
  have c := fun w => inverse_any 8 49 w ⟨by decide, by decide⟩ (by decide) (by decide) (by decide)
  rw [inv849] at c
  have C := Lib.hid c; clear c
  go_enter Tryz.func189, Tryz.ntmps189
  go_wp2_with fail
  refine (hM.out _ _ _ ⟨⟨by omega, by omega⟩, by omega, ⟨by omega, by omega⟩⟩).mono ?_
  rintro e w' ⟨rfl, n1, rfl⟩
  go_wp2_with fail
  refine wp_loop_rounds 2 ?_
  rw [rounds_succ]
  go_wp2_with fail
  refine (hM.out _ _ _ ⟨⟨by omega, by omega⟩, by omega, ⟨by omega, by omega⟩⟩).mono ?_
  rintro e w' ⟨rfl, n2, rfl⟩
  go_wp2_with fail
  refine (hM.out _ _ _ ⟨⟨by omega, by omega⟩, by omega, ⟨by omega, by omega⟩⟩).mono ?_
  rintro e w' ⟨rfl, n3, rfl⟩
  go_wp2_with fail
  refine (C.out _).mono ?_
  rintro e w' ⟨rfl, n4, rfl⟩
  go_wp2_with fail
  refine (hM.out _ _ _ ⟨⟨by omega, by omega⟩, by omega, ⟨by omega, by omega⟩⟩).mono ?_
  rintro e w' ⟨rfl, n5, rfl⟩
  go_wp2_with fail
  rw [rounds_succ]
  go_wp2_with fail
  go_ret
  exact ⟨rfl, _, rfl⟩
end Go.Proofs.YtfjmhfmhijhpkaaGreatDoor
namespace Go.Proofs.YtfjmhfmhijhpkaaGreatDoor
open Go.RowKit FF

set_option maxHeartbeats 1000000 in
theorem units_ex (w : World) : Calls Tryz.prog 148 #[.int .i64 2, .int .i64 7, .int .i64 2, .int .i64 49] w fun e w' =>
    e = .returned (.slice (some ⟨w.heap.size, 0, none⟩) 2 2) ∧ ∃ n, w' = (w.alloc (.cells #[.int .i64 39, .int .i64 10] 3)).drewN n := by
  have c2 := fun w => jacobi_any 2 7 w ⟨by decide, by decide⟩ (by decide) (by decide) (by decide)
  rw [show (7 : Int).toNat = 7 from rfl, jac27] at c2
  have C2 := Lib.hid c2; clear c2
  have hM := Lib.hid (fun w => mod_any 2 7 w ⟨by decide, by decide⟩ (by decide) ⟨by decide, by decide⟩)
  have hR := Lib.hid rootModulo_ex
  have hL := Lib.hid lift_ex
  go_enter Tryz.func148, Tryz.ntmps148
  go_wp2_with fail
  refine (C2.out _).mono ?_
  rintro e w' ⟨rfl, n1, rfl⟩
  go_wp2_with fail
  refine (hM.out _).mono ?_
  rintro e w' ⟨rfl, n2, rfl⟩
  go_wp2_with fail
  refine (hR.out _).mono ?_
  rintro e w' ⟨rfl, n3, rfl⟩
  go_wp2_with fail
  refine (hL.out _).mono ?_
  rintro e w' ⟨rfl, n4, rfl⟩
  go_wp2_with fail
  go_ret
  exact ⟨rfl, _, rfl⟩

theorem sort_ex : sortI [39, 10] = [10, 39] := by simp [sortI, List.mergeSort, List.MergeSort.Internal.splitInTwo]

set_option maxHeartbeats 1000000 in
set_option maxRecDepth 100000 in
theorem Roots_ex (w : World) : Calls Tryz.prog 76 #[.int .i64 2, .int .i64 7, .int .i64 2] w fun e w' =>
    ∃ A c, e = .returned (.tuple #[.slice A 2 c, .int .i64 0]) ∧ ShowsI w' A [10, 39] ∧ 2 ≤ c ∧ c ≤ maxLen ∧ Fresh w.heap.size A ∧ Below w.heap.size w w' := by
  obtain ⟨i0, hi, hz0, hz1, hz2⟩ := info_parts info_int
  have HI := Lib.hid hi; have HZ0 := Lib.hid hz0; have HZ1 := Lib.hid hz1; have HZ2 := Lib.hid hz2
  clear hi hz0 hz1 hz2
  have c1 := fun w => primePower_any 7 2 w ⟨by decide, by decide⟩
  rw [pp72.1, pp72.2] at c1
  have C1 := Lib.hid c1; clear c1
  have c2 := fun w => valuation_any 2 7 w ⟨by decide, by decide⟩ (by decide) (by decide) (by decide)
  rw [vp22.1, vp22.2] at c2
  have C2 := Lib.hid c2; clear c2
  have hM := Lib.hid (fun (a : Int) (w : World) (h : I64 a) => mod_any a 49 w h (by decide) ⟨by decide, by decide⟩)
  have hU := Lib.hid units_ex
  go_enter Tryz.func76, Tryz.ntmps76
  go_wp2_with fail
  refine (C1.out _).mono ?_
  rintro e w' ⟨rfl, n1, rfl⟩
  go_wp2_with fail
  refine (hM.out _ _ ⟨by omega, by omega⟩).mono ?_
  rintro e w' ⟨rfl, n2, rfl⟩
  go_wp2_with fail
  refine (C2.out _).mono ?_
  rintro e w' ⟨rfl, n3, rfl⟩
  go_wp2_with fail
  refine (C1.out _).mono ?_
  rintro e w' ⟨rfl, n4, rfl⟩
  go_wp2_with fail
  refine (hU.out _).mono ?_
  rintro e w' ⟨rfl, n5, rfl⟩
  go_wp2_with fail
  have k1 : (((((w.drewN (n1 + n2)).alloc (.cells #[.int .i64 0] 3)).drewN (n3 + n4)).alloc (.cells #[.int .i64 39, .int .i64 10] 3)).drewN n5).cell? ⟨w.heap.size + 1, 0, none⟩ = some (.int .i64 39) := by simp [go_sem]
  have k2 : (((((w.drewN (n1 + n2)).alloc (.cells #[.int .i64 0] 3)).drewN (n3 + n4)).alloc (.cells #[.int .i64 39, .int .i64 10] 3)).drewN n5).cell? ⟨w.heap.size + 1, 1, none⟩ = some (.int .i64 10) := by simp [go_sem]
  have k3 : (((((w.drewN (n1 + n2)).alloc (.cells #[.int .i64 0] 3)).drewN (n3 + n4)).alloc (.cells #[.int .i64 39, .int .i64 10] 3)).drewN n5).heap.size = w.heap.size + 1 + 1 := by simp
  have k4 : Below w.heap.size w (((((w.drewN (n1 + n2)).alloc (.cells #[.int .i64 0] 3)).drewN (n3 + n4)).alloc (.cells #[.int .i64 39, .int .i64 10] 3)).drewN n5) :=
    below_drewN ((below_drewN ((below_drewN (Below.refl _ _) _).alloc (by simp) _) _).alloc (by simp) _) _
  generalize (((((w.drewN (n1 + n2)).alloc (.cells #[.int .i64 0] 3)).drewN (n3 + n4)).alloc (.cells #[.int .i64 39, .int .i64 10] 3)).drewN n5) = W at *
  have HB := Lib.hid k4; clear k4
  refine wp_loop_rounds 1 ?_
  rw [rounds_succ]
  go_wp2_with fail
  refine wp_loop_rounds 3 ?_
  rw [rounds_succ]
  go_wp2_with fail
  refine wp_loop_rounds 2 ?_
  rw [rounds_succ]
  go_wp2_with fail
  refine (hM.out _ _ ⟨by omega, by omega⟩).mono ?_
  rintro e w' ⟨rfl, n6, rfl⟩
  have HO := Lib.hid (World.ownsRow_nil ((W.drewN n6).alloc (.cells #[.int .i64 39] 3)) (w.heap.size + 1 + 1) 3 1)
  go_wp2_with (at_builtin; refine wpList_append_own _ rfl (.tmp 98) (.tmp 108) 76 rfl (w.heap.size + 1 + 1) 3 i0 (.int .i64 0) 1 8 Tryz.underlying76 HI.out HZ0.out HZ1.out HZ2.out rfl (by decide) (.slice none 0 0) 0 [] rfl HO.out ⟨w.heap.size + 1 + 1, 0, none⟩ 1 1 [.int .i64 39] rfl rfl (fun j u hj => by match j, hj with | 0, hj => simp at hj; subst hj; simp [Addr.add, go_sem, k3]) (fun u hu => by simp at hu; subst hu; rfl) (by unfold maxLen; omega) (by omega) (by simp; omega) ?_; intro v1 w1 hown1 hgrow1 _)
  have q1 : w1.cell? ⟨w.heap.size + 1, 1, none⟩ = some (.int .i64 10) := (grown_keep hgrow1 (a := ⟨w.heap.size + 1, 1, none⟩) (by simp; omega) (fun k hk => by cases hk)).1.trans (by simp [go_sem, k3, k2])
  have q2 : Below w.heap.size w w1 := Below.grown (((below_drewN HB.out _).alloc (by simp; omega) _)) hgrow1 (by simp; omega) (fun k hk => by cases hk)
  have q3 : w.heap.size + 1 + 1 ≤ w1.heap.size := by have := hgrow1.size; simp at this; omega
  obtain ⟨A1, c1, rfl⟩ := own_shape hown1
  have HB1 := Lib.hid q2; have HO1 := Lib.hid hown1
  clear q2 hown1 hgrow1 HO HB k1 k2
  go_wp2_with fail
  rw [rounds_succ]
  go_wp2_with fail
  rw [rounds_succ]
  go_wp2_with fail
  refine wp_loop_rounds 2 ?_
  rw [rounds_succ]
  go_wp2_with fail
  refine (hM.out _ _ ⟨by omega, by omega⟩).mono ?_
  rintro e w' ⟨rfl, n7, rfl⟩
  have HO2 := Lib.hid (show ((w1.drewN n7).alloc (.cells #[.int .i64 10] 3)).ownsRow (w.heap.size + 1 + 1) 3 1 (.slice A1 1 c1) 1 (cellsI [39]) from World.ownsRow.alloc (show (w1.drewN n7).ownsRow _ _ _ _ _ _ from HO1.out) _)
  go_wp2_with (at_builtin; refine wpList_append_own _ rfl (.tmp 98) (.tmp 108) 76 rfl (w.heap.size + 1 + 1) 3 i0 (.int .i64 0) 1 8 Tryz.underlying76 HI.out HZ0.out HZ1.out HZ2.out rfl (by decide) (.slice A1 1 c1) 1 (cellsI [39]) rfl HO2.out ⟨w1.heap.size, 0, none⟩ 1 1 [.int .i64 10] rfl rfl (fun j u hj => by match j, hj with | 0, hj => simp at hj; subst hj; simp [Addr.add]; exact World.cell?_alloc_at (w := w1.drewN n7) #[.int .i64 10] 3 _ 0 rfl) (fun u hu => by simp at hu; subst hu; rfl) (by unfold maxLen; omega) (by omega) (by simp; omega) ?_; intro v2 w2 hown2 hgrow2 _)
  have q4 : Below w.heap.size w w2 := Below.grown (((below_drewN HB1.out _).alloc (by simp; omega) _)) hgrow2 (by simp; omega) (fun k hk => by have := own_row_ge HO1.out k hk; omega)
  have hs := Sort_own v2 [39, 10] w2 hown2 (by decide)
  rw [sort_ex] at hs
  have HS := Lib.hid hs; have HB2 := Lib.hid q4
  obtain ⟨A2, c2, rfl⟩ := own_shape hown2
  have hge := own_row_ge hown2
  clear q4 hown2 hgrow2 HO1 HO2 hs
  go_wp2_with fail
  rw [rounds_succ]
  go_wp2_with fail
  rw [rounds_succ]
  go_wp2_with fail
  refine HS.out.mono ?_
  rintro e w3 ⟨rfl, hown3, hgrow3⟩
  obtain ⟨A3, c3, hv, t1, t2, t3, t4⟩ := own_showsI (xs := [10, 39]) hown3
  cases hv
  have q5 : Below w.heap.size w w3 := Below.grown HB2.out hgrow3 HB2.out.size (fun k hk => by have := hge k hk; omega)
  have T1 := Lib.hid t1; have T4 := Lib.hid (t4.mono (show w.heap.size ≤ _ by omega)); have Q5 := Lib.hid q5
  clear t1 t4 q5 hown3 hgrow3 HS HB2 hge
  go_wp2_with fail
  go_ret2
  exact ⟨A2, c2, rfl, T1.out, t2, t3, T4.out, Q5.out⟩
end Go.Proofs.YtfjmhfmhijhpkaaGreatDoor
namespace Go.Proofs.YtfjmhfmhijhpkaaGreatDoor
open Go.RowKit FF

theorem inv23 : invM 2 3 = 2 := by decide
theorem bez_ex : bezV 12 (-18) = .tuple #[.int .i64 6, .int .i64 2, .int .i64 1, .int .i64 0] := by
  have e : bezE 12 (-18) = 0 := by unfold bezE; rw [if_neg (by omega), if_neg (by omega)]
  have x : bezX 12 (-18) = 2 := by
    unfold bezX; rw [if_neg (by omega)]; exact inv23
  have y : bezY 12 (-18) = 1 := by
    unfold bezY; rw [if_neg (by omega), x]; decide
  unfold bezV; rw [e, x, y]; rfl
theorem isPB2 : isPB 2 = true := isPB_iff.2 ⟨isP_two, by omega⟩
theorem vpm1 : vp 2 (-1) = 0 ∧ rest 2 (-1) = -1 := by have := vp_unique (p := 2) (by decide) (k := 0) (r := -1) (by decide); simpa using this
theorem hil_ex : hilV (-1) (-1) 2 = -1 ∧ hilE (-1) (-1) 2 = 0 := by
  have e : hilE (-1) (-1) 2 = 0 := by
    unfold hilE; rw [if_neg (by omega), if_neg (by decide), if_neg (by rw [isPB2]; simp)]
  refine ⟨?_, e⟩
  unfold hilV; rw [e, if_pos rfl]
  unfold Hil; rw [vpm1.1, vpm1.2]; decide
end Go.Proofs.YtfjmhfmhijhpkaaGreatDoor
namespace Go.Proofs.YtfjmhfmhijhpkaaGreatDoor
open Go.RowKit FF
attribute [local go_sem ↓] Go.wp_at_zero Go.wp_at_succ

theorem wl7 : wl 7 = 1 := by decide
theorem wl2 : wl 2 = 1 := by decide
theorem wl4 : wl 4 = 1 := by decide
theorem wl1 : wl 1 = 1 := by decide

theorem DivMod_ex (A A' : Option Addr) (c c' : Nat) (w : World) (hx : Shows .u32 w A (digs WB 7)) (hy : Shows .u32 w A' (digs WB 2)) (h1 : 1 ≤ c) (h2 : c ≤ maxLen) (h3 : 1 ≤ c') (h4 : c' ≤ maxLen) :
    Calls Tryz.prog 72 #[.agg #[.bool true, .slice A 1 c], .agg #[.bool false, .slice A' 1 c']] w fun e w' =>
      ∃ (A2 : Option Addr) (c2 : Nat) (A3 : Option Addr) (c3 : Nat), e = .returned (.tuple #[.agg #[.bool true, .slice A2 1 c2], .agg #[.bool false, .slice A3 1 c3], .int .i64 0]) ∧
        Shows .u32 w' A2 (digs WB 4) ∧ Shows .u32 w' A3 (digs WB 1) ∧ Below w.heap.size w w' := by
  have d7 : (digs WB 7).length = 1 := wl7
  have d2 : (digs WB 2).length = 1 := wl2
  have v7 : val WB (digs WB 7) = 7 := val_digs' WB2 7
  have v2 : val WB (digs WB 2) = 2 := val_digs' WB2 2
  have h := DivMod_any true false A A' (digs WB 7) (digs WB 2) c c' w hx (dig_digs' WB2 _) (by omega) h2 hy (dig_digs' WB2 _) (by omega) h4 (by rw [v7, wl7]; omega) (by rw [v2, wl2]; omega) (by rw [v2]; omega) (by rw [v2]; exact divKnown_one wl2)
  rw [d7, d2, v7, v2] at h
  refine h.mono ?_
  rintro e w' ⟨Q, R, A2, c2, A3, c3, hQ, hR, he, s2, s3, _, _, _, _, hb⟩
  have eQ : Q = -4 := by rw [hQ]; decide
  have eR : R = 1 := by rw [hR]; decide
  subst eQ; subst eR
  rw [show (-4 : Int).natAbs = 4 from rfl, wl4, show (1 : Int).natAbs = 1 from rfl, wl1] at he
  exact ⟨A2, c2, A3, c3, he, s2, s3, hb⟩

theorem Of_ex (n : Int) (m : Nat) (b : Bool) (w : World) (hn : I64 n) (hm : n.natAbs = m) (hb : decide (n < 0) = b) (hl : wl m = 1) :
    Calls Tryz.prog 73 #[.int .i64 n] w fun e w' => ∃ A' c', e = .returned (.agg #[.bool b, .slice A' 1 c']) ∧ Shows .u32 w' A' (digs WB m) ∧ 1 ≤ c' ∧ c' ≤ maxLen ∧ Below w.heap.size w w' := by
  refine (Of_any n w hn).mono ?_
  rintro e w' ⟨A', c', he, hs, h1, h2, _, h3⟩
  subst hm; subst hb
  rw [hl] at he h1
  exact ⟨A', c', he, hs, h1, h2, h3⟩
theorem rOf_ex (n : Int) (m : Nat) (b : Bool) (w : World) (hn : I64 n) (hm : n.natAbs = m) (hb : decide (n < 0) = b) (hl : wl m = 1) :
    Calls Tryz.prog 77 #[.int .i64 n] w fun e w' => ∃ A' c', e = .returned (.agg #[.bool b, .slice A' 1 c']) ∧ Shows .u32 w' A' (digs WB m) ∧ Below w.heap.size w w' := by
  refine (rOf_any n w hn).mono ?_
  rintro e w' ⟨A', c', he, hs, h1, h2, _, h3⟩
  subst hm; subst hb
  rw [hl] at he h1
  exact ⟨A', c', he, hs, h3⟩
theorem Same_ex (b : Bool) (m : Nat) (A A' : Option Addr) (c c' : Nat) (w : World) (hx : Shows .u32 w A (digs WB m)) (hy : Shows .u32 w A' (digs WB m)) (hl : wl m = 1) :
    Calls Tryz.prog 29 #[.agg #[.bool b, .slice A 1 c], .agg #[.bool b, .slice A' 1 c']] w fun e w' => e = .returned (.bool true) ∧ Below w.heap.size w w' := by
  have h := SameInt_any b b A A' (digs WB m) (digs WB m) c c' w hx hy (by have : (digs WB m).length = 1 := hl
                                                                          rw [this]; unfold maxLen; omega)
  have h1 : (digs WB m).length = 1 := hl
  rw [h1] at h
  refine h.mono ?_
  rintro e w' ⟨he, hb⟩
  exact ⟨by rw [he]; simp, hb⟩

theorem Ints_ex (A A' : Option Addr) (c c' : Nat) (w : World) (hx : ShowsI w A [10, 39]) (hy : ShowsI w A' [10, 39]) :
    Calls Tryz.prog 47 #[.slice A 2 c, .slice A' 2 c'] w (Ret w (.bool true)) := Ints_any A A' [10, 39] [10, 39] c c' w hx hy (by decide)

/-- two variables that the call laid keep their cells -/
theorem two_vars {w W : World} {o1 o2 : Array Value} {T1 T2 : TypeId} {n : Nat}
    (hb : Below ((((w.alloc (.cells o1 T1)).alloc (.cells o2 T2)).drewN n).heap.size) (((w.alloc (.cells o1 T1)).alloc (.cells o2 T2)).drewN n) W) :
    (∀ i, W.cell? ⟨w.heap.size, i, none⟩ = o1[i]?) ∧ (∀ i, W.cell? ⟨w.heap.size + 1, i, none⟩ = o2[i]?) ∧ Below w.heap.size w W ∧ w.heap.size + 1 < W.heap.size := by
  have hs : (((w.alloc (.cells o1 T1)).alloc (.cells o2 T2)).drewN n).heap.size = w.heap.size + 1 + 1 := by simp
  rw [hs] at hb
  refine ⟨fun i => ?_, fun i => ?_, ?_, ?_⟩
  · rw [hb.cell (p := ⟨w.heap.size, i, none⟩) (by simp; omega)]; simp [go_sem]
  · rw [hb.cell (p := ⟨w.heap.size + 1, i, none⟩) (by simp)]; simp [go_sem]
  · exact (below_drewN (((Below.refl _ _).alloc (Nat.le_refl _) _).alloc (by simp) _) n).trans (hb.mono (by omega))
  · have := hb.size; rw [hs] at this; omega

/-- what holds of the region's worlds -/
theorem aw_keep {W w0 w1 : World} {g : Nat} {x0 x1 y0 y1 : Option Value} (hg : g + 1 < W.heap.size)
    (h : Below W.heap.size W w0 ∧ w0.cell? ⟨g, 0, none⟩ = x0 ∧ w0.cell? ⟨g, 1, none⟩ = x1 ∧ w0.cell? ⟨g + 1, 0, none⟩ = y0 ∧ w0.cell? ⟨g + 1, 1, none⟩ = y1)
    (hb : Below w0.heap.size w0 w1) :
    Below W.heap.size W w1 ∧ w1.cell? ⟨g, 0, none⟩ = x0 ∧ w1.cell? ⟨g, 1, none⟩ = x1 ∧ w1.cell? ⟨g + 1, 0, none⟩ = y0 ∧ w1.cell? ⟨g + 1, 1, none⟩ = y1 := by
  obtain ⟨b, h1, h2, h3, h4⟩ := h
  have hz := b.size
  have k : ∀ p : Addr, p.block < W.heap.size → w1.cell? p = w0.cell? p := fun p hp => hb.cell (by omega)
  exact ⟨b.trans (hb.mono hz), by rw [k _ (by simp; omega)]; exact h1, by rw [k _ (by simp; omega)]; exact h2, by rw [k _ (by simp; omega)]; exact h3, by rw [k _ (by simp; omega)]; exact h4⟩
theorem aw_shows {W w' : World} {Q : Prop} {k : IntKind} {A : Option Addr} {xs : List Nat} (h : Below W.heap.size W w' ∧ Q) (s : Shows k W A xs) : Shows k w' A xs := s.below h.1
theorem aw_end {w W w' : World} {Q : Prop} (b : Below w.heap.size w W) (h : Below W.heap.size W w' ∧ Q) : Below w.heap.size w w' := b.trans (h.1.mono b.size)
theorem aw_showsI {W w' : World} {Q : Prop} {A : Option Addr} {xs : List Int} (h : Below W.heap.size W w' ∧ Q) (s : ShowsI W A xs) : ShowsI w' A xs := s.below h.1
theorem shows_list {w : World} {T : TypeId} : ShowsI (w.alloc (.cells #[.int .i64 10, .int .i64 39] T)) (some ⟨w.heap.size, 0, none⟩) [10, 39] :=
  ShowsI.new fun i hi => by match i, hi with | 0, _ => rfl | 1, _ => rfl

set_option maxHeartbeats 1000000 in
set_option maxRecDepth 100000 in
theorem awake_any (w : World) : Calls Tryz.prog 24 #[] w fun e w' => e = .returned (.bool true) ∧ Below w.heap.size w w' := by
  have hO7 := Lib.hid (fun w => Of_ex (-7) 7 true w ⟨by omega, by omega⟩ rfl rfl wl7)
  have hO2 := Lib.hid (fun w => Of_ex 2 2 false w ⟨by omega, by omega⟩ rfl rfl wl2)
  have hR4 := Lib.hid (fun w => rOf_ex (-4) 4 true w ⟨by omega, by omega⟩ rfl rfl wl4)
  have hR1 := Lib.hid (fun w => rOf_ex 1 1 false w ⟨by omega, by omega⟩ rfl rfl wl1)
  have hD := Lib.hid DivMod_ex
  have hB := Lib.hid (fun w => bez_ex ▸ Bezout_any 12 (-18) w ⟨by omega, by omega⟩ ⟨by omega, by omega⟩)
  have hH := Lib.hid (fun w => hil_ex.1 ▸ hil_ex.2 ▸ Hilbert_any (-1) (-1) 2 w)
  have hR := Lib.hid Roots_ex
  go_enter Tryz.func24, Tryz.ntmps24
  go_wp2_with fail
  refine (hO7.out _).mono ?_
  rintro e w1 ⟨A1, c1, rfl, s1, k1, k2, hb1⟩
  have S1 := Lib.hid s1; have B1 := Lib.hid hb1; clear s1 hb1
  go_wp2_with fail
  refine (hO2.out _).mono ?_
  rintro e w2 ⟨A2, c2, rfl, s2, k3, k4, hb2⟩
  have B2 := Lib.hid (B1.out.trans (hb2.mono B1.out.size)); have S1' := Lib.hid (S1.out.below hb2); have S2 := Lib.hid s2
  clear s2 hb2 B1 S1
  go_wp2_with fail
  refine (hD.out _ _ _ _ _ S1'.out S2.out k1 k2 k3 k4).mono ?_
  rintro e w3 ⟨A3, c3, A4, c4, rfl, s3, s4, hb3⟩
  have B3 := Lib.hid (B2.out.trans (hb3.mono B2.out.size)); have S3 := Lib.hid s3; have S4 := Lib.hid s4
  clear s3 s4 hb3 B2 S1' S2
  go_wp2_with fail
  refine (hB.out _).mono ?_
  rintro e w4 ⟨rfl, n1, rfl⟩
  go_wp2_with fail
  refine (hH.out _).mono ?_
  rintro e w4 ⟨rfl, n2, rfl⟩
  go_wp2_with fail
  refine (hR.out _).mono ?_
  rintro e w4 ⟨A5, c5, rfl, s5, k5, k6, _, hb5⟩
  clear hO7 hO2 hD hB hH hR k1 k2 k3 k4
  obtain ⟨x, y, z1, hz⟩ := two_vars hb5
  have x0 := x 0; have x1 := x 1; have y0 := y 0; have y1 := y 1
  have B5 := Lib.hid (B3.out.trans (z1.mono B3.out.size))
  have S5 := Lib.hid s5
  have S3' := Lib.hid (S3.out.below z1); have S4' := Lib.hid (S4.out.below z1)
  clear s5 hb5 z1 B3 S3 S4 x y
  have X := Lib.hid (show w4.cell? ⟨w3.heap.size, 0, none⟩ = some (.bool true) ∧ w4.cell? ⟨w3.heap.size, 1, none⟩ = some (.slice A3 1 c3) ∧ w4.cell? ⟨w3.heap.size + 1, 0, none⟩ = some (.bool false) ∧ w4.cell? ⟨w3.heap.size + 1, 1, none⟩ = some (.slice A4 1 c4) from ⟨x0, x1, y0, y1⟩)
  clear x0 x1 y0 y1
  go_wp2_with fail
  go_region_held3 (fun w' => Below w4.heap.size w4 w' ∧ w'.cell? ⟨w3.heap.size, 0, none⟩ = some (.bool true) ∧ w'.cell? ⟨w3.heap.size, 1, none⟩ = some (.slice A3 1 c3) ∧ w'.cell? ⟨w3.heap.size + 1, 0, none⟩ = some (.bool false) ∧ w'.cell? ⟨w3.heap.size + 1, 1, none⟩ = some (.slice A4 1 c4))
    (first
      | exact ⟨(Below.refl _ _).drew, X.out⟩
      | (refine aw_keep hz (by assumption) ?_; first | assumption | exact (Below.refl _ _).alloc (Nat.le_refl _) _ | exact below_drewN (Below.refl _ _) _))
    (first
      | (go_at_call 77; (with_reducible refine (hR4.out _).mono ?_); rintro e w' ⟨A', c', rfl, hs, hb⟩)
      | (go_at_call 77; (with_reducible refine (hR1.out _).mono ?_); rintro e w' ⟨A', c', rfl, hs, hb⟩)
      | (go_at_call 29; (with_reducible refine (Same_ex true 4 A3 _ c3 _ _ (aw_shows (by assumption) S3'.out) (by assumption) wl4).mono ?_); rintro e w' ⟨rfl, hb⟩)
      | (go_at_call 29; (with_reducible refine (Same_ex false 1 A4 _ c4 _ _ (aw_shows (by assumption) S4'.out) (by assumption) wl1).mono ?_); rintro e w' ⟨rfl, hb⟩)
      | (go_at_call 47; (with_reducible refine (Ints_ex A5 _ c5 _ _ (aw_showsI (by assumption) S5.out) shows_list).mono ?_); rintro e w' ⟨rfl, nq, rfl⟩))
  go_wp2_with fail
  go_ret
  exact ⟨rfl, aw_end B5.out (by assumption)⟩
end Go.Proofs.YtfjmhfmhijhpkaaGreatDoor
