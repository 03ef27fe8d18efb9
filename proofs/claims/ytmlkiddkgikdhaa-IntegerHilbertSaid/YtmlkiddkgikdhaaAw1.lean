/- the example roots of the verifier, whole -/
import Derived.Test.YtmlkiddkgikdhaaAw0
import Derived.Test.YtmlkiddkgikdhaaSort
import Derived.Test.YtmlkiddkgikdhaaRMade
namespace Go.Proofs.Ytmlkiddkgikdhaa
open Go.RowKit FF

set_option maxHeartbeats 1000000 in
theorem units_ex (w : World) : Calls Try.prog 91 #[.int .i64 2, .int .i64 7, .int .i64 2, .int .i64 49] w fun e w' =>
    e = .returned (.slice (some ⟨w.heap.size, 0, none⟩) 2 2) ∧ ∃ n, w' = (w.alloc (.cells #[.int .i64 39, .int .i64 10] 3)).drewN n := by
  have c2 := fun w => jacobi_any 2 7 w ⟨by decide, by decide⟩ (by decide) (by decide) (by decide)
  rw [show (7 : Int).toNat = 7 from rfl, jac27] at c2
  have C2 := Lib.hid c2; clear c2
  have hM := Lib.hid (fun w => mod_any 2 7 w ⟨by decide, by decide⟩ (by decide) ⟨by decide, by decide⟩)
  have hR := Lib.hid rootModulo_ex
  have hL := Lib.hid lift_ex
  go_enter Try.func91, Try.ntmps91
  go_wp2_with fail
  refine (C2.out _).mono ?_
  rintro e w' ⟨rfl, n1, rfl⟩
  go_wp2_with fail
  refine (hM.out _).mono ?_
  rintro e w' ⟨rfl, n2, rfl⟩
  go_wp2_with fail
  refine (hR.out _).mono ?_
  rintro e w' ⟨rfl, n3, rfl⟩
  go_wp2_with fail
  refine (hL.out _).mono ?_
  rintro e w' ⟨rfl, n4, rfl⟩
  go_wp2_with fail
  go_ret
  exact ⟨rfl, _, rfl⟩

theorem sort_ex : sortI [39, 10] = [10, 39] := by simp [sortI, List.mergeSort, List.MergeSort.Internal.splitInTwo]

set_option maxHeartbeats 1000000 in
set_option maxRecDepth 100000 in
theorem Roots_ex (w : World) : Calls Try.prog 22 #[.int .i64 2, .int .i64 7, .int .i64 2] w fun e w' =>
    ∃ A c, e = .returned (.tuple #[.slice A 2 c, .int .i64 0]) ∧ ShowsI w' A [10, 39] ∧ 2 ≤ c ∧ c ≤ maxLen ∧ Fresh w.heap.size A ∧ Below w.heap.size w w' := by
  obtain ⟨i0, hi, hz0, hz1, hz2⟩ := info_parts info_int
  have HI := Lib.hid hi; have HZ0 := Lib.hid hz0; have HZ1 := Lib.hid hz1; have HZ2 := Lib.hid hz2
  clear hi hz0 hz1 hz2
  have c1 := fun w => primePower_any 7 2 w ⟨by decide, by decide⟩
  rw [pp72.1, pp72.2] at c1
  have C1 := Lib.hid c1; clear c1
  have c2 := fun w => valuation_any 2 7 w ⟨by decide, by decide⟩ (by decide) (by decide) (by decide)
  rw [vp22.1, vp22.2] at c2
  have C2 := Lib.hid c2; clear c2
  have hM := Lib.hid (fun (a : Int) (w : World) (h : I64 a) => mod_any a 49 w h (by decide) ⟨by decide, by decide⟩)
  have hU := Lib.hid units_ex
  go_enter Try.func22, Try.ntmps22
  go_wp2_with fail
  refine (C1.out _).mono ?_
  rintro e w' ⟨rfl, n1, rfl⟩
  go_wp2_with fail
  refine (hM.out _ _ ⟨by omega, by omega⟩).mono ?_
  rintro e w' ⟨rfl, n2, rfl⟩
  go_wp2_with fail
  refine (C2.out _).mono ?_
  rintro e w' ⟨rfl, n3, rfl⟩
  go_wp2_with fail
  refine (C1.out _).mono ?_
  rintro e w' ⟨rfl, n4, rfl⟩
  go_wp2_with fail
  refine (hU.out _).mono ?_
  rintro e w' ⟨rfl, n5, rfl⟩
  go_wp2_with fail
  have k1 : (((((w.drewN (n1 + n2)).alloc (.cells #[.int .i64 0] 3)).drewN (n3 + n4)).alloc (.cells #[.int .i64 39, .int .i64 10] 3)).drewN n5).cell? ⟨w.heap.size + 1, 0, none⟩ = some (.int .i64 39) := by simp [go_sem]
  have k2 : (((((w.drewN (n1 + n2)).alloc (.cells #[.int .i64 0] 3)).drewN (n3 + n4)).alloc (.cells #[.int .i64 39, .int .i64 10] 3)).drewN n5).cell? ⟨w.heap.size + 1, 1, none⟩ = some (.int .i64 10) := by simp [go_sem]
  have k3 : (((((w.drewN (n1 + n2)).alloc (.cells #[.int .i64 0] 3)).drewN (n3 + n4)).alloc (.cells #[.int .i64 39, .int .i64 10] 3)).drewN n5).heap.size = w.heap.size + 1 + 1 := by simp
  have k4 : Below w.heap.size w (((((w.drewN (n1 + n2)).alloc (.cells #[.int .i64 0] 3)).drewN (n3 + n4)).alloc (.cells #[.int .i64 39, .int .i64 10] 3)).drewN n5) :=
    below_drewN ((below_drewN ((below_drewN (Below.refl _ _) _).alloc (by simp) _) _).alloc (by simp) _) _
  generalize (((((w.drewN (n1 + n2)).alloc (.cells #[.int .i64 0] 3)).drewN (n3 + n4)).alloc (.cells #[.int .i64 39, .int .i64 10] 3)).drewN n5) = W at *
  have HB := Lib.hid k4; clear k4
  refine wp_loop_rounds 1 ?_
  rw [rounds_succ]
  go_wp2_with fail
  refine wp_loop_rounds 3 ?_
  rw [rounds_succ]
  go_wp2_with fail
  refine wp_loop_rounds 2 ?_
  rw [rounds_succ]
  go_wp2_with fail
  refine (hM.out _ _ ⟨by omega, by omega⟩).mono ?_
  rintro e w' ⟨rfl, n6, rfl⟩
  have HO := Lib.hid (World.ownsRow_nil ((W.drewN n6).alloc (.cells #[.int .i64 39] 3)) (w.heap.size + 1 + 1) 3 1)
  go_wp2_with (at_builtin; refine wpList_append_own _ rfl (.tmp 98) (.tmp 108) 30 rfl (w.heap.size + 1 + 1) 3 i0 (.int .i64 0) 1 8 Try.underlying30 HI.out HZ0.out HZ1.out HZ2.out rfl (by decide) (.slice none 0 0) 0 [] rfl HO.out ⟨w.heap.size + 1 + 1, 0, none⟩ 1 1 [.int .i64 39] rfl rfl (fun j u hj => by match j, hj with | 0, hj => simp at hj; subst hj; simp [Addr.add, go_sem, k3]) (fun u hu => by simp at hu; subst hu; rfl) (by unfold maxLen; omega) (by omega) (by simp; omega) ?_; intro v1 w1 hown1 hgrow1 _)
  have q1 : w1.cell? ⟨w.heap.size + 1, 1, none⟩ = some (.int .i64 10) := (grown_keep hgrow1 (a := ⟨w.heap.size + 1, 1, none⟩) (by simp; omega) (fun k hk => by cases hk)).1.trans (by simp [go_sem, k3, k2])
  have q2 : Below w.heap.size w w1 := Below.grown (((below_drewN HB.out _).alloc (by simp; omega) _)) hgrow1 (by simp; omega) (fun k hk => by cases hk)
  have q3 : w.heap.size + 1 + 1 ≤ w1.heap.size := by have := hgrow1.size; simp at this; omega
  obtain ⟨A1, c1, rfl⟩ := own_shape hown1
  have HB1 := Lib.hid q2; have HO1 := Lib.hid hown1
  clear q2 hown1 hgrow1 HO HB k1 k2
  go_wp2_with fail
  rw [rounds_succ]
  go_wp2_with fail
  rw [rounds_succ]
  go_wp2_with fail
  refine wp_loop_rounds 2 ?_
  rw [rounds_succ]
  go_wp2_with fail
  refine (hM.out _ _ ⟨by omega, by omega⟩).mono ?_
  rintro e w' ⟨rfl, n7, rfl⟩
  have HO2 := Lib.hid (show ((w1.drewN n7).alloc (.cells #[.int .i64 10] 3)).ownsRow (w.heap.size + 1 + 1) 3 1 (.slice A1 1 c1) 1 (cellsI [39]) from World.ownsRow.alloc (show (w1.drewN n7).ownsRow _ _ _ _ _ _ from HO1.out) _)
  go_wp2_with (at_builtin; refine wpList_append_own _ rfl (.tmp 98) (.tmp 108) 30 rfl (w.heap.size + 1 + 1) 3 i0 (.int .i64 0) 1 8 Try.underlying30 HI.out HZ0.out HZ1.out HZ2.out rfl (by decide) (.slice A1 1 c1) 1 (cellsI [39]) rfl HO2.out ⟨w1.heap.size, 0, none⟩ 1 1 [.int .i64 10] rfl rfl (fun j u hj => by match j, hj with | 0, hj => simp at hj; subst hj; simp [Addr.add]; exact World.cell?_alloc_at (w := w1.drewN n7) #[.int .i64 10] 3 _ 0 rfl) (fun u hu => by simp at hu; subst hu; rfl) (by unfold maxLen; omega) (by omega) (by simp; omega) ?_; intro v2 w2 hown2 hgrow2 _)
  have q4 : Below w.heap.size w w2 := Below.grown (((below_drewN HB1.out _).alloc (by simp; omega) _)) hgrow2 (by simp; omega) (fun k hk => by have := own_row_ge HO1.out k hk; omega)
  have hs := Sort_own v2 [39, 10] w2 hown2 (by decide)
  rw [sort_ex] at hs
  have HS := Lib.hid hs; have HB2 := Lib.hid q4
  obtain ⟨A2, c2, rfl⟩ := own_shape hown2
  have hge := own_row_ge hown2
  clear q4 hown2 hgrow2 HO1 HO2 hs
  go_wp2_with fail
  rw [rounds_succ]
  go_wp2_with fail
  rw [rounds_succ]
  go_wp2_with fail
  refine HS.out.mono ?_
  rintro e w3 ⟨rfl, hown3, hgrow3⟩
  obtain ⟨A3, c3, hv, t1, t2, t3, t4⟩ := own_showsI (xs := [10, 39]) hown3
  cases hv
  have q5 : Below w.heap.size w w3 := Below.grown HB2.out hgrow3 HB2.out.size (fun k hk => by have := hge k hk; omega)
  have T1 := Lib.hid t1; have T4 := Lib.hid (t4.mono (show w.heap.size ≤ _ by omega)); have Q5 := Lib.hid q5
  clear t1 t4 q5 hown3 hgrow3 HS HB2 hge
  go_wp2_with fail
  go_ret2
  exact ⟨A2, c2, rfl, T1.out, t2, t3, T4.out, Q5.out⟩
end Go.Proofs.Ytmlkiddkgikdhaa
