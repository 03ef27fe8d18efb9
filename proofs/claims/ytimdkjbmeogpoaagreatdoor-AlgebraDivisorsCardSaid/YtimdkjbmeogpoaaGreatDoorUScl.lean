/- What matrices are accepted: words. -/
import Derived.Test.YtimdkjbmeogpoaaGreatDoorUQo0
import Derived.Test.YtimdkjbmeogpoaaGreatDoorUSpm
section
namespace Go.Proofs.YtimdkjbmeogpoaaGreatDoor
open Go.RowKit FF
def absW (n : Int) : Int := if n = -9223372036854775808 then n else n.natAbs
set_option maxHeartbeats 400000 in
theorem qabs64_any (n : Int) (w : World) (h : I64 n) : Calls Tryz.prog 81 #[.int .i64 n] w (Ret w (.int .i64 (absW n))) := by
 by_cases hm : n = -9223372036854775808
 ·subst hm
  have e : absW (-9223372036854775808) = -9223372036854775808 := rfl
  rw [e]
  have e9 : wrap64 9223372036854775808 = -9223372036854775808 := by kernel_rfl
  go_enter Tryz.func81, Tryz.ntmps81
  go_wp2_with fail
  go_ret
  exact Ret.eq0 rfl
 ·have e : absW n = n.natAbs := if_neg hm
  rw [e]
  exact qabs_any n w (by have := h.1; omega) h.2
theorem absW_le {n : Int} : absW n ≤ 1000000000 ↔ n ≤ 1000000000 ∧ (-1000000000 ≤ n ∨ n = -9223372036854775808) := by
 unfold absW; split <;> omega
set_option maxHeartbeats 4000000 in
theorem validFrac_any (n d : Int) (w : World) (hn : I64 n) (hd : I64 d) :
  Calls Tryz.prog 66 #[fvv n d] w fun r w' => r = .returned (.bool (frB n d)) ∧ Below w.heap.size w w' := by
 have HN := lhd (fun w => qabs64_any n w hn)
 have HD := lhd (fun w => qabs64_any d w hd)
 have an := absW_le (n := n)
 have ad := absW_le (n := d)
 have HF := lhd (frB_iff (n := n) (d := d))
 generalize absW n = A at *
 generalize absW d = D at *
 generalize frB n d = F at *
 obtain ⟨n1, n2⟩ := hn
 obtain ⟨d1, d2⟩ := hd
 unfold fvv
 by_cases c0 : d = 0
 ·have HQ := lhd (show F = false by cases hF : F with | false => rfl | true => exact absurd c0 (HF.out.1 hF).1)
  subst c0
  clear HF an ad
  go_enter Tryz.func66, Tryz.ntmps66
  go_wp2_with fail
  go_ret
  exact ⟨ret_bool HQ.out.symm, (Below.refl _ _).alloc (Nat.le_refl _) _⟩
 have e0 : (d == 0) = false := f_beq c0
 have e0' : (d != 0) = true := bne_iff_ne.2 c0
 by_cases c1 : 1000000000 < A
 ·have e1 : decide (A ≤ 1000000000) = false := decide_eq_false (by omega)
  have HQ := lhd (show F = false by cases hF : F with | false => rfl | true => exact absurd (HF.out.1 hF) (by omega))
  clear HF an ad
  go_enter Tryz.func66, Tryz.ntmps66
  go_wp2_with fail
  refine (HN.out _).mono ?_
  rintro e w' ⟨rfl, m1, rfl⟩
  go_wp2_with fail
  go_ret
  exact ⟨ret_bool HQ.out.symm, below_drewN ((Below.refl _ _).alloc (Nat.le_refl _) _) _⟩
 have e1 : decide (A ≤ 1000000000) = true := decide_eq_true (by omega)
 by_cases c2 : 1000000000 < D
 ·have e2 : decide (D ≤ 1000000000) = false := decide_eq_false (by omega)
  have HQ := lhd (show F = false by cases hF : F with | false => rfl | true => exact absurd (HF.out.1 hF) (by omega))
  clear HF an ad
  go_enter Tryz.func66, Tryz.ntmps66
  go_wp2_with fail
  refine (HN.out _).mono ?_
  rintro e w' ⟨rfl, m1, rfl⟩
  go_wp2_with fail
  refine (HD.out _).mono ?_
  rintro e w' ⟨rfl, m2, rfl⟩
  go_wp2_with fail
  go_ret
  exact ⟨ret_bool HQ.out.symm, by first | exact below_drewN ((Below.refl _ _).alloc (Nat.le_refl _) _) _ | exact below_drewN (below_drewN ((Below.refl _ _).alloc (Nat.le_refl _) _) _) _⟩
 have e2 : decide (D ≤ 1000000000) = true := decide_eq_true (by omega)
 by_cases c3 : n < -1000000000
 ·have e3 : decide (-1000000000 ≤ n) = false := decide_eq_false (by omega)
  have HQ := lhd (show F = false by cases hF : F with | false => rfl | true => exact absurd (HF.out.1 hF) (by omega))
  clear HF an ad
  go_enter Tryz.func66, Tryz.ntmps66
  go_wp2_with fail
  refine (HN.out _).mono ?_
  rintro e w' ⟨rfl, m1, rfl⟩
  go_wp2_with fail
  refine (HD.out _).mono ?_
  rintro e w' ⟨rfl, m2, rfl⟩
  go_wp2_with fail
  go_ret
  exact ⟨ret_bool HQ.out.symm, by first | exact below_drewN ((Below.refl _ _).alloc (Nat.le_refl _) _) _ | exact below_drewN (below_drewN ((Below.refl _ _).alloc (Nat.le_refl _) _) _) _⟩
 have e3 : decide (-1000000000 ≤ n) = true := decide_eq_true (by omega)
 by_cases c4 : d < -1000000000
 ·have e4 : decide (-1000000000 ≤ d) = false := decide_eq_false (by omega)
  have HQ := lhd (show F = false by cases hF : F with | false => rfl | true => exact absurd (HF.out.1 hF) (by omega))
  clear HF an ad
  go_enter Tryz.func66, Tryz.ntmps66
  go_wp2_with fail
  refine (HN.out _).mono ?_
  rintro e w' ⟨rfl, m1, rfl⟩
  go_wp2_with fail
  refine (HD.out _).mono ?_
  rintro e w' ⟨rfl, m2, rfl⟩
  go_wp2_with fail
  go_ret
  exact ⟨ret_bool HQ.out.symm, by first | exact below_drewN ((Below.refl _ _).alloc (Nat.le_refl _) _) _ | exact below_drewN (below_drewN ((Below.refl _ _).alloc (Nat.le_refl _) _) _) _⟩
 have e4 : decide (-1000000000 ≤ d) = true := decide_eq_true (by omega)
 have HQ := lhd (show F = true from HF.out.2 (by omega))
 clear HF an ad
 go_enter Tryz.func66, Tryz.ntmps66
 go_wp2_with fail
 refine (HN.out _).mono ?_
 rintro e w' ⟨rfl, m1, rfl⟩
 go_wp2_with fail
 refine (HD.out _).mono ?_
 rintro e w' ⟨rfl, m2, rfl⟩
 go_wp2_with fail
 go_ret
 exact ⟨ret_bool HQ.out.symm, by first | exact below_drewN ((Below.refl _ _).alloc (Nat.le_refl _) _) _ | exact below_drewN (below_drewN ((Below.refl _ _).alloc (Nat.le_refl _) _) _) _⟩
set_option maxHeartbeats 4000000 in
theorem rCheckFrac_any (n d : Int) (w : World) :
  Calls Tryz.prog 30 #[fvv n d] w fun r w' => r = .returned (.int .i64 (frE n d)) ∧ Below w.heap.size w w' := by
 have HW := lhd (fun m w => bWithin_any m (-1000000000) 1000000000 w)
 have HF := lhd (show frE n d = if (d == 0 || !winB n (-1000000000) 1000000000 || !winB d (-1000000000) 1000000000) = true then 3 else 0 by
  unfold frE winB
  cases hF : frB n d
  ·have : ¬ (d ≠ 0 ∧ (-1000000000 ≤ n ∧ n ≤ 1000000000) ∧ (-1000000000 ≤ d ∧ d ≤ 1000000000)) := fun h => by rw [frB_iff.2 h] at hF; cases hF
   rw [if_neg (by simp), if_pos]
   simp
   omega
  ·have := frB_iff.1 hF
   rw [if_pos rfl, if_neg]
   simp
   omega)
 generalize frE n d = F at *
 unfold fvv
 by_cases c0 : d = 0
 ·have HQ := lhd (show F = 3 by rw [HF.out, if_pos]; simp [c0])
  subst c0
  clear HF
  go_enter Tryz.func30, Tryz.ntmps30
  go_wp2_with fail
  go_ret
  exact ⟨ret_int HQ.out.symm, (Below.refl _ _).alloc (Nat.le_refl _) _⟩
 have e0 : (d == 0) = false := f_beq c0
 have HN := lhd (fun w => HW.out n w)
 have HD := lhd (fun w => HW.out d w)
 rw [e0] at HF
 generalize winB n (-1000000000) 1000000000 = A at *
 generalize winB d (-1000000000) 1000000000 = D at *
 clear HW
 cases A
 ·have HQ := lhd (show F = 3 by rw [HF.out, if_pos]; simp)
  clear HF HD
  go_enter Tryz.func30, Tryz.ntmps30
  go_wp2_with fail
  refine (HN.out _).mono ?_
  rintro e w' ⟨rfl, m1, rfl⟩
  go_wp2_with fail
  go_ret
  exact ⟨ret_int HQ.out.symm, below_drewN ((Below.refl _ _).alloc (Nat.le_refl _) _) _⟩
 cases D
 ·have HQ := lhd (show F = 3 by rw [HF.out, if_pos]; simp)
  clear HF
  go_enter Tryz.func30, Tryz.ntmps30
  go_wp2_with fail
  refine (HN.out _).mono ?_
  rintro e w' ⟨rfl, m1, rfl⟩
  go_wp2_with fail
  refine (HD.out _).mono ?_
  rintro e w' ⟨rfl, m2, rfl⟩
  go_wp2_with fail
  go_ret
  exact ⟨ret_int HQ.out.symm, by first | exact below_drewN ((Below.refl _ _).alloc (Nat.le_refl _) _) _ | exact below_drewN (below_drewN ((Below.refl _ _).alloc (Nat.le_refl _) _) _) _⟩
 ·have HQ := lhd (show F = 0 by rw [HF.out, if_neg]; simp)
  clear HF
  go_enter Tryz.func30, Tryz.ntmps30
  go_wp2_with fail
  refine (HN.out _).mono ?_
  rintro e w' ⟨rfl, m1, rfl⟩
  go_wp2_with fail
  refine (HD.out _).mono ?_
  rintro e w' ⟨rfl, m2, rfl⟩
  go_wp2_with fail
  go_ret
  exact ⟨ret_int HQ.out.symm, by first | exact below_drewN ((Below.refl _ _).alloc (Nat.le_refl _) _) _ | exact below_drewN (below_drewN ((Below.refl _ _).alloc (Nat.le_refl _) _) _) _⟩
def okF (n0 e0 n1 e1 n2 e2 n3 e3 : Int) : Bool := ((frB n0 e0 && frB n1 e1) && frB n2 e2) && frB n3 e3
theorem idx4_0 (n0 e0 n1 e1 n2 e2 n3 e3 : Int) : ∀ w, Sem.run Tryz.prog (Instr.index 115 (.agg #[.int .i64 n0, .int .i64 e0, .int .i64 n1, .int .i64 e1, .int .i64 n2, .int .i64 e2, .int .i64 n3, .int .i64 e3]) (.int .i64 0)) w = .ok (.agg #[.int .i64 n0, .int .i64 e0]) w := fun w => by kernel_rfl
theorem idx4_1 (n0 e0 n1 e1 n2 e2 n3 e3 : Int) : ∀ w, Sem.run Tryz.prog (Instr.index 115 (.agg #[.int .i64 n0, .int .i64 e0, .int .i64 n1, .int .i64 e1, .int .i64 n2, .int .i64 e2, .int .i64 n3, .int .i64 e3]) (.int .i64 1)) w = .ok (.agg #[.int .i64 n1, .int .i64 e1]) w := fun w => by kernel_rfl
theorem idx4_2 (n0 e0 n1 e1 n2 e2 n3 e3 : Int) : ∀ w, Sem.run Tryz.prog (Instr.index 115 (.agg #[.int .i64 n0, .int .i64 e0, .int .i64 n1, .int .i64 e1, .int .i64 n2, .int .i64 e2, .int .i64 n3, .int .i64 e3]) (.int .i64 2)) w = .ok (.agg #[.int .i64 n2, .int .i64 e2]) w := fun w => by kernel_rfl
theorem idx4_3 (n0 e0 n1 e1 n2 e2 n3 e3 : Int) : ∀ w, Sem.run Tryz.prog (Instr.index 115 (.agg #[.int .i64 n0, .int .i64 e0, .int .i64 n1, .int .i64 e1, .int .i64 n2, .int .i64 e2, .int .i64 n3, .int .i64 e3]) (.int .i64 3)) w = .ok (.agg #[.int .i64 n3, .int .i64 e3]) w := fun w => by kernel_rfl
set_option maxHeartbeats 40000000 in
set_option maxRecDepth 100000 in
theorem qtableOf (n0 e0 n1 e1 n2 e2 n3 e3 : Int) (w : World) (hn0 : I64 n0) (he0 : I64 e0) (hn1 : I64 n1) (he1 : I64 e1) (hn2 : I64 n2) (he2 : I64 e2) (hn3 : I64 n3) (he3 : I64 e3) :
  Calls Tryz.prog 24 #[.agg #[.int .i64 n0, .int .i64 e0, .int .i64 n1, .int .i64 e1, .int .i64 n2, .int .i64 e2, .int .i64 n3, .int .i64 e3]] w fun r w' => ∃ v, r = .returned (.tuple #[v, .bool (okF n0 e0 n1 e1 n2 e2 n3 e3)]) ∧ VM n0 e0 n1 e1 n2 e2 n3 e3 v w' ∧ Below w.heap.size w w' := by
 have HV0 := lhd (fun w => validFrac_any n0 e0 w hn0 he0)
 have HR0 := lhd (fun w => qratOf n0 e0 w hn0 he0)
 have HV1 := lhd (fun w => validFrac_any n1 e1 w hn1 he1)
 have HR1 := lhd (fun w => qratOf n1 e1 w hn1 he1)
 have HV2 := lhd (fun w => validFrac_any n2 e2 w hn2 he2)
 have HR2 := lhd (fun w => qratOf n2 e2 w hn2 he2)
 have HV3 := lhd (fun w => validFrac_any n3 e3 w hn3 he3)
 have HR3 := lhd (fun w => qratOf n3 e3 w hn3 he3)
 have HO := lhd (show okF n0 e0 n1 e1 n2 e2 n3 e3 = (((frB n0 e0 && frB n1 e1) && frB n2 e2) && frB n3 e3) from rfl)
 generalize frB n0 e0 = f0 at *
 generalize frB n1 e1 = f1 at *
 generalize frB n2 e2 = f2 at *
 generalize frB n3 e3 = f3 at *
 generalize okF n0 e0 n1 e1 n2 e2 n3 e3 = OK at *
 clear hn0 he0 hn1 he1 hn2 he2 hn3 he3
 simp only [fvv] at HV0 HV1 HV2 HV3
 obtain ⟨ok, o0, o1, o2, o3, o4⟩ : ∃ ok : Nat → Bool, ok 0 = true ∧ ok 1 = f0 ∧ ok 2 = (f0 && f1) ∧ ok 3 = ((f0 && f1) && f2) ∧ ok 4 = (((f0 && f1) && f2) && f3) := ⟨fun k => match k with | 0 => true | 1 => f0 | 2 => (f0 && f1) | 3 => ((f0 && f1) && f2) | _ => (((f0 && f1) && f2) && f3), rfl, rfl, rfl, rfl, rfl⟩
 have HOk := lhd (show ok 1 = (ok 0 && f0) ∧ ok 2 = (ok 1 && f1) ∧ ok 3 = (ok 2 && f2) ∧ ok 4 = (ok 3 && f3) ∧ ok 4 = OK by rw [o0, o1, o2, o3, o4, HO.out]; simp)
 have HO0 := lhd o0; clear o0 o1 o2 o3 o4 HO
 go_enter Tryz.func24, Tryz.ntmps24
 go_upto_region 1 with fail
 obtain ⟨W0, hW0⟩ : ∃ W0 : World, W0 = ((w.alloc (.cells #[.int .i64 n0, .int .i64 e0, .int .i64 n1, .int .i64 e1, .int .i64 n2, .int .i64 e2, .int .i64 n3, .int .i64 e3] 27)).alloc (.cells zz8 63)) := ⟨_, rfl⟩
 rw [← hW0]
 have HB0 := lhd (show Bx w [(w.heap.size + 1, zz8), (w.heap.size, #[.int .i64 n0, .int .i64 e0, .int .i64 n1, .int .i64 e1, .int .i64 n2, .int .i64 e2, .int .i64 n3, .int .i64 e3])] W0 by rw [hW0]; simpa using (((Bx.nil (Below.refl w.heap.size w)).new #[.int .i64 n0, .int .i64 e0, .int .i64 n1, .int .i64 e1, .int .i64 n2, .int .i64 e2, .int .i64 n3, .int .i64 e3] 27).new zz8 63))
 have HNi := lhd (show NoIntAt W0 (w.heap.size + 1) by rw [hW0]; exact NoIntAt.new (w.alloc (.cells #[.int .i64 n0, .int .i64 e0, .int .i64 n1, .int .i64 e1, .int .i64 n2, .int .i64 e2, .int .i64 n3, .int .i64 e3] 27)) 63 (noint_list (by kernel_rfl)) (by simp))
 clear hW0
 obtain ⟨St, g0, g1, g2, g3, g4⟩ : ∃ St : Nat → World → Prop, (∀ wr, St 0 wr = (Bx w [(w.heap.size + 1, zz8), (w.heap.size, #[.int .i64 n0, .int .i64 e0, .int .i64 n1, .int .i64 e1, .int .i64 n2, .int .i64 e2, .int .i64 n3, .int .i64 e3])] wr ∧ NoIntAt wr (w.heap.size + 1) ∧ ICs wr [])) ∧ (∀ wr, St 1 wr = (∃ r0_0 r0_1 r0_2 r0_3, Bx w [(w.heap.size + 1, #[r0_0, r0_1, r0_2, r0_3, .bool false, .slice none 0 0, .bool false, .slice none 0 0, .bool false, .slice none 0 0, .bool false, .slice none 0 0, .bool false, .slice none 0 0, .bool false, .slice none 0 0]), (w.heap.size, #[.int .i64 n0, .int .i64 e0, .int .i64 n1, .int .i64 e1, .int .i64 n2, .int .i64 e2, .int .i64 n3, .int .i64 e3])] wr ∧ NoIntAt wr (w.heap.size + 1) ∧ ICs wr [(r0_0, r0_1, n0), (r0_2, r0_3, e0)])) ∧ (∀ wr, St 2 wr = (∃ r0_0 r0_1 r0_2 r0_3 r1_0 r1_1 r1_2 r1_3, Bx w [(w.heap.size + 1, #[r0_0, r0_1, r0_2, r0_3, r1_0, r1_1, r1_2, r1_3, .bool false, .slice none 0 0, .bool false, .slice none 0 0, .bool false, .slice none 0 0, .bool false, .slice none 0 0]), (w.heap.size, #[.int .i64 n0, .int .i64 e0, .int .i64 n1, .int .i64 e1, .int .i64 n2, .int .i64 e2, .int .i64 n3, .int .i64 e3])] wr ∧ NoIntAt wr (w.heap.size + 1) ∧ ICs wr [(r0_0, r0_1, n0), (r0_2, r0_3, e0), (r1_0, r1_1, n1), (r1_2, r1_3, e1)])) ∧ (∀ wr, St 3 wr = (∃ r0_0 r0_1 r0_2 r0_3 r1_0 r1_1 r1_2 r1_3 r2_0 r2_1 r2_2 r2_3, Bx w [(w.heap.size + 1, #[r0_0, r0_1, r0_2, r0_3, r1_0, r1_1, r1_2, r1_3, r2_0, r2_1, r2_2, r2_3, .bool false, .slice none 0 0, .bool false, .slice none 0 0]), (w.heap.size, #[.int .i64 n0, .int .i64 e0, .int .i64 n1, .int .i64 e1, .int .i64 n2, .int .i64 e2, .int .i64 n3, .int .i64 e3])] wr ∧ NoIntAt wr (w.heap.size + 1) ∧ ICs wr [(r0_0, r0_1, n0), (r0_2, r0_3, e0), (r1_0, r1_1, n1), (r1_2, r1_3, e1), (r2_0, r2_1, n2), (r2_2, r2_3, e2)])) ∧ (∀ wr, St 4 wr = (∃ r0_0 r0_1 r0_2 r0_3 r1_0 r1_1 r1_2 r1_3 r2_0 r2_1 r2_2 r2_3 r3_0 r3_1 r3_2 r3_3, Bx w [(w.heap.size + 1, #[r0_0, r0_1, r0_2, r0_3, r1_0, r1_1, r1_2, r1_3, r2_0, r2_1, r2_2, r2_3, r3_0, r3_1, r3_2, r3_3]), (w.heap.size, #[.int .i64 n0, .int .i64 e0, .int .i64 n1, .int .i64 e1, .int .i64 n2, .int .i64 e2, .int .i64 n3, .int .i64 e3])] wr ∧ NoIntAt wr (w.heap.size + 1) ∧ ICs wr [(r0_0, r0_1, n0), (r0_2, r0_3, e0), (r1_0, r1_1, n1), (r1_2, r1_3, e1), (r2_0, r2_1, n2), (r2_2, r2_3, e2), (r3_0, r3_1, n3), (r3_2, r3_3, e3)])) := ⟨fun k wr => match k with | 0 => (Bx w [(w.heap.size + 1, zz8), (w.heap.size, #[.int .i64 n0, .int .i64 e0, .int .i64 n1, .int .i64 e1, .int .i64 n2, .int .i64 e2, .int .i64 n3, .int .i64 e3])] wr ∧ NoIntAt wr (w.heap.size + 1) ∧ ICs wr []) | 1 => (∃ r0_0 r0_1 r0_2 r0_3, Bx w [(w.heap.size + 1, #[r0_0, r0_1, r0_2, r0_3, .bool false, .slice none 0 0, .bool false, .slice none 0 0, .bool false, .slice none 0 0, .bool false, .slice none 0 0, .bool false, .slice none 0 0, .bool false, .slice none 0 0]), (w.heap.size, #[.int .i64 n0, .int .i64 e0, .int .i64 n1, .int .i64 e1, .int .i64 n2, .int .i64 e2, .int .i64 n3, .int .i64 e3])] wr ∧ NoIntAt wr (w.heap.size + 1) ∧ ICs wr [(r0_0, r0_1, n0), (r0_2, r0_3, e0)]) | 2 => (∃ r0_0 r0_1 r0_2 r0_3 r1_0 r1_1 r1_2 r1_3, Bx w [(w.heap.size + 1, #[r0_0, r0_1, r0_2, r0_3, r1_0, r1_1, r1_2, r1_3, .bool false, .slice none 0 0, .bool false, .slice none 0 0, .bool false, .slice none 0 0, .bool false, .slice none 0 0]), (w.heap.size, #[.int .i64 n0, .int .i64 e0, .int .i64 n1, .int .i64 e1, .int .i64 n2, .int .i64 e2, .int .i64 n3, .int .i64 e3])] wr ∧ NoIntAt wr (w.heap.size + 1) ∧ ICs wr [(r0_0, r0_1, n0), (r0_2, r0_3, e0), (r1_0, r1_1, n1), (r1_2, r1_3, e1)]) | 3 => (∃ r0_0 r0_1 r0_2 r0_3 r1_0 r1_1 r1_2 r1_3 r2_0 r2_1 r2_2 r2_3, Bx w [(w.heap.size + 1, #[r0_0, r0_1, r0_2, r0_3, r1_0, r1_1, r1_2, r1_3, r2_0, r2_1, r2_2, r2_3, .bool false, .slice none 0 0, .bool false, .slice none 0 0]), (w.heap.size, #[.int .i64 n0, .int .i64 e0, .int .i64 n1, .int .i64 e1, .int .i64 n2, .int .i64 e2, .int .i64 n3, .int .i64 e3])] wr ∧ NoIntAt wr (w.heap.size + 1) ∧ ICs wr [(r0_0, r0_1, n0), (r0_2, r0_3, e0), (r1_0, r1_1, n1), (r1_2, r1_3, e1), (r2_0, r2_1, n2), (r2_2, r2_3, e2)]) | _ => (∃ r0_0 r0_1 r0_2 r0_3 r1_0 r1_1 r1_2 r1_3 r2_0 r2_1 r2_2 r2_3 r3_0 r3_1 r3_2 r3_3, Bx w [(w.heap.size + 1, #[r0_0, r0_1, r0_2, r0_3, r1_0, r1_1, r1_2, r1_3, r2_0, r2_1, r2_2, r2_3, r3_0, r3_1, r3_2, r3_3]), (w.heap.size, #[.int .i64 n0, .int .i64 e0, .int .i64 n1, .int .i64 e1, .int .i64 n2, .int .i64 e2, .int .i64 n3, .int .i64 e3])] wr ∧ NoIntAt wr (w.heap.size + 1) ∧ ICs wr [(r0_0, r0_1, n0), (r0_2, r0_3, e0), (r1_0, r1_1, n1), (r1_2, r1_3, e1), (r2_0, r2_1, n2), (r2_2, r2_3, e2), (r3_0, r3_1, n3), (r3_2, r3_3, e3)]), fun _ => rfl, fun _ => rfl, fun _ => rfl, fun _ => rfl, fun _ => rfl⟩
 have T0 := lhd g0; clear g0
 have T1 := lhd g1; clear g1
 have T2 := lhd g2; clear g2
 have T3 := lhd g3; clear g3
 have T4 := lhd g4; clear g4
 have q := fun (i : Nat) hi => (HB0.out.own _ lm1).2.2.1 i hi
 have q0 := q 0 (by simp)
 have q1 := q 1 (by simp)
 have q2 := q 2 (by simp)
 have q3 := q 3 (by simp)
 have q4 := q 4 (by simp)
 have q5 := q 5 (by simp)
 have q6 := q 6 (by simp)
 have q7 := q 7 (by simp)
 clear q
 simp only [List.getElem?_toArray, List.getElem?_cons_zero, List.getElem?_cons_succ] at q0 q1 q2 q3 q4 q5 q6 q7
 go_wp2_with fail
 clear q0 q1 q2 q3 q4 q5 q6 q7
 go_loopw [3, 15] (fun s3 s15 wr => ∃ k : Nat, s3 = .bool (ok k) ∧ s15 = .int .i64 k ∧ k ≤ 4 ∧ St k wr) (fun _ s _ => 4 - (intOf s).toNat)
 case atStart => exact ⟨0, by rw [HO0.out], rfl, by omega, by rw [T0.out]; exact ⟨HB0.out, HNi.out, trivial⟩⟩
 case round =>
  obtain ⟨k, rfl, rfl, hk, hst⟩ := hrel
  clear HB0 HNi
  by_cases k0 : k = 0
  ·subst k0
   rw [T0.out] at hst
   obtain ⟨hb, hn, hi⟩ := hst
   have HBa := lhd hb; have HNa := lhd hn; have HIa := lhd hi; clear hb hn hk hi
   have HKk := lhd (show ok 1 = (ok 0 && f0) from HOk.out.1)
   generalize ok 0 = b0 at *
   have hIx := idx4_0 n0 e0 n1 e1 n2 e2 n3 e3
   go_upto_region 5 with fail
   clear hIx
   obtain ⟨V, hV⟩ : ∃ V : World, V = wr.alloc (.cells #[.int .i64 n0, .int .i64 e0] 25) := ⟨_, rfl⟩
   rw [← hV]
   have HBb := lhd (show Bx w [(wr.heap.size, #[.int .i64 n0, .int .i64 e0]), (w.heap.size + 1, zz8), (w.heap.size, #[.int .i64 n0, .int .i64 e0, .int .i64 n1, .int .i64 e1, .int .i64 n2, .int .i64 e2, .int .i64 n3, .int .i64 e3])] V from hV ▸ HBa.out.new _ _)
   have hbv : Below wr.heap.size wr V := hV ▸ (Below.refl _ _).alloc (Nat.le_refl _) _
   have HNb := lhd (HNa.out.below (HBa.out.own _ lm0).2.1 hbv)
   have HIb := lhd ((Firm.ics _).below undef _ _ HIa.out hbv)
   have hlt := (HBa.out.own _ lm0).2.1; have hlt2 := (HBa.out.own _ lm1).2.1
   clear hV hbv HBa HNa HIa
   generalize wr.heap.size = BF at *
   obtain ⟨c0, c1⟩ := HBb.out.two lm0
   cases b0
   ·skip
    go_upto_region 6 with fail
    refine wp_region_full (w.heap.size) [(0, 24, VC (.int .i64 0)), (1, 25, VC (.int .i64 0)), (2, 26, VC (.int .i64 0)), (3, 27, VC (.int .i64 0)), (4, 28, VC (.agg #[.int .i64 n0, .int .i64 e0])), (5, 29, VR n0 e0), (6, 30, VC (.pointer (some ⟨w.heap.size + 1, 0, none⟩))), (7, 31, VC (.pointer (some ⟨w.heap.size + 1, 0, none⟩)))] [] [⟨BF, 999, 999, 999, #[.int .i64 n0, .int .i64 e0], fun v vs => v = .agg vs⟩, ⟨w.heap.size + 1, 8, 5, 29, zz8, fun v vs => ∃ xa0 xa1 xa2 xa3, v = .agg #[xa0, xa1, xa2, xa3] ∧ vs = #[xa0, xa1, xa2, xa3, .bool false, .slice none 0 0, .bool false, .slice none 0 0, .bool false, .slice none 0 0, .bool false, .slice none 0 0, .bool false, .slice none 0 0, .bool false, .slice none 0 0]⟩, ⟨w.heap.size, 999, 999, 999, #[.int .i64 n0, .int .i64 e0, .int .i64 n1, .int .i64 e1, .int .i64 n2, .int .i64 e2, .int .i64 n3, .int .i64 e3], fun v vs => v = .agg vs⟩] (fun W => ICs W []) [24, 25, 26, 27, 28, 29, 30, 31] ?_ (by kernel_rfl) (by kernel_rfl) (by kernel_rfl) (Firms.all (l := [(0, 24, VC (.int .i64 0)), (1, 25, VC (.int .i64 0)), (2, 26, VC (.int .i64 0)), (3, 27, VC (.int .i64 0)), (4, 28, VC (.agg #[.int .i64 n0, .int .i64 e0])), (5, 29, VR n0 e0), (6, 30, VC (.pointer (some ⟨w.heap.size + 1, 0, none⟩))), (7, 31, VC (.pointer (some ⟨w.heap.size + 1, 0, none⟩)))]) ⟨Firm.vc _, Firm.vc _, Firm.vc _, Firm.vc _, Firm.vc _, Firm.vr _ _, Firm.vc _, Firm.vc _, trivial⟩) (Firm.ics _) (HIb.out) ?_ ?_ ?_
    ·exact HBb.out.below.size
    ·intro c hc
     simp only [List.mem_cons, List.not_mem_nil, or_false] at hc
     rcases hc with rfl | rfl | rfl
     ·exact ⟨(HBb.out.own _ lm0).2, fun h => absurd rfl h⟩
     ·exact ⟨(HBb.out.own _ lm1).2, fun _ => HNb.out⟩
     ·exact ⟨(HBb.out.own _ lm2).2, fun h => absurd rfl h⟩
    ·refine forall_ops ⟨?_, ?_, ?_, ?_, ?_, ?_, ?_, ?_, ?_, trivial⟩
     ·exact FOk.val rfl rfl rfl rfl fun _ _ _ _ _ _ => .move rfl (fou (v := .int .i64 0)) rfl
     ·refine .inl ⟨.inl rfl, .inl ⟨by simp, by simp, fun y W hB hE hO hV K Q' hK => ?_⟩⟩
      have y24 : y 24 = .int .i64 0 := hV (0, 24, VC (.int .i64 0)) (word_get (by kernel_rfl)) (by kernel_rfl)
      simp only [fr, putAll, List.foldl_cons, List.foldl_nil, List.setIfInBounds_toArray, List.set_cons_zero, List.set_cons_succ] at hK ⊢
      simp only [y24] at hK ⊢
      go_simp
      exact hK (.int .i64 0) W (Below.refl _ _) (word_only (d := 25) (by kernel_rfl) (show VC _ _ W from rfl))
     ·exact FOk.val rfl rfl rfl rfl fun _ _ _ _ _ _ => .move rfl (fou (v := .int .i64 0)) rfl
     ·refine .inl ⟨.inl rfl, .inl ⟨by simp, by simp, fun y W hB hE hO hV K Q' hK => ?_⟩⟩
      have y26 : y 26 = .int .i64 0 := hV (2, 26, VC (.int .i64 0)) (word_get (by kernel_rfl)) (by kernel_rfl)
      simp only [fr, putAll, List.foldl_cons, List.foldl_nil, List.setIfInBounds_toArray, List.set_cons_zero, List.set_cons_succ] at hK ⊢
      simp only [y26] at hK ⊢
      go_simp
      exact hK (.int .i64 0) W (Below.refl _ _) (word_only (d := 27) (by kernel_rfl) (show VC _ _ W from rfl))
     ·exact FOk.val rfl rfl rfl rfl fun _ _ _ _ hO _ => .load (g := BF) (k := 0) (n := 2) rfl (fou (v := .pointer (some ⟨BF, 0, none⟩))) (hO _ lm0 rfl) (by simp) Tryz.underlying25 rfl (by kernel_rfl) rfl
     ·exact FOk.val rfl rfl rfl rfl fun _ W _ _ _ hV => .call Tryz.func67 (by kernel_rfl) rfl rfl rfl (map_one (fgt hV 4 rfl)) (HR0.out W)
     ·exact FOk.val rfl rfl rfl rfl fun _ _ _ _ _ hV => .indexAddr rfl (fou (v := .pointer (some ⟨w.heap.size + 1, 0, none⟩))) (fgt hV 1 rfl) (by kernel_rfl) rfl
     ·exact FOk.val rfl rfl rfl rfl fun _ _ _ _ _ hV => .indexAddr rfl (fgt hV 6 rfl) (fgt hV 3 rfl) (by kernel_rfl) rfl
     ·refine .inl ⟨.inl rfl, .inr (.inr (.inr ⟨rfl, word_none (by kernel_rfl), ?_, _, lm1, rfl, ?_, by simp, ?_, by kernel_rfl, fun y W hB hV hc hN K Q' hK => ?_⟩))⟩
      ·exact fun b hb => by simp at hb
      ·first | (with_reducible exact Nat.le_refl _) | assumption | omega | (simp; done)
      ·intro d hd
       simp only [List.mem_cons, List.not_mem_nil, or_false] at hd
       rcases hd with rfl | rfl | rfl
       ·exact ⟨fun h => absurd h (by simp), fun h => absurd h (by dsimp only; first | omega | assumption | exact Ne.symm (by assumption))⟩
       ·exact ⟨fun _ => rfl, fun _ => rfl⟩
       ·exact ⟨fun h => absurd h (by simp), fun h => absurd h (by dsimp only; first | omega | assumption | exact Ne.symm (by assumption))⟩
      have y31 : y 31 = .pointer (some ⟨w.heap.size + 1, 0, none⟩) := hV (7, 31, VC (.pointer (some ⟨w.heap.size + 1, 0, none⟩))) (word_get (by kernel_rfl)) (by kernel_rfl)
      obtain ⟨u29_0, u29_1, u29_2, u29_3, y29, i29⟩ : VR n0 e0 (y 29) W := hV (5, 29, VR n0 e0) (word_get (by kernel_rfl)) (by kernel_rfl)
      exact .stoR (k := 0) (us := #[u29_0, u29_1, u29_2, u29_3]) (vs := #[u29_0, u29_1, u29_2, u29_3, .bool false, .slice none 0 0, .bool false, .slice none 0 0, .bool false, .slice none 0 0, .bool false, .slice none 0 0, .bool false, .slice none 0 0, .bool false, .slice none 0 0]) rfl (fgt hV 7 rfl) ((fr_in (by kernel_rfl)).trans y29) (ICs.fit (l := [(_, _, _), (_, _, _)]) ⟨i29.1, i29.2, trivial⟩ rfl) hc hN rfl (Nat.le_of_ble_eq_true rfl) rfl (by kernel_rfl) fun W' hC hN' hO => hK W' ⟨⟨_, ⟨_, _, _, _, y29, rfl⟩, hC⟩, hN'⟩ hO
    intro y W1 hB hE hO hV hX hA
    have y24 : y 24 = .int .i64 0 := hV (0, 24, VC (.int .i64 0)) (word_get (by kernel_rfl))
    have y25 : y 25 = .int .i64 0 := hV (1, 25, VC (.int .i64 0)) (word_get (by kernel_rfl))
    have y26 : y 26 = .int .i64 0 := hV (2, 26, VC (.int .i64 0)) (word_get (by kernel_rfl))
    have y27 : y 27 = .int .i64 0 := hV (3, 27, VC (.int .i64 0)) (word_get (by kernel_rfl))
    have y28 : y 28 = .agg #[.int .i64 n0, .int .i64 e0] := hV (4, 28, VC (.agg #[.int .i64 n0, .int .i64 e0])) (word_get (by kernel_rfl))
    obtain ⟨u29_0, u29_1, u29_2, u29_3, y29, j29⟩ : VR n0 e0 (y 29) W1 := hV (5, 29, VR n0 e0) (word_get (by kernel_rfl))
    have J29 := lhd j29; clear j29
    have y30 : y 30 = .pointer (some ⟨w.heap.size + 1, 0, none⟩) := hV (6, 30, VC (.pointer (some ⟨w.heap.size + 1, 0, none⟩))) (word_get (by kernel_rfl))
    have y31 : y 31 = .pointer (some ⟨w.heap.size + 1, 0, none⟩) := hV (7, 31, VC (.pointer (some ⟨w.heap.size + 1, 0, none⟩))) (word_get (by kernel_rfl))
    have ho0 := (hO _ lm0).1 rfl
    dsimp only at ho0
    obtain ⟨⟨ov1, ⟨xa0, xa1, xa2, xa3, oe1, oz1⟩, ho1⟩, hno1⟩ := (hO _ lm1).2 (by simp)
    dsimp only at oe1 oz1 ho1
    subst oz1
    rw [y29] at oe1; simp only [Value.agg.injEq, Array.mk.injEq, List.cons.injEq, and_true] at oe1; obtain ⟨rfl, rfl, rfl, rfl⟩ := oe1
    have ho2 := (hO _ lm2).1 rfl
    dsimp only at ho2
    have HNo1 := lhd hno1; clear hno1
    dsimp only at HNo1
    have HB1 := lhd (show Bx w [(BF, #[.int .i64 n0, .int .i64 e0]), (w.heap.size + 1, #[u29_0, u29_1, u29_2, u29_3, .bool false, .slice none 0 0, .bool false, .slice none 0 0, .bool false, .slice none 0 0, .bool false, .slice none 0 0, .bool false, .slice none 0 0, .bool false, .slice none 0 0]), (w.heap.size, #[.int .i64 n0, .int .i64 e0, .int .i64 n1, .int .i64 e1, .int .i64 n2, .int .i64 e2, .int .i64 n3, .int .i64 e3])] W1 from ((((Bx.nil (HBb.out.below.trans hB)).cons (HBb.out.own _ lm2).1 ho2).cons (HBb.out.own _ lm1).1 ho1).cons (HBb.out.own _ lm0).1 ho0))
    have HE1 := lhd hE
    simp only [fr, putAll, List.foldl_cons, List.foldl_nil, List.setIfInBounds_toArray, List.set_cons_zero, List.set_cons_succ]
    simp only [y24, y25, y26, y27, y28, y29, y30, y31]
    clear y24 y25 y26 y27 y28 y29 y30 y31  hB hE hO hV hX hA ho0 ho1 ho2
    obtain ⟨j0, j1⟩ := J29.out
    have HI1 := lhd (show ICs W1 [(u29_0, u29_1, n0), (u29_2, u29_3, e0)] from ⟨j0, j1, trivial⟩)
    have HBc := lhd (show Bx w [(w.heap.size + 1, #[u29_0, u29_1, u29_2, u29_3, .bool false, .slice none 0 0, .bool false, .slice none 0 0, .bool false, .slice none 0 0, .bool false, .slice none 0 0, .bool false, .slice none 0 0, .bool false, .slice none 0 0]), (w.heap.size, #[.int .i64 n0, .int .i64 e0, .int .i64 n1, .int .i64 e1, .int .i64 n2, .int .i64 e2, .int .i64 n3, .int .i64 e3])] W1 from ⟨HB1.out.below, fun x hx => HB1.out.own x (List.mem_cons_of_mem _ hx)⟩)
    clear j0 j1 HE1 HB1
    go_wp2_with fail
    exact ⟨⟨1, by rw [HKk.out]; rfl, by first | rfl | go_num, by omega, by rw [T1.out]; exact ⟨_, _, _, _, HBc.out, HNo1.out, HI1.out⟩⟩, by simp [intOf]⟩
   ·go_wp2_with fail
    refine (HV0.out _).mono ?_
    rintro _ w5 ⟨rfl, hbb⟩
    have HBd := lhd (HBb.out.keep hbb)
    have HNd := lhd (HNb.out.below (HBb.out.own _ lm1).2.1 hbb)
    have HId := lhd ((Firm.ics _).below undef _ _ HIb.out hbb)
    clear hbb HBb HNb HIb c0 c1
    go_upto_region 6 with fail
    refine wp_region_full (w.heap.size) [(0, 24, VC (.int .i64 0)), (1, 25, VC (.int .i64 0)), (2, 26, VC (.int .i64 0)), (3, 27, VC (.int .i64 0)), (4, 28, VC (.agg #[.int .i64 n0, .int .i64 e0])), (5, 29, VR n0 e0), (6, 30, VC (.pointer (some ⟨w.heap.size + 1, 0, none⟩))), (7, 31, VC (.pointer (some ⟨w.heap.size + 1, 0, none⟩)))] [] [⟨BF, 999, 999, 999, #[.int .i64 n0, .int .i64 e0], fun v vs => v = .agg vs⟩, ⟨w.heap.size + 1, 8, 5, 29, zz8, fun v vs => ∃ xa0 xa1 xa2 xa3, v = .agg #[xa0, xa1, xa2, xa3] ∧ vs = #[xa0, xa1, xa2, xa3, .bool false, .slice none 0 0, .bool false, .slice none 0 0, .bool false, .slice none 0 0, .bool false, .slice none 0 0, .bool false, .slice none 0 0, .bool false, .slice none 0 0]⟩, ⟨w.heap.size, 999, 999, 999, #[.int .i64 n0, .int .i64 e0, .int .i64 n1, .int .i64 e1, .int .i64 n2, .int .i64 e2, .int .i64 n3, .int .i64 e3], fun v vs => v = .agg vs⟩] (fun W => ICs W []) [24, 25, 26, 27, 28, 29, 30, 31] ?_ (by kernel_rfl) (by kernel_rfl) (by kernel_rfl) (Firms.all (l := [(0, 24, VC (.int .i64 0)), (1, 25, VC (.int .i64 0)), (2, 26, VC (.int .i64 0)), (3, 27, VC (.int .i64 0)), (4, 28, VC (.agg #[.int .i64 n0, .int .i64 e0])), (5, 29, VR n0 e0), (6, 30, VC (.pointer (some ⟨w.heap.size + 1, 0, none⟩))), (7, 31, VC (.pointer (some ⟨w.heap.size + 1, 0, none⟩)))]) ⟨Firm.vc _, Firm.vc _, Firm.vc _, Firm.vc _, Firm.vc _, Firm.vr _ _, Firm.vc _, Firm.vc _, trivial⟩) (Firm.ics _) (HId.out) ?_ ?_ ?_
    ·exact HBd.out.below.size
    ·intro c hc
     simp only [List.mem_cons, List.not_mem_nil, or_false] at hc
     rcases hc with rfl | rfl | rfl
     ·exact ⟨(HBd.out.own _ lm0).2, fun h => absurd rfl h⟩
     ·exact ⟨(HBd.out.own _ lm1).2, fun _ => HNd.out⟩
     ·exact ⟨(HBd.out.own _ lm2).2, fun h => absurd rfl h⟩
    ·refine forall_ops ⟨?_, ?_, ?_, ?_, ?_, ?_, ?_, ?_, ?_, trivial⟩
     ·exact FOk.val rfl rfl rfl rfl fun _ _ _ _ _ _ => .move rfl (fou (v := .int .i64 0)) rfl
     ·refine .inl ⟨.inl rfl, .inl ⟨by simp, by simp, fun y W hB hE hO hV K Q' hK => ?_⟩⟩
      have y24 : y 24 = .int .i64 0 := hV (0, 24, VC (.int .i64 0)) (word_get (by kernel_rfl)) (by kernel_rfl)
      simp only [fr, putAll, List.foldl_cons, List.foldl_nil, List.setIfInBounds_toArray, List.set_cons_zero, List.set_cons_succ] at hK ⊢
      simp only [y24] at hK ⊢
      go_simp
      exact hK (.int .i64 0) W (Below.refl _ _) (word_only (d := 25) (by kernel_rfl) (show VC _ _ W from rfl))
     ·exact FOk.val rfl rfl rfl rfl fun _ _ _ _ _ _ => .move rfl (fou (v := .int .i64 0)) rfl
     ·refine .inl ⟨.inl rfl, .inl ⟨by simp, by simp, fun y W hB hE hO hV K Q' hK => ?_⟩⟩
      have y26 : y 26 = .int .i64 0 := hV (2, 26, VC (.int .i64 0)) (word_get (by kernel_rfl)) (by kernel_rfl)
      simp only [fr, putAll, List.foldl_cons, List.foldl_nil, List.setIfInBounds_toArray, List.set_cons_zero, List.set_cons_succ] at hK ⊢
      simp only [y26] at hK ⊢
      go_simp
      exact hK (.int .i64 0) W (Below.refl _ _) (word_only (d := 27) (by kernel_rfl) (show VC _ _ W from rfl))
     ·exact FOk.val rfl rfl rfl rfl fun _ _ _ _ hO _ => .load (g := BF) (k := 0) (n := 2) rfl (fou (v := .pointer (some ⟨BF, 0, none⟩))) (hO _ lm0 rfl) (by simp) Tryz.underlying25 rfl (by kernel_rfl) rfl
     ·exact FOk.val rfl rfl rfl rfl fun _ W _ _ _ hV => .call Tryz.func67 (by kernel_rfl) rfl rfl rfl (map_one (fgt hV 4 rfl)) (HR0.out W)
     ·exact FOk.val rfl rfl rfl rfl fun _ _ _ _ _ hV => .indexAddr rfl (fou (v := .pointer (some ⟨w.heap.size + 1, 0, none⟩))) (fgt hV 1 rfl) (by kernel_rfl) rfl
     ·exact FOk.val rfl rfl rfl rfl fun _ _ _ _ _ hV => .indexAddr rfl (fgt hV 6 rfl) (fgt hV 3 rfl) (by kernel_rfl) rfl
     ·refine .inl ⟨.inl rfl, .inr (.inr (.inr ⟨rfl, word_none (by kernel_rfl), ?_, _, lm1, rfl, ?_, by simp, ?_, by kernel_rfl, fun y W hB hV hc hN K Q' hK => ?_⟩))⟩
      ·exact fun b hb => by simp at hb
      ·first | (with_reducible exact Nat.le_refl _) | assumption | omega | (simp; done)
      ·intro d hd
       simp only [List.mem_cons, List.not_mem_nil, or_false] at hd
       rcases hd with rfl | rfl | rfl
       ·exact ⟨fun h => absurd h (by simp), fun h => absurd h (by dsimp only; first | omega | assumption | exact Ne.symm (by assumption))⟩
       ·exact ⟨fun _ => rfl, fun _ => rfl⟩
       ·exact ⟨fun h => absurd h (by simp), fun h => absurd h (by dsimp only; first | omega | assumption | exact Ne.symm (by assumption))⟩
      have y31 : y 31 = .pointer (some ⟨w.heap.size + 1, 0, none⟩) := hV (7, 31, VC (.pointer (some ⟨w.heap.size + 1, 0, none⟩))) (word_get (by kernel_rfl)) (by kernel_rfl)
      obtain ⟨u29_0, u29_1, u29_2, u29_3, y29, i29⟩ : VR n0 e0 (y 29) W := hV (5, 29, VR n0 e0) (word_get (by kernel_rfl)) (by kernel_rfl)
      exact .stoR (k := 0) (us := #[u29_0, u29_1, u29_2, u29_3]) (vs := #[u29_0, u29_1, u29_2, u29_3, .bool false, .slice none 0 0, .bool false, .slice none 0 0, .bool false, .slice none 0 0, .bool false, .slice none 0 0, .bool false, .slice none 0 0, .bool false, .slice none 0 0]) rfl (fgt hV 7 rfl) ((fr_in (by kernel_rfl)).trans y29) (ICs.fit (l := [(_, _, _), (_, _, _)]) ⟨i29.1, i29.2, trivial⟩ rfl) hc hN rfl (Nat.le_of_ble_eq_true rfl) rfl (by kernel_rfl) fun W' hC hN' hO => hK W' ⟨⟨_, ⟨_, _, _, _, y29, rfl⟩, hC⟩, hN'⟩ hO
    intro y W1 hB hE hO hV hX hA
    have y24 : y 24 = .int .i64 0 := hV (0, 24, VC (.int .i64 0)) (word_get (by kernel_rfl))
    have y25 : y 25 = .int .i64 0 := hV (1, 25, VC (.int .i64 0)) (word_get (by kernel_rfl))
    have y26 : y 26 = .int .i64 0 := hV (2, 26, VC (.int .i64 0)) (word_get (by kernel_rfl))
    have y27 : y 27 = .int .i64 0 := hV (3, 27, VC (.int .i64 0)) (word_get (by kernel_rfl))
    have y28 : y 28 = .agg #[.int .i64 n0, .int .i64 e0] := hV (4, 28, VC (.agg #[.int .i64 n0, .int .i64 e0])) (word_get (by kernel_rfl))
    obtain ⟨u29_0, u29_1, u29_2, u29_3, y29, j29⟩ : VR n0 e0 (y 29) W1 := hV (5, 29, VR n0 e0) (word_get (by kernel_rfl))
    have J29 := lhd j29; clear j29
    have y30 : y 30 = .pointer (some ⟨w.heap.size + 1, 0, none⟩) := hV (6, 30, VC (.pointer (some ⟨w.heap.size + 1, 0, none⟩))) (word_get (by kernel_rfl))
    have y31 : y 31 = .pointer (some ⟨w.heap.size + 1, 0, none⟩) := hV (7, 31, VC (.pointer (some ⟨w.heap.size + 1, 0, none⟩))) (word_get (by kernel_rfl))
    have ho0 := (hO _ lm0).1 rfl
    dsimp only at ho0
    obtain ⟨⟨ov1, ⟨xa0, xa1, xa2, xa3, oe1, oz1⟩, ho1⟩, hno1⟩ := (hO _ lm1).2 (by simp)
    dsimp only at oe1 oz1 ho1
    subst oz1
    rw [y29] at oe1; simp only [Value.agg.injEq, Array.mk.injEq, List.cons.injEq, and_true] at oe1; obtain ⟨rfl, rfl, rfl, rfl⟩ := oe1
    have ho2 := (hO _ lm2).1 rfl
    dsimp only at ho2
    have HNo1 := lhd hno1; clear hno1
    dsimp only at HNo1
    have HB1 := lhd (show Bx w [(BF, #[.int .i64 n0, .int .i64 e0]), (w.heap.size + 1, #[u29_0, u29_1, u29_2, u29_3, .bool false, .slice none 0 0, .bool false, .slice none 0 0, .bool false, .slice none 0 0, .bool false, .slice none 0 0, .bool false, .slice none 0 0, .bool false, .slice none 0 0]), (w.heap.size, #[.int .i64 n0, .int .i64 e0, .int .i64 n1, .int .i64 e1, .int .i64 n2, .int .i64 e2, .int .i64 n3, .int .i64 e3])] W1 from ((((Bx.nil (HBd.out.below.trans hB)).cons (HBd.out.own _ lm2).1 ho2).cons (HBd.out.own _ lm1).1 ho1).cons (HBd.out.own _ lm0).1 ho0))
    have HE1 := lhd hE
    simp only [fr, putAll, List.foldl_cons, List.foldl_nil, List.setIfInBounds_toArray, List.set_cons_zero, List.set_cons_succ]
    simp only [y24, y25, y26, y27, y28, y29, y30, y31]
    clear y24 y25 y26 y27 y28 y29 y30 y31  hB hE hO hV hX hA ho0 ho1 ho2
    obtain ⟨j0, j1⟩ := J29.out
    have HI1 := lhd (show ICs W1 [(u29_0, u29_1, n0), (u29_2, u29_3, e0)] from ⟨j0, j1, trivial⟩)
    have HBc := lhd (show Bx w [(w.heap.size + 1, #[u29_0, u29_1, u29_2, u29_3, .bool false, .slice none 0 0, .bool false, .slice none 0 0, .bool false, .slice none 0 0, .bool false, .slice none 0 0, .bool false, .slice none 0 0, .bool false, .slice none 0 0]), (w.heap.size, #[.int .i64 n0, .int .i64 e0, .int .i64 n1, .int .i64 e1, .int .i64 n2, .int .i64 e2, .int .i64 n3, .int .i64 e3])] W1 from ⟨HB1.out.below, fun x hx => HB1.out.own x (List.mem_cons_of_mem _ hx)⟩)
    clear j0 j1 HE1 HB1
    go_wp2_with fail
    exact ⟨⟨1, by rw [HKk.out]; rfl, by first | rfl | go_num, by omega, by rw [T1.out]; exact ⟨_, _, _, _, HBc.out, HNo1.out, HI1.out⟩⟩, by simp [intOf]⟩
  by_cases k1 : k = 1
  ·subst k1
   rw [T1.out] at hst
   obtain ⟨r0_0, r0_1, r0_2, r0_3, hb, hn, hi⟩ := hst
   have HBa := lhd hb; have HNa := lhd hn; have HIa := lhd hi; clear hb hn hk hi
   have HKk := lhd (show ok 2 = (ok 1 && f1) from HOk.out.2.1)
   generalize ok 1 = b0 at *
   have hIx := idx4_1 n0 e0 n1 e1 n2 e2 n3 e3
   go_upto_region 5 with fail
   clear hIx
   obtain ⟨V, hV⟩ : ∃ V : World, V = wr.alloc (.cells #[.int .i64 n1, .int .i64 e1] 25) := ⟨_, rfl⟩
   rw [← hV]
   have HBb := lhd (show Bx w [(wr.heap.size, #[.int .i64 n1, .int .i64 e1]), (w.heap.size + 1, #[r0_0, r0_1, r0_2, r0_3, .bool false, .slice none 0 0, .bool false, .slice none 0 0, .bool false, .slice none 0 0, .bool false, .slice none 0 0, .bool false, .slice none 0 0, .bool false, .slice none 0 0]), (w.heap.size, #[.int .i64 n0, .int .i64 e0, .int .i64 n1, .int .i64 e1, .int .i64 n2, .int .i64 e2, .int .i64 n3, .int .i64 e3])] V from hV ▸ HBa.out.new _ _)
   have hbv : Below wr.heap.size wr V := hV ▸ (Below.refl _ _).alloc (Nat.le_refl _) _
   have HNb := lhd (HNa.out.below (HBa.out.own _ lm0).2.1 hbv)
   have HIb := lhd ((Firm.ics _).below undef _ _ HIa.out hbv)
   have hlt := (HBa.out.own _ lm0).2.1; have hlt2 := (HBa.out.own _ lm1).2.1
   clear hV hbv HBa HNa HIa
   generalize wr.heap.size = BF at *
   obtain ⟨c0, c1⟩ := HBb.out.two lm0
   cases b0
   ·skip
    go_upto_region 6 with fail
    refine wp_region_full (w.heap.size) [(0, 24, VC (.int .i64 1)), (1, 25, VC (.int .i64 0)), (2, 26, VC (.int .i64 1)), (3, 27, VC (.int .i64 1)), (4, 28, VC (.agg #[.int .i64 n1, .int .i64 e1])), (5, 29, VR n1 e1), (6, 30, VC (.pointer (some ⟨w.heap.size + 1, 0, none⟩))), (7, 31, VC (.pointer (some ⟨w.heap.size + 1, 4, none⟩)))] [] [⟨BF, 999, 999, 999, #[.int .i64 n1, .int .i64 e1], fun v vs => v = .agg vs⟩, ⟨w.heap.size + 1, 8, 5, 29, #[r0_0, r0_1, r0_2, r0_3, .bool false, .slice none 0 0, .bool false, .slice none 0 0, .bool false, .slice none 0 0, .bool false, .slice none 0 0, .bool false, .slice none 0 0, .bool false, .slice none 0 0], fun v vs => ∃ xa0 xa1 xa2 xa3, v = .agg #[xa0, xa1, xa2, xa3] ∧ vs = #[r0_0, r0_1, r0_2, r0_3, xa0, xa1, xa2, xa3, .bool false, .slice none 0 0, .bool false, .slice none 0 0, .bool false, .slice none 0 0, .bool false, .slice none 0 0]⟩, ⟨w.heap.size, 999, 999, 999, #[.int .i64 n0, .int .i64 e0, .int .i64 n1, .int .i64 e1, .int .i64 n2, .int .i64 e2, .int .i64 n3, .int .i64 e3], fun v vs => v = .agg vs⟩] (fun W => ICs W [(r0_0, r0_1, n0), (r0_2, r0_3, e0)]) [24, 25, 26, 27, 28, 29, 30, 31] ?_ (by kernel_rfl) (by kernel_rfl) (by kernel_rfl) (Firms.all (l := [(0, 24, VC (.int .i64 1)), (1, 25, VC (.int .i64 0)), (2, 26, VC (.int .i64 1)), (3, 27, VC (.int .i64 1)), (4, 28, VC (.agg #[.int .i64 n1, .int .i64 e1])), (5, 29, VR n1 e1), (6, 30, VC (.pointer (some ⟨w.heap.size + 1, 0, none⟩))), (7, 31, VC (.pointer (some ⟨w.heap.size + 1, 4, none⟩)))]) ⟨Firm.vc _, Firm.vc _, Firm.vc _, Firm.vc _, Firm.vc _, Firm.vr _ _, Firm.vc _, Firm.vc _, trivial⟩) (Firm.ics _) (HIb.out) ?_ ?_ ?_
    ·exact HBb.out.below.size
    ·intro c hc
     simp only [List.mem_cons, List.not_mem_nil, or_false] at hc
     rcases hc with rfl | rfl | rfl
     ·exact ⟨(HBb.out.own _ lm0).2, fun h => absurd rfl h⟩
     ·exact ⟨(HBb.out.own _ lm1).2, fun _ => HNb.out⟩
     ·exact ⟨(HBb.out.own _ lm2).2, fun h => absurd rfl h⟩
    ·refine forall_ops ⟨?_, ?_, ?_, ?_, ?_, ?_, ?_, ?_, ?_, trivial⟩
     ·exact FOk.val rfl rfl rfl rfl fun _ _ _ _ _ _ => .move rfl (fou (v := .int .i64 1)) rfl
     ·refine .inl ⟨.inl rfl, .inl ⟨by simp, by simp, fun y W hB hE hO hV K Q' hK => ?_⟩⟩
      have y24 : y 24 = .int .i64 1 := hV (0, 24, VC (.int .i64 1)) (word_get (by kernel_rfl)) (by kernel_rfl)
      simp only [fr, putAll, List.foldl_cons, List.foldl_nil, List.setIfInBounds_toArray, List.set_cons_zero, List.set_cons_succ] at hK ⊢
      simp only [y24] at hK ⊢
      go_simp
      exact hK (.int .i64 0) W (Below.refl _ _) (word_only (d := 25) (by kernel_rfl) (show VC _ _ W from rfl))
     ·exact FOk.val rfl rfl rfl rfl fun _ _ _ _ _ _ => .move rfl (fou (v := .int .i64 1)) rfl
     ·refine .inl ⟨.inl rfl, .inl ⟨by simp, by simp, fun y W hB hE hO hV K Q' hK => ?_⟩⟩
      have y26 : y 26 = .int .i64 1 := hV (2, 26, VC (.int .i64 1)) (word_get (by kernel_rfl)) (by kernel_rfl)
      simp only [fr, putAll, List.foldl_cons, List.foldl_nil, List.setIfInBounds_toArray, List.set_cons_zero, List.set_cons_succ] at hK ⊢
      simp only [y26] at hK ⊢
      go_simp
      exact hK (.int .i64 1) W (Below.refl _ _) (word_only (d := 27) (by kernel_rfl) (show VC _ _ W from rfl))
     ·exact FOk.val rfl rfl rfl rfl fun _ _ _ _ hO _ => .load (g := BF) (k := 0) (n := 2) rfl (fou (v := .pointer (some ⟨BF, 0, none⟩))) (hO _ lm0 rfl) (by simp) Tryz.underlying25 rfl (by kernel_rfl) rfl
     ·exact FOk.val rfl rfl rfl rfl fun _ W _ _ _ hV => .call Tryz.func67 (by kernel_rfl) rfl rfl rfl (map_one (fgt hV 4 rfl)) (HR1.out W)
     ·exact FOk.val rfl rfl rfl rfl fun _ _ _ _ _ hV => .indexAddr rfl (fou (v := .pointer (some ⟨w.heap.size + 1, 0, none⟩))) (fgt hV 1 rfl) (by kernel_rfl) rfl
     ·exact FOk.val rfl rfl rfl rfl fun _ _ _ _ _ hV => .indexAddr rfl (fgt hV 6 rfl) (fgt hV 3 rfl) (by kernel_rfl) rfl
     ·refine .inl ⟨.inl rfl, .inr (.inr (.inr ⟨rfl, word_none (by kernel_rfl), ?_, _, lm1, rfl, ?_, by simp, ?_, by kernel_rfl, fun y W hB hV hc hN K Q' hK => ?_⟩))⟩
      ·exact fun b hb => by simp at hb
      ·first | (with_reducible exact Nat.le_refl _) | assumption | omega | (simp; done)
      ·intro d hd
       simp only [List.mem_cons, List.not_mem_nil, or_false] at hd
       rcases hd with rfl | rfl | rfl
       ·exact ⟨fun h => absurd h (by simp), fun h => absurd h (by dsimp only; first | omega | assumption | exact Ne.symm (by assumption))⟩
       ·exact ⟨fun _ => rfl, fun _ => rfl⟩
       ·exact ⟨fun h => absurd h (by simp), fun h => absurd h (by dsimp only; first | omega | assumption | exact Ne.symm (by assumption))⟩
      have y31 : y 31 = .pointer (some ⟨w.heap.size + 1, 4, none⟩) := hV (7, 31, VC (.pointer (some ⟨w.heap.size + 1, 4, none⟩))) (word_get (by kernel_rfl)) (by kernel_rfl)
      obtain ⟨u29_0, u29_1, u29_2, u29_3, y29, i29⟩ : VR n1 e1 (y 29) W := hV (5, 29, VR n1 e1) (word_get (by kernel_rfl)) (by kernel_rfl)
      exact .stoR (k := 4) (us := #[u29_0, u29_1, u29_2, u29_3]) (vs := #[r0_0, r0_1, r0_2, r0_3, u29_0, u29_1, u29_2, u29_3, .bool false, .slice none 0 0, .bool false, .slice none 0 0, .bool false, .slice none 0 0, .bool false, .slice none 0 0]) rfl (fgt hV 7 rfl) ((fr_in (by kernel_rfl)).trans y29) (ICs.fit (l := [(_, _, _), (_, _, _)]) ⟨i29.1, i29.2, trivial⟩ rfl) hc hN rfl (Nat.le_of_ble_eq_true rfl) rfl (by kernel_rfl) fun W' hC hN' hO => hK W' ⟨⟨_, ⟨_, _, _, _, y29, rfl⟩, hC⟩, hN'⟩ hO
    intro y W1 hB hE hO hV hX hA
    have y24 : y 24 = .int .i64 1 := hV (0, 24, VC (.int .i64 1)) (word_get (by kernel_rfl))
    have y25 : y 25 = .int .i64 0 := hV (1, 25, VC (.int .i64 0)) (word_get (by kernel_rfl))
    have y26 : y 26 = .int .i64 1 := hV (2, 26, VC (.int .i64 1)) (word_get (by kernel_rfl))
    have y27 : y 27 = .int .i64 1 := hV (3, 27, VC (.int .i64 1)) (word_get (by kernel_rfl))
    have y28 : y 28 = .agg #[.int .i64 n1, .int .i64 e1] := hV (4, 28, VC (.agg #[.int .i64 n1, .int .i64 e1])) (word_get (by kernel_rfl))
    obtain ⟨u29_0, u29_1, u29_2, u29_3, y29, j29⟩ : VR n1 e1 (y 29) W1 := hV (5, 29, VR n1 e1) (word_get (by kernel_rfl))
    have J29 := lhd j29; clear j29
    have y30 : y 30 = .pointer (some ⟨w.heap.size + 1, 0, none⟩) := hV (6, 30, VC (.pointer (some ⟨w.heap.size + 1, 0, none⟩))) (word_get (by kernel_rfl))
    have y31 : y 31 = .pointer (some ⟨w.heap.size + 1, 4, none⟩) := hV (7, 31, VC (.pointer (some ⟨w.heap.size + 1, 4, none⟩))) (word_get (by kernel_rfl))
    have ho0 := (hO _ lm0).1 rfl
    dsimp only at ho0
    obtain ⟨⟨ov1, ⟨xa0, xa1, xa2, xa3, oe1, oz1⟩, ho1⟩, hno1⟩ := (hO _ lm1).2 (by simp)
    dsimp only at oe1 oz1 ho1
    subst oz1
    rw [y29] at oe1; simp only [Value.agg.injEq, Array.mk.injEq, List.cons.injEq, and_true] at oe1; obtain ⟨rfl, rfl, rfl, rfl⟩ := oe1
    have ho2 := (hO _ lm2).1 rfl
    dsimp only at ho2
    have HNo1 := lhd hno1; clear hno1
    dsimp only at HNo1
    have HB1 := lhd (show Bx w [(BF, #[.int .i64 n1, .int .i64 e1]), (w.heap.size + 1, #[r0_0, r0_1, r0_2, r0_3, u29_0, u29_1, u29_2, u29_3, .bool false, .slice none 0 0, .bool false, .slice none 0 0, .bool false, .slice none 0 0, .bool false, .slice none 0 0]), (w.heap.size, #[.int .i64 n0, .int .i64 e0, .int .i64 n1, .int .i64 e1, .int .i64 n2, .int .i64 e2, .int .i64 n3, .int .i64 e3])] W1 from ((((Bx.nil (HBb.out.below.trans hB)).cons (HBb.out.own _ lm2).1 ho2).cons (HBb.out.own _ lm1).1 ho1).cons (HBb.out.own _ lm0).1 ho0))
    have HE1 := lhd hE
    simp only [fr, putAll, List.foldl_cons, List.foldl_nil, List.setIfInBounds_toArray, List.set_cons_zero, List.set_cons_succ]
    simp only [y24, y25, y26, y27, y28, y29, y30, y31]
    clear y24 y25 y26 y27 y28 y29 y30 y31  hB hE hO hV hX hA ho0 ho1 ho2
    obtain ⟨j0, j1⟩ := J29.out
    have HI1 := lhd (show ICs W1 [(r0_0, r0_1, n0), (r0_2, r0_3, e0), (u29_0, u29_1, n1), (u29_2, u29_3, e1)] from ⟨HE1.out.1, HE1.out.2.1, j0, j1, trivial⟩)
    have HBc := lhd (show Bx w [(w.heap.size + 1, #[r0_0, r0_1, r0_2, r0_3, u29_0, u29_1, u29_2, u29_3, .bool false, .slice none 0 0, .bool false, .slice none 0 0, .bool false, .slice none 0 0, .bool false, .slice none 0 0]), (w.heap.size, #[.int .i64 n0, .int .i64 e0, .int .i64 n1, .int .i64 e1, .int .i64 n2, .int .i64 e2, .int .i64 n3, .int .i64 e3])] W1 from ⟨HB1.out.below, fun x hx => HB1.out.own x (List.mem_cons_of_mem _ hx)⟩)
    clear j0 j1 HE1 HB1
    go_wp2_with fail
    exact ⟨⟨2, by rw [HKk.out]; rfl, by first | rfl | go_num, by omega, by rw [T2.out]; exact ⟨r0_0, r0_1, r0_2, r0_3, _, _, _, _, HBc.out, HNo1.out, HI1.out⟩⟩, by simp [intOf]⟩
   ·go_wp2_with fail
    refine (HV1.out _).mono ?_
    rintro _ w5 ⟨rfl, hbb⟩
    have HBd := lhd (HBb.out.keep hbb)
    have HNd := lhd (HNb.out.below (HBb.out.own _ lm1).2.1 hbb)
    have HId := lhd ((Firm.ics _).below undef _ _ HIb.out hbb)
    clear hbb HBb HNb HIb c0 c1
    go_upto_region 6 with fail
    refine wp_region_full (w.heap.size) [(0, 24, VC (.int .i64 1)), (1, 25, VC (.int .i64 0)), (2, 26, VC (.int .i64 1)), (3, 27, VC (.int .i64 1)), (4, 28, VC (.agg #[.int .i64 n1, .int .i64 e1])), (5, 29, VR n1 e1), (6, 30, VC (.pointer (some ⟨w.heap.size + 1, 0, none⟩))), (7, 31, VC (.pointer (some ⟨w.heap.size + 1, 4, none⟩)))] [] [⟨BF, 999, 999, 999, #[.int .i64 n1, .int .i64 e1], fun v vs => v = .agg vs⟩, ⟨w.heap.size + 1, 8, 5, 29, #[r0_0, r0_1, r0_2, r0_3, .bool false, .slice none 0 0, .bool false, .slice none 0 0, .bool false, .slice none 0 0, .bool false, .slice none 0 0, .bool false, .slice none 0 0, .bool false, .slice none 0 0], fun v vs => ∃ xa0 xa1 xa2 xa3, v = .agg #[xa0, xa1, xa2, xa3] ∧ vs = #[r0_0, r0_1, r0_2, r0_3, xa0, xa1, xa2, xa3, .bool false, .slice none 0 0, .bool false, .slice none 0 0, .bool false, .slice none 0 0, .bool false, .slice none 0 0]⟩, ⟨w.heap.size, 999, 999, 999, #[.int .i64 n0, .int .i64 e0, .int .i64 n1, .int .i64 e1, .int .i64 n2, .int .i64 e2, .int .i64 n3, .int .i64 e3], fun v vs => v = .agg vs⟩] (fun W => ICs W [(r0_0, r0_1, n0), (r0_2, r0_3, e0)]) [24, 25, 26, 27, 28, 29, 30, 31] ?_ (by kernel_rfl) (by kernel_rfl) (by kernel_rfl) (Firms.all (l := [(0, 24, VC (.int .i64 1)), (1, 25, VC (.int .i64 0)), (2, 26, VC (.int .i64 1)), (3, 27, VC (.int .i64 1)), (4, 28, VC (.agg #[.int .i64 n1, .int .i64 e1])), (5, 29, VR n1 e1), (6, 30, VC (.pointer (some ⟨w.heap.size + 1, 0, none⟩))), (7, 31, VC (.pointer (some ⟨w.heap.size + 1, 4, none⟩)))]) ⟨Firm.vc _, Firm.vc _, Firm.vc _, Firm.vc _, Firm.vc _, Firm.vr _ _, Firm.vc _, Firm.vc _, trivial⟩) (Firm.ics _) (HId.out) ?_ ?_ ?_
    ·exact HBd.out.below.size
    ·intro c hc
     simp only [List.mem_cons, List.not_mem_nil, or_false] at hc
     rcases hc with rfl | rfl | rfl
     ·exact ⟨(HBd.out.own _ lm0).2, fun h => absurd rfl h⟩
     ·exact ⟨(HBd.out.own _ lm1).2, fun _ => HNd.out⟩
     ·exact ⟨(HBd.out.own _ lm2).2, fun h => absurd rfl h⟩
    ·refine forall_ops ⟨?_, ?_, ?_, ?_, ?_, ?_, ?_, ?_, ?_, trivial⟩
     ·exact FOk.val rfl rfl rfl rfl fun _ _ _ _ _ _ => .move rfl (fou (v := .int .i64 1)) rfl
     ·refine .inl ⟨.inl rfl, .inl ⟨by simp, by simp, fun y W hB hE hO hV K Q' hK => ?_⟩⟩
      have y24 : y 24 = .int .i64 1 := hV (0, 24, VC (.int .i64 1)) (word_get (by kernel_rfl)) (by kernel_rfl)
      simp only [fr, putAll, List.foldl_cons, List.foldl_nil, List.setIfInBounds_toArray, List.set_cons_zero, List.set_cons_succ] at hK ⊢
      simp only [y24] at hK ⊢
      go_simp
      exact hK (.int .i64 0) W (Below.refl _ _) (word_only (d := 25) (by kernel_rfl) (show VC _ _ W from rfl))
     ·exact FOk.val rfl rfl rfl rfl fun _ _ _ _ _ _ => .move rfl (fou (v := .int .i64 1)) rfl
     ·refine .inl ⟨.inl rfl, .inl ⟨by simp, by simp, fun y W hB hE hO hV K Q' hK => ?_⟩⟩
      have y26 : y 26 = .int .i64 1 := hV (2, 26, VC (.int .i64 1)) (word_get (by kernel_rfl)) (by kernel_rfl)
      simp only [fr, putAll, List.foldl_cons, List.foldl_nil, List.setIfInBounds_toArray, List.set_cons_zero, List.set_cons_succ] at hK ⊢
      simp only [y26] at hK ⊢
      go_simp
      exact hK (.int .i64 1) W (Below.refl _ _) (word_only (d := 27) (by kernel_rfl) (show VC _ _ W from rfl))
     ·exact FOk.val rfl rfl rfl rfl fun _ _ _ _ hO _ => .load (g := BF) (k := 0) (n := 2) rfl (fou (v := .pointer (some ⟨BF, 0, none⟩))) (hO _ lm0 rfl) (by simp) Tryz.underlying25 rfl (by kernel_rfl) rfl
     ·exact FOk.val rfl rfl rfl rfl fun _ W _ _ _ hV => .call Tryz.func67 (by kernel_rfl) rfl rfl rfl (map_one (fgt hV 4 rfl)) (HR1.out W)
     ·exact FOk.val rfl rfl rfl rfl fun _ _ _ _ _ hV => .indexAddr rfl (fou (v := .pointer (some ⟨w.heap.size + 1, 0, none⟩))) (fgt hV 1 rfl) (by kernel_rfl) rfl
     ·exact FOk.val rfl rfl rfl rfl fun _ _ _ _ _ hV => .indexAddr rfl (fgt hV 6 rfl) (fgt hV 3 rfl) (by kernel_rfl) rfl
     ·refine .inl ⟨.inl rfl, .inr (.inr (.inr ⟨rfl, word_none (by kernel_rfl), ?_, _, lm1, rfl, ?_, by simp, ?_, by kernel_rfl, fun y W hB hV hc hN K Q' hK => ?_⟩))⟩
      ·exact fun b hb => by simp at hb
      ·first | (with_reducible exact Nat.le_refl _) | assumption | omega | (simp; done)
      ·intro d hd
       simp only [List.mem_cons, List.not_mem_nil, or_false] at hd
       rcases hd with rfl | rfl | rfl
       ·exact ⟨fun h => absurd h (by simp), fun h => absurd h (by dsimp only; first | omega | assumption | exact Ne.symm (by assumption))⟩
       ·exact ⟨fun _ => rfl, fun _ => rfl⟩
       ·exact ⟨fun h => absurd h (by simp), fun h => absurd h (by dsimp only; first | omega | assumption | exact Ne.symm (by assumption))⟩
      have y31 : y 31 = .pointer (some ⟨w.heap.size + 1, 4, none⟩) := hV (7, 31, VC (.pointer (some ⟨w.heap.size + 1, 4, none⟩))) (word_get (by kernel_rfl)) (by kernel_rfl)
      obtain ⟨u29_0, u29_1, u29_2, u29_3, y29, i29⟩ : VR n1 e1 (y 29) W := hV (5, 29, VR n1 e1) (word_get (by kernel_rfl)) (by kernel_rfl)
      exact .stoR (k := 4) (us := #[u29_0, u29_1, u29_2, u29_3]) (vs := #[r0_0, r0_1, r0_2, r0_3, u29_0, u29_1, u29_2, u29_3, .bool false, .slice none 0 0, .bool false, .slice none 0 0, .bool false, .slice none 0 0, .bool false, .slice none 0 0]) rfl (fgt hV 7 rfl) ((fr_in (by kernel_rfl)).trans y29) (ICs.fit (l := [(_, _, _), (_, _, _)]) ⟨i29.1, i29.2, trivial⟩ rfl) hc hN rfl (Nat.le_of_ble_eq_true rfl) rfl (by kernel_rfl) fun W' hC hN' hO => hK W' ⟨⟨_, ⟨_, _, _, _, y29, rfl⟩, hC⟩, hN'⟩ hO
    intro y W1 hB hE hO hV hX hA
    have y24 : y 24 = .int .i64 1 := hV (0, 24, VC (.int .i64 1)) (word_get (by kernel_rfl))
    have y25 : y 25 = .int .i64 0 := hV (1, 25, VC (.int .i64 0)) (word_get (by kernel_rfl))
    have y26 : y 26 = .int .i64 1 := hV (2, 26, VC (.int .i64 1)) (word_get (by kernel_rfl))
    have y27 : y 27 = .int .i64 1 := hV (3, 27, VC (.int .i64 1)) (word_get (by kernel_rfl))
    have y28 : y 28 = .agg #[.int .i64 n1, .int .i64 e1] := hV (4, 28, VC (.agg #[.int .i64 n1, .int .i64 e1])) (word_get (by kernel_rfl))
    obtain ⟨u29_0, u29_1, u29_2, u29_3, y29, j29⟩ : VR n1 e1 (y 29) W1 := hV (5, 29, VR n1 e1) (word_get (by kernel_rfl))
    have J29 := lhd j29; clear j29
    have y30 : y 30 = .pointer (some ⟨w.heap.size + 1, 0, none⟩) := hV (6, 30, VC (.pointer (some ⟨w.heap.size + 1, 0, none⟩))) (word_get (by kernel_rfl))
    have y31 : y 31 = .pointer (some ⟨w.heap.size + 1, 4, none⟩) := hV (7, 31, VC (.pointer (some ⟨w.heap.size + 1, 4, none⟩))) (word_get (by kernel_rfl))
    have ho0 := (hO _ lm0).1 rfl
    dsimp only at ho0
    obtain ⟨⟨ov1, ⟨xa0, xa1, xa2, xa3, oe1, oz1⟩, ho1⟩, hno1⟩ := (hO _ lm1).2 (by simp)
    dsimp only at oe1 oz1 ho1
    subst oz1
    rw [y29] at oe1; simp only [Value.agg.injEq, Array.mk.injEq, List.cons.injEq, and_true] at oe1; obtain ⟨rfl, rfl, rfl, rfl⟩ := oe1
    have ho2 := (hO _ lm2).1 rfl
    dsimp only at ho2
    have HNo1 := lhd hno1; clear hno1
    dsimp only at HNo1
    have HB1 := lhd (show Bx w [(BF, #[.int .i64 n1, .int .i64 e1]), (w.heap.size + 1, #[r0_0, r0_1, r0_2, r0_3, u29_0, u29_1, u29_2, u29_3, .bool false, .slice none 0 0, .bool false, .slice none 0 0, .bool false, .slice none 0 0, .bool false, .slice none 0 0]), (w.heap.size, #[.int .i64 n0, .int .i64 e0, .int .i64 n1, .int .i64 e1, .int .i64 n2, .int .i64 e2, .int .i64 n3, .int .i64 e3])] W1 from ((((Bx.nil (HBd.out.below.trans hB)).cons (HBd.out.own _ lm2).1 ho2).cons (HBd.out.own _ lm1).1 ho1).cons (HBd.out.own _ lm0).1 ho0))
    have HE1 := lhd hE
    simp only [fr, putAll, List.foldl_cons, List.foldl_nil, List.setIfInBounds_toArray, List.set_cons_zero, List.set_cons_succ]
    simp only [y24, y25, y26, y27, y28, y29, y30, y31]
    clear y24 y25 y26 y27 y28 y29 y30 y31  hB hE hO hV hX hA ho0 ho1 ho2
    obtain ⟨j0, j1⟩ := J29.out
    have HI1 := lhd (show ICs W1 [(r0_0, r0_1, n0), (r0_2, r0_3, e0), (u29_0, u29_1, n1), (u29_2, u29_3, e1)] from ⟨HE1.out.1, HE1.out.2.1, j0, j1, trivial⟩)
    have HBc := lhd (show Bx w [(w.heap.size + 1, #[r0_0, r0_1, r0_2, r0_3, u29_0, u29_1, u29_2, u29_3, .bool false, .slice none 0 0, .bool false, .slice none 0 0, .bool false, .slice none 0 0, .bool false, .slice none 0 0]), (w.heap.size, #[.int .i64 n0, .int .i64 e0, .int .i64 n1, .int .i64 e1, .int .i64 n2, .int .i64 e2, .int .i64 n3, .int .i64 e3])] W1 from ⟨HB1.out.below, fun x hx => HB1.out.own x (List.mem_cons_of_mem _ hx)⟩)
    clear j0 j1 HE1 HB1
    go_wp2_with fail
    exact ⟨⟨2, by rw [HKk.out]; rfl, by first | rfl | go_num, by omega, by rw [T2.out]; exact ⟨r0_0, r0_1, r0_2, r0_3, _, _, _, _, HBc.out, HNo1.out, HI1.out⟩⟩, by simp [intOf]⟩
  by_cases k2 : k = 2
  ·subst k2
   rw [T2.out] at hst
   obtain ⟨r0_0, r0_1, r0_2, r0_3, r1_0, r1_1, r1_2, r1_3, hb, hn, hi⟩ := hst
   have HBa := lhd hb; have HNa := lhd hn; have HIa := lhd hi; clear hb hn hk hi
   have HKk := lhd (show ok 3 = (ok 2 && f2) from HOk.out.2.2.1)
   generalize ok 2 = b0 at *
   have hIx := idx4_2 n0 e0 n1 e1 n2 e2 n3 e3
   go_upto_region 5 with fail
   clear hIx
   obtain ⟨V, hV⟩ : ∃ V : World, V = wr.alloc (.cells #[.int .i64 n2, .int .i64 e2] 25) := ⟨_, rfl⟩
   rw [← hV]
   have HBb := lhd (show Bx w [(wr.heap.size, #[.int .i64 n2, .int .i64 e2]), (w.heap.size + 1, #[r0_0, r0_1, r0_2, r0_3, r1_0, r1_1, r1_2, r1_3, .bool false, .slice none 0 0, .bool false, .slice none 0 0, .bool false, .slice none 0 0, .bool false, .slice none 0 0]), (w.heap.size, #[.int .i64 n0, .int .i64 e0, .int .i64 n1, .int .i64 e1, .int .i64 n2, .int .i64 e2, .int .i64 n3, .int .i64 e3])] V from hV ▸ HBa.out.new _ _)
   have hbv : Below wr.heap.size wr V := hV ▸ (Below.refl _ _).alloc (Nat.le_refl _) _
   have HNb := lhd (HNa.out.below (HBa.out.own _ lm0).2.1 hbv)
   have HIb := lhd ((Firm.ics _).below undef _ _ HIa.out hbv)
   have hlt := (HBa.out.own _ lm0).2.1; have hlt2 := (HBa.out.own _ lm1).2.1
   clear hV hbv HBa HNa HIa
   generalize wr.heap.size = BF at *
   obtain ⟨c0, c1⟩ := HBb.out.two lm0
   cases b0
   ·skip
    go_upto_region 6 with fail
    refine wp_region_full (w.heap.size) [(0, 24, VC (.int .i64 2)), (1, 25, VC (.int .i64 1)), (2, 26, VC (.int .i64 2)), (3, 27, VC (.int .i64 0)), (4, 28, VC (.agg #[.int .i64 n2, .int .i64 e2])), (5, 29, VR n2 e2), (6, 30, VC (.pointer (some ⟨w.heap.size + 1, 8, none⟩))), (7, 31, VC (.pointer (some ⟨w.heap.size + 1, 8, none⟩)))] [] [⟨BF, 999, 999, 999, #[.int .i64 n2, .int .i64 e2], fun v vs => v = .agg vs⟩, ⟨w.heap.size + 1, 8, 5, 29, #[r0_0, r0_1, r0_2, r0_3, r1_0, r1_1, r1_2, r1_3, .bool false, .slice none 0 0, .bool false, .slice none 0 0, .bool false, .slice none 0 0, .bool false, .slice none 0 0], fun v vs => ∃ xa0 xa1 xa2 xa3, v = .agg #[xa0, xa1, xa2, xa3] ∧ vs = #[r0_0, r0_1, r0_2, r0_3, r1_0, r1_1, r1_2, r1_3, xa0, xa1, xa2, xa3, .bool false, .slice none 0 0, .bool false, .slice none 0 0]⟩, ⟨w.heap.size, 999, 999, 999, #[.int .i64 n0, .int .i64 e0, .int .i64 n1, .int .i64 e1, .int .i64 n2, .int .i64 e2, .int .i64 n3, .int .i64 e3], fun v vs => v = .agg vs⟩] (fun W => ICs W [(r0_0, r0_1, n0), (r0_2, r0_3, e0), (r1_0, r1_1, n1), (r1_2, r1_3, e1)]) [24, 25, 26, 27, 28, 29, 30, 31] ?_ (by kernel_rfl) (by kernel_rfl) (by kernel_rfl) (Firms.all (l := [(0, 24, VC (.int .i64 2)), (1, 25, VC (.int .i64 1)), (2, 26, VC (.int .i64 2)), (3, 27, VC (.int .i64 0)), (4, 28, VC (.agg #[.int .i64 n2, .int .i64 e2])), (5, 29, VR n2 e2), (6, 30, VC (.pointer (some ⟨w.heap.size + 1, 8, none⟩))), (7, 31, VC (.pointer (some ⟨w.heap.size + 1, 8, none⟩)))]) ⟨Firm.vc _, Firm.vc _, Firm.vc _, Firm.vc _, Firm.vc _, Firm.vr _ _, Firm.vc _, Firm.vc _, trivial⟩) (Firm.ics _) (HIb.out) ?_ ?_ ?_
    ·exact HBb.out.below.size
    ·intro c hc
     simp only [List.mem_cons, List.not_mem_nil, or_false] at hc
     rcases hc with rfl | rfl | rfl
     ·exact ⟨(HBb.out.own _ lm0).2, fun h => absurd rfl h⟩
     ·exact ⟨(HBb.out.own _ lm1).2, fun _ => HNb.out⟩
     ·exact ⟨(HBb.out.own _ lm2).2, fun h => absurd rfl h⟩
    ·refine forall_ops ⟨?_, ?_, ?_, ?_, ?_, ?_, ?_, ?_, ?_, trivial⟩
     ·exact FOk.val rfl rfl rfl rfl fun _ _ _ _ _ _ => .move rfl (fou (v := .int .i64 2)) rfl
     ·refine .inl ⟨.inl rfl, .inl ⟨by simp, by simp, fun y W hB hE hO hV K Q' hK => ?_⟩⟩
      have y24 : y 24 = .int .i64 2 := hV (0, 24, VC (.int .i64 2)) (word_get (by kernel_rfl)) (by kernel_rfl)
      simp only [fr, putAll, List.foldl_cons, List.foldl_nil, List.setIfInBounds_toArray, List.set_cons_zero, List.set_cons_succ] at hK ⊢
      simp only [y24] at hK ⊢
      go_simp
      exact hK (.int .i64 1) W (Below.refl _ _) (word_only (d := 25) (by kernel_rfl) (show VC _ _ W from rfl))
     ·exact FOk.val rfl rfl rfl rfl fun _ _ _ _ _ _ => .move rfl (fou (v := .int .i64 2)) rfl
     ·refine .inl ⟨.inl rfl, .inl ⟨by simp, by simp, fun y W hB hE hO hV K Q' hK => ?_⟩⟩
      have y26 : y 26 = .int .i64 2 := hV (2, 26, VC (.int .i64 2)) (word_get (by kernel_rfl)) (by kernel_rfl)
      simp only [fr, putAll, List.foldl_cons, List.foldl_nil, List.setIfInBounds_toArray, List.set_cons_zero, List.set_cons_succ] at hK ⊢
      simp only [y26] at hK ⊢
      go_simp
      exact hK (.int .i64 0) W (Below.refl _ _) (word_only (d := 27) (by kernel_rfl) (show VC _ _ W from rfl))
     ·exact FOk.val rfl rfl rfl rfl fun _ _ _ _ hO _ => .load (g := BF) (k := 0) (n := 2) rfl (fou (v := .pointer (some ⟨BF, 0, none⟩))) (hO _ lm0 rfl) (by simp) Tryz.underlying25 rfl (by kernel_rfl) rfl
     ·exact FOk.val rfl rfl rfl rfl fun _ W _ _ _ hV => .call Tryz.func67 (by kernel_rfl) rfl rfl rfl (map_one (fgt hV 4 rfl)) (HR2.out W)
     ·exact FOk.val rfl rfl rfl rfl fun _ _ _ _ _ hV => .indexAddr rfl (fou (v := .pointer (some ⟨w.heap.size + 1, 0, none⟩))) (fgt hV 1 rfl) (by kernel_rfl) rfl
     ·exact FOk.val rfl rfl rfl rfl fun _ _ _ _ _ hV => .indexAddr rfl (fgt hV 6 rfl) (fgt hV 3 rfl) (by kernel_rfl) rfl
     ·refine .inl ⟨.inl rfl, .inr (.inr (.inr ⟨rfl, word_none (by kernel_rfl), ?_, _, lm1, rfl, ?_, by simp, ?_, by kernel_rfl, fun y W hB hV hc hN K Q' hK => ?_⟩))⟩
      ·exact fun b hb => by simp at hb
      ·first | (with_reducible exact Nat.le_refl _) | assumption | omega | (simp; done)
      ·intro d hd
       simp only [List.mem_cons, List.not_mem_nil, or_false] at hd
       rcases hd with rfl | rfl | rfl
       ·exact ⟨fun h => absurd h (by simp), fun h => absurd h (by dsimp only; first | omega | assumption | exact Ne.symm (by assumption))⟩
       ·exact ⟨fun _ => rfl, fun _ => rfl⟩
       ·exact ⟨fun h => absurd h (by simp), fun h => absurd h (by dsimp only; first | omega | assumption | exact Ne.symm (by assumption))⟩
      have y31 : y 31 = .pointer (some ⟨w.heap.size + 1, 8, none⟩) := hV (7, 31, VC (.pointer (some ⟨w.heap.size + 1, 8, none⟩))) (word_get (by kernel_rfl)) (by kernel_rfl)
      obtain ⟨u29_0, u29_1, u29_2, u29_3, y29, i29⟩ : VR n2 e2 (y 29) W := hV (5, 29, VR n2 e2) (word_get (by kernel_rfl)) (by kernel_rfl)
      exact .stoR (k := 8) (us := #[u29_0, u29_1, u29_2, u29_3]) (vs := #[r0_0, r0_1, r0_2, r0_3, r1_0, r1_1, r1_2, r1_3, u29_0, u29_1, u29_2, u29_3, .bool false, .slice none 0 0, .bool false, .slice none 0 0]) rfl (fgt hV 7 rfl) ((fr_in (by kernel_rfl)).trans y29) (ICs.fit (l := [(_, _, _), (_, _, _)]) ⟨i29.1, i29.2, trivial⟩ rfl) hc hN rfl (Nat.le_of_ble_eq_true rfl) rfl (by kernel_rfl) fun W' hC hN' hO => hK W' ⟨⟨_, ⟨_, _, _, _, y29, rfl⟩, hC⟩, hN'⟩ hO
    intro y W1 hB hE hO hV hX hA
    have y24 : y 24 = .int .i64 2 := hV (0, 24, VC (.int .i64 2)) (word_get (by kernel_rfl))
    have y25 : y 25 = .int .i64 1 := hV (1, 25, VC (.int .i64 1)) (word_get (by kernel_rfl))
    have y26 : y 26 = .int .i64 2 := hV (2, 26, VC (.int .i64 2)) (word_get (by kernel_rfl))
    have y27 : y 27 = .int .i64 0 := hV (3, 27, VC (.int .i64 0)) (word_get (by kernel_rfl))
    have y28 : y 28 = .agg #[.int .i64 n2, .int .i64 e2] := hV (4, 28, VC (.agg #[.int .i64 n2, .int .i64 e2])) (word_get (by kernel_rfl))
    obtain ⟨u29_0, u29_1, u29_2, u29_3, y29, j29⟩ : VR n2 e2 (y 29) W1 := hV (5, 29, VR n2 e2) (word_get (by kernel_rfl))
    have J29 := lhd j29; clear j29
    have y30 : y 30 = .pointer (some ⟨w.heap.size + 1, 8, none⟩) := hV (6, 30, VC (.pointer (some ⟨w.heap.size + 1, 8, none⟩))) (word_get (by kernel_rfl))
    have y31 : y 31 = .pointer (some ⟨w.heap.size + 1, 8, none⟩) := hV (7, 31, VC (.pointer (some ⟨w.heap.size + 1, 8, none⟩))) (word_get (by kernel_rfl))
    have ho0 := (hO _ lm0).1 rfl
    dsimp only at ho0
    obtain ⟨⟨ov1, ⟨xa0, xa1, xa2, xa3, oe1, oz1⟩, ho1⟩, hno1⟩ := (hO _ lm1).2 (by simp)
    dsimp only at oe1 oz1 ho1
    subst oz1
    rw [y29] at oe1; simp only [Value.agg.injEq, Array.mk.injEq, List.cons.injEq, and_true] at oe1; obtain ⟨rfl, rfl, rfl, rfl⟩ := oe1
    have ho2 := (hO _ lm2).1 rfl
    dsimp only at ho2
    have HNo1 := lhd hno1; clear hno1
    dsimp only at HNo1
    have HB1 := lhd (show Bx w [(BF, #[.int .i64 n2, .int .i64 e2]), (w.heap.size + 1, #[r0_0, r0_1, r0_2, r0_3, r1_0, r1_1, r1_2, r1_3, u29_0, u29_1, u29_2, u29_3, .bool false, .slice none 0 0, .bool false, .slice none 0 0]), (w.heap.size, #[.int .i64 n0, .int .i64 e0, .int .i64 n1, .int .i64 e1, .int .i64 n2, .int .i64 e2, .int .i64 n3, .int .i64 e3])] W1 from ((((Bx.nil (HBb.out.below.trans hB)).cons (HBb.out.own _ lm2).1 ho2).cons (HBb.out.own _ lm1).1 ho1).cons (HBb.out.own _ lm0).1 ho0))
    have HE1 := lhd hE
    simp only [fr, putAll, List.foldl_cons, List.foldl_nil, List.setIfInBounds_toArray, List.set_cons_zero, List.set_cons_succ]
    simp only [y24, y25, y26, y27, y28, y29, y30, y31]
    clear y24 y25 y26 y27 y28 y29 y30 y31  hB hE hO hV hX hA ho0 ho1 ho2
    obtain ⟨j0, j1⟩ := J29.out
    have HI1 := lhd (show ICs W1 [(r0_0, r0_1, n0), (r0_2, r0_3, e0), (r1_0, r1_1, n1), (r1_2, r1_3, e1), (u29_0, u29_1, n2), (u29_2, u29_3, e2)] from ⟨HE1.out.1, HE1.out.2.1, HE1.out.2.2.1, HE1.out.2.2.2.1, j0, j1, trivial⟩)
    have HBc := lhd (show Bx w [(w.heap.size + 1, #[r0_0, r0_1, r0_2, r0_3, r1_0, r1_1, r1_2, r1_3, u29_0, u29_1, u29_2, u29_3, .bool false, .slice none 0 0, .bool false, .slice none 0 0]), (w.heap.size, #[.int .i64 n0, .int .i64 e0, .int .i64 n1, .int .i64 e1, .int .i64 n2, .int .i64 e2, .int .i64 n3, .int .i64 e3])] W1 from ⟨HB1.out.below, fun x hx => HB1.out.own x (List.mem_cons_of_mem _ hx)⟩)
    clear j0 j1 HE1 HB1
    go_wp2_with fail
    exact ⟨⟨3, by rw [HKk.out]; rfl, by first | rfl | go_num, by omega, by rw [T3.out]; exact ⟨r0_0, r0_1, r0_2, r0_3, r1_0, r1_1, r1_2, r1_3, _, _, _, _, HBc.out, HNo1.out, HI1.out⟩⟩, by simp [intOf]⟩
   ·go_wp2_with fail
    refine (HV2.out _).mono ?_
    rintro _ w5 ⟨rfl, hbb⟩
    have HBd := lhd (HBb.out.keep hbb)
    have HNd := lhd (HNb.out.below (HBb.out.own _ lm1).2.1 hbb)
    have HId := lhd ((Firm.ics _).below undef _ _ HIb.out hbb)
    clear hbb HBb HNb HIb c0 c1
    go_upto_region 6 with fail
    refine wp_region_full (w.heap.size) [(0, 24, VC (.int .i64 2)), (1, 25, VC (.int .i64 1)), (2, 26, VC (.int .i64 2)), (3, 27, VC (.int .i64 0)), (4, 28, VC (.agg #[.int .i64 n2, .int .i64 e2])), (5, 29, VR n2 e2), (6, 30, VC (.pointer (some ⟨w.heap.size + 1, 8, none⟩))), (7, 31, VC (.pointer (some ⟨w.heap.size + 1, 8, none⟩)))] [] [⟨BF, 999, 999, 999, #[.int .i64 n2, .int .i64 e2], fun v vs => v = .agg vs⟩, ⟨w.heap.size + 1, 8, 5, 29, #[r0_0, r0_1, r0_2, r0_3, r1_0, r1_1, r1_2, r1_3, .bool false, .slice none 0 0, .bool false, .slice none 0 0, .bool false, .slice none 0 0, .bool false, .slice none 0 0], fun v vs => ∃ xa0 xa1 xa2 xa3, v = .agg #[xa0, xa1, xa2, xa3] ∧ vs = #[r0_0, r0_1, r0_2, r0_3, r1_0, r1_1, r1_2, r1_3, xa0, xa1, xa2, xa3, .bool false, .slice none 0 0, .bool false, .slice none 0 0]⟩, ⟨w.heap.size, 999, 999, 999, #[.int .i64 n0, .int .i64 e0, .int .i64 n1, .int .i64 e1, .int .i64 n2, .int .i64 e2, .int .i64 n3, .int .i64 e3], fun v vs => v = .agg vs⟩] (fun W => ICs W [(r0_0, r0_1, n0), (r0_2, r0_3, e0), (r1_0, r1_1, n1), (r1_2, r1_3, e1)]) [24, 25, 26, 27, 28, 29, 30, 31] ?_ (by kernel_rfl) (by kernel_rfl) (by kernel_rfl) (Firms.all (l := [(0, 24, VC (.int .i64 2)), (1, 25, VC (.int .i64 1)), (2, 26, VC (.int .i64 2)), (3, 27, VC (.int .i64 0)), (4, 28, VC (.agg #[.int .i64 n2, .int .i64 e2])), (5, 29, VR n2 e2), (6, 30, VC (.pointer (some ⟨w.heap.size + 1, 8, none⟩))), (7, 31, VC (.pointer (some ⟨w.heap.size + 1, 8, none⟩)))]) ⟨Firm.vc _, Firm.vc _, Firm.vc _, Firm.vc _, Firm.vc _, Firm.vr _ _, Firm.vc _, Firm.vc _, trivial⟩) (Firm.ics _) (HId.out) ?_ ?_ ?_
    ·exact HBd.out.below.size
    ·intro c hc
     simp only [List.mem_cons, List.not_mem_nil, or_false] at hc
     rcases hc with rfl | rfl | rfl
     ·exact ⟨(HBd.out.own _ lm0).2, fun h => absurd rfl h⟩
     ·exact ⟨(HBd.out.own _ lm1).2, fun _ => HNd.out⟩
     ·exact ⟨(HBd.out.own _ lm2).2, fun h => absurd rfl h⟩
    ·refine forall_ops ⟨?_, ?_, ?_, ?_, ?_, ?_, ?_, ?_, ?_, trivial⟩
     ·exact FOk.val rfl rfl rfl rfl fun _ _ _ _ _ _ => .move rfl (fou (v := .int .i64 2)) rfl
     ·refine .inl ⟨.inl rfl, .inl ⟨by simp, by simp, fun y W hB hE hO hV K Q' hK => ?_⟩⟩
      have y24 : y 24 = .int .i64 2 := hV (0, 24, VC (.int .i64 2)) (word_get (by kernel_rfl)) (by kernel_rfl)
      simp only [fr, putAll, List.foldl_cons, List.foldl_nil, List.setIfInBounds_toArray, List.set_cons_zero, List.set_cons_succ] at hK ⊢
      simp only [y24] at hK ⊢
      go_simp
      exact hK (.int .i64 1) W (Below.refl _ _) (word_only (d := 25) (by kernel_rfl) (show VC _ _ W from rfl))
     ·exact FOk.val rfl rfl rfl rfl fun _ _ _ _ _ _ => .move rfl (fou (v := .int .i64 2)) rfl
     ·refine .inl ⟨.inl rfl, .inl ⟨by simp, by simp, fun y W hB hE hO hV K Q' hK => ?_⟩⟩
      have y26 : y 26 = .int .i64 2 := hV (2, 26, VC (.int .i64 2)) (word_get (by kernel_rfl)) (by kernel_rfl)
      simp only [fr, putAll, List.foldl_cons, List.foldl_nil, List.setIfInBounds_toArray, List.set_cons_zero, List.set_cons_succ] at hK ⊢
      simp only [y26] at hK ⊢
      go_simp
      exact hK (.int .i64 0) W (Below.refl _ _) (word_only (d := 27) (by kernel_rfl) (show VC _ _ W from rfl))
     ·exact FOk.val rfl rfl rfl rfl fun _ _ _ _ hO _ => .load (g := BF) (k := 0) (n := 2) rfl (fou (v := .pointer (some ⟨BF, 0, none⟩))) (hO _ lm0 rfl) (by simp) Tryz.underlying25 rfl (by kernel_rfl) rfl
     ·exact FOk.val rfl rfl rfl rfl fun _ W _ _ _ hV => .call Tryz.func67 (by kernel_rfl) rfl rfl rfl (map_one (fgt hV 4 rfl)) (HR2.out W)
     ·exact FOk.val rfl rfl rfl rfl fun _ _ _ _ _ hV => .indexAddr rfl (fou (v := .pointer (some ⟨w.heap.size + 1, 0, none⟩))) (fgt hV 1 rfl) (by kernel_rfl) rfl
     ·exact FOk.val rfl rfl rfl rfl fun _ _ _ _ _ hV => .indexAddr rfl (fgt hV 6 rfl) (fgt hV 3 rfl) (by kernel_rfl) rfl
     ·refine .inl ⟨.inl rfl, .inr (.inr (.inr ⟨rfl, word_none (by kernel_rfl), ?_, _, lm1, rfl, ?_, by simp, ?_, by kernel_rfl, fun y W hB hV hc hN K Q' hK => ?_⟩))⟩
      ·exact fun b hb => by simp at hb
      ·first | (with_reducible exact Nat.le_refl _) | assumption | omega | (simp; done)
      ·intro d hd
       simp only [List.mem_cons, List.not_mem_nil, or_false] at hd
       rcases hd with rfl | rfl | rfl
       ·exact ⟨fun h => absurd h (by simp), fun h => absurd h (by dsimp only; first | omega | assumption | exact Ne.symm (by assumption))⟩
       ·exact ⟨fun _ => rfl, fun _ => rfl⟩
       ·exact ⟨fun h => absurd h (by simp), fun h => absurd h (by dsimp only; first | omega | assumption | exact Ne.symm (by assumption))⟩
      have y31 : y 31 = .pointer (some ⟨w.heap.size + 1, 8, none⟩) := hV (7, 31, VC (.pointer (some ⟨w.heap.size + 1, 8, none⟩))) (word_get (by kernel_rfl)) (by kernel_rfl)
      obtain ⟨u29_0, u29_1, u29_2, u29_3, y29, i29⟩ : VR n2 e2 (y 29) W := hV (5, 29, VR n2 e2) (word_get (by kernel_rfl)) (by kernel_rfl)
      exact .stoR (k := 8) (us := #[u29_0, u29_1, u29_2, u29_3]) (vs := #[r0_0, r0_1, r0_2, r0_3, r1_0, r1_1, r1_2, r1_3, u29_0, u29_1, u29_2, u29_3, .bool false, .slice none 0 0, .bool false, .slice none 0 0]) rfl (fgt hV 7 rfl) ((fr_in (by kernel_rfl)).trans y29) (ICs.fit (l := [(_, _, _), (_, _, _)]) ⟨i29.1, i29.2, trivial⟩ rfl) hc hN rfl (Nat.le_of_ble_eq_true rfl) rfl (by kernel_rfl) fun W' hC hN' hO => hK W' ⟨⟨_, ⟨_, _, _, _, y29, rfl⟩, hC⟩, hN'⟩ hO
    intro y W1 hB hE hO hV hX hA
    have y24 : y 24 = .int .i64 2 := hV (0, 24, VC (.int .i64 2)) (word_get (by kernel_rfl))
    have y25 : y 25 = .int .i64 1 := hV (1, 25, VC (.int .i64 1)) (word_get (by kernel_rfl))
    have y26 : y 26 = .int .i64 2 := hV (2, 26, VC (.int .i64 2)) (word_get (by kernel_rfl))
    have y27 : y 27 = .int .i64 0 := hV (3, 27, VC (.int .i64 0)) (word_get (by kernel_rfl))
    have y28 : y 28 = .agg #[.int .i64 n2, .int .i64 e2] := hV (4, 28, VC (.agg #[.int .i64 n2, .int .i64 e2])) (word_get (by kernel_rfl))
    obtain ⟨u29_0, u29_1, u29_2, u29_3, y29, j29⟩ : VR n2 e2 (y 29) W1 := hV (5, 29, VR n2 e2) (word_get (by kernel_rfl))
    have J29 := lhd j29; clear j29
    have y30 : y 30 = .pointer (some ⟨w.heap.size + 1, 8, none⟩) := hV (6, 30, VC (.pointer (some ⟨w.heap.size + 1, 8, none⟩))) (word_get (by kernel_rfl))
    have y31 : y 31 = .pointer (some ⟨w.heap.size + 1, 8, none⟩) := hV (7, 31, VC (.pointer (some ⟨w.heap.size + 1, 8, none⟩))) (word_get (by kernel_rfl))
    have ho0 := (hO _ lm0).1 rfl
    dsimp only at ho0
    obtain ⟨⟨ov1, ⟨xa0, xa1, xa2, xa3, oe1, oz1⟩, ho1⟩, hno1⟩ := (hO _ lm1).2 (by simp)
    dsimp only at oe1 oz1 ho1
    subst oz1
    rw [y29] at oe1; simp only [Value.agg.injEq, Array.mk.injEq, List.cons.injEq, and_true] at oe1; obtain ⟨rfl, rfl, rfl, rfl⟩ := oe1
    have ho2 := (hO _ lm2).1 rfl
    dsimp only at ho2
    have HNo1 := lhd hno1; clear hno1
    dsimp only at HNo1
    have HB1 := lhd (show Bx w [(BF, #[.int .i64 n2, .int .i64 e2]), (w.heap.size + 1, #[r0_0, r0_1, r0_2, r0_3, r1_0, r1_1, r1_2, r1_3, u29_0, u29_1, u29_2, u29_3, .bool false, .slice none 0 0, .bool false, .slice none 0 0]), (w.heap.size, #[.int .i64 n0, .int .i64 e0, .int .i64 n1, .int .i64 e1, .int .i64 n2, .int .i64 e2, .int .i64 n3, .int .i64 e3])] W1 from ((((Bx.nil (HBd.out.below.trans hB)).cons (HBd.out.own _ lm2).1 ho2).cons (HBd.out.own _ lm1).1 ho1).cons (HBd.out.own _ lm0).1 ho0))
    have HE1 := lhd hE
    simp only [fr, putAll, List.foldl_cons, List.foldl_nil, List.setIfInBounds_toArray, List.set_cons_zero, List.set_cons_succ]
    simp only [y24, y25, y26, y27, y28, y29, y30, y31]
    clear y24 y25 y26 y27 y28 y29 y30 y31  hB hE hO hV hX hA ho0 ho1 ho2
    obtain ⟨j0, j1⟩ := J29.out
    have HI1 := lhd (show ICs W1 [(r0_0, r0_1, n0), (r0_2, r0_3, e0), (r1_0, r1_1, n1), (r1_2, r1_3, e1), (u29_0, u29_1, n2), (u29_2, u29_3, e2)] from ⟨HE1.out.1, HE1.out.2.1, HE1.out.2.2.1, HE1.out.2.2.2.1, j0, j1, trivial⟩)
    have HBc := lhd (show Bx w [(w.heap.size + 1, #[r0_0, r0_1, r0_2, r0_3, r1_0, r1_1, r1_2, r1_3, u29_0, u29_1, u29_2, u29_3, .bool false, .slice none 0 0, .bool false, .slice none 0 0]), (w.heap.size, #[.int .i64 n0, .int .i64 e0, .int .i64 n1, .int .i64 e1, .int .i64 n2, .int .i64 e2, .int .i64 n3, .int .i64 e3])] W1 from ⟨HB1.out.below, fun x hx => HB1.out.own x (List.mem_cons_of_mem _ hx)⟩)
    clear j0 j1 HE1 HB1
    go_wp2_with fail
    exact ⟨⟨3, by rw [HKk.out]; rfl, by first | rfl | go_num, by omega, by rw [T3.out]; exact ⟨r0_0, r0_1, r0_2, r0_3, r1_0, r1_1, r1_2, r1_3, _, _, _, _, HBc.out, HNo1.out, HI1.out⟩⟩, by simp [intOf]⟩
  by_cases k3 : k = 3
  ·subst k3
   rw [T3.out] at hst
   obtain ⟨r0_0, r0_1, r0_2, r0_3, r1_0, r1_1, r1_2, r1_3, r2_0, r2_1, r2_2, r2_3, hb, hn, hi⟩ := hst
   have HBa := lhd hb; have HNa := lhd hn; have HIa := lhd hi; clear hb hn hk hi
   have HKk := lhd (show ok 4 = (ok 3 && f3) from HOk.out.2.2.2.1)
   generalize ok 3 = b0 at *
   have hIx := idx4_3 n0 e0 n1 e1 n2 e2 n3 e3
   go_upto_region 5 with fail
   clear hIx
   obtain ⟨V, hV⟩ : ∃ V : World, V = wr.alloc (.cells #[.int .i64 n3, .int .i64 e3] 25) := ⟨_, rfl⟩
   rw [← hV]
   have HBb := lhd (show Bx w [(wr.heap.size, #[.int .i64 n3, .int .i64 e3]), (w.heap.size + 1, #[r0_0, r0_1, r0_2, r0_3, r1_0, r1_1, r1_2, r1_3, r2_0, r2_1, r2_2, r2_3, .bool false, .slice none 0 0, .bool false, .slice none 0 0]), (w.heap.size, #[.int .i64 n0, .int .i64 e0, .int .i64 n1, .int .i64 e1, .int .i64 n2, .int .i64 e2, .int .i64 n3, .int .i64 e3])] V from hV ▸ HBa.out.new _ _)
   have hbv : Below wr.heap.size wr V := hV ▸ (Below.refl _ _).alloc (Nat.le_refl _) _
   have HNb := lhd (HNa.out.below (HBa.out.own _ lm0).2.1 hbv)
   have HIb := lhd ((Firm.ics _).below undef _ _ HIa.out hbv)
   have hlt := (HBa.out.own _ lm0).2.1; have hlt2 := (HBa.out.own _ lm1).2.1
   clear hV hbv HBa HNa HIa
   generalize wr.heap.size = BF at *
   obtain ⟨c0, c1⟩ := HBb.out.two lm0
   cases b0
   ·skip
    go_upto_region 6 with fail
    refine wp_region_full (w.heap.size) [(0, 24, VC (.int .i64 3)), (1, 25, VC (.int .i64 1)), (2, 26, VC (.int .i64 3)), (3, 27, VC (.int .i64 1)), (4, 28, VC (.agg #[.int .i64 n3, .int .i64 e3])), (5, 29, VR n3 e3), (6, 30, VC (.pointer (some ⟨w.heap.size + 1, 8, none⟩))), (7, 31, VC (.pointer (some ⟨w.heap.size + 1, 12, none⟩)))] [] [⟨BF, 999, 999, 999, #[.int .i64 n3, .int .i64 e3], fun v vs => v = .agg vs⟩, ⟨w.heap.size + 1, 8, 5, 29, #[r0_0, r0_1, r0_2, r0_3, r1_0, r1_1, r1_2, r1_3, r2_0, r2_1, r2_2, r2_3, .bool false, .slice none 0 0, .bool false, .slice none 0 0], fun v vs => ∃ xa0 xa1 xa2 xa3, v = .agg #[xa0, xa1, xa2, xa3] ∧ vs = #[r0_0, r0_1, r0_2, r0_3, r1_0, r1_1, r1_2, r1_3, r2_0, r2_1, r2_2, r2_3, xa0, xa1, xa2, xa3]⟩, ⟨w.heap.size, 999, 999, 999, #[.int .i64 n0, .int .i64 e0, .int .i64 n1, .int .i64 e1, .int .i64 n2, .int .i64 e2, .int .i64 n3, .int .i64 e3], fun v vs => v = .agg vs⟩] (fun W => ICs W [(r0_0, r0_1, n0), (r0_2, r0_3, e0), (r1_0, r1_1, n1), (r1_2, r1_3, e1), (r2_0, r2_1, n2), (r2_2, r2_3, e2)]) [24, 25, 26, 27, 28, 29, 30, 31] ?_ (by kernel_rfl) (by kernel_rfl) (by kernel_rfl) (Firms.all (l := [(0, 24, VC (.int .i64 3)), (1, 25, VC (.int .i64 1)), (2, 26, VC (.int .i64 3)), (3, 27, VC (.int .i64 1)), (4, 28, VC (.agg #[.int .i64 n3, .int .i64 e3])), (5, 29, VR n3 e3), (6, 30, VC (.pointer (some ⟨w.heap.size + 1, 8, none⟩))), (7, 31, VC (.pointer (some ⟨w.heap.size + 1, 12, none⟩)))]) ⟨Firm.vc _, Firm.vc _, Firm.vc _, Firm.vc _, Firm.vc _, Firm.vr _ _, Firm.vc _, Firm.vc _, trivial⟩) (Firm.ics _) (HIb.out) ?_ ?_ ?_
    ·exact HBb.out.below.size
    ·intro c hc
     simp only [List.mem_cons, List.not_mem_nil, or_false] at hc
     rcases hc with rfl | rfl | rfl
     ·exact ⟨(HBb.out.own _ lm0).2, fun h => absurd rfl h⟩
     ·exact ⟨(HBb.out.own _ lm1).2, fun _ => HNb.out⟩
     ·exact ⟨(HBb.out.own _ lm2).2, fun h => absurd rfl h⟩
    ·refine forall_ops ⟨?_, ?_, ?_, ?_, ?_, ?_, ?_, ?_, ?_, trivial⟩
     ·exact FOk.val rfl rfl rfl rfl fun _ _ _ _ _ _ => .move rfl (fou (v := .int .i64 3)) rfl
     ·refine .inl ⟨.inl rfl, .inl ⟨by simp, by simp, fun y W hB hE hO hV K Q' hK => ?_⟩⟩
      have y24 : y 24 = .int .i64 3 := hV (0, 24, VC (.int .i64 3)) (word_get (by kernel_rfl)) (by kernel_rfl)
      simp only [fr, putAll, List.foldl_cons, List.foldl_nil, List.setIfInBounds_toArray, List.set_cons_zero, List.set_cons_succ] at hK ⊢
      simp only [y24] at hK ⊢
      go_simp
      exact hK (.int .i64 1) W (Below.refl _ _) (word_only (d := 25) (by kernel_rfl) (show VC _ _ W from rfl))
     ·exact FOk.val rfl rfl rfl rfl fun _ _ _ _ _ _ => .move rfl (fou (v := .int .i64 3)) rfl
     ·refine .inl ⟨.inl rfl, .inl ⟨by simp, by simp, fun y W hB hE hO hV K Q' hK => ?_⟩⟩
      have y26 : y 26 = .int .i64 3 := hV (2, 26, VC (.int .i64 3)) (word_get (by kernel_rfl)) (by kernel_rfl)
      simp only [fr, putAll, List.foldl_cons, List.foldl_nil, List.setIfInBounds_toArray, List.set_cons_zero, List.set_cons_succ] at hK ⊢
      simp only [y26] at hK ⊢
      go_simp
      exact hK (.int .i64 1) W (Below.refl _ _) (word_only (d := 27) (by kernel_rfl) (show VC _ _ W from rfl))
     ·exact FOk.val rfl rfl rfl rfl fun _ _ _ _ hO _ => .load (g := BF) (k := 0) (n := 2) rfl (fou (v := .pointer (some ⟨BF, 0, none⟩))) (hO _ lm0 rfl) (by simp) Tryz.underlying25 rfl (by kernel_rfl) rfl
     ·exact FOk.val rfl rfl rfl rfl fun _ W _ _ _ hV => .call Tryz.func67 (by kernel_rfl) rfl rfl rfl (map_one (fgt hV 4 rfl)) (HR3.out W)
     ·exact FOk.val rfl rfl rfl rfl fun _ _ _ _ _ hV => .indexAddr rfl (fou (v := .pointer (some ⟨w.heap.size + 1, 0, none⟩))) (fgt hV 1 rfl) (by kernel_rfl) rfl
     ·exact FOk.val rfl rfl rfl rfl fun _ _ _ _ _ hV => .indexAddr rfl (fgt hV 6 rfl) (fgt hV 3 rfl) (by kernel_rfl) rfl
     ·refine .inl ⟨.inl rfl, .inr (.inr (.inr ⟨rfl, word_none (by kernel_rfl), ?_, _, lm1, rfl, ?_, by simp, ?_, by kernel_rfl, fun y W hB hV hc hN K Q' hK => ?_⟩))⟩
      ·exact fun b hb => by simp at hb
      ·first | (with_reducible exact Nat.le_refl _) | assumption | omega | (simp; done)
      ·intro d hd
       simp only [List.mem_cons, List.not_mem_nil, or_false] at hd
       rcases hd with rfl | rfl | rfl
       ·exact ⟨fun h => absurd h (by simp), fun h => absurd h (by dsimp only; first | omega | assumption | exact Ne.symm (by assumption))⟩
       ·exact ⟨fun _ => rfl, fun _ => rfl⟩
       ·exact ⟨fun h => absurd h (by simp), fun h => absurd h (by dsimp only; first | omega | assumption | exact Ne.symm (by assumption))⟩
      have y31 : y 31 = .pointer (some ⟨w.heap.size + 1, 12, none⟩) := hV (7, 31, VC (.pointer (some ⟨w.heap.size + 1, 12, none⟩))) (word_get (by kernel_rfl)) (by kernel_rfl)
      obtain ⟨u29_0, u29_1, u29_2, u29_3, y29, i29⟩ : VR n3 e3 (y 29) W := hV (5, 29, VR n3 e3) (word_get (by kernel_rfl)) (by kernel_rfl)
      exact .stoR (k := 12) (us := #[u29_0, u29_1, u29_2, u29_3]) (vs := #[r0_0, r0_1, r0_2, r0_3, r1_0, r1_1, r1_2, r1_3, r2_0, r2_1, r2_2, r2_3, u29_0, u29_1, u29_2, u29_3]) rfl (fgt hV 7 rfl) ((fr_in (by kernel_rfl)).trans y29) (ICs.fit (l := [(_, _, _), (_, _, _)]) ⟨i29.1, i29.2, trivial⟩ rfl) hc hN rfl (Nat.le_of_ble_eq_true rfl) rfl (by kernel_rfl) fun W' hC hN' hO => hK W' ⟨⟨_, ⟨_, _, _, _, y29, rfl⟩, hC⟩, hN'⟩ hO
    intro y W1 hB hE hO hV hX hA
    have y24 : y 24 = .int .i64 3 := hV (0, 24, VC (.int .i64 3)) (word_get (by kernel_rfl))
    have y25 : y 25 = .int .i64 1 := hV (1, 25, VC (.int .i64 1)) (word_get (by kernel_rfl))
    have y26 : y 26 = .int .i64 3 := hV (2, 26, VC (.int .i64 3)) (word_get (by kernel_rfl))
    have y27 : y 27 = .int .i64 1 := hV (3, 27, VC (.int .i64 1)) (word_get (by kernel_rfl))
    have y28 : y 28 = .agg #[.int .i64 n3, .int .i64 e3] := hV (4, 28, VC (.agg #[.int .i64 n3, .int .i64 e3])) (word_get (by kernel_rfl))
    obtain ⟨u29_0, u29_1, u29_2, u29_3, y29, j29⟩ : VR n3 e3 (y 29) W1 := hV (5, 29, VR n3 e3) (word_get (by kernel_rfl))
    have J29 := lhd j29; clear j29
    have y30 : y 30 = .pointer (some ⟨w.heap.size + 1, 8, none⟩) := hV (6, 30, VC (.pointer (some ⟨w.heap.size + 1, 8, none⟩))) (word_get (by kernel_rfl))
    have y31 : y 31 = .pointer (some ⟨w.heap.size + 1, 12, none⟩) := hV (7, 31, VC (.pointer (some ⟨w.heap.size + 1, 12, none⟩))) (word_get (by kernel_rfl))
    have ho0 := (hO _ lm0).1 rfl
    dsimp only at ho0
    obtain ⟨⟨ov1, ⟨xa0, xa1, xa2, xa3, oe1, oz1⟩, ho1⟩, hno1⟩ := (hO _ lm1).2 (by simp)
    dsimp only at oe1 oz1 ho1
    subst oz1
    rw [y29] at oe1; simp only [Value.agg.injEq, Array.mk.injEq, List.cons.injEq, and_true] at oe1; obtain ⟨rfl, rfl, rfl, rfl⟩ := oe1
    have ho2 := (hO _ lm2).1 rfl
    dsimp only at ho2
    have HNo1 := lhd hno1; clear hno1
    dsimp only at HNo1
    have HB1 := lhd (show Bx w [(BF, #[.int .i64 n3, .int .i64 e3]), (w.heap.size + 1, #[r0_0, r0_1, r0_2, r0_3, r1_0, r1_1, r1_2, r1_3, r2_0, r2_1, r2_2, r2_3, u29_0, u29_1, u29_2, u29_3]), (w.heap.size, #[.int .i64 n0, .int .i64 e0, .int .i64 n1, .int .i64 e1, .int .i64 n2, .int .i64 e2, .int .i64 n3, .int .i64 e3])] W1 from ((((Bx.nil (HBb.out.below.trans hB)).cons (HBb.out.own _ lm2).1 ho2).cons (HBb.out.own _ lm1).1 ho1).cons (HBb.out.own _ lm0).1 ho0))
    have HE1 := lhd hE
    simp only [fr, putAll, List.foldl_cons, List.foldl_nil, List.setIfInBounds_toArray, List.set_cons_zero, List.set_cons_succ]
    simp only [y24, y25, y26, y27, y28, y29, y30, y31]
    clear y24 y25 y26 y27 y28 y29 y30 y31  hB hE hO hV hX hA ho0 ho1 ho2
    obtain ⟨j0, j1⟩ := J29.out
    have HI1 := lhd (show ICs W1 [(r0_0, r0_1, n0), (r0_2, r0_3, e0), (r1_0, r1_1, n1), (r1_2, r1_3, e1), (r2_0, r2_1, n2), (r2_2, r2_3, e2), (u29_0, u29_1, n3), (u29_2, u29_3, e3)] from ⟨HE1.out.1, HE1.out.2.1, HE1.out.2.2.1, HE1.out.2.2.2.1, HE1.out.2.2.2.2.1, HE1.out.2.2.2.2.2.1, j0, j1, trivial⟩)
    have HBc := lhd (show Bx w [(w.heap.size + 1, #[r0_0, r0_1, r0_2, r0_3, r1_0, r1_1, r1_2, r1_3, r2_0, r2_1, r2_2, r2_3, u29_0, u29_1, u29_2, u29_3]), (w.heap.size, #[.int .i64 n0, .int .i64 e0, .int .i64 n1, .int .i64 e1, .int .i64 n2, .int .i64 e2, .int .i64 n3, .int .i64 e3])] W1 from ⟨HB1.out.below, fun x hx => HB1.out.own x (List.mem_cons_of_mem _ hx)⟩)
    clear j0 j1 HE1 HB1
    go_wp2_with fail
    exact ⟨⟨4, by rw [HKk.out]; rfl, by first | rfl | go_num, by omega, by rw [T4.out]; exact ⟨r0_0, r0_1, r0_2, r0_3, r1_0, r1_1, r1_2, r1_3, r2_0, r2_1, r2_2, r2_3, _, _, _, _, HBc.out, HNo1.out, HI1.out⟩⟩, by simp [intOf]⟩
   ·go_wp2_with fail
    refine (HV3.out _).mono ?_
    rintro _ w5 ⟨rfl, hbb⟩
    have HBd := lhd (HBb.out.keep hbb)
    have HNd := lhd (HNb.out.below (HBb.out.own _ lm1).2.1 hbb)
    have HId := lhd ((Firm.ics _).below undef _ _ HIb.out hbb)
    clear hbb HBb HNb HIb c0 c1
    go_upto_region 6 with fail
    refine wp_region_full (w.heap.size) [(0, 24, VC (.int .i64 3)), (1, 25, VC (.int .i64 1)), (2, 26, VC (.int .i64 3)), (3, 27, VC (.int .i64 1)), (4, 28, VC (.agg #[.int .i64 n3, .int .i64 e3])), (5, 29, VR n3 e3), (6, 30, VC (.pointer (some ⟨w.heap.size + 1, 8, none⟩))), (7, 31, VC (.pointer (some ⟨w.heap.size + 1, 12, none⟩)))] [] [⟨BF, 999, 999, 999, #[.int .i64 n3, .int .i64 e3], fun v vs => v = .agg vs⟩, ⟨w.heap.size + 1, 8, 5, 29, #[r0_0, r0_1, r0_2, r0_3, r1_0, r1_1, r1_2, r1_3, r2_0, r2_1, r2_2, r2_3, .bool false, .slice none 0 0, .bool false, .slice none 0 0], fun v vs => ∃ xa0 xa1 xa2 xa3, v = .agg #[xa0, xa1, xa2, xa3] ∧ vs = #[r0_0, r0_1, r0_2, r0_3, r1_0, r1_1, r1_2, r1_3, r2_0, r2_1, r2_2, r2_3, xa0, xa1, xa2, xa3]⟩, ⟨w.heap.size, 999, 999, 999, #[.int .i64 n0, .int .i64 e0, .int .i64 n1, .int .i64 e1, .int .i64 n2, .int .i64 e2, .int .i64 n3, .int .i64 e3], fun v vs => v = .agg vs⟩] (fun W => ICs W [(r0_0, r0_1, n0), (r0_2, r0_3, e0), (r1_0, r1_1, n1), (r1_2, r1_3, e1), (r2_0, r2_1, n2), (r2_2, r2_3, e2)]) [24, 25, 26, 27, 28, 29, 30, 31] ?_ (by kernel_rfl) (by kernel_rfl) (by kernel_rfl) (Firms.all (l := [(0, 24, VC (.int .i64 3)), (1, 25, VC (.int .i64 1)), (2, 26, VC (.int .i64 3)), (3, 27, VC (.int .i64 1)), (4, 28, VC (.agg #[.int .i64 n3, .int .i64 e3])), (5, 29, VR n3 e3), (6, 30, VC (.pointer (some ⟨w.heap.size + 1, 8, none⟩))), (7, 31, VC (.pointer (some ⟨w.heap.size + 1, 12, none⟩)))]) ⟨Firm.vc _, Firm.vc _, Firm.vc _, Firm.vc _, Firm.vc _, Firm.vr _ _, Firm.vc _, Firm.vc _, trivial⟩) (Firm.ics _) (HId.out) ?_ ?_ ?_
    ·exact HBd.out.below.size
    ·intro c hc
     simp only [List.mem_cons, List.not_mem_nil, or_false] at hc
     rcases hc with rfl | rfl | rfl
     ·exact ⟨(HBd.out.own _ lm0).2, fun h => absurd rfl h⟩
     ·exact ⟨(HBd.out.own _ lm1).2, fun _ => HNd.out⟩
     ·exact ⟨(HBd.out.own _ lm2).2, fun h => absurd rfl h⟩
    ·refine forall_ops ⟨?_, ?_, ?_, ?_, ?_, ?_, ?_, ?_, ?_, trivial⟩
     ·exact FOk.val rfl rfl rfl rfl fun _ _ _ _ _ _ => .move rfl (fou (v := .int .i64 3)) rfl
     ·refine .inl ⟨.inl rfl, .inl ⟨by simp, by simp, fun y W hB hE hO hV K Q' hK => ?_⟩⟩
      have y24 : y 24 = .int .i64 3 := hV (0, 24, VC (.int .i64 3)) (word_get (by kernel_rfl)) (by kernel_rfl)
      simp only [fr, putAll, List.foldl_cons, List.foldl_nil, List.setIfInBounds_toArray, List.set_cons_zero, List.set_cons_succ] at hK ⊢
      simp only [y24] at hK ⊢
      go_simp
      exact hK (.int .i64 1) W (Below.refl _ _) (word_only (d := 25) (by kernel_rfl) (show VC _ _ W from rfl))
     ·exact FOk.val rfl rfl rfl rfl fun _ _ _ _ _ _ => .move rfl (fou (v := .int .i64 3)) rfl
     ·refine .inl ⟨.inl rfl, .inl ⟨by simp, by simp, fun y W hB hE hO hV K Q' hK => ?_⟩⟩
      have y26 : y 26 = .int .i64 3 := hV (2, 26, VC (.int .i64 3)) (word_get (by kernel_rfl)) (by kernel_rfl)
      simp only [fr, putAll, List.foldl_cons, List.foldl_nil, List.setIfInBounds_toArray, List.set_cons_zero, List.set_cons_succ] at hK ⊢
      simp only [y26] at hK ⊢
      go_simp
      exact hK (.int .i64 1) W (Below.refl _ _) (word_only (d := 27) (by kernel_rfl) (show VC _ _ W from rfl))
     ·exact FOk.val rfl rfl rfl rfl fun _ _ _ _ hO _ => .load (g := BF) (k := 0) (n := 2) rfl (fou (v := .pointer (some ⟨BF, 0, none⟩))) (hO _ lm0 rfl) (by simp) Tryz.underlying25 rfl (by kernel_rfl) rfl
     ·exact FOk.val rfl rfl rfl rfl fun _ W _ _ _ hV => .call Tryz.func67 (by kernel_rfl) rfl rfl rfl (map_one (fgt hV 4 rfl)) (HR3.out W)
     ·exact FOk.val rfl rfl rfl rfl fun _ _ _ _ _ hV => .indexAddr rfl (fou (v := .pointer (some ⟨w.heap.size + 1, 0, none⟩))) (fgt hV 1 rfl) (by kernel_rfl) rfl
     ·exact FOk.val rfl rfl rfl rfl fun _ _ _ _ _ hV => .indexAddr rfl (fgt hV 6 rfl) (fgt hV 3 rfl) (by kernel_rfl) rfl
     ·refine .inl ⟨.inl rfl, .inr (.inr (.inr ⟨rfl, word_none (by kernel_rfl), ?_, _, lm1, rfl, ?_, by simp, ?_, by kernel_rfl, fun y W hB hV hc hN K Q' hK => ?_⟩))⟩
      ·exact fun b hb => by simp at hb
      ·first | (with_reducible exact Nat.le_refl _) | assumption | omega | (simp; done)
      ·intro d hd
       simp only [List.mem_cons, List.not_mem_nil, or_false] at hd
       rcases hd with rfl | rfl | rfl
       ·exact ⟨fun h => absurd h (by simp), fun h => absurd h (by dsimp only; first | omega | assumption | exact Ne.symm (by assumption))⟩
       ·exact ⟨fun _ => rfl, fun _ => rfl⟩
       ·exact ⟨fun h => absurd h (by simp), fun h => absurd h (by dsimp only; first | omega | assumption | exact Ne.symm (by assumption))⟩
      have y31 : y 31 = .pointer (some ⟨w.heap.size + 1, 12, none⟩) := hV (7, 31, VC (.pointer (some ⟨w.heap.size + 1, 12, none⟩))) (word_get (by kernel_rfl)) (by kernel_rfl)
      obtain ⟨u29_0, u29_1, u29_2, u29_3, y29, i29⟩ : VR n3 e3 (y 29) W := hV (5, 29, VR n3 e3) (word_get (by kernel_rfl)) (by kernel_rfl)
      exact .stoR (k := 12) (us := #[u29_0, u29_1, u29_2, u29_3]) (vs := #[r0_0, r0_1, r0_2, r0_3, r1_0, r1_1, r1_2, r1_3, r2_0, r2_1, r2_2, r2_3, u29_0, u29_1, u29_2, u29_3]) rfl (fgt hV 7 rfl) ((fr_in (by kernel_rfl)).trans y29) (ICs.fit (l := [(_, _, _), (_, _, _)]) ⟨i29.1, i29.2, trivial⟩ rfl) hc hN rfl (Nat.le_of_ble_eq_true rfl) rfl (by kernel_rfl) fun W' hC hN' hO => hK W' ⟨⟨_, ⟨_, _, _, _, y29, rfl⟩, hC⟩, hN'⟩ hO
    intro y W1 hB hE hO hV hX hA
    have y24 : y 24 = .int .i64 3 := hV (0, 24, VC (.int .i64 3)) (word_get (by kernel_rfl))
    have y25 : y 25 = .int .i64 1 := hV (1, 25, VC (.int .i64 1)) (word_get (by kernel_rfl))
    have y26 : y 26 = .int .i64 3 := hV (2, 26, VC (.int .i64 3)) (word_get (by kernel_rfl))
    have y27 : y 27 = .int .i64 1 := hV (3, 27, VC (.int .i64 1)) (word_get (by kernel_rfl))
    have y28 : y 28 = .agg #[.int .i64 n3, .int .i64 e3] := hV (4, 28, VC (.agg #[.int .i64 n3, .int .i64 e3])) (word_get (by kernel_rfl))
    obtain ⟨u29_0, u29_1, u29_2, u29_3, y29, j29⟩ : VR n3 e3 (y 29) W1 := hV (5, 29, VR n3 e3) (word_get (by kernel_rfl))
    have J29 := lhd j29; clear j29
    have y30 : y 30 = .pointer (some ⟨w.heap.size + 1, 8, none⟩) := hV (6, 30, VC (.pointer (some ⟨w.heap.size + 1, 8, none⟩))) (word_get (by kernel_rfl))
    have y31 : y 31 = .pointer (some ⟨w.heap.size + 1, 12, none⟩) := hV (7, 31, VC (.pointer (some ⟨w.heap.size + 1, 12, none⟩))) (word_get (by kernel_rfl))
    have ho0 := (hO _ lm0).1 rfl
    dsimp only at ho0
    obtain ⟨⟨ov1, ⟨xa0, xa1, xa2, xa3, oe1, oz1⟩, ho1⟩, hno1⟩ := (hO _ lm1).2 (by simp)
    dsimp only at oe1 oz1 ho1
    subst oz1
    rw [y29] at oe1; simp only [Value.agg.injEq, Array.mk.injEq, List.cons.injEq, and_true] at oe1; obtain ⟨rfl, rfl, rfl, rfl⟩ := oe1
    have ho2 := (hO _ lm2).1 rfl
    dsimp only at ho2
    have HNo1 := lhd hno1; clear hno1
    dsimp only at HNo1
    have HB1 := lhd (show Bx w [(BF, #[.int .i64 n3, .int .i64 e3]), (w.heap.size + 1, #[r0_0, r0_1, r0_2, r0_3, r1_0, r1_1, r1_2, r1_3, r2_0, r2_1, r2_2, r2_3, u29_0, u29_1, u29_2, u29_3]), (w.heap.size, #[.int .i64 n0, .int .i64 e0, .int .i64 n1, .int .i64 e1, .int .i64 n2, .int .i64 e2, .int .i64 n3, .int .i64 e3])] W1 from ((((Bx.nil (HBd.out.below.trans hB)).cons (HBd.out.own _ lm2).1 ho2).cons (HBd.out.own _ lm1).1 ho1).cons (HBd.out.own _ lm0).1 ho0))
    have HE1 := lhd hE
    simp only [fr, putAll, List.foldl_cons, List.foldl_nil, List.setIfInBounds_toArray, List.set_cons_zero, List.set_cons_succ]
    simp only [y24, y25, y26, y27, y28, y29, y30, y31]
    clear y24 y25 y26 y27 y28 y29 y30 y31  hB hE hO hV hX hA ho0 ho1 ho2
    obtain ⟨j0, j1⟩ := J29.out
    have HI1 := lhd (show ICs W1 [(r0_0, r0_1, n0), (r0_2, r0_3, e0), (r1_0, r1_1, n1), (r1_2, r1_3, e1), (r2_0, r2_1, n2), (r2_2, r2_3, e2), (u29_0, u29_1, n3), (u29_2, u29_3, e3)] from ⟨HE1.out.1, HE1.out.2.1, HE1.out.2.2.1, HE1.out.2.2.2.1, HE1.out.2.2.2.2.1, HE1.out.2.2.2.2.2.1, j0, j1, trivial⟩)
    have HBc := lhd (show Bx w [(w.heap.size + 1, #[r0_0, r0_1, r0_2, r0_3, r1_0, r1_1, r1_2, r1_3, r2_0, r2_1, r2_2, r2_3, u29_0, u29_1, u29_2, u29_3]), (w.heap.size, #[.int .i64 n0, .int .i64 e0, .int .i64 n1, .int .i64 e1, .int .i64 n2, .int .i64 e2, .int .i64 n3, .int .i64 e3])] W1 from ⟨HB1.out.below, fun x hx => HB1.out.own x (List.mem_cons_of_mem _ hx)⟩)
    clear j0 j1 HE1 HB1
    go_wp2_with fail
    exact ⟨⟨4, by rw [HKk.out]; rfl, by first | rfl | go_num, by omega, by rw [T4.out]; exact ⟨r0_0, r0_1, r0_2, r0_3, r1_0, r1_1, r1_2, r1_3, r2_0, r2_1, r2_2, r2_3, _, _, _, _, HBc.out, HNo1.out, HI1.out⟩⟩, by simp [intOf]⟩
  obtain rfl : k = 4 := by omega
  rw [T4.out] at hst
  obtain ⟨r0_0, r0_1, r0_2, r0_3, r1_0, r1_1, r1_2, r1_3, r2_0, r2_1, r2_2, r2_3, r3_0, r3_1, r3_2, r3_3, hb, hn, hi⟩ := hst
  have HB := lhd hb; have HN := lhd hn; have HI := lhd hi; clear hb hn hk k0 k1 k2 k3 hi
  obtain ⟨j0, j1, j2, j3, j4, j5, j6, j7, -⟩ := HI.out
  dsimp only at j0 j1 j2 j3 j4 j5 j6 j7
  obtain ⟨A0_0, c0_0, rfl, rfl, -⟩ := j0; obtain ⟨A0_1, c0_1, rfl, rfl, -⟩ := j1; obtain ⟨A1_0, c1_0, rfl, rfl, -⟩ := j2; obtain ⟨A1_1, c1_1, rfl, rfl, -⟩ := j3; obtain ⟨A2_0, c2_0, rfl, rfl, -⟩ := j4; obtain ⟨A2_1, c2_1, rfl, rfl, -⟩ := j5; obtain ⟨A3_0, c3_0, rfl, rfl, -⟩ := j6; obtain ⟨A3_1, c3_1, rfl, rfl, -⟩ := j7
  have hok := HOk.out.2.2.2.2
  rw [hok]
  have q := fun (i : Nat) hi => (HB.out.own _ lm0).2.2.1 i hi
  have q0 := q 0 (by simp)
  have q1 := q 1 (by simp)
  have q2 := q 2 (by simp)
  have q3 := q 3 (by simp)
  have q4 := q 4 (by simp)
  have q5 := q 5 (by simp)
  have q6 := q 6 (by simp)
  have q7 := q 7 (by simp)
  have q8 := q 8 (by simp)
  have q9 := q 9 (by simp)
  have q10 := q 10 (by simp)
  have q11 := q 11 (by simp)
  have q12 := q 12 (by simp)
  have q13 := q 13 (by simp)
  have q14 := q 14 (by simp)
  have q15 := q 15 (by simp)
  clear q
  simp only [List.getElem?_toArray, List.getElem?_cons_zero, List.getElem?_cons_succ] at q0 q1 q2 q3 q4 q5 q6 q7 q8 q9 q10 q11 q12 q13 q14 q15
  have fz := (HB.out.own _ lm0).2.2.2
  have z0 := fz 0
  have z1 := fz 1
  have z2 := fz 2
  have z3 := fz 3
  have z4 := fz 4
  have z5 := fz 5
  have z6 := fz 6
  have z7 := fz 7
  have z8 := fz 8
  have z9 := fz 9
  have z10 := fz 10
  have z11 := fz 11
  have z12 := fz 12
  have z13 := fz 13
  have z14 := fz 14
  have z15 := fz 15
  clear fz hok
  dsimp only at z0 z1 z2 z3 z4 z5 z6 z7 z8 z9 z10 z11 z12 z13 z14 z15
  obtain ⟨W9, e9, C9, B9, S9⟩ := store16 (HB.out.own _ lm0).2 HB.out.below (HB.out.own _ lm0).1
  have HI9 := lhd ((Firm.ics _).only undef _ _ _ HI.out S9 HN.out)
  go_wp2_with fail
  try rw [e9]
  have g0 := C9.2.1 0 (by simp)
  have g1 := C9.2.1 1 (by simp)
  have g2 := C9.2.1 2 (by simp)
  have g3 := C9.2.1 3 (by simp)
  have g4 := C9.2.1 4 (by simp)
  have g5 := C9.2.1 5 (by simp)
  have g6 := C9.2.1 6 (by simp)
  have g7 := C9.2.1 7 (by simp)
  have g8 := C9.2.1 8 (by simp)
  have g9 := C9.2.1 9 (by simp)
  have g10 := C9.2.1 10 (by simp)
  have g11 := C9.2.1 11 (by simp)
  have g12 := C9.2.1 12 (by simp)
  have g13 := C9.2.1 13 (by simp)
  have g14 := C9.2.1 14 (by simp)
  have g15 := C9.2.1 15 (by simp)
  simp only [List.getElem?_toArray, List.getElem?_cons_zero, List.getElem?_cons_succ] at g0 g1 g2 g3 g4 g5 g6 g7 g8 g9 g10 g11 g12 g13 g14 g15
  obtain ⟨E0, E1, E2, E3, E4, E5, E6, E7, -⟩ := HI9.out
  refine bodyPost_ret (v := .tuple #[.agg #[.bool (sgB (n0)), .slice A0_0 (lnW (n0)) c0_0, .bool (sgB (e0)), .slice A0_1 (lnW (e0)) c0_1, .bool (sgB (n1)), .slice A1_0 (lnW (n1)) c1_0, .bool (sgB (e1)), .slice A1_1 (lnW (e1)) c1_1, .bool (sgB (n2)), .slice A2_0 (lnW (n2)) c2_0, .bool (sgB (e2)), .slice A2_1 (lnW (e2)) c2_1, .bool (sgB (n3)), .slice A3_0 (lnW (n3)) c3_0, .bool (sgB (e3)), .slice A3_1 (lnW (e3)) c3_1], .bool OK]) (by simp [results, Tryz.results24, go_sem, g0, g1, g2, g3, g4, g5, g6, g7, g8, g9, g10, g11, g12, g13, g14, g15]) rfl ?_
  exact ⟨_, rfl, ⟨_, _, _, _, _, _, _, _, _, _, _, _, _, _, _, _, rfl, ⟨E0, E1⟩, ⟨E2, E3⟩, ⟨E4, E5⟩, ⟨E6, E7⟩⟩, B9⟩
def zE (n d m e : Int) : Bool := decide (n * e + m * d = d * e * 0)
def splF (a b xn0 xd0 xn1 xd1 xn2 xd2 xn3 xd3 yn0 yd0 yn1 yd1 yn2 yd2 yn3 yd3 : Int) : Int :=
 if (okF xn0 xd0 xn1 xd1 xn2 xd2 xn3 xd3 && okF yn0 yd0 yn1 yd1 yn2 yd2 yn3 yd3) = true then (if (scB (pN xn0 xd0 xn1 xd1 xn0 xd0 xn2 xd2) (pD xd0 xd1 xd0 xd2) (pN xn0 xd0 xn1 xd1 xn1 xd1 xn3 xd3) (pD xd0 xd1 xd1 xd3) (pN xn2 xd2 xn3 xd3 xn0 xd0 xn2 xd2) (pD xd2 xd3 xd0 xd2) (pN xn2 xd2 xn3 xd3 xn1 xd1 xn3 xd3) (pD xd2 xd3 xd1 xd3) a && (scB (pN yn0 yd0 yn1 yd1 yn0 yd0 yn2 yd2) (pD yd0 yd1 yd0 yd2) (pN yn0 yd0 yn1 yd1 yn1 yd1 yn3 yd3) (pD yd0 yd1 yd1 yd3) (pN yn2 yd2 yn3 yd3 yn0 yd0 yn2 yd2) (pD yd2 yd3 yd0 yd2) (pN yn2 yd2 yn3 yd3 yn1 yd1 yn3 yd3) (pD yd2 yd3 yd1 yd3) b && (zE (pN xn0 xd0 xn1 xd1 yn0 yd0 yn2 yd2) (pD xd0 xd1 yd0 yd2) (pN yn0 yd0 yn1 yd1 xn0 xd0 xn2 xd2) (pD yd0 yd1 xd0 xd2) && (zE (pN xn0 xd0 xn1 xd1 yn1 yd1 yn3 yd3) (pD xd0 xd1 yd1 yd3) (pN yn0 yd0 yn1 yd1 xn1 xd1 xn3 xd3) (pD yd0 yd1 xd1 xd3) && (zE (pN xn2 xd2 xn3 xd3 yn0 yd0 yn2 yd2) (pD xd2 xd3 yd0 yd2) (pN yn2 yd2 yn3 yd3 xn0 xd0 xn2 xd2) (pD yd2 yd3 xd0 xd2) && zE (pN xn2 xd2 xn3 xd3 yn1 yd1 yn3 yd3) (pD xd2 xd3 yd1 yd3) (pN yn2 yd2 yn3 yd3 xn1 xd1 xn3 xd3) (pD yd2 yd3 xd1 xd3)))))) = true then 0 else 18) else 3
theorem wn8 {j : Nat} {a0 a1 a2 a3 a4 a5 a6 a7 : Int} (h0 : Wn j a0) (h1 : Wn j a1) (h2 : Wn j a2) (h3 : Wn j a3) (h4 : Wn j a4) (h5 : Wn j a5) (h6 : Wn j a6) (h7 : Wn j a7) : WN j [a0, a1, a2, a3, a4, a5, a6, a7] := by
 intro z hz
 simp only [List.mem_cons, List.not_mem_nil, or_false] at hz
 rcases hz with rfl | rfl | rfl | rfl | rfl | rfl | rfl | rfl <;> assumption
theorem okF_wn {n0 e0 n1 e1 n2 e2 n3 e3 : Int} (h : okF n0 e0 n1 e1 n2 e2 n3 e3 = true) : WN 1 [n0, e0, n1, e1, n2, e2, n3, e3] := by
 unfold okF at h
 simp only [Bool.and_eq_true, frB_iff] at h
 refine wn8 (Wn.of ?_) (Wn.of ?_) (Wn.of ?_) (Wn.of ?_) (Wn.of ?_) (Wn.of ?_) (Wn.of ?_) (Wn.of ?_) <;> omega
end Go.Proofs.YtimdkjbmeogpoaaGreatDoor
end
