/- Products with fractions in the program; which fractions are valid. -/
import Derived.Test.YtimdkjbmeogpoaaGreatDoorVQo0
namespace Go.Proofs.YtimdkjbmeogpoaaGreatDoor
open Go.RowKit FF
def absW (n : Int) : Int := if n = -9223372036854775808 then n else n.natAbs
set_option maxHeartbeats 400000 in
theorem qabs64_any (n : Int) (w : World) (h : I64 n) : Calls Tryz.prog 81 #[.int .i64 n] w (Ret w (.int .i64 (absW n))) := by
  by_cases hm : n = -9223372036854775808
  · subst hm
    have e : absW (-9223372036854775808) = -9223372036854775808 := rfl
    rw [e]
    have e9 : wrap64 9223372036854775808 = -9223372036854775808 := by kernel_rfl
    go_enter Tryz.func81, Tryz.ntmps81
    go_wp2_with fail
    go_ret
    exact Ret.eq0 rfl
  · have e : absW n = n.natAbs := if_neg hm
    rw [e]
    exact qabs_any n w (by have := h.1; omega) h.2
theorem absW_le {n : Int} : absW n ≤ 1000000000 ↔ n ≤ 1000000000 ∧ (-1000000000 ≤ n ∨ n = -9223372036854775808) := by
  unfold absW; split <;> omega
set_option maxHeartbeats 4000000 in
theorem validFrac_any (n d : Int) (w : World) (hn : I64 n) (hd : I64 d) :
    Calls Tryz.prog 66 #[fvv n d] w fun r w' => r = .returned (.bool (frB n d)) ∧ Below w.heap.size w w' := by
  have HN := Lib.hid (fun w => qabs64_any n w hn)
  have HD := Lib.hid (fun w => qabs64_any d w hd)
  have an := absW_le (n := n)
  have ad := absW_le (n := d)
  have HF := Lib.hid (frB_iff (n := n) (d := d))
  generalize absW n = A at *
  generalize absW d = D at *
  generalize frB n d = F at *
  obtain ⟨n1, n2⟩ := hn
  obtain ⟨d1, d2⟩ := hd
  unfold fvv
  by_cases c0 : d = 0
  · have HQ := Lib.hid (show F = false by cases hF : F with | false => rfl | true => exact absurd c0 (HF.out.1 hF).1)
    subst c0
    clear HF an ad
    go_enter Tryz.func66, Tryz.ntmps66
    go_wp2_with fail
    go_ret
    exact ⟨ret_bool HQ.out.symm, (Below.refl _ _).alloc (Nat.le_refl _) _⟩
  have e0 : (d == 0) = false := f_beq c0
  have e0' : (d != 0) = true := bne_iff_ne.2 c0
  by_cases c1 : 1000000000 < A
  · have e1 : decide (A ≤ 1000000000) = false := decide_eq_false (by omega)
    have HQ := Lib.hid (show F = false by cases hF : F with | false => rfl | true => exact absurd (HF.out.1 hF) (by omega))
    clear HF an ad
    go_enter Tryz.func66, Tryz.ntmps66
    go_wp2_with fail
    refine (HN.out _).mono ?_
    rintro e w' ⟨rfl, m1, rfl⟩
    go_wp2_with fail
    go_ret
    exact ⟨ret_bool HQ.out.symm, below_drewN ((Below.refl _ _).alloc (Nat.le_refl _) _) _⟩
  have e1 : decide (A ≤ 1000000000) = true := decide_eq_true (by omega)
  by_cases c2 : 1000000000 < D
  · have e2 : decide (D ≤ 1000000000) = false := decide_eq_false (by omega)
    have HQ := Lib.hid (show F = false by cases hF : F with | false => rfl | true => exact absurd (HF.out.1 hF) (by omega))
    clear HF an ad
    go_enter Tryz.func66, Tryz.ntmps66
    go_wp2_with fail
    refine (HN.out _).mono ?_
    rintro e w' ⟨rfl, m1, rfl⟩
    go_wp2_with fail
    refine (HD.out _).mono ?_
    rintro e w' ⟨rfl, m2, rfl⟩
    go_wp2_with fail
    go_ret
    exact ⟨ret_bool HQ.out.symm, by first | exact below_drewN ((Below.refl _ _).alloc (Nat.le_refl _) _) _ | exact below_drewN (below_drewN ((Below.refl _ _).alloc (Nat.le_refl _) _) _) _⟩
  have e2 : decide (D ≤ 1000000000) = true := decide_eq_true (by omega)
  by_cases c3 : n < -1000000000
  · have e3 : decide (-1000000000 ≤ n) = false := decide_eq_false (by omega)
    have HQ := Lib.hid (show F = false by cases hF : F with | false => rfl | true => exact absurd (HF.out.1 hF) (by omega))
    clear HF an ad
    go_enter Tryz.func66, Tryz.ntmps66
    go_wp2_with fail
    refine (HN.out _).mono ?_
    rintro e w' ⟨rfl, m1, rfl⟩
    go_wp2_with fail
    refine (HD.out _).mono ?_
    rintro e w' ⟨rfl, m2, rfl⟩
    go_wp2_with fail
    go_ret
    exact ⟨ret_bool HQ.out.symm, by first | exact below_drewN ((Below.refl _ _).alloc (Nat.le_refl _) _) _ | exact below_drewN (below_drewN ((Below.refl _ _).alloc (Nat.le_refl _) _) _) _⟩
  have e3 : decide (-1000000000 ≤ n) = true := decide_eq_true (by omega)
  by_cases c4 : d < -1000000000
  · have e4 : decide (-1000000000 ≤ d) = false := decide_eq_false (by omega)
    have HQ := Lib.hid (show F = false by cases hF : F with | false => rfl | true => exact absurd (HF.out.1 hF) (by omega))
    clear HF an ad
    go_enter Tryz.func66, Tryz.ntmps66
    go_wp2_with fail
    refine (HN.out _).mono ?_
    rintro e w' ⟨rfl, m1, rfl⟩
    go_wp2_with fail
    refine (HD.out _).mono ?_
    rintro e w' ⟨rfl, m2, rfl⟩
    go_wp2_with fail
    go_ret
    exact ⟨ret_bool HQ.out.symm, by first | exact below_drewN ((Below.refl _ _).alloc (Nat.le_refl _) _) _ | exact below_drewN (below_drewN ((Below.refl _ _).alloc (Nat.le_refl _) _) _) _⟩
  have e4 : decide (-1000000000 ≤ d) = true := decide_eq_true (by omega)
  have HQ := Lib.hid (show F = true from HF.out.2 (by omega))
  clear HF an ad
  go_enter Tryz.func66, Tryz.ntmps66
  go_wp2_with fail
  refine (HN.out _).mono ?_
  rintro e w' ⟨rfl, m1, rfl⟩
  go_wp2_with fail
  refine (HD.out _).mono ?_
  rintro e w' ⟨rfl, m2, rfl⟩
  go_wp2_with fail
  go_ret
  exact ⟨ret_bool HQ.out.symm, by first | exact below_drewN ((Below.refl _ _).alloc (Nat.le_refl _) _) _ | exact below_drewN (below_drewN ((Below.refl _ _).alloc (Nat.le_refl _) _) _) _⟩
set_option maxHeartbeats 4000000 in
theorem rCheckFrac_any (n d : Int) (w : World) :
    Calls Tryz.prog 30 #[fvv n d] w fun r w' => r = .returned (.int .i64 (frE n d)) ∧ Below w.heap.size w w' := by
  have HW := Lib.hid (fun m w => bWithin_any m (-1000000000) 1000000000 w)
  have HF := Lib.hid (show frE n d = if (d == 0 || !winB n (-1000000000) 1000000000 || !winB d (-1000000000) 1000000000) = true then 3 else 0 by
    unfold frE winB
    cases hF : frB n d
    · have : ¬ (d ≠ 0 ∧ (-1000000000 ≤ n ∧ n ≤ 1000000000) ∧ (-1000000000 ≤ d ∧ d ≤ 1000000000)) := fun h => by rw [frB_iff.2 h] at hF; cases hF
      rw [if_neg (by simp), if_pos]
      simp
      omega
    · have := frB_iff.1 hF
      rw [if_pos rfl, if_neg]
      simp
      omega)
  generalize frE n d = F at *
  unfold fvv
  by_cases c0 : d = 0
  · have HQ := Lib.hid (show F = 3 by rw [HF.out, if_pos]; simp [c0])
    subst c0
    clear HF
    go_enter Tryz.func30, Tryz.ntmps30
    go_wp2_with fail
    go_ret
    exact ⟨ret_int HQ.out.symm, (Below.refl _ _).alloc (Nat.le_refl _) _⟩
  have e0 : (d == 0) = false := f_beq c0
  have HN := Lib.hid (fun w => HW.out n w)
  have HD := Lib.hid (fun w => HW.out d w)
  rw [e0] at HF
  generalize winB n (-1000000000) 1000000000 = A at *
  generalize winB d (-1000000000) 1000000000 = D at *
  clear HW
  cases A
  · have HQ := Lib.hid (show F = 3 by rw [HF.out, if_pos]; simp)
    clear HF HD
    go_enter Tryz.func30, Tryz.ntmps30
    go_wp2_with fail
    refine (HN.out _).mono ?_
    rintro e w' ⟨rfl, m1, rfl⟩
    go_wp2_with fail
    go_ret
    exact ⟨ret_int HQ.out.symm, below_drewN ((Below.refl _ _).alloc (Nat.le_refl _) _) _⟩
  cases D
  · have HQ := Lib.hid (show F = 3 by rw [HF.out, if_pos]; simp)
    clear HF
    go_enter Tryz.func30, Tryz.ntmps30
    go_wp2_with fail
    refine (HN.out _).mono ?_
    rintro e w' ⟨rfl, m1, rfl⟩
    go_wp2_with fail
    refine (HD.out _).mono ?_
    rintro e w' ⟨rfl, m2, rfl⟩
    go_wp2_with fail
    go_ret
    exact ⟨ret_int HQ.out.symm, by first | exact below_drewN ((Below.refl _ _).alloc (Nat.le_refl _) _) _ | exact below_drewN (below_drewN ((Below.refl _ _).alloc (Nat.le_refl _) _) _) _⟩
  · have HQ := Lib.hid (show F = 0 by rw [HF.out, if_neg]; simp)
    clear HF
    go_enter Tryz.func30, Tryz.ntmps30
    go_wp2_with fail
    refine (HN.out _).mono ?_
    rintro e w' ⟨rfl, m1, rfl⟩
    go_wp2_with fail
    refine (HD.out _).mono ?_
    rintro e w' ⟨rfl, m2, rfl⟩
    go_wp2_with fail
    go_ret
    exact ⟨ret_int HQ.out.symm, by first | exact below_drewN ((Below.refl _ _).alloc (Nat.le_refl _) _) _ | exact below_drewN (below_drewN ((Below.refl _ _).alloc (Nat.le_refl _) _) _) _⟩
end Go.Proofs.YtimdkjbmeogpoaaGreatDoor
