/- The law IntegerPowers answers true at all numbers. -/
import Derived.Test.YtmlkiddkgikdhaaIntegerHilbert
import Derived.Test.YtmlkiddkgikdhaaVb
namespace Go.Proofs.Ytmlkiddkgikdhaa
open Go.RowKit FF
attribute [local go_sem ↓] Go.wp_at_zero Go.wp_at_succ

/-- the error of a power -/
def powE (n m : Int) : Int := if n < 0 ∨ modB m = false then 2 else 0
/-- the power, or 0 -/
def powV (a n m : Int) : Int := if powE n m = 0 then a ^ n.toNat % m else 0

set_option maxHeartbeats 400000 in
theorem Power_any (a n m : Int) (w : World) (ha : I64 a) (hn : I64 n) :
    Calls Try.prog 25 #[.int .i64 a, .int .i64 n, .int .i64 m] w (Ret w (.tuple #[.int .i64 (powV a n m), .int .i64 (powE n m)])) := by
  have hM := Lib.hid (fun w => modulus_any m w)
  by_cases h0 : n < 0
  · have E := Lib.hid (show powE n m = 2 from if_pos (Or.inl h0))
    have V := Lib.hid (show powV a n m = 0 by unfold powV; rw [E.out]; rfl)
    go_enter Try.func25, Try.ntmps25
    go_wp2_with fail
    go_ret2
    exact Ret.eq0 (ret_two V.out.symm E.out.symm)
  cases h : modB m
  · have E := Lib.hid (show powE n m = 2 from if_pos (Or.inr h))
    have V := Lib.hid (show powV a n m = 0 by unfold powV; rw [E.out]; rfl)
    rw [h] at hM
    clear h
    go_enter Try.func25, Try.ntmps25
    go_wp2_with fail
    refine (hM.out _).mono ?_
    rintro e w' ⟨rfl, n1, rfl⟩
    go_wp2_with fail
    go_ret2
    exact Ret.eq _ (ret_two V.out.symm E.out.symm)
  · have E := Lib.hid (show powE n m = 0 from if_neg (by rw [h]; simp; omega))
    have V := Lib.hid (show powV a n m = a ^ n.toNat % m by unfold powV; rw [E.out]; rfl)
    obtain ⟨m1, m2⟩ := modB_true.1 h
    have hP := Lib.hid (fun w => power_any a n m w ha (by omega) hn m1 m2)
    rw [h] at hM
    clear h
    go_enter Try.func25, Try.ntmps25
    go_wp2_with fail
    refine (hM.out _).mono ?_
    rintro e w' ⟨rfl, n1, rfl⟩
    go_wp2_with fail
    refine (hP.out _).mono ?_
    rintro e w' ⟨rfl, n2, rfl⟩
    go_wp2_with fail
    go_ret2
    exact Ret.eq _ (ret_two V.out.symm E.out.symm)

set_option maxHeartbeats 400000 in
theorem rPower2_any (a n m : Int) (w : World) (ha : I64 a) (hn : I64 n) :
    Calls Try.prog 26 #[.int .i64 a, .int .i64 n, .int .i64 m] w (Ret w (.tuple #[.int .i64 (powV a n m), .int .i64 (powE n m)])) := by
  have hM := Lib.hid (fun w => rIsModulus_any m w)
  by_cases h0 : n < 0
  · have E := Lib.hid (show powE n m = 2 from if_pos (Or.inl h0))
    have V := Lib.hid (show powV a n m = 0 by unfold powV; rw [E.out]; rfl)
    go_enter Try.func26, Try.ntmps26
    go_wp2_with fail
    go_ret2
    exact Ret.eq0 (ret_two V.out.symm E.out.symm)
  cases h : modB m
  · have E := Lib.hid (show powE n m = 2 from if_pos (Or.inr h))
    have V := Lib.hid (show powV a n m = 0 by unfold powV; rw [E.out]; rfl)
    rw [h] at hM
    clear h
    go_enter Try.func26, Try.ntmps26
    go_wp2_with fail
    refine (hM.out _).mono ?_
    rintro e w' ⟨rfl, n1, rfl⟩
    go_wp2_with fail
    go_ret2
    exact Ret.eq _ (ret_two V.out.symm E.out.symm)
  · have E := Lib.hid (show powE n m = 0 from if_neg (by rw [h]; simp; omega))
    have V := Lib.hid (show powV a n m = a ^ n.toNat % m by unfold powV; rw [E.out]; rfl)
    obtain ⟨m1, m2⟩ := modB_true.1 h
    have hP := Lib.hid (fun w => rPower_any a n m w ha (by omega) hn m1 m2)
    rw [h] at hM
    clear h
    go_enter Try.func26, Try.ntmps26
    go_wp2_with fail
    refine (hM.out _).mono ?_
    rintro e w' ⟨rfl, n1, rfl⟩
    go_wp2_with fail
    refine (hP.out _).mono ?_
    rintro e w' ⟨rfl, n2, rfl⟩
    go_wp2_with fail
    go_ret2
    exact Ret.eq _ (ret_two V.out.symm E.out.symm)

theorem pow_law {a n k m : Int} (hE : powE n m = 0) (hk : 0 ≤ k) : 1 ≤ m ∧ m ≤ 1000000000 ∧ 0 ≤ n ∧ powE k m = 0 ∧ powE (n + k) m = 0 ∧ powV a (n + k) m = powV a n m * powV a k m % m ∧
    0 ≤ powV a n m ∧ powV a n m < m ∧ 0 ≤ powV a k m ∧ powV a k m < m := by
  unfold powE at hE
  by_cases c : n < 0 ∨ modB m = false
  · rw [if_pos c] at hE; exact absurd hE (by omega)
  have hm : modB m = true := by cases h : modB m; exact absurd (Or.inr h) c; rfl
  obtain ⟨m1, m2⟩ := modB_true.1 hm
  have hn : 0 ≤ n := by omega
  have e1 : ∀ j : Int, 0 ≤ j → powE j m = 0 := fun j hj => if_neg (by rw [hm]; simp; omega)
  have v1 : ∀ j : Int, 0 ≤ j → powV a j m = a ^ j.toNat % m := fun j hj => if_pos (e1 j hj)
  refine ⟨m1, m2, hn, e1 k hk, e1 _ (by omega), ?_, ?_, ?_, ?_, ?_⟩
  · rw [v1 _ (by omega), v1 n hn, v1 k hk, show (n + k).toNat = n.toNat + k.toNat by omega, Int.pow_add, Int.mul_emod]
  · rw [v1 n hn]; exact Int.emod_nonneg _ (by omega)
  · rw [v1 n hn]; exact Int.emod_lt_of_pos _ (by omega)
  · rw [v1 k hk]; exact Int.emod_nonneg _ (by omega)
  · rw [v1 k hk]; exact Int.emod_lt_of_pos _ (by omega)

theorem below_box {w w' : World} {o : Obj} {n : Nat} (h : Below ((w.alloc o).drewN n).heap.size ((w.alloc o).drewN n) w') : Below w.heap.size w w' :=
  (below_drewN ((Below.refl _ _).alloc (Nat.le_refl _) _) n).trans (h.mono (by simp))
set_option maxHeartbeats 4000000 in
theorem IntegerPowers_law (a m n k : Int) (w : World) (ha : I64 a) (_hm : I64 m) (hn : I64 n) (hk : I64 k) :
    Calls Try.prog 5 #[.int .i64 a, .int .i64 m, .agg #[.int .i64 n, .int .i64 k]] w fun e w' => e = .returned (.bool true) ∧ Below w.heap.size w w' := by
  have hA := Lib.hid awake_any
  have hP := Lib.hid (fun w => Power_any a n m w ha hn)
  have hR := Lib.hid (fun w => rPower2_any a n m w ha hn)
  have d1 := bne_self' (powV a n m)
  have d2 := bne_self' (powE n m)
  by_cases hE : powE n m = 0
  · have hW1 := Lib.hid (fun w => bWithin_any n 0 1000000 w)
    have hW2 := Lib.hid (fun w => bWithin_any k 0 1000000 w)
    cases c1 : winB n 0 1000000
    · rw [hE] at hP hR
      rw [c1] at hW1
      clear d2 hE ha hn hk c1
      generalize powV a n m = V at *
      go_enter Try.func5, Try.ntmps5
      go_wp2_with fail
      refine (hP.out _).mono ?_
      rintro e w' ⟨rfl, n1, rfl⟩
      go_wp2_with fail
      refine (hR.out _).mono ?_
      rintro e w' ⟨rfl, n2, rfl⟩
      go_wp2_with fail
      refine (hW1.out _).mono ?_
      rintro e w' ⟨rfl, n3, rfl⟩
      go_wp2_with fail
      refine (hA.out _).mono ?_
      rintro e w' ⟨rfl, hb⟩
      go_wp2_with fail
      go_ret
      exact ⟨rfl, below_box hb⟩
    cases c2 : winB k 0 1000000
    · rw [hE] at hP hR
      rw [c1] at hW1; rw [c2] at hW2
      clear d2 hE ha hn hk c1 c2
      generalize powV a n m = V at *
      go_enter Try.func5, Try.ntmps5
      go_wp2_with fail
      refine (hP.out _).mono ?_
      rintro e w' ⟨rfl, n1, rfl⟩
      go_wp2_with fail
      refine (hR.out _).mono ?_
      rintro e w' ⟨rfl, n2, rfl⟩
      go_wp2_with fail
      refine (hW1.out _).mono ?_
      rintro e w' ⟨rfl, n3, rfl⟩
      go_wp2_with fail
      refine (hW2.out _).mono ?_
      rintro e w' ⟨rfl, n4, rfl⟩
      go_wp2_with fail
      refine (hA.out _).mono ?_
      rintro e w' ⟨rfl, hb⟩
      go_wp2_with fail
      go_ret
      exact ⟨rfl, below_box hb⟩
    · obtain ⟨l1, l2⟩ := winB_iff.1 c1
      obtain ⟨l3, l4⟩ := winB_iff.1 c2
      obtain ⟨m1, m2, _, e1, e2, e3, b1, b2, b3, b4⟩ := pow_law (a := a) hE l3
      have hP2 := Lib.hid (fun w => e1 ▸ Power_any a k m w ha hk)
      have hP3 := Lib.hid (fun w => e3 ▸ e2 ▸ Power_any a (n + k) m w ha ⟨by omega, by omega⟩)
      have hV1 := Lib.hid (fun w => bWithin_any (powV a n m) 0 (m - 1) w)
      have hV2 := Lib.hid (fun w => bWithin_any (powV a k m) 0 (m - 1) w)
      rw [show winB (powV a n m) 0 (m - 1) = true from winB_iff.2 ⟨b1, by omega⟩] at hV1
      rw [show winB (powV a k m) 0 (m - 1) = true from winB_iff.2 ⟨b3, by omega⟩] at hV2
      obtain ⟨q1, q2⟩ := mul_le_sq b1 b2 b3 b4 m2
      have d3 := beq_self' (powV a n m * powV a k m % m)
      rw [hE] at hP hR
      rw [c1] at hW1; rw [c2] at hW2
      clear d2 hE ha hn hk c1 c2 e1 e2 e3
      generalize powV a n m = V at *
      generalize powV a k m = V2 at *
      go_enter Try.func5, Try.ntmps5
      go_wp2_with fail
      refine (hP.out _).mono ?_
      rintro e w' ⟨rfl, n1, rfl⟩
      go_wp2_with fail
      refine (hR.out _).mono ?_
      rintro e w' ⟨rfl, n2, rfl⟩
      go_wp2_with fail
      refine (hW1.out _).mono ?_
      rintro e w' ⟨rfl, n3, rfl⟩
      go_wp2_with fail
      refine (hW2.out _).mono ?_
      rintro e w' ⟨rfl, n4, rfl⟩
      go_wp2_with fail
      refine (hP2.out _).mono ?_
      rintro e w' ⟨rfl, n5, rfl⟩
      go_wp2_with fail
      refine (hP3.out _).mono ?_
      rintro e w' ⟨rfl, n6, rfl⟩
      go_wp2_with fail
      refine (hV1.out _).mono ?_
      rintro e w' ⟨rfl, n7, rfl⟩
      go_wp2_with fail
      refine (hV2.out _).mono ?_
      rintro e w' ⟨rfl, n8, rfl⟩
      go_wp2_with fail
      refine (hA.out _).mono ?_
      rintro e w' ⟨rfl, hb⟩
      go_wp2_with fail
      go_ret
      exact ⟨rfl, below_box hb⟩
  · generalize powV a n m = V at *
    generalize powE n m = E at *
    have d4 : (E != 0) = true := bne_iff_ne.2 hE
    clear hE ha hn hk
    go_enter Try.func5, Try.ntmps5
    go_wp2_with fail
    refine (hP.out _).mono ?_
    rintro e w' ⟨rfl, n1, rfl⟩
    go_wp2_with fail
    refine (hR.out _).mono ?_
    rintro e w' ⟨rfl, n2, rfl⟩
    go_wp2_with fail
    refine (hA.out _).mono ?_
    rintro e w' ⟨rfl, hb⟩
    go_wp2_with fail
    go_ret
    exact ⟨rfl, below_box hb⟩
end Go.Proofs.Ytmlkiddkgikdhaa
