/- Residues in package algebra; which primes an algebra may be represented modulo. -/
import Derived.Test.YtfjmhfmhijhpkaaMdr
namespace Go.Proofs.Ytfjmhfmhijhpkaa
open Go.RowKit FF

set_option maxHeartbeats 400000 in
theorem amod_any (a m : Int) (w : World) (h3 : 0 < m) (hm : m ≤ 1000000) :
    Calls Try.prog 45 #[.int .i64 a, .int .i64 m] w (Ret w (.int .i64 (a % m))) := by
  have t1 := Int.tmod_lt_of_pos a h3
  have t2 := Int.lt_tmod_of_pos a h3
  have hm0 : m ≠ 0 := by omega
  have u : IntKind.i64.wrap (a.tmod m + m) = a.tmod m + m := wrap_id _ (by omega) (by omega)
  have e := mod_twice (n := a) h3
  rw [← e]
  clear e
  obtain ⟨S, hS⟩ : ∃ S, a.tmod m = S := ⟨_, rfl⟩
  rw [hS] at u ⊢
  obtain ⟨R, hR⟩ : ∃ R, (S + m).tmod m = R := ⟨_, rfl⟩
  rw [hR]
  clear t1 t2 h3 hm
  go_enter Try.func45, Try.ntmps45
  go_wp2_with fail
  go_ret
  exact Ret.eq0 (ret_int (by first | rfl | assumption))

/-- the error of a prime modulo which an algebra is to be represented -/
def modP (a b p : Int) : Bool := winB p 3 10000 && (isPB p && (!(a.tmod p == 0) && !(b.tmod p == 0)))
def modE (a b p : Int) : Int := if modP a b p then 0 else 11

set_option maxHeartbeats 4000000 in
set_option maxRecDepth 100000 in
theorem rCheckModulus_any (a b p : Int) (w : World) :
    Calls Try.prog 10 #[.agg #[.int .i64 a, .int .i64 b], .int .i64 p] w fun r w' => r = .returned (.int .i64 (modE a b p)) ∧ Below w.heap.size w w' := by
  have hW := fun w => bWithin_any p 3 10000 w
  have hPr := fun w => rIsPrime_any p w
  have HE := Lib.hid (show modE a b p = (if winB p 3 10000 && (isPB p && (!(a.tmod p == 0) && !(b.tmod p == 0))) then 0 else 11) from rfl)
  generalize modE a b p = E at *
  cases hw : winB p 3 10000
  · rw [hw] at hW HE
    have HQ := Lib.hid (show E = 11 by rw [HE.out]; rfl)
    have HW := Lib.hid hW
    clear HE hw hW hPr
    go_enter Try.func10, Try.ntmps10
    go_upto_region 1 with fail
    obtain ⟨W0, hW0⟩ : ∃ W0 : World, W0 = (w.alloc (.cells #[.int .i64 a, .int .i64 b] 23)) := ⟨_, rfl⟩
    rw [← hW0]
    have HB0 := Lib.hid (show Bx w [(w.heap.size, #[.int .i64 a, .int .i64 b])] W0 by rw [hW0]; simpa using ((Bx.nil (Below.refl w.heap.size w)).new #[.int .i64 a, .int .i64 b] 23))
    clear hW0
    obtain ⟨c0_0, c0_1⟩ := HB0.out.two (List.mem_cons_self ..)
    go_wp2_with fail
    refine (HW.out _).mono ?_
    rintro e w' ⟨rfl, n1, rfl⟩
    go_wp2_with fail
    go_ret
    exact ⟨ret_int HQ.out.symm, by repeat (first | exact HB0.out.below | refine below_drewN ?_ _)⟩

  · have hp0 : p ≠ 0 := by have := winB_iff.1 hw; omega
    rw [hw] at hW HE
    have HW := Lib.hid hW
    cases hp : isPB p
    · rw [hp] at hPr HE
      have HQ := Lib.hid (show E = 11 by rw [HE.out]; rfl)
      have HPr := Lib.hid hPr
      clear HE hw hW hPr hp
      go_enter Try.func10, Try.ntmps10
      go_upto_region 1 with fail
      obtain ⟨W0, hW0⟩ : ∃ W0 : World, W0 = (w.alloc (.cells #[.int .i64 a, .int .i64 b] 23)) := ⟨_, rfl⟩
      rw [← hW0]
      have HB0 := Lib.hid (show Bx w [(w.heap.size, #[.int .i64 a, .int .i64 b])] W0 by rw [hW0]; simpa using ((Bx.nil (Below.refl w.heap.size w)).new #[.int .i64 a, .int .i64 b] 23))
      clear hW0
      obtain ⟨c0_0, c0_1⟩ := HB0.out.two (List.mem_cons_self ..)
      go_wp2_with fail
      refine (HW.out _).mono ?_
      rintro e w' ⟨rfl, n1, rfl⟩
      go_wp2_with fail
      refine (HPr.out _).mono ?_
      rintro e w' ⟨rfl, n2, rfl⟩
      go_wp2_with fail
      go_ret
      exact ⟨ret_int HQ.out.symm, by repeat (first | exact HB0.out.below | refine below_drewN ?_ _)⟩

    · rw [hp] at hPr HE
      have HPr := Lib.hid hPr
      clear hw hW hPr hp
      obtain ⟨x, hx⟩ : ∃ x, a.tmod p = x := ⟨_, rfl⟩
      obtain ⟨y, hy⟩ : ∃ y, b.tmod p = y := ⟨_, rfl⟩
      rw [hx, hy] at HE
      by_cases h1 : x = 0
      · subst h1
        have HQ := Lib.hid (show E = 11 by rw [HE.out]; rfl)
        clear HE
        go_enter Try.func10, Try.ntmps10
        go_upto_region 1 with fail
        obtain ⟨W0, hW0⟩ : ∃ W0 : World, W0 = (w.alloc (.cells #[.int .i64 a, .int .i64 b] 23)) := ⟨_, rfl⟩
        rw [← hW0]
        have HB0 := Lib.hid (show Bx w [(w.heap.size, #[.int .i64 a, .int .i64 b])] W0 by rw [hW0]; simpa using ((Bx.nil (Below.refl w.heap.size w)).new #[.int .i64 a, .int .i64 b] 23))
        clear hW0
        obtain ⟨c0_0, c0_1⟩ := HB0.out.two (List.mem_cons_self ..)
        go_wp2_with fail
        refine (HW.out _).mono ?_
        rintro e w' ⟨rfl, n1, rfl⟩
        go_wp2_with fail
        refine (HPr.out _).mono ?_
        rintro e w' ⟨rfl, n2, rfl⟩
        go_wp2_with fail
        go_ret
        exact ⟨ret_int HQ.out.symm, by repeat (first | exact HB0.out.below | refine below_drewN ?_ _)⟩

      · have d1 : (x == 0) = false := f_beq h1
        rw [d1] at HE
        by_cases h2 : y = 0
        · subst h2
          have HQ := Lib.hid (show E = 11 by rw [HE.out]; rfl)
          clear HE
          go_enter Try.func10, Try.ntmps10
          go_upto_region 1 with fail
          obtain ⟨W0, hW0⟩ : ∃ W0 : World, W0 = (w.alloc (.cells #[.int .i64 a, .int .i64 b] 23)) := ⟨_, rfl⟩
          rw [← hW0]
          have HB0 := Lib.hid (show Bx w [(w.heap.size, #[.int .i64 a, .int .i64 b])] W0 by rw [hW0]; simpa using ((Bx.nil (Below.refl w.heap.size w)).new #[.int .i64 a, .int .i64 b] 23))
          clear hW0
          obtain ⟨c0_0, c0_1⟩ := HB0.out.two (List.mem_cons_self ..)
          go_wp2_with fail
          refine (HW.out _).mono ?_
          rintro e w' ⟨rfl, n1, rfl⟩
          go_wp2_with fail
          refine (HPr.out _).mono ?_
          rintro e w' ⟨rfl, n2, rfl⟩
          go_wp2_with fail
          go_ret
          exact ⟨ret_int HQ.out.symm, by repeat (first | exact HB0.out.below | refine below_drewN ?_ _)⟩

        · have d2 : (y == 0) = false := f_beq h2
          rw [d2] at HE
          have HQ := Lib.hid (show E = 0 by rw [HE.out]; rfl)
          clear HE
          go_enter Try.func10, Try.ntmps10
          go_upto_region 1 with fail
          obtain ⟨W0, hW0⟩ : ∃ W0 : World, W0 = (w.alloc (.cells #[.int .i64 a, .int .i64 b] 23)) := ⟨_, rfl⟩
          rw [← hW0]
          have HB0 := Lib.hid (show Bx w [(w.heap.size, #[.int .i64 a, .int .i64 b])] W0 by rw [hW0]; simpa using ((Bx.nil (Below.refl w.heap.size w)).new #[.int .i64 a, .int .i64 b] 23))
          clear hW0
          obtain ⟨c0_0, c0_1⟩ := HB0.out.two (List.mem_cons_self ..)
          go_wp2_with fail
          refine (HW.out _).mono ?_
          rintro e w' ⟨rfl, n1, rfl⟩
          go_wp2_with fail
          refine (HPr.out _).mono ?_
          rintro e w' ⟨rfl, n2, rfl⟩
          go_wp2_with fail
          go_ret
          exact ⟨ret_int HQ.out.symm, by repeat (first | exact HB0.out.below | refine below_drewN ?_ _)⟩


end Go.Proofs.Ytfjmhfmhijhpkaa
