/- The law IntegerRoots answers true at all numbers. -/
import Derived.Test.YtmlkiddkgikdhaaIntegerHilbert
import Derived.Test.YtmlkiddkgikdhaaRRts
import Derived.Test.YtmlkiddkgikdhaaCmp
namespace Go.Proofs.Ytmlkiddkgikdhaa
open Go.RowKit FF
attribute [local go_sem ↓] Go.wp_at_zero Go.wp_at_succ

theorem rootsR_small {a p k : Int} (h : ppE p k ≠ 0) : rootsE a p k = ppE p k ∧ rootsR a p k = [] := by
  have h1 : rootsE a p k = ppE p k := if_neg h
  exact ⟨h1, if_neg (by rw [h1]; exact h)⟩
theorem rootsR_len (a p k : Int) : (rootsR a p k).length ≤ 1000 := by
  unfold rootsR
  by_cases h : rootsE a p k = 0
  · rw [if_pos h]
    unfold rootsE at h
    by_cases h1 : ppE p k = 0
    · rw [if_pos h1] at h
      by_cases h2 : 1000 < (rootsL a (ppV p k)).length
      · rw [if_pos h2] at h; exact absurd h (by omega)
      · omega
    · rw [if_neg h1] at h; exact absurd h h1
  · rw [if_neg h]; exact Nat.zero_le _

set_option maxHeartbeats 1000000 in
theorem IntegerRoots_law (a p k : Int) (w : World) (ha : I64 a) (_hp : I64 p) (hk : I64 k) :
    Calls Try.prog 4 #[.int .i64 a, .int .i64 p, .int .i64 k] w fun e w' => e = .returned (.bool true) ∧ Below w.heap.size w w' := by
  have hA := Lib.hid awake_any
  have hP := Lib.hid (fun w => rPrimePower_any p k w hk)
  have hR := Lib.hid (fun w => Roots_any a p k w ha hk)
  by_cases h : ppE p k = 0
  · by_cases h3 : 3000 < ppV p k
    · rw [h] at hP
      clear h
      generalize ppV p k = V at *
      go_enter Try.func4, Try.ntmps4
      go_wp2_with fail
      refine (hP.out _).mono ?_
      rintro e w' ⟨rfl, n1, rfl⟩
      go_wp2_with fail
      refine (hA.out _).mono ?_
      rintro e w' ⟨rfl, hb⟩
      go_wp2_with fail
      go_ret
      exact ⟨rfl, below_draws hb⟩
    · have hR2 := Lib.hid (fun w => rRoots_any a p k w ha hk h (by omega))
      have hlen := rootsR_len a p k
      rw [h] at hP
      have d1 := beq_self' (rootsE a p k)
      have hI := Lib.hid (fun A A' c c' w hx hy => decide_eq_true (rfl : rootsR a p k = rootsR a p k) ▸ Ints_any A A' (rootsR a p k) (rootsR a p k) c c' w hx hy (by unfold maxLen; omega))
      unfold RootsPost at hR hR2
      clear h
      generalize ppV p k = V at *
      generalize rootsE a p k = E at *
      generalize rootsR a p k = L at *
      go_enter Try.func4, Try.ntmps4
      go_wp2_with fail
      refine (hP.out _).mono ?_
      rintro e w' ⟨rfl, n1, rfl⟩
      go_wp2_with fail
      refine (hR.out _).mono ?_
      rintro e w2 ⟨A, c, rfl, hs, -, -, hb⟩
      have HS := Lib.hid hs; have HB := Lib.hid (below_draws hb)
      clear hs hb
      go_wp2_with fail
      refine (hR2.out _).mono ?_
      rintro e w3 ⟨A', c', rfl, hs, -, -, hb⟩
      have HS2 := Lib.hid hs; have HS1 := Lib.hid (HS.out.below hb); have HB2 := Lib.hid (HB.out.trans (hb.mono HB.out.size))
      clear hs hb HS HB
      go_wp2_with fail
      refine (hI.out A A' c c' _ HS1.out HS2.out).mono ?_
      rintro e w' ⟨rfl, n2, rfl⟩
      go_wp2_with fail
      refine (hA.out _).mono ?_
      rintro e w' ⟨rfl, hb⟩
      go_wp2_with fail
      go_ret
      exact ⟨rfl, HB2.out.trans ((below_draws hb).mono HB2.out.size)⟩
  · obtain ⟨e1, e2⟩ := rootsR_small (a := a) h
    unfold RootsPost at hR
    rw [e1, e2] at hR
    have d1 := beq_self' (ppE p k)
    clear e1 e2
    generalize ppV p k = V at *
    generalize ppE p k = E at *
    have d := bne_iff_ne.2 h
    have d0 := f_beq h
    clear h
    go_enter Try.func4, Try.ntmps4
    go_wp2_with fail
    refine (hP.out _).mono ?_
    rintro e w' ⟨rfl, n1, rfl⟩
    go_wp2_with fail
    refine (hR.out _).mono ?_
    rintro e w2 ⟨A, c, rfl, hs, -, -, hb⟩
    have HB := Lib.hid (below_draws hb)
    clear hs hb
    go_wp2_with fail
    refine (hA.out _).mono ?_
    rintro e w' ⟨rfl, hb⟩
    go_wp2_with fail
    go_ret
    exact ⟨rfl, HB.out.trans (hb.mono HB.out.size)⟩
end Go.Proofs.Ytmlkiddkgikdhaa
