/- The law IntegerHilbert answers true at all numbers. -/
import Derived.Test.YtmlkiddkgikdhaaAwk
import Derived.Test.YtmlkiddkgikdhaaRefA
namespace Go.Proofs.Ytmlkiddkgikdhaa
open Go.RowKit FF
attribute [local go_sem ↓] Go.wp_at_zero Go.wp_at_succ

theorem bne_self' (x : Int) : (x != x) = false := by simp
theorem beq_self' (x : Int) : (x == x) = true := by simp
theorem below_draws {w w' : World} {n : Nat} (h : Below (w.drewN n).heap.size (w.drewN n) w') : Below w.heap.size w w' := (below_drewN (Below.refl _ _) n).trans h

theorem hilE_comm (a b p : Int) : hilE a b p = hilE b a p := by
  unfold hilE
  have e1 : (a = 0 ∨ b = 0) ↔ (b = 0 ∨ a = 0) := Or.comm
  have e2 : (inB a = false ∨ inB b = false) ↔ (inB b = false ∨ inB a = false) := Or.comm
  simp only [e1, e2]
theorem hilV_comm (a b p : Int) : hilV a b p = hilV b a p := by unfold hilV; rw [hilE_comm, hil_comm]
theorem hilE_zero {a b p : Int} (h : hilE a b p = 0) : a ≠ 0 ∧ b ≠ 0 ∧ inB a = true ∧ inB b = true ∧ (p = 0 ∨ isPB p = true) := by
  unfold hilE at h
  by_cases c1 : a = 0 ∨ b = 0
  · rw [if_pos c1] at h; exact absurd h (by omega)
  rw [if_neg c1] at h
  by_cases c2 : inB a = false ∨ inB b = false
  · rw [if_pos c2] at h; exact absurd h (by omega)
  rw [if_neg c2] at h
  by_cases c4 : p ≠ 0 ∧ isPB p = false
  · rw [if_pos c4] at h; exact absurd h (by omega)
  refine ⟨fun e => c1 (Or.inl e), fun e => c1 (Or.inr e), by cases hx : inB a; exact absurd (Or.inl hx) c2; rfl, by cases hx : inB b; exact absurd (Or.inr hx) c2; rfl, ?_⟩
  by_cases hp : p = 0
  · exact Or.inl hp
  · right; cases hx : isPB p; exact absurd ⟨hp, hx⟩ c4; rfl
theorem hil_law {a b p : Int} (h : hilE a b p = 0) : hilE b a p = 0 ∧ hilV b a p = hilV a b p ∧ hilE a (-a) p = 0 ∧ hilV a (-a) p = 1 ∧ -1000000000 ≤ a ∧ a ≤ 1000000000 := by
  obtain ⟨ha, hb, ia, ib, hp⟩ := hilE_zero h
  have ra := inB_iff.1 ia
  have e : hilE a (-a) p = 0 := by
    unfold hilE
    rw [if_neg (by omega), if_neg (by rw [ia]; have : inB (-a) = true := inB_iff.2 (by omega); rw [this]; simp), if_neg ?_]
    rintro ⟨h1, h2⟩
    rcases hp with hp | hp
    · exact h1 hp
    · rw [hp] at h2; exact absurd h2 (by simp)
  refine ⟨by rw [hilE_comm]; exact h, hilV_comm b a p, e, ?_, ra⟩
  unfold hilV; rw [if_pos e]
  refine hil_neg ha ?_
  rcases hp with hp | hp
  · exact Or.inl hp
  · exact Or.inr (isPB_iff.1 hp).1

set_option maxHeartbeats 1000000 in
theorem IntegerHilbert_law (a b p : Int) (w : World) (_ha : I64 a) (_hb : I64 b) (_hp : I64 p) :
    Calls Try.prog 3 #[.int .i64 a, .int .i64 b, .int .i64 p] w fun e w' => e = .returned (.bool true) ∧ Below w.heap.size w w' := by
  have hA := Lib.hid awake_any
  have hH := Lib.hid (fun w => Hilbert_any a b p w)
  have hR := Lib.hid (fun w => rHilbert_any a b p w)
  have d1 := bne_self' (hilV a b p)
  have d2 := bne_self' (hilE a b p)
  by_cases h : hilE a b p = 0
  · obtain ⟨e1, e2, e3, e4, l1, l2⟩ := hil_law h
    have d3 := beq_self' (hilV a b p)
    have hH2 := Lib.hid (fun w => e2 ▸ e1 ▸ Hilbert_any b a p w)
    have hH3 := Lib.hid (fun w => e4 ▸ e3 ▸ Hilbert_any a (-a) p w)
    rw [h] at hH hR
    clear d2 e1 e2 e3 e4 h _ha
    generalize hilV a b p = V at *
    go_enter Try.func3, Try.ntmps3
    go_wp2_with fail
    refine (hH.out _).mono ?_
    rintro e w' ⟨rfl, n1, rfl⟩
    go_wp2_with fail
    refine (hR.out _).mono ?_
    rintro e w' ⟨rfl, n2, rfl⟩
    go_wp2_with fail
    refine (hH2.out _).mono ?_
    rintro e w' ⟨rfl, n3, rfl⟩
    go_wp2_with fail
    refine (hH3.out _).mono ?_
    rintro e w' ⟨rfl, n4, rfl⟩
    go_wp2_with fail
    refine (hA.out _).mono ?_
    rintro e w' ⟨rfl, hb⟩
    go_wp2_with fail
    go_ret
    exact ⟨rfl, below_draws hb⟩
  · generalize hilV a b p = V at *
    generalize hilE a b p = E at *
    have d4 : (E != 0) = true := bne_iff_ne.2 h
    clear h
    go_enter Try.func3, Try.ntmps3
    go_wp2_with fail
    refine (hH.out _).mono ?_
    rintro e w' ⟨rfl, n1, rfl⟩
    go_wp2_with fail
    refine (hR.out _).mono ?_
    rintro e w' ⟨rfl, n2, rfl⟩
    go_wp2_with fail
    refine (hA.out _).mono ?_
    rintro e w' ⟨rfl, hb⟩
    go_wp2_with fail
    go_ret
    exact ⟨rfl, below_draws hb⟩
end Go.Proofs.Ytmlkiddkgikdhaa
