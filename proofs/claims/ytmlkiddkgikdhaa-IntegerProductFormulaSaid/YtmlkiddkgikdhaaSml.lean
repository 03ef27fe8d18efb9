/- Integers of several words: machine integers. -/
import Derived.Test.YtmlkiddkgikdhaaRni
namespace Go.Proofs.Ytmlkiddkgikdhaa
open Go.RowKit FF

def smallV (z : Int) : Int := if -9223372036854775808 ≤ z ∧ z ≤ 9223372036854775807 then z else 0
def smallB (z : Int) : Bool := decide (-9223372036854775808 ≤ z ∧ z ≤ 9223372036854775807)
theorem two_words {a : Nat} (h : wl a ≤ 2) : a = (digs WB a).getD 1 0 * 4294967296 + (digs WB a).getD 0 0 := by
  have h1 := val_take_succ' (B := WB) (digs WB a) 1
  have h2 := val_take_succ' (B := WB) (digs WB a) 0
  rw [List.take_of_length_le (show (digs WB a).length ≤ 1 + 1 from h), val_digs' WB2] at h1
  rw [h2] at h1
  simp only [List.take_zero, val, Nat.pow_zero, Nat.one_mul, Nat.pow_one, Nat.zero_add] at h1
  unfold WB at *
  omega
theorem wl_big {a : Nat} (h : 2 < wl a) : 18446744073709551616 ≤ a := by
  apply Classical.byContradiction
  intro hc
  have := wl_u64 (n := a) (by omega)
  omega

set_option maxRecDepth 100000 in
set_option maxHeartbeats 2000000 in
theorem Small_any (s : Bool) (A : Option Addr) (n c : Nat) (x : Int) (w : World) (hx : AI w s A n c x) :
    Calls Try.prog 59 #[.agg #[.bool s, .slice A n c]] w fun e w' => e = .returned (.tuple #[.int .i64 (smallV x), .bool (smallB x)]) ∧ Below w.heap.size w w' := by
  obtain ⟨xs, rfl, X, dx, hcx, hcx2, rfl, -⟩ := hx
  have HSx := Lib.hid (fun w' (h : Shows .u32 w' A xs) => size_any s A xs c w' h dx hcx hcx2)
  have HX := Lib.hid X
  have TX := Lib.hid (X.trim dx)
  generalize xs.length = n at *
  clear X dx hcx hcx2
  generalize val WB xs = a at *
  by_cases hw : 2 < wl a
  · have hbig := wl_big hw
    have e1 : smallV (sval s a) = 0 := by unfold smallV; rw [if_neg]; cases s <;> simp [sval] <;> omega
    have e2 : smallB (sval s a) = false := by unfold smallB; rw [decide_eq_false_iff_not]; cases s <;> simp [sval] <;> omega
    rw [e1, e2]
    clear e1 e2 hbig
    go_enter Try.func59, Try.ntmps59
    go_wp2_with fail
    refine (HSx.out _ (HX.out.alloc _)).mono ?_
    rintro e w1 ⟨rfl, hb⟩
    rw [World.size_alloc] at hb
    have HB := Lib.hid (below_slot hb)
    have hw' : (2 : Int) < (wl a : Nat) := by omega
    clear hb HSx HX TX hw
    generalize wl a = l at *
    go_wp2_with fail
    go_ret2
    exact ⟨rfl, HB.out⟩
  · have e0 := two_words (a := a) (by omega)
    have b0 : (digs WB a).getD 0 0 < 4294967296 := (dig_digs' WB2 a).getD (by decide) _
    have b1 : (digs WB a).getD 1 0 < 4294967296 := (dig_digs' WB2 a).getD (by decide) _
    have HA0 := Lib.hid (fun (W : World) (h : Shows .u32 W A (digs WB a)) => at_any A (digs WB a) (wl a) 0 W h (by omega) (dig_digs' WB2 a))
    have HA1 := Lib.hid (fun (W : World) (h : Shows .u32 W A (digs WB a)) => at_any A (digs WB a) (wl a) 1 W h (by omega) (dig_digs' WB2 a))
    change Hid (∀ W, _ → Calls _ _ #[.slice A (wl a) (wl a), .int .i64 ((0 : Nat) : Int)] W _) at HA0
    change Hid (∀ W, _ → Calls _ _ #[.slice A (wl a) (wl a), .int .i64 ((1 : Nat) : Int)] W _) at HA1
    generalize (digs WB a).getD 0 0 = x0 at *
    generalize (digs WB a).getD 1 0 = x1 at *
    have hor := or_shift b1 b0
    rw [← e0] at hor
    obtain ⟨Z, hZ⟩ : ∃ Z : Int, (a : Int) = Z := ⟨_, rfl⟩
    rw [hZ] at hor
    have HZ := Lib.hid hZ
    clear hZ
    have HAB := Lib.hid (show a < 18446744073709551616 by omega)
    have E0 := Lib.hid e0
    clear e0
    have hw' : ¬ (2 : Int) < (wl a : Nat) := by omega
    cases s
    · by_cases hlt : Z < 9223372036854775808
      · have d1 := decide_eq_true hlt
        have HE := Lib.hid (show smallV (sval false a) = Z ∧ smallB (sval false a) = true by
          have := HZ.out
          rw [show sval false a = (a : Int) from rfl, this]
          exact ⟨if_pos (by omega), decide_eq_true (by omega)⟩)
        have e9 : IntKind.i64.wrap Z = Z := IntWalk.i64_in _ (by have := HZ.out; omega)
        rw [HE.out.1, HE.out.2]
        clear hlt HE
        go_enter Try.func59, Try.ntmps59
        go_wp2_with fail
        refine (HSx.out _ (HX.out.alloc _)).mono ?_
        rintro e w1 ⟨rfl, hb⟩
        rw [World.size_alloc] at hb
        obtain ⟨k, f, hz⟩ := slot_keep hb
        have k0 := k 0
        have TX1 := Lib.hid (TX.out.alloc (.cells #[.bool false, .slice A n c] 51) |>.below (by rw [World.size_alloc]; exact hb))
        have HB := Lib.hid (below_slot hb)
        clear hb HSx HX TX hw k f
        go_wp2_with fail
        refine (HA1.out _ TX1.out).mono ?_
        rintro e w2 ⟨rfl, n2, rfl⟩
        go_wp2_with fail
        refine (HA0.out _ (TX1.out.drewN _)).mono ?_
        rintro e w2 ⟨rfl, n3, rfl⟩
        go_wp2_with fail
        go_ret2
        exact ⟨by rfl, below_drewN HB.out _⟩
      · have d1 := decide_eq_false hlt
        have HE := Lib.hid (show smallV (sval false a) = 0 ∧ smallB (sval false a) = false by
          have := HZ.out
          rw [show sval false a = (a : Int) from rfl, this]
          exact ⟨if_neg (by omega), decide_eq_false (by omega)⟩)
        rw [HE.out.1, HE.out.2]
        clear hlt HE
        go_enter Try.func59, Try.ntmps59
        go_wp2_with fail
        refine (HSx.out _ (HX.out.alloc _)).mono ?_
        rintro e w1 ⟨rfl, hb⟩
        rw [World.size_alloc] at hb
        obtain ⟨k, f, hz⟩ := slot_keep hb
        have k0 := k 0
        have TX1 := Lib.hid (TX.out.alloc (.cells #[.bool false, .slice A n c] 51) |>.below (by rw [World.size_alloc]; exact hb))
        have HB := Lib.hid (below_slot hb)
        clear hb HSx HX TX hw k f
        go_wp2_with fail
        refine (HA1.out _ TX1.out).mono ?_
        rintro e w2 ⟨rfl, n2, rfl⟩
        go_wp2_with fail
        refine (HA0.out _ (TX1.out.drewN _)).mono ?_
        rintro e w2 ⟨rfl, n3, rfl⟩
        go_wp2_with fail
        go_ret2
        exact ⟨by rfl, below_drewN HB.out _⟩
    · by_cases hlt : Z ≤ 9223372036854775808
      · have d1 := decide_eq_true hlt
        have HE := Lib.hid (show smallV (sval true a) = -Z ∧ smallB (sval true a) = true by
          have := HZ.out
          rw [show sval true a = -(a : Int) from rfl, this]
          exact ⟨if_pos (by omega), decide_eq_true (by omega)⟩)
        have e9 : IntKind.i64.wrap (IntKind.u64.wrap (-Z)) = -Z := by
          have := HZ.out
          simp only [IntKind.wrap, IntKind.bits, IntKind.signed]; simp; omega
        rw [HE.out.1, HE.out.2]
        clear hlt HE
        go_enter Try.func59, Try.ntmps59
        go_wp2_with fail
        refine (HSx.out _ (HX.out.alloc _)).mono ?_
        rintro e w1 ⟨rfl, hb⟩
        rw [World.size_alloc] at hb
        obtain ⟨k, f, hz⟩ := slot_keep hb
        have k0 := k 0
        have TX1 := Lib.hid (TX.out.alloc (.cells #[.bool true, .slice A n c] 51) |>.below (by rw [World.size_alloc]; exact hb))
        have HB := Lib.hid (below_slot hb)
        clear hb HSx HX TX hw k f
        go_wp2_with fail
        refine (HA1.out _ TX1.out).mono ?_
        rintro e w2 ⟨rfl, n2, rfl⟩
        go_wp2_with fail
        refine (HA0.out _ (TX1.out.drewN _)).mono ?_
        rintro e w2 ⟨rfl, n3, rfl⟩
        go_wp2_with fail
        go_ret2
        exact ⟨by rfl, below_drewN HB.out _⟩
      · have d1 := decide_eq_false hlt
        have HE := Lib.hid (show smallV (sval true a) = 0 ∧ smallB (sval true a) = false by
          have := HZ.out
          rw [show sval true a = -(a : Int) from rfl, this]
          exact ⟨if_neg (by omega), decide_eq_false (by omega)⟩)
        rw [HE.out.1, HE.out.2]
        clear hlt HE
        go_enter Try.func59, Try.ntmps59
        go_wp2_with fail
        refine (HSx.out _ (HX.out.alloc _)).mono ?_
        rintro e w1 ⟨rfl, hb⟩
        rw [World.size_alloc] at hb
        obtain ⟨k, f, hz⟩ := slot_keep hb
        have k0 := k 0
        have TX1 := Lib.hid (TX.out.alloc (.cells #[.bool true, .slice A n c] 51) |>.below (by rw [World.size_alloc]; exact hb))
        have HB := Lib.hid (below_slot hb)
        clear hb HSx HX TX hw k f
        go_wp2_with fail
        refine (HA1.out _ TX1.out).mono ?_
        rintro e w2 ⟨rfl, n2, rfl⟩
        go_wp2_with fail
        refine (HA0.out _ (TX1.out.drewN _)).mono ?_
        rintro e w2 ⟨rfl, n3, rfl⟩
        go_wp2_with fail
        go_ret2
        exact ⟨by rfl, below_drewN HB.out _⟩
end Go.Proofs.Ytmlkiddkgikdhaa
