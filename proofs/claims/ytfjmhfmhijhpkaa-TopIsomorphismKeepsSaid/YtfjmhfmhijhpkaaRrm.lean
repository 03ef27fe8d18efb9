/- Ramified places, discriminants, definite algebras: the program's three answers and the reference. -/
import Derived.Test.YtfjmhfmhijhpkaaRam0
namespace Go.Proofs.Ytfjmhfmhijhpkaa
open Go.RowKit FF

/-- a list of numbers that a call made -/
def RamPost (w : World) (L : List Int) (e : Ending) (w' : World) : Prop :=
  ∃ A c, e = .returned (.slice A L.length c) ∧ ShowsI w' A L ∧ L.length ≤ c ∧ c ≤ maxLen ∧ Below w.heap.size w w'
theorem hilV_prime {a b p : Int} (h : aE a b = 0) (hp : isPB p = true) : hilV a b p = Hil a b p := by
  obtain ⟨ha, hb, ha1, hb1⟩ := aE_zero.1 h
  have hE : hilE a b p = 0 := by
    unfold hilE
    rw [if_neg (by omega), if_neg (by
      have i1 : inB a = true := inB_iff.2 ⟨by omega, by omega⟩
      have i2 : inB b = true := inB_iff.2 ⟨by omega, by omega⟩
      rw [i1, i2]; simp), if_neg (by rw [hp]; simp)]
  unfold hilV
  rw [if_pos hE]
theorem ramL_step0 {a b p : Int} {k : Nat} (hp : p = (k : Int) + 2) (h : ramB a b p = false ∨ Hil a b p ≠ -1) : ramL a b (k + 1) = ramL a b k := by
  subst hp
  rw [ramL_succ, if_neg, List.append_nil]
  rcases h with h | h
  · rw [h]; simp
  · rw [f_beq h]; simp
theorem ramL_step1 {a b p : Int} {k : Nat} (hp : p = (k : Int) + 2) (h : ramB a b p = true) (h2 : Hil a b p = -1) : ramL a b (k + 1) = ramL a b k ++ [p] := by
  subst hp
  rw [ramL_succ, if_pos]
  rw [h, t_beq h2]; rfl
theorem ramL_len (a b : Int) (n : Nat) : (ramL a b n).length ≤ n := by
  unfold ramL
  refine Nat.le_trans (List.length_filter_le ..) ?_
  rw [List.length_map, List.length_range]; exact Nat.le_refl _

/-- both numbers below 0 -/
def defB (a b : Int) : Bool := decide (a < 0) && decide (b < 0)
set_option maxHeartbeats 2000000 in
theorem Ramified_good (a b : Int) (w : World) (hE : aE a b = 0) :
    Calls Try.prog 26 #[.agg #[.int .i64 a, .int .i64 b]] w fun e w' => ∃ A c, e = .returned (.tuple #[.slice A (ramL a b 999).length c, .bool (defB a b), .int .i64 0]) ∧ ShowsI w' A (ramL a b 999) ∧ (ramL a b 999).length ≤ c ∧ c ≤ maxLen ∧ Below w.heap.size w w' := by
  have HC := Lib.hid (fun w => (hE ▸ qCheck_any a b w : Calls Try.prog 44 #[.agg #[.int .i64 a, .int .i64 b]] w fun e w' => e = .returned (.int .i64 0) ∧ Below w.heap.size w w'))
  have HR := Lib.hid (fun w => ramified_any a b w hE)
  have HF := Lib.hid (show defB a b = (decide (a < 0) && decide (b < 0)) from rfl)
  generalize defB a b = F at *
  generalize ramL a b 999 = L at *
  clear hE
  by_cases ha : a < 0
  · by_cases hb : b < 0
    · have da : decide (a < 0) = true := decide_eq_true ha
      have db : decide (b < 0) = true := decide_eq_true hb
      have HQ := Lib.hid (show F = true by rw [HF.out]; simp [ha, hb])
      clear HF
      go_enter Try.func26, Try.ntmps26
      go_wp2_with fail
      refine (HC.out _).mono ?_
      rintro e1 w1 ⟨rfl, hb1⟩
      have HB1 := Lib.hid (show Bx w [(w.heap.size, #[.int .i64 a, .int .i64 b])] w1 from ((Bx.nil (Below.refl w.heap.size w)).new _ _).keep hb1)
      clear hb1 HC
      have MK := Lib.hid (fun w' (h : Bx w [(w.heap.size, #[.int .i64 a, .int .i64 b])] w') => And.intro h (h.two (List.mem_cons_self ..)))
      have HG2 := Lib.hid (MK.out _ (HB1.out.keep (Below.refl _ _).drew))
      go_upto_region 4 with fail
      go_region_held3 (fun w' => Bx w [(w.heap.size, #[.int .i64 a, .int .i64 b])] w' ∧ (w'.cell? ⟨w.heap.size, 0, none⟩ = some (.int .i64 a) ∧ w'.cell? ⟨w.heap.size, 1, none⟩ = some (.int .i64 b)))
        (first
          | assumption
          | exact HG2.out
          | exact MK.out _ (Bx.keep (And.left (by assumption)) (by assumption)))
        (first
          | (go_at_call 66; (with_reducible refine (HR.out _).mono ?_); rintro e w' ⟨A, c, rfl, hs, hlc, hcm, hb⟩))
      have hR : Bx w [(w.heap.size, #[.int .i64 a, .int .i64 b])] w' := by repeat (first | exact HG2.out.1 | refine Bx.keep ?_ (by assumption))
      have HS := Lib.hid hs
      clear hs
      go_wp2_with fail
      go_ret3
      exact ⟨A, c, by rw [HQ.out]; rfl, HS.out, hlc, hcm, hR.below⟩
    · have da : decide (a < 0) = true := decide_eq_true ha
      have db : decide (b < 0) = false := decide_eq_false hb
      have HQ := Lib.hid (show F = false by rw [HF.out]; simp [hb])
      clear HF
      go_enter Try.func26, Try.ntmps26
      go_wp2_with fail
      refine (HC.out _).mono ?_
      rintro e1 w1 ⟨rfl, hb1⟩
      have HB1 := Lib.hid (show Bx w [(w.heap.size, #[.int .i64 a, .int .i64 b])] w1 from ((Bx.nil (Below.refl w.heap.size w)).new _ _).keep hb1)
      clear hb1 HC
      have MK := Lib.hid (fun w' (h : Bx w [(w.heap.size, #[.int .i64 a, .int .i64 b])] w') => And.intro h (h.two (List.mem_cons_self ..)))
      have HG2 := Lib.hid (MK.out _ (HB1.out.keep (Below.refl _ _).drew))
      go_upto_region 4 with fail
      go_region_held3 (fun w' => Bx w [(w.heap.size, #[.int .i64 a, .int .i64 b])] w' ∧ (w'.cell? ⟨w.heap.size, 0, none⟩ = some (.int .i64 a) ∧ w'.cell? ⟨w.heap.size, 1, none⟩ = some (.int .i64 b)))
        (first
          | assumption
          | exact HG2.out
          | exact MK.out _ (Bx.keep (And.left (by assumption)) (by assumption)))
        (first
          | (go_at_call 66; (with_reducible refine (HR.out _).mono ?_); rintro e w' ⟨A, c, rfl, hs, hlc, hcm, hb⟩))
      have hR : Bx w [(w.heap.size, #[.int .i64 a, .int .i64 b])] w' := by repeat (first | exact HG2.out.1 | refine Bx.keep ?_ (by assumption))
      have HS := Lib.hid hs
      clear hs
      go_wp2_with fail
      go_ret3
      exact ⟨A, c, by rw [HQ.out]; rfl, HS.out, hlc, hcm, hR.below⟩
  · have da : decide (a < 0) = false := decide_eq_false ha
    have HQ := Lib.hid (show F = false by rw [HF.out]; simp [ha])
    clear HF
    go_enter Try.func26, Try.ntmps26
    go_wp2_with fail
    refine (HC.out _).mono ?_
    rintro e1 w1 ⟨rfl, hb1⟩
    have HB1 := Lib.hid (show Bx w [(w.heap.size, #[.int .i64 a, .int .i64 b])] w1 from ((Bx.nil (Below.refl w.heap.size w)).new _ _).keep hb1)
    clear hb1 HC
    obtain ⟨c0, c1⟩ := HB1.out.two (List.mem_cons_self ..)
    go_upto_region 4 with fail
    first
      | go_region_with (go_at_call 66; refine (HR.out _).mono ?_; rintro e w' ⟨A, c, rfl, hs, hlc, hcm, hb⟩; have HB2 := Lib.hid ((HB1.out.keep (Below.refl _ _).drew).keep hb); have HS := Lib.hid hs; obtain ⟨k0, k1⟩ := HB2.out.two (List.mem_cons_self ..); clear hs hb)
      | fail
    all_goals
      go_wp2_with fail
      go_ret3
      exact ⟨A, c, by rw [HQ.out]; rfl, HS.out, hlc, hcm, HB2.out.below⟩
theorem Ramified_bad (a b : Int) (w : World) (hE : aE a b ≠ 0) :
    Calls Try.prog 26 #[.agg #[.int .i64 a, .int .i64 b]] w fun e w' => e = .returned (.tuple #[.slice none 0 0, .bool false, .int .i64 (aE a b)]) ∧ Below w.heap.size w w' := by
  have HC := Lib.hid (fun w => qCheck_any a b w)
  have d1 : (aE a b == 0) = false := f_beq hE
  clear hE
  generalize aE a b = E at *
  go_enter Try.func26, Try.ntmps26
  go_wp2_with fail
  refine (HC.out _).mono ?_
  rintro e1 w1 ⟨rfl, hb1⟩
  have HB1 := Lib.hid (((Below.refl w.heap.size w).alloc (Nat.le_refl _) _).trans (hb1.mono (by simp)))
  clear hb1 HC
  go_wp2_with fail
  go_ret3
  exact ⟨rfl, HB1.out⟩
end Go.Proofs.Ytfjmhfmhijhpkaa
