/- primePower -/
import Derived.Test.YtfjmhfmhijhpkaaGreatDoorIntF
namespace Go.Proofs.YtfjmhfmhijhpkaaGreatDoor
open Go.RowKit FF

/-- the error of a prime power -/
def ppE (p k : Int) : Int := if isPB p = false then 11 else if k < 1 then 2 else if 1000000000 < p ^ k.toNat then 2 else 0
def ppV (p k : Int) : Int := if ppE p k = 0 then p ^ k.toNat else 0
theorem pp_mono {p : Int} (hp : 2 ≤ p) {i j : Nat} (h : i ≤ j) : p ^ i ≤ p ^ j := by
  obtain ⟨d, rfl⟩ : ∃ d, j = i + d := ⟨j - i, by omega⟩
  rw [Int.pow_add]
  have h1 : 1 ≤ p ^ d := by
    have := Int.pow_pos (n := p) (m := d) (by omega)
    omega
  have h2 : 0 ≤ p ^ i := Int.le_of_lt (Int.pow_pos (by omega))
  calc p ^ i = p ^ i * 1 := by rw [Int.mul_one]
    _ ≤ p ^ i * p ^ d := Int.mul_le_mul_of_nonneg_left h1 h2

set_option maxHeartbeats 400000 in
theorem primePower_any (p k : Int) (w : World) (hk : I64 k) :
    Calls Tryz.prog 145 #[.int .i64 p, .int .i64 k] w (Ret w (.tuple #[.int .i64 (ppV p k), .int .i64 (ppE p k)])) := by
  have hP := Lib.hid (fun w => isPrime_any p w)
  obtain ⟨k1, k2⟩ := hk
  by_cases hp : isPB p = false
  · have hE : ppE p k = 11 := if_pos hp
    have hV : ppV p k = 0 := by unfold ppV; rw [hE]; rfl
    rw [hE, hV]
    rw [hp] at hP
    clear hE hV
    go_enter Tryz.func145, Tryz.ntmps145
    go_wp2_with fail
    refine (hP.out _).mono ?_
    rintro e w' ⟨rfl, n, rfl⟩
    go_wp2_with fail
    go_ret2
    exact Ret.mk n
  have hp' : isPB p = true := by simpa using hp
  rw [hp'] at hP
  have hp2 : 2 ≤ p := by
    have := (isPB_iff.1 hp').1.1
    omega
  have hp3 : p ≤ 1000000000 := (isPB_iff.1 hp').2
  by_cases hk1 : k < 1
  · have hE : ppE p k = 2 := by unfold ppE; rw [if_neg hp, if_pos hk1]
    have hV : ppV p k = 0 := by unfold ppV; rw [hE]; rfl
    rw [hE, hV]
    clear hE hV hp hp'
    go_enter Tryz.func145, Tryz.ntmps145
    go_wp2_with fail
    refine (hP.out _).mono ?_
    rintro e w' ⟨rfl, n, rfl⟩
    go_wp2_with fail
    go_ret2
    exact Ret.mk n
  have hbad := Lib.hid (fun (i : Nat) (hi : i ≤ k.toNat) (h : 1000000000 < p ^ i) => (show ppV p k = 0 ∧ ppE p k = 2 by
    have h1 := pp_mono hp2 hi
    have hE : ppE p k = 2 := by unfold ppE; rw [if_neg hp, if_neg hk1, if_pos (by omega)]
    exact ⟨by unfold ppV; rw [hE]; rfl, hE⟩))
  have hgood := Lib.hid (fun (h : p ^ k.toNat ≤ 1000000000) => (show ppV p k = p ^ k.toNat ∧ ppE p k = 0 by
    have hE : ppE p k = 0 := by unfold ppE; rw [if_neg hp, if_neg hk1, if_neg (by omega)]
    exact ⟨by unfold ppV; rw [hE]; rfl, hE⟩))
  clear hp hp'
  generalize ppV p k = V at *
  generalize ppE p k = E at *
  obtain ⟨K, rfl⟩ : ∃ K : Nat, k = K := ⟨k.toNat, by omega⟩
  rw [show ((K : Int)).toNat = K from rfl] at hbad hgood
  go_enter Tryz.func145, Tryz.ntmps145
  go_wp2_with fail
  refine (hP.out _).mono ?_
  rintro e w' ⟨rfl, n, rfl⟩
  go_wp2_with fail
  go_loop [6, 13] (fun s6 s13 => ∃ (i : Nat) (q : Int), s13 = .int .i64 i ∧ s6 = .int .i64 q ∧ i ≤ K ∧ q = p ^ i ∧ 1 ≤ q ∧ q ≤ 1000000000) (fun _ s => K - (intOf s).toNat)
  case atStart => exact ⟨0, 1, rfl, rfl, by omega, by simp, by omega, by omega⟩
  case round =>
    obtain ⟨i, q, rfl, rfl, hi, hq, hq1, hq2⟩ := hrel
    by_cases hlt : i < K
    · have hq' : q * p = p ^ (i + 1) := by rw [Int.pow_succ, hq]
      have hm1 : q * p ≤ 1000000000 * 1000000000 := Int.le_trans (Int.mul_le_mul_of_nonneg_right hq2 (by omega)) (Int.mul_le_mul_of_nonneg_left hp3 (by omega))
      have hm0 : 1 * p ≤ q * p := Int.mul_le_mul_of_nonneg_right hq1 (by omega)
      have hlt' : (i : Int) < K := by omega
      by_cases hb : 1000000000 < q * p
      · have hB := Lib.hid (hbad.out (i + 1) (by omega) (by rw [← hq']; exact hb))
        clear hq hq' hbad hgood
        go_wp2_with fail
        go_ret2
        exact ⟨by rw [hB.out.1, hB.out.2]; rfl, n, rfl⟩
      · have HQ := Lib.hid hq'
        clear hq hq' hbad hgood
        go_wp2_with fail
        exact ⟨⟨i + 1, q * p, by go_num, rfl, by omega, HQ.out, by omega, by omega⟩, by simp [intOf]; omega⟩
    · obtain rfl : i = K := by omega
      have hB := Lib.hid (hgood.out (by rw [← hq]; exact hq2))
      rw [← hq] at hB
      clear hq hbad hgood
      go_wp2_with fail
      go_ret2
      exact ⟨by rw [hB.out.1, hB.out.2]; rfl, n, rfl⟩
end Go.Proofs.YtfjmhfmhijhpkaaGreatDoor
