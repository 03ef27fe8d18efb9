/- PrimePower and Roots of the reference. -/
import Derived.Test.YtmlkiddkgikdhaaRoots
import Derived.Test.YtmlkiddkgikdhaaRefA
namespace Go.Proofs.Ytmlkiddkgikdhaa
open Go.RowKit FF

set_option maxHeartbeats 400000 in
theorem rPrimePower_any (p k : Int) (w : World) (hk : I64 k) :
    Calls Try.prog 21 #[.int .i64 p, .int .i64 k] w (Ret w (.tuple #[.int .i64 (ppV p k), .int .i64 (ppE p k)])) := by
  have hP := Lib.hid (fun w => rIsPrime_any p w)
  obtain ⟨k1, k2⟩ := hk
  by_cases hp : isPB p = false
  · have hE : ppE p k = 11 := if_pos hp
    have hV : ppV p k = 0 := by unfold ppV; rw [hE]; rfl
    rw [hE, hV]
    rw [hp] at hP
    clear hE hV
    go_enter Try.func21, Try.ntmps21
    go_wp2_with fail
    refine (hP.out _).mono ?_
    rintro e w' ⟨rfl, n, rfl⟩
    go_wp2_with fail
    go_ret2
    exact Ret.mk n
  have hp' : isPB p = true := by simpa using hp
  rw [hp'] at hP
  have hp2 : 2 ≤ p := by
    have := (isPB_iff.1 hp').1.1
    omega
  have hp3 : p ≤ 1000000000 := (isPB_iff.1 hp').2
  by_cases hk1 : k < 1
  · have hE : ppE p k = 2 := by unfold ppE; rw [if_neg hp, if_pos hk1]
    have hV : ppV p k = 0 := by unfold ppV; rw [hE]; rfl
    rw [hE, hV]
    clear hE hV hp hp'
    go_enter Try.func21, Try.ntmps21
    go_wp2_with fail
    refine (hP.out _).mono ?_
    rintro e w' ⟨rfl, n, rfl⟩
    go_wp2_with fail
    go_ret2
    exact Ret.mk n
  have hbad := Lib.hid (fun (i : Nat) (hi : i ≤ k.toNat) (h : 1000000000 < p ^ i) => (show ppV p k = 0 ∧ ppE p k = 2 by
    have h1 := pp_mono hp2 hi
    have hE : ppE p k = 2 := by unfold ppE; rw [if_neg hp, if_neg hk1, if_pos (by omega)]
    exact ⟨by unfold ppV; rw [hE]; rfl, hE⟩))
  have hgood := Lib.hid (fun (h : p ^ k.toNat ≤ 1000000000) => (show ppV p k = p ^ k.toNat ∧ ppE p k = 0 by
    have hE : ppE p k = 0 := by unfold ppE; rw [if_neg hp, if_neg hk1, if_neg (by omega)]
    exact ⟨by unfold ppV; rw [hE]; rfl, hE⟩))
  clear hp hp'
  generalize ppV p k = V at *
  generalize ppE p k = E at *
  obtain ⟨K, rfl⟩ : ∃ K : Nat, k = K := ⟨k.toNat, by omega⟩
  rw [show ((K : Int)).toNat = K from rfl] at hbad hgood
  go_enter Try.func21, Try.ntmps21
  go_wp2_with fail
  refine (hP.out _).mono ?_
  rintro e w' ⟨rfl, n, rfl⟩
  go_wp2_with fail
  go_loop [6, 7] (fun s6 s13 => ∃ (i : Nat) (q : Int), s13 = .int .i64 i ∧ s6 = .int .i64 q ∧ i ≤ K ∧ q = p ^ i ∧ 1 ≤ q ∧ q ≤ 1000000000) (fun _ s => K - (intOf s).toNat)
  case atStart => exact ⟨0, 1, rfl, rfl, by omega, by simp, by omega, by omega⟩
  case round =>
    obtain ⟨i, q, rfl, rfl, hi, hq, hq1, hq2⟩ := hrel
    by_cases hlt : i < K
    · have hq' : q * p = p ^ (i + 1) := by rw [Int.pow_succ, hq]
      have hm1 : q * p ≤ 1000000000 * 1000000000 := Int.le_trans (Int.mul_le_mul_of_nonneg_right hq2 (by omega)) (Int.mul_le_mul_of_nonneg_left hp3 (by omega))
      have hm0 : 1 * p ≤ q * p := Int.mul_le_mul_of_nonneg_right hq1 (by omega)
      have hlt' : (i : Int) < K := by omega
      by_cases hb : 1000000000 < q * p
      · have hB := Lib.hid (hbad.out (i + 1) (by omega) (by rw [← hq']; exact hb))
        clear hq hq' hbad hgood
        go_wp2_with fail
        go_ret2
        exact ⟨by rw [hB.out.1, hB.out.2]; rfl, n, rfl⟩
      · have HQ := Lib.hid hq'
        clear hq hq' hbad hgood
        go_wp2_with fail
        exact ⟨⟨i + 1, q * p, by go_num, rfl, by omega, HQ.out, by omega, by omega⟩, by simp [intOf]; omega⟩
    · obtain rfl : i = K := by omega
      have hB := Lib.hid (hgood.out (by rw [← hq]; exact hq2))
      rw [← hq] at hB
      clear hq hbad hgood
      go_wp2_with fail
      go_ret2
      exact ⟨by rw [hB.out.1, hB.out.2]; rfl, n, rfl⟩

/-- the roots among the first numbers -/
def rootsU (a q : Int) (n : Nat) : List Int := ((List.range n).map fun i : Nat => (i : Int)).filter fun x => x * x % q == a % q
theorem rootsU_all {a q : Int} {n : Nat} (h : n = q.toNat) : rootsU a q n = rootsL a q := by rw [h]; rfl
theorem rootsU_yes {a q : Int} {n : Nat} (h : (n : Int) * n % q = a % q) : rootsU a q (n + 1) = rootsU a q n ++ [(n : Int)] := by simp [rootsU, List.range_succ, h]
theorem rootsU_no {a q : Int} {n : Nat} (h : (n : Int) * n % q ≠ a % q) : rootsU a q (n + 1) = rootsU a q n := by simp [rootsU, List.range_succ, h]
theorem rootsU_len (a q : Int) (n : Nat) : (rootsU a q n).length ≤ n := by
  unfold rootsU
  exact Nat.le_trans (List.length_filter_le _ _) (by simp)

set_option maxHeartbeats 1000000 in
theorem rRoots_any (a p k : Int) (w : World) (ha : I64 a) (hk : I64 k) (h0 : ppE p k = 0) (h3 : ppV p k ≤ 3000) : Calls Try.prog 23 #[.int .i64 a, .int .i64 p, .int .i64 k] w (RootsPost a p k w) := by
  obtain ⟨i0, hi, hz0, hz1, hz2⟩ := info_parts info_int
  have HI := Lib.hid hi; have HZ0 := Lib.hid hz0; have HZ1 := Lib.hid hz1; have HZ2 := Lib.hid hz2
  clear hi hz0 hz1 hz2
  have hP := Lib.hid (fun w => h0 ▸ rPrimePower_any p k w hk)
  have HE0 := Lib.hid h0
  obtain ⟨m, hm, m1⟩ : ∃ m : Nat, ppV p k = m ∧ 1 ≤ m := by
    obtain ⟨P, K, rfl, rfl, h1, h2, h3, h4, h5⟩ := pp_good h0
    exact ⟨P ^ K, by rw [h3, Int.natCast_pow], Nat.pow_pos h1.pos⟩
  rw [hm] at hP h3
  have HVq := Lib.hid hm
  have hMd := Lib.hid (fun (w : World) => rMod_any a m w ha (by omega) ⟨by omega, by omega⟩)
  have b0 := Int.emod_nonneg a (b := m) (by omega)
  have b1 := Int.emod_lt_of_pos a (b := m) (by omega)
  clear hm h0 ha
  go_enter Try.func23, Try.ntmps23
  go_wp2_with fail
  refine (hP.out _).mono ?_
  rintro e w' ⟨rfl, n1, rfl⟩
  go_wp2_with fail
  have HB0 : Below w.heap.size w (w.drewN n1) := below_drewN (Below.refl _ _) _
  go_loopw [10, 11] (fun s10 s11 wr => ∃ (i : Nat) (v : Value), s11 = .int .i64 i ∧ i ≤ m ∧ v = s10 ∧ Got w 3 1 v (rootsU a m i).length (rootsU a m i) wr) (fun _ s11 _ => m - (intOf s11).toNat)
  case atStart => exact ⟨0, _, rfl, Nat.zero_le _, rfl, Got.start HB0⟩
  case round =>
    obtain ⟨i, v, rfl, hi, rfl, hG⟩ := hrel
    have HG := Lib.hid hG; clear hG
    have hul := rootsU_len a m i
    by_cases hlt : i < m
    · have hsq := mul_le (x := (i : Int)) (y := i) (a := 3000) (b := 3000) (by omega) (by omega) (by omega) (by omega)
      obtain ⟨q1, q2⟩ := hsq
      by_cases hy : (i : Int) * i % m = a % m
      · have HU := Lib.hid (rootsU_yes hy)
        have d := t_beq hy
        generalize rootsU a m i = L at *
        clear hy
        go_wp2_with fail
        go_big_quiet ((go_at_call 86; exact Calls.quiet_of (hMd.out _)))
        have HG2 := Lib.hid (HG.out.drewN nq)
        clear HG
        go_wp2_with (at_builtin; refine wpList_append_got rfl (.tmp 35) (.tmp 37) 30 rfl 3 i0 _ 1 8 Try.underlying30 HI.out HZ0.out HZ1.out HZ2.out rfl (by decide) _ L.length L rfl HG2.out _ _ [(i : Int)] rfl rfl 1 rfl (by omega) (by unfold maxLen; omega) ?_; intro v' w2 hg2; have HG4 := Lib.hid hg2; clear hg2)
        exact ⟨⟨i + 1, v', by go_num, by omega, rfl, by rw [HU.out, List.length_append]; exact HG4.out⟩, by simp [intOf]; omega⟩
      · have HU := Lib.hid (rootsU_no hy)
        have d := f_beq hy
        generalize rootsU a m i = L at *
        clear hy
        go_wp2_with fail
        go_big_quiet ((go_at_call 86; exact Calls.quiet_of (hMd.out _)))
        have HG2 := Lib.hid (HG.out.drewN nq)
        clear HG
        go_wp2_with fail
        exact ⟨⟨i + 1, v, by go_num, by omega, rfl, by rw [HU.out]; exact HG2.out⟩, by simp [intOf]; omega⟩
    · obtain rfl : i = m := by omega
      have HU : rootsU a i i = rootsL a (ppV p k) := by rw [HVq.out]; exact rootsU_all (by omega)
      rw [HU] at hul HG
      have H1 := Lib.hid (show rootsE a p k = if 1000 < (rootsL a (ppV p k)).length then 8 else 0 from if_pos HE0.out)
      have H2 := Lib.hid (show rootsR a p k = if rootsE a p k = 0 then rootsL a (ppV p k) else [] from rfl)
      clear HU
      generalize rootsL a (ppV p k) = L at *
      obtain ⟨A, c, hv, hsh, hlc, hcm, _⟩ := HG.out.shows
      have HS := Lib.hid hsh
      have B1 := Lib.hid HG.out.below
      clear hsh HG
      subst hv
      have hLn : ∃ N : Nat, L.length = N := ⟨_, rfl⟩
      obtain ⟨N, hN⟩ := hLn
      have HN := Lib.hid hN
      rw [hN] at hul hlc H1 ⊢
      clear hN
      by_cases hbig : (1000 : Int) < N
      · have E1 := Lib.hid (show rootsE a p k = 8 by rw [H1.out, if_pos (by omega)])
        have R1 := Lib.hid (show rootsR a p k = [] by rw [H2.out, E1.out]; rfl)
        clear H1 H2
        go_wp2_with fail
        go_ret2
        exact RootsPost.none E1.out R1.out B1.out
      · have E1 := Lib.hid (show rootsE a p k = 0 by rw [H1.out, if_neg (by omega)])
        have R1 := Lib.hid (show rootsR a p k = L by rw [H2.out, E1.out]; rfl)
        clear H1 H2
        go_wp2_with fail
        go_ret2
        exact ⟨A, c, by rw [R1.out, E1.out, HN.out]; rfl, by rw [R1.out]; exact HS.out, by rw [R1.out, HN.out]; exact hlc, hcm, B1.out⟩
end Go.Proofs.Ytmlkiddkgikdhaa
