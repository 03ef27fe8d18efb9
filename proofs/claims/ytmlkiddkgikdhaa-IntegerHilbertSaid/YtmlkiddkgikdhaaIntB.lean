/- Contracts of the integer package's functions on machine integers, part B: inverse, valuation. -/
import Derived.Test.YtmlkiddkgikdhaaIntA
import Derived.Test.YtmlkiddkgikdhaaNtF
namespace Go.Proofs.Ytmlkiddkgikdhaa
open Go.RowKit FF

set_option maxHeartbeats 400000 in
theorem inverse_any (a m : Int) (w : World) (ha : I64 a) (h1 : 1 ≤ m) (h2 : m ≤ 1000000000) (hg : Int.gcd a m = 1) :
    Calls Try.prog 98 #[.int .i64 a, .int .i64 m] w (Ret w (.int .i64 (invM a m))) := by
  have hmm : I64 m := ⟨by omega, by omega⟩
  have hG := Lib.hid hg; clear hg
  go_enter Try.func98, Try.ntmps98
  go_wp2_with fail
  refine (mod_any a m _ ha (by omega) hmm).mono ?_
  rintro e w' ⟨rfl, nq, rfl⟩
  go_wp2_with fail
  go_loopw [5, 6, 7, 8, 9] (fun sx sy sr ss _ wr => ∃ x y r s : Int, sx = .int .i64 x ∧ sy = .int .i64 y ∧ sr = .int .i64 r ∧ ss = .int .i64 s ∧ Eu a m r s x y ∧ ∃ n, wr = w.drewN n) (fun _ _ _ s _ _ => (intOf s).toNat)
  case atStart => exact ⟨1, 0, a % m, m, rfl, rfl, rfl, rfl, Eu.start h1, nq, rfl⟩
  case round =>
    obtain ⟨x, y, r, s, rfl, rfl, rfl, rfl, hE, n2, rfl⟩ := hrel
    obtain ⟨b1, b2, b3, b4, b5, b6, b7, b8⟩ := hE.bounds
    by_cases hs : s = 0
    · subst hs
      have hx : I64 x := ⟨by omega, by omega⟩
      have hD := Lib.hid (hE.done h1 hG.out)
      clear hE
      go_wp2_with fail
      refine (mod_any x m _ hx (by omega) hmm).mono ?_
      rintro e w' ⟨rfl, n3, rfl⟩
      go_wp2_with fail
      go_ret
      exact Ret.eq _ (ret_int hD.out)
    · obtain ⟨hE', c1, c2, c3, c4, c5, c6⟩ := hE.step hs
      have hH := Lib.hid hE'
      obtain ⟨d1, d2, d3, d4, d5, d6, d7, d8⟩ := hE'.bounds
      clear hE hE'
      have c3a : -m ≤ r / s * y := by omega
      have c3b : r / s * y ≤ m := by omega
      have hb : (!(s == 0)) = true := by simp [hs]
      go_wp2
      exact ⟨⟨y, x - r / s * y, s, r - r / s * s, rfl, rfl, rfl, rfl, hH.out, _, rfl⟩, by show (r - r / s * s).toNat < s.toNat; omega⟩

set_option maxHeartbeats 400000 in
theorem valuation_any (n p : Int) (w : World) (hn : I64 n) (hn0 : n ≠ 0) (h1 : 2 ≤ p) (h2 : p ≤ 9223372036854775807) :
    Calls Try.prog 90 #[.int .i64 n, .int .i64 p] w (Ret w (.tuple #[.int .i64 (vp p n), .int .i64 (rest p n)])) := by
  have hN := Lib.hid hn0; clear hn0
  obtain ⟨l1, l2⟩ := hn
  go_enter Try.func90, Try.ntmps90
  go_wp2
  go_loop [0, 6] (fun t u => ∃ (x : Int) (k : Nat), t = .int .i64 x ∧ u = .int .i64 k ∧ x ≠ 0 ∧ -9223372036854775808 ≤ x ∧ x ≤ 9223372036854775807 ∧ k + vp p x = vp p n ∧ rest p x = rest p n) (fun t _ => (intOf t).natAbs)
  case atStart => exact ⟨n, 0, rfl, rfl, hN.out, l1, l2, by omega, rfl⟩
  case round =>
    obtain ⟨x, k, rfl, rfl, hx0, hxl, hxu, hk, hr⟩ := hrel
    have hkb : k < 64 := by
      have h3 := vp_lt h1 hN.out
      have h4 : n.natAbs < 2 ^ 64 := by omega
      have := (Nat.pow_lt_pow_iff_right (by omega)).1 (Nat.lt_of_le_of_lt h3 h4)
      omega
    by_cases hd : p ∣ x
    · have ht : (x.tmod p == 0) = true := by rw [beq_iff_eq]; exact Int.tmod_eq_zero_of_dvd hd
      have hq := Lib.hid (Int.tdiv_eq_ediv_of_dvd hd)
      have hlt := natAbs_div_lt h1 hx0 hd
      rw [← hq.out] at hlt
      have hv := Lib.hid (vp_dvd h1 hx0 hd)
      have hr2 := Lib.hid (rest_dvd h1 hx0 hd)
      have hk2 := Lib.hid hk; have hr3 := Lib.hid hr
      clear hk hr hd
      go_wp2
      exact ⟨⟨x.tdiv p, k + 1, rfl, by go_num, hlt.2, by omega, by omega, by rw [← hk2.out, hv.out, hq.out]; omega, by rw [← hr3.out, hr2.out, hq.out]⟩, hlt.1⟩
    · have ht : (x.tmod p == 0) = false := by rw [beq_eq_false_iff_ne]; exact fun e => hd (Int.dvd_of_tmod_eq_zero e)
      have hv := Lib.hid (vp_not hd)
      have hr2 := Lib.hid (rest_not hd)
      have hk2 := Lib.hid hk; have hr3 := Lib.hid hr
      clear hk hr hd
      go_wp2
      go_ret2
      exact Ret.eq0 (ret_two (by rw [← hk2.out, hv.out]; omega) (by rw [← hr3.out, hr2.out]))

theorem rest_i64 {p n : Int} (hp : 2 ≤ p) (hn : n ≠ 0) (h1 : -9223372036854775808 ≤ n) (h2 : n ≤ 9223372036854775807) : I64 (rest p n) := by
  have h := rest_natAbs_le hp hn
  unfold I64
  by_cases hd : p ∣ n
  · rw [rest_dvd hp hn hd]
    have h3 := natAbs_div_lt hp hn hd
    have h4 := rest_natAbs_le (n := n / p) hp h3.2
    omega
  · rw [rest_not hd]; omega
end Go.Proofs.Ytmlkiddkgikdhaa
