/- Contracts of the reference's functions on machine integers, part A. Contracts of the reference's functions on machine integers, part B: the Hilbert symbol. Contracts of the reference's functions on machine integers, part C: the reference's Hilbert symbol. Small functions of the verifier's base: Mod, Within, Abs. Bezout of the program. Inverse of the program and of the reference; Bezout of the reference; small functions of the verifier. Jacobi, Legendre, Valuation of the program; Gcd of the verifier's base. -/
import Derived.Test.YthkklilhjnpedaaGreatUBase
import Derived.Test.YthkklilhjnpedaaGreatUNt
import Derived.Test.YthkklilhjnpedaaGreatUSp
import Derived.Deep.RegionWith
section
namespace Go.Proofs.YthkklilhjnpedaaGreat
open Go.RowKit FF
set_option maxHeartbeats 400000 in
theorem mod_any (a m : Int) (w : World) (ha : I64 a) (h3 : 0 < m) (hm : I64 m) :
    Calls Tryz.prog 142 #[.int .i64 a, .int .i64 m] w (Ret w (.int .i64 (a % m))) := by
  obtain ⟨h1, h2⟩ := ha
  obtain ⟨_, h4⟩ := hm
  have t1 := Int.tmod_lt_of_pos a h3
  have t2 := Int.lt_tmod_of_pos a h3
  have ee := Lib.hid (tmod_emod (a := a) h3)
  go_enter Tryz.func142, Tryz.ntmps142
  go_wp2
  · have hlt : a.tmod m < 0 := by assumption
    go_ret
    exact Ret.eq0 (ret_int (by rw [ee.out, if_pos hlt]))
  · have hlt : 0 ≤ a.tmod m := by assumption
    go_ret
    exact Ret.eq0 (ret_int (by rw [ee.out, if_neg (by omega)]))
def modB (m : Int) : Bool := decide (1 ≤ m ∧ m ≤ 1000000000)
theorem modB_true {m : Int} : modB m = true ↔ 1 ≤ m ∧ m ≤ 1000000000 := by unfold modB; rw [decide_eq_true_iff]
set_option maxHeartbeats 400000 in
theorem modulus_any (m : Int) (w : World) :
    Calls Tryz.prog 152 #[.int .i64 m] w (Ret w (.bool (modB m))) := by
  go_enter Tryz.func152, Tryz.ntmps152
  go_wp2
  all_goals
    go_ret
    exact Ret.eq0 (ret_bool (by rw [Bool.eq_iff_iff]; simp [modB]; omega))
set_option maxHeartbeats 400000 in
theorem gcd_any (a b : Int) (w : World) (ha : a.natAbs ≤ 4611686018427387904) (hb : b.natAbs ≤ 4611686018427387904) :
    Calls Tryz.prog 153 #[.int .i64 a, .int .i64 b] w (Ret w (.int .i64 (Int.gcd a b))) := by
  go_enter Tryz.func153, Tryz.ntmps153
  go_wp2
  go_loopw [0, 1] (fun s t wr => ∃ x y : Int, s = .int .i64 x ∧ t = .int .i64 y ∧ x.natAbs ≤ 4611686018427387904 ∧ y.natAbs ≤ 4611686018427387904 ∧ Int.gcd x y = Int.gcd a b ∧ ∃ n, wr = w.drewN n) (fun _ t _ => (intOf t).natAbs)
  case atStart => exact ⟨a, b, rfl, rfl, ha, hb, rfl, 0, rfl⟩
  case round =>
    obtain ⟨x, y, rfl, rfl, hx, hy, hg, n, rfl⟩ := hrel
    have hG := Lib.hid hg; clear hg
    have hxl : -4611686018427387904 ≤ x := by omega
    have hxu : x ≤ 4611686018427387904 := by omega
    by_cases hy0 : y = 0
    · subst hy0
      have hx1 := Lib.hid (show ((Int.gcd x 0 : Nat) : Int) = if 0 ≤ x then x else -x by rw [Int.gcd_zero_right]; split <;> omega)
      by_cases hx0 : 0 ≤ x
      · go_wp2
        go_ret
        exact Ret.eq n (ret_int (by rw [← hG.out, hx1.out, if_pos hx0]))
      · go_wp2
        go_ret
        exact Ret.eq n (ret_int (by rw [← hG.out, hx1.out, if_neg (by omega)]))
    · have h1 := Int.natAbs_tmod x y
      have h2 : x.natAbs % y.natAbs < y.natAbs := Nat.mod_lt _ (by omega)
      have h3 : x.natAbs % y.natAbs ≤ x.natAbs := Nat.mod_le _ _
      rw [← h1] at h2 h3
      clear h1
      have hyl : -4611686018427387904 ≤ y := by omega
      have hyu : y ≤ 4611686018427387904 := by omega
      have hz1 : -4611686018427387904 ≤ x.tmod y := by omega
      have hz2 : x.tmod y ≤ 4611686018427387904 := by omega
      have hb : (!(y == 0)) = true := by simp [hy0]
      go_wp2
      go_quiet (fail)
      go_wp2
      exact ⟨⟨y, x.tmod y, rfl, rfl, hy, by omega, by rw [gcd_tmod]; exact hG.out, n + nq, by rw [World.drewN_drewN]⟩, h2⟩
theorem mul_le_sq {a b m : Int} (ha : 0 ≤ a) (ha' : a < m) (hb : 0 ≤ b) (hb' : b < m) (hm : m ≤ 1000000000) : 0 ≤ a * b ∧ a * b ≤ 1000000000000000000 := by
  refine ⟨Int.mul_nonneg ha hb, ?_⟩
  have h1 : a * b ≤ 1000000000 * b := Int.mul_le_mul_of_nonneg_right (by omega) hb
  have h2 : 1000000000 * b ≤ 1000000000 * 1000000000 := Int.mul_le_mul_of_nonneg_left (by omega) (by omega)
  omega
theorem pow_step {m o x : Int} (y : Nat) : o * x ^ y % m = (if y % 2 = 1 then o * x % m else o) * (x * x % m) ^ (y / 2) % m := by
  have e1 : Cg m ((x * x % m) ^ (y / 2)) ((x * x) ^ (y / 2)) := (Cg.emod m (x * x)).pow _
  have e2 : (x * x) ^ (y / 2) = x ^ (2 * (y / 2)) := by rw [Int.pow_mul]; congr 1; rw [Int.pow_succ, Int.pow_succ]; simp
  rw [e2] at e1
  split
  · have e3 : x ^ y = x * x ^ (2 * (y / 2)) := by
      rw [Int.mul_comm, ← Int.pow_succ]; congr 1; omega
    rw [e3, ← Int.mul_assoc]
    exact (((Cg.emod m (o * x)).mul e1).emod_eq).symm
  · have e3 : x ^ y = x ^ (2 * (y / 2)) := by congr 1; omega
    rw [e3]
    exact (e1.mul_left o).emod_eq.symm
set_option maxHeartbeats 400000 in
theorem power_any (a n m : Int) (w : World) (ha : I64 a) (hn : 0 ≤ n) (hn' : I64 n) (h1 : 1 ≤ m) (h2 : m ≤ 1000000000) :
    Calls Tryz.prog 105 #[.int .i64 a, .int .i64 n, .int .i64 m] w (Ret w (.int .i64 (a ^ n.toNat % m))) := by
  have hmm : I64 m := ⟨by omega, by omega⟩
  have o0 := Int.emod_nonneg 1 (b := m) (by omega)
  have o1 := Int.emod_lt_of_pos 1 (b := m) (by omega)
  have x0 := Int.emod_nonneg a (b := m) (by omega)
  have x1 := Int.emod_lt_of_pos a (b := m) (by omega)
  have hst := Lib.hid (show 1 % m * (a % m) ^ n.toNat % m = a ^ n.toNat % m from by
    have := ((Cg.emod m 1).mul ((Cg.emod m a).pow n.toNat)).emod_eq; rwa [Int.one_mul] at this)
  obtain ⟨_, hn''⟩ := hn'
  go_enter Tryz.func105, Tryz.ntmps105
  go_wp2_with fail
  refine (mod_any a m _ ha (by omega) hmm).mono ?_
  rintro e w' ⟨rfl, n1, rfl⟩
  clear ha hmm
  go_wp2_with fail
  go_loopw [0, 1, 7] (fun s t u wr => ∃ x y o : Int, s = .int .i64 x ∧ t = .int .i64 y ∧ u = .int .i64 o ∧ 0 ≤ x ∧ x < m ∧ 0 ≤ y ∧ y ≤ 9223372036854775807 ∧ 0 ≤ o ∧ o < m ∧ o * x ^ y.toNat % m = a ^ n.toNat % m ∧ ∃ n, wr = w.drewN n) (fun _ t _ _ => (intOf t).toNat)
  case atStart => exact ⟨a % m, n, 1 % m, rfl, rfl, rfl, x0, x1, hn, hn'', o0, o1, hst.out, n1, rfl⟩
  case round =>
    clear hst
    obtain ⟨x, y, o, rfl, rfl, rfl, hx0, hx1, hy0, hy1, ho0, ho1, he, n2, rfl⟩ := hrel
    have hE := Lib.hid he; clear he
    obtain ⟨b1, b2⟩ := mul_le_sq ho0 ho1 hx0 hx1 h2
    obtain ⟨b3, b4⟩ := mul_le_sq hx0 hx1 hx0 hx1 h2
    have hS := Lib.hid (pow_step (m := m) (o := o) (x := x) y.toNat)
    have m1 := Int.emod_nonneg (x * x) (b := m) (by omega)
    have m2 := Int.emod_lt_of_pos (x * x) (b := m) (by omega)
    have m3 := Int.emod_nonneg (o * x) (b := m) (by omega)
    have m4 := Int.emod_lt_of_pos (o * x) (b := m) (by omega)
    go_wp2
    · have hy : 0 < y := by assumption
      have hodd : y.toNat % 2 = 1 := by have h : (y % 2 == 1) = true := by assumption
                                        rw [beq_iff_eq] at h; omega
      refine ⟨⟨x * x % m, y / 2, o * x % m, rfl, rfl, rfl, m1, m2, by omega, by omega, m3, m4, ?_, n2, rfl⟩, ?_⟩
      · rw [← hE.out, hS.out, if_pos hodd]; congr 3; omega
      · show (y / 2).toNat < y.toNat; omega
    · have hy : 0 < y := by assumption
      have hodd : ¬ y.toNat % 2 = 1 := by have h : (y % 2 == 1) = false := by assumption
                                          rw [beq_eq_false_iff_ne] at h; omega
      refine ⟨⟨x * x % m, y / 2, o, rfl, rfl, rfl, m1, m2, by omega, by omega, ho0, ho1, ?_, n2, rfl⟩, ?_⟩
      · rw [← hE.out, hS.out, if_neg hodd]; congr 3; omega
      · show (y / 2).toNat < y.toNat; omega
    · have hy : y = 0 := by have : y ≤ 0 := by assumption
                            omega
      subst hy
      go_ret
      refine Ret.eq n2 (ret_int ?_)
      rw [← hE.out]
      simp only [Int.toNat_zero, Int.pow_zero, Int.mul_one]
      exact (Int.emod_eq_of_lt ho0 ho1).symm
end Go.Proofs.YthkklilhjnpedaaGreat
namespace Go.Proofs.YthkklilhjnpedaaGreat
open Go.RowKit FF
set_option maxHeartbeats 400000 in
theorem inverse_any (a m : Int) (w : World) (ha : I64 a) (h1 : 1 ≤ m) (h2 : m ≤ 1000000000) (hg : Int.gcd a m = 1) :
    Calls Tryz.prog 154 #[.int .i64 a, .int .i64 m] w (Ret w (.int .i64 (invM a m))) := by
  have hmm : I64 m := ⟨by omega, by omega⟩
  have hG := Lib.hid hg; clear hg
  go_enter Tryz.func154, Tryz.ntmps154
  go_wp2_with fail
  refine (mod_any a m _ ha (by omega) hmm).mono ?_
  rintro e w' ⟨rfl, nq, rfl⟩
  go_wp2_with fail
  go_loopw [5, 6, 7, 8, 9] (fun sx sy sr ss _ wr => ∃ x y r s : Int, sx = .int .i64 x ∧ sy = .int .i64 y ∧ sr = .int .i64 r ∧ ss = .int .i64 s ∧ Eu a m r s x y ∧ ∃ n, wr = w.drewN n) (fun _ _ _ s _ _ => (intOf s).toNat)
  case atStart => exact ⟨1, 0, a % m, m, rfl, rfl, rfl, rfl, Eu.start h1, nq, rfl⟩
  case round =>
    obtain ⟨x, y, r, s, rfl, rfl, rfl, rfl, hE, n2, rfl⟩ := hrel
    obtain ⟨b1, b2, b3, b4, b5, b6, b7, b8⟩ := hE.bounds
    by_cases hs : s = 0
    · subst hs
      have hx : I64 x := ⟨by omega, by omega⟩
      have hD := Lib.hid (hE.done h1 hG.out)
      clear hE
      go_wp2_with fail
      refine (mod_any x m _ hx (by omega) hmm).mono ?_
      rintro e w' ⟨rfl, n3, rfl⟩
      go_wp2_with fail
      go_ret
      exact Ret.eq _ (ret_int hD.out)
    · obtain ⟨hE', c1, c2, c3, c4, c5, c6⟩ := hE.step hs
      have hH := Lib.hid hE'
      obtain ⟨d1, d2, d3, d4, d5, d6, d7, d8⟩ := hE'.bounds
      clear hE hE'
      have c3a : -m ≤ r / s * y := by omega
      have c3b : r / s * y ≤ m := by omega
      have hb : (!(s == 0)) = true := by simp [hs]
      go_wp2
      exact ⟨⟨y, x - r / s * y, s, r - r / s * s, rfl, rfl, rfl, rfl, hH.out, _, rfl⟩, by show (r - r / s * s).toNat < s.toNat; omega⟩
set_option maxHeartbeats 400000 in
theorem valuation_any (n p : Int) (w : World) (hn : I64 n) (hn0 : n ≠ 0) (h1 : 2 ≤ p) (h2 : p ≤ 9223372036854775807) :
    Calls Tryz.prog 104 #[.int .i64 n, .int .i64 p] w (Ret w (.tuple #[.int .i64 (vp p n), .int .i64 (rest p n)])) := by
  have hN := Lib.hid hn0; clear hn0
  obtain ⟨l1, l2⟩ := hn
  go_enter Tryz.func104, Tryz.ntmps104
  go_wp2
  go_loop [0, 6] (fun t u => ∃ (x : Int) (k : Nat), t = .int .i64 x ∧ u = .int .i64 k ∧ x ≠ 0 ∧ -9223372036854775808 ≤ x ∧ x ≤ 9223372036854775807 ∧ k + vp p x = vp p n ∧ rest p x = rest p n) (fun t _ => (intOf t).natAbs)
  case atStart => exact ⟨n, 0, rfl, rfl, hN.out, l1, l2, by omega, rfl⟩
  case round =>
    obtain ⟨x, k, rfl, rfl, hx0, hxl, hxu, hk, hr⟩ := hrel
    have hkb : k < 64 := by
      have h3 := vp_lt h1 hN.out
      have h4 : n.natAbs < 2 ^ 64 := by omega
      have := (Nat.pow_lt_pow_iff_right (by omega)).1 (Nat.lt_of_le_of_lt h3 h4)
      omega
    by_cases hd : p ∣ x
    · have ht : (x.tmod p == 0) = true := by rw [beq_iff_eq]; exact Int.tmod_eq_zero_of_dvd hd
      have hq := Lib.hid (Int.tdiv_eq_ediv_of_dvd hd)
      have hlt := natAbs_div_lt h1 hx0 hd
      rw [← hq.out] at hlt
      have hv := Lib.hid (vp_dvd h1 hx0 hd)
      have hr2 := Lib.hid (rest_dvd h1 hx0 hd)
      have hk2 := Lib.hid hk; have hr3 := Lib.hid hr
      clear hk hr hd
      go_wp2
      exact ⟨⟨x.tdiv p, k + 1, rfl, by go_num, hlt.2, by omega, by omega, by rw [← hk2.out, hv.out, hq.out]; omega, by rw [← hr3.out, hr2.out, hq.out]⟩, hlt.1⟩
    · have ht : (x.tmod p == 0) = false := by rw [beq_eq_false_iff_ne]; exact fun e => hd (Int.dvd_of_tmod_eq_zero e)
      have hv := Lib.hid (vp_not hd)
      have hr2 := Lib.hid (rest_not hd)
      have hk2 := Lib.hid hk; have hr3 := Lib.hid hr
      clear hk hr hd
      go_wp2
      go_ret2
      exact Ret.eq0 (ret_two (by rw [← hk2.out, hv.out]; omega) (by rw [← hr3.out, hr2.out]))
end Go.Proofs.YthkklilhjnpedaaGreat
namespace Go.Proofs.YthkklilhjnpedaaGreat
open Go.RowKit FF
set_option maxHeartbeats 400000 in
theorem witness_any (a n : Int) (w : World) (ha : 0 ≤ a) (ha' : a ≤ 7) (h1 : 3 ≤ n) (h2 : n ≤ 1000000000) :
    Calls Tryz.prog 64 #[.int .i64 a, .int .i64 n] w (Ret w (.bool (witB a n))) := by
  have hn1 : n - 1 ≠ 0 := by omega
  have hr1 := rest_natAbs_le (p := 2) (by omega) hn1
  have hr0 : 0 ≤ rest 2 (n - 1) := rest_nonneg (by omega) (by omega)
  have hv : vp 2 (n - 1) < 64 := by
    have h3 := vp_lt (p := 2) (by omega) hn1
    have h4 : (n - 1).natAbs < 2 ^ 64 := by omega
    exact (Nat.pow_lt_pow_iff_right (by omega)).1 (Nat.lt_of_le_of_lt h3 h4)
  have hW := Lib.hid (show witB a n = witW a n (rest 2 (n - 1)) (vp 2 (n - 1)) from rfl)
  have hrr : rest 2 (n - 1) ≤ 1000000000 := by omega
  have hC := fun w => valuation_any (n - 1) 2 w ⟨by omega, by omega⟩ hn1 (by omega) (by omega)
  have hP := fun w => power_any a (rest 2 (n - 1)) n w ⟨by omega, by omega⟩ hr0 ⟨by omega, by omega⟩ (by omega) h2
  clear hn1 hr1
  generalize rest 2 (n - 1) = o at *
  generalize vp 2 (n - 1) = k at *
  have hx0 := Int.emod_nonneg (a ^ o.toNat) (b := n) (by omega)
  have hx1 := Int.emod_lt_of_pos (a ^ o.toNat) (b := n) (by omega)
  have hW2 := Lib.hid (hW.out.trans (show witW a n o k = if a ^ o.toNat % n = 1 ∨ a ^ o.toNat % n = n - 1 then false else witGo n (k - 1) (a ^ o.toNat % n) from rfl))
  clear hW
  generalize a ^ o.toNat % n = x at *
  have HC := Lib.hid hC; have HP := Lib.hid hP; clear hC hP
  go_enter Tryz.func64, Tryz.ntmps64
  go_wp2_with fail
  refine (HC.out _).mono ?_
  rintro e w' ⟨rfl, n1, rfl⟩
  go_wp2_with fail
  refine (HP.out _).mono ?_
  rintro e w' ⟨rfl, n2, rfl⟩
  clear HC HP
  by_cases c1 : x = 1
  · have hF := Lib.hid (hW2.out.trans (if_pos (Or.inl c1)))
    clear hW2
    subst c1
    go_wp2
    go_ret
    exact Ret.eq _ (ret_bool hF.out.symm)
  · by_cases c2 : x = n - 1
    · have hF := Lib.hid (hW2.out.trans (if_pos (Or.inr c2)))
      clear hW2
      subst c2
      have d1 : (n - 1 == 1) = false := by rw [beq_eq_false_iff_ne]; exact c1
      go_wp2
      go_ret
      exact Ret.eq _ (ret_bool hF.out.symm)
    · have hW3 := Lib.hid (hW2.out.trans (if_neg (by rintro (h | h); exact c1 h; exact c2 h)))
      clear hW2
      have d1 : (x == 1) = false := by rw [beq_eq_false_iff_ne]; exact c1
      have d2 : (x == n - 1) = false := by rw [beq_eq_false_iff_ne]; exact c2
      go_wp2
      go_loop [7, 28] (fun t u => ∃ (y : Int) (i : Nat), t = .int .i64 y ∧ u = .int .i64 i ∧ 0 ≤ y ∧ y < n ∧ i ≤ k - 1 ∧ witB a n = witGo n (k - 1 - i) y) (fun _ u => (k - 1) - (intOf u).toNat)
      case atStart => exact ⟨x, 0, rfl, rfl, hx0, hx1, by omega, hW3.out⟩
      case round =>
        clear hW3 d1 d2
        obtain ⟨y, i, rfl, rfl, hy0, hy1, hi, he⟩ := hrel
        have hE := Lib.hid he; clear he
        obtain ⟨b1, b2⟩ := mul_le_sq hy0 hy1 hy0 hy1 h2
        have m1 := Int.emod_nonneg (y * y) (b := n) (by omega)
        have m2 := Int.emod_lt_of_pos (y * y) (b := n) (by omega)
        by_cases hlt : i < k - 1
        · have hS := Lib.hid (show witGo n (k - 1 - i) y = if y * y % n = n - 1 then false else witGo n (k - 1 - (i + 1)) (y * y % n) by
            rw [show k - 1 - i = (k - 1 - (i + 1)) + 1 by omega]; rfl)
          by_cases c3 : y * y % n = n - 1
          · have d3 : (y * y % n == n - 1) = true := by rw [beq_iff_eq]; exact c3
            have C3 := Lib.hid c3; clear c3
            go_wp2
            go_ret
            exact Ret.eq _ (ret_bool (by rw [hE.out, hS.out, if_pos C3.out]))
          · have d3 : (y * y % n == n - 1) = false := by rw [beq_eq_false_iff_ne]; exact c3
            go_wp2
            exact ⟨⟨y * y % n, i + 1, rfl, by go_num, m1, m2, by omega, by rw [hE.out, hS.out, if_neg c3]⟩, by simp [intOf]; omega⟩
        · go_wp2
          go_ret
          exact Ret.eq _ (ret_bool (by rw [hE.out, show k - 1 - i = 0 by omega]; rfl))
theorem idx_0 (w : World) : (Instr.index 55 (.agg #[.int .i64 2, .int .i64 3, .int .i64 5, .int .i64 7]) (.int .i64 0)).run Tryz.prog w = .ok (.int .i64 2) w := by kernel_rfl
theorem idx_1 (w : World) : (Instr.index 55 (.agg #[.int .i64 2, .int .i64 3, .int .i64 5, .int .i64 7]) (.int .i64 1)).run Tryz.prog w = .ok (.int .i64 3) w := by kernel_rfl
theorem idx_2 (w : World) : (Instr.index 55 (.agg #[.int .i64 2, .int .i64 3, .int .i64 5, .int .i64 7]) (.int .i64 2)).run Tryz.prog w = .ok (.int .i64 5) w := by kernel_rfl
theorem idx_3 (w : World) : (Instr.index 55 (.agg #[.int .i64 2, .int .i64 3, .int .i64 5, .int .i64 7]) (.int .i64 3)).run Tryz.prog w = .ok (.int .i64 7) w := by kernel_rfl
set_option maxHeartbeats 1600000 in
theorem isPrime_raw (n : Int) (w : World) :
    Calls Tryz.prog 35 #[.int .i64 n] w (Ret w (.bool (isPM n))) := by
  by_cases hn : n < 2 ∨ 1000000000 < n
  · have hF := Lib.hid (show isPM n = false from if_pos hn)
    go_enter Tryz.func35, Tryz.ntmps35
    rcases hn with h | h
    · go_wp2
      go_ret
      exact Ret.eq0 (ret_bool hF.out.symm)
    · by_cases h2 : n < 2
      · omega
      · go_wp2
        go_ret
        exact Ret.eq0 (ret_bool hF.out.symm)
  · have hF := Lib.hid (show isPM n = isPGo n [2, 3, 5, 7] from if_neg hn)
    have hn1 : 2 ≤ n := by omega
    have hn2 : n ≤ 1000000000 := by omega
    clear hn
    go_enter Tryz.func35, Tryz.ntmps35
    go_wp2
    go_loopw [4, 12] (fun _ u wr => ∃ k : Nat, u = .int .i64 k ∧ k ≤ 4 ∧ (1 ≤ k → 3 ≤ n) ∧ isPM n = isPGo n (List.drop k [2, 3, 5, 7]) ∧ ∃ m, wr = w.drewN m) (fun _ u _ => 4 - (intOf u).toNat)
    case atStart => exact ⟨0, rfl, by omega, by omega, hF.out, 0, rfl⟩
    case round =>
      clear hF
      obtain ⟨k, rfl, hk, hk3, he, m, rfl⟩ := hrel
      have hE := Lib.hid he; clear he
      have hk' : k = 0 ∨ k = 1 ∨ k = 2 ∨ k = 3 ∨ k = 4 := by omega
      rcases hk' with rfl | rfl | rfl | rfl | rfl
      · have hS := Lib.hid (hE.out.trans (show isPGo n [2, 3, 5, 7] = if n = 2 then true else if n % 2 = 0 ∨ witB 2 n = true then false else isPGo n [3, 5, 7] from rfl))
        clear hE
        have hI := fun w => idx_0 w
        by_cases c1 : n = 2
        · have hF := Lib.hid (hS.out.trans (if_pos c1))
          clear hS
          subst c1
          go_wp2
          go_ret
          exact Ret.eq _ (ret_bool hF.out.symm)
        · have hS2 := Lib.hid (hS.out.trans (if_neg c1))
          clear hS
          have d1 : (n == 2) = false := by rw [beq_eq_false_iff_ne]; exact c1
          by_cases c2 : n % 2 = 0
          · have hF := Lib.hid (hS2.out.trans (if_pos (Or.inl c2)))
            clear hS2
            have d2 : (n % 2 == 0) = true := by rw [beq_iff_eq]; exact c2
            clear c2
            go_wp2
            go_ret
            exact Ret.eq _ (ret_bool hF.out.symm)
          · have d2 : (n % 2 == 0) = false := by rw [beq_eq_false_iff_ne]; exact c2
            have hw := fun w => witness_any 2 n w (by omega) (by omega) (by omega) hn2
            cases c3 : witB 2 n
            · have hF := Lib.hid (hS2.out.trans (if_neg (by rw [c3]; simp [c2])))
              rw [c3] at hw
              have hW := Lib.hid hw
              clear hw hS2 c3 c2
              go_wp2_with fail
              refine (hW.out _).mono ?_
              rintro e w' ⟨rfl, n3, rfl⟩
              go_wp2
              exact ⟨⟨1, rfl, by omega, by omega, hF.out, _, rfl⟩, by simp [intOf]⟩
            · have hF := Lib.hid (hS2.out.trans (if_pos (Or.inr c3)))
              rw [c3] at hw
              have hW := Lib.hid hw
              clear hw hS2 c3 c2
              go_wp2_with fail
              refine (hW.out _).mono ?_
              rintro e w' ⟨rfl, n3, rfl⟩
              go_wp2
              go_ret
              exact Ret.eq _ (ret_bool hF.out.symm)
      · have hS := Lib.hid (hE.out.trans (show isPGo n [3, 5, 7] = if n = 3 then true else if n % 3 = 0 ∨ witB 3 n = true then false else isPGo n [5, 7] from rfl))
        clear hE
        have hI := fun w => idx_1 w
        by_cases c1 : n = 3
        · have hF := Lib.hid (hS.out.trans (if_pos c1))
          clear hS
          subst c1
          go_wp2
          go_ret
          exact Ret.eq _ (ret_bool hF.out.symm)
        · have hS2 := Lib.hid (hS.out.trans (if_neg c1))
          clear hS
          have d1 : (n == 3) = false := by rw [beq_eq_false_iff_ne]; exact c1
          by_cases c2 : n % 3 = 0
          · have hF := Lib.hid (hS2.out.trans (if_pos (Or.inl c2)))
            clear hS2
            have d2 : (n % 3 == 0) = true := by rw [beq_iff_eq]; exact c2
            clear c2
            go_wp2
            go_ret
            exact Ret.eq _ (ret_bool hF.out.symm)
          · have d2 : (n % 3 == 0) = false := by rw [beq_eq_false_iff_ne]; exact c2
            have hw := fun w => witness_any 3 n w (by omega) (by omega) (hk3 (by omega)) hn2
            cases c3 : witB 3 n
            · have hF := Lib.hid (hS2.out.trans (if_neg (by rw [c3]; simp [c2])))
              rw [c3] at hw
              have hW := Lib.hid hw
              clear hw hS2 c3 c2
              go_wp2_with fail
              refine (hW.out _).mono ?_
              rintro e w' ⟨rfl, n3, rfl⟩
              go_wp2
              exact ⟨⟨2, rfl, by omega, by omega, hF.out, _, rfl⟩, by simp [intOf]⟩
            · have hF := Lib.hid (hS2.out.trans (if_pos (Or.inr c3)))
              rw [c3] at hw
              have hW := Lib.hid hw
              clear hw hS2 c3 c2
              go_wp2_with fail
              refine (hW.out _).mono ?_
              rintro e w' ⟨rfl, n3, rfl⟩
              go_wp2
              go_ret
              exact Ret.eq _ (ret_bool hF.out.symm)
      · have hS := Lib.hid (hE.out.trans (show isPGo n [5, 7] = if n = 5 then true else if n % 5 = 0 ∨ witB 5 n = true then false else isPGo n [7] from rfl))
        clear hE
        have hI := fun w => idx_2 w
        by_cases c1 : n = 5
        · have hF := Lib.hid (hS.out.trans (if_pos c1))
          clear hS
          subst c1
          go_wp2
          go_ret
          exact Ret.eq _ (ret_bool hF.out.symm)
        · have hS2 := Lib.hid (hS.out.trans (if_neg c1))
          clear hS
          have d1 : (n == 5) = false := by rw [beq_eq_false_iff_ne]; exact c1
          by_cases c2 : n % 5 = 0
          · have hF := Lib.hid (hS2.out.trans (if_pos (Or.inl c2)))
            clear hS2
            have d2 : (n % 5 == 0) = true := by rw [beq_iff_eq]; exact c2
            clear c2
            go_wp2
            go_ret
            exact Ret.eq _ (ret_bool hF.out.symm)
          · have d2 : (n % 5 == 0) = false := by rw [beq_eq_false_iff_ne]; exact c2
            have hw := fun w => witness_any 5 n w (by omega) (by omega) (hk3 (by omega)) hn2
            cases c3 : witB 5 n
            · have hF := Lib.hid (hS2.out.trans (if_neg (by rw [c3]; simp [c2])))
              rw [c3] at hw
              have hW := Lib.hid hw
              clear hw hS2 c3 c2
              go_wp2_with fail
              refine (hW.out _).mono ?_
              rintro e w' ⟨rfl, n3, rfl⟩
              go_wp2
              exact ⟨⟨3, rfl, by omega, by omega, hF.out, _, rfl⟩, by simp [intOf]⟩
            · have hF := Lib.hid (hS2.out.trans (if_pos (Or.inr c3)))
              rw [c3] at hw
              have hW := Lib.hid hw
              clear hw hS2 c3 c2
              go_wp2_with fail
              refine (hW.out _).mono ?_
              rintro e w' ⟨rfl, n3, rfl⟩
              go_wp2
              go_ret
              exact Ret.eq _ (ret_bool hF.out.symm)
      · have hS := Lib.hid (hE.out.trans (show isPGo n [7] = if n = 7 then true else if n % 7 = 0 ∨ witB 7 n = true then false else isPGo n [] from rfl))
        clear hE
        have hI := fun w => idx_3 w
        by_cases c1 : n = 7
        · have hF := Lib.hid (hS.out.trans (if_pos c1))
          clear hS
          subst c1
          go_wp2
          go_ret
          exact Ret.eq _ (ret_bool hF.out.symm)
        · have hS2 := Lib.hid (hS.out.trans (if_neg c1))
          clear hS
          have d1 : (n == 7) = false := by rw [beq_eq_false_iff_ne]; exact c1
          by_cases c2 : n % 7 = 0
          · have hF := Lib.hid (hS2.out.trans (if_pos (Or.inl c2)))
            clear hS2
            have d2 : (n % 7 == 0) = true := by rw [beq_iff_eq]; exact c2
            clear c2
            go_wp2
            go_ret
            exact Ret.eq _ (ret_bool hF.out.symm)
          · have d2 : (n % 7 == 0) = false := by rw [beq_eq_false_iff_ne]; exact c2
            have hw := fun w => witness_any 7 n w (by omega) (by omega) (hk3 (by omega)) hn2
            cases c3 : witB 7 n
            · have hF := Lib.hid (hS2.out.trans (if_neg (by rw [c3]; simp [c2])))
              rw [c3] at hw
              have hW := Lib.hid hw
              clear hw hS2 c3 c2
              go_wp2_with fail
              refine (hW.out _).mono ?_
              rintro e w' ⟨rfl, n3, rfl⟩
              go_wp2
              exact ⟨⟨4, rfl, by omega, by omega, hF.out, _, rfl⟩, by simp [intOf]⟩
            · have hF := Lib.hid (hS2.out.trans (if_pos (Or.inr c3)))
              rw [c3] at hw
              have hW := Lib.hid hw
              clear hw hS2 c3 c2
              go_wp2_with fail
              refine (hW.out _).mono ?_
              rintro e w' ⟨rfl, n3, rfl⟩
              go_wp2
              go_ret
              exact Ret.eq _ (ret_bool hF.out.symm)
      · have hS := Lib.hid (hE.out.trans (show isPGo n [] = true from rfl))
        clear hE
        go_wp2
        go_ret
        exact Ret.eq _ (ret_bool hS.out.symm)
end Go.Proofs.YthkklilhjnpedaaGreat
end
section
namespace Go.Proofs.YthkklilhjnpedaaGreat
open Go.RowKit FF
theorem isPrime_any (n : Int) (w : World) :
    Calls Tryz.prog 35 #[.int .i64 n] w (Ret w (.bool (isPB n))) := isPrime_raw n w
end Go.Proofs.YthkklilhjnpedaaGreat
end
section
namespace Go.Proofs.YthkklilhjnpedaaGreat
open Go.RowKit FF
theorem isPB_small {n : Int} (h : n < 2) : isPB n = false := by
  rw [isPB_false]; rintro ⟨h1, _⟩; have := h1.1; omega
theorem isPB_big {n : Int} (h : 1000000000 < n) : isPB n = false := by
  rw [isPB_false]; rintro ⟨_, h1⟩; omega
theorem isPB_dvd {n d : Int} (hn : 2 ≤ n) (hd : 2 ≤ d) (hdd : d * d ≤ n) (h : n % d = 0) : isPB n = false := by
  rw [isPB_false]
  rintro ⟨h1, _⟩
  obtain ⟨N, rfl⟩ : ∃ N : Nat, n = (N : Int) := ⟨n.toNat, by omega⟩
  obtain ⟨D, rfl⟩ : ∃ D : Nat, d = (D : Int) := ⟨d.toNat, by omega⟩
  rw [Int.toNat_natCast] at h1
  have hdN : D ∣ N := Int.natCast_dvd_natCast.1 (Int.dvd_of_emod_eq_zero h)
  have : D * D ≤ N := by have : ((D * D : Nat) : Int) ≤ N := by push_cast; exact hdd
                         omega
  have h2 : D * 2 ≤ D * D := Nat.mul_le_mul_left _ (by omega)
  exact h1.not_dvd_of_lt (by omega) (by omega) hdN
theorem isPB_of_trial {n d : Int} (hn : 2 ≤ n) (hn2 : n ≤ 1000000000) (hd : 2 ≤ d) (hdd : n < d * d) (h : ∀ e : Int, 2 ≤ e → e < d → n % e ≠ 0) : isPB n = true := by
  rw [isPB_iff]
  refine ⟨isP_of_trial (by omega) fun e he hee hen => ?_, hn2⟩
  have h1 : ((e * e : Nat) : Int) ≤ n := by omega
  push_cast at h1
  have h2 : (e : Int) < d := by
    apply Classical.byContradiction; intro hc
    have h3 : d * d ≤ (e : Int) * d := Int.mul_le_mul_of_nonneg_right (by omega) (by omega)
    have h4 : (e : Int) * d ≤ (e : Int) * e := Int.mul_le_mul_of_nonneg_left (by omega) (by omega)
    omega
  refine h e (by omega) h2 ?_
  have : ((e : Int) ∣ n) := by
    have := Int.natCast_dvd_natCast.2 hen
    rwa [show ((n.toNat : Nat) : Int) = n by omega] at this
  exact Int.emod_eq_zero_of_dvd this
set_option maxHeartbeats 400000 in
theorem rIsPrime_any (n : Int) (w : World) :
    Calls Tryz.prog 10 #[.int .i64 n] w (Ret w (.bool (isPB n))) := by
  by_cases h1 : n < 2
  · have hF := Lib.hid (isPB_small h1)
    go_enter Tryz.func10, Tryz.ntmps10
    go_wp2
    go_ret
    exact Ret.eq0 (ret_bool hF.out.symm)
  by_cases h2 : 1000000000 < n
  · have hF := Lib.hid (isPB_big h2)
    go_enter Tryz.func10, Tryz.ntmps10
    go_wp2
    go_ret
    exact Ret.eq0 (ret_bool hF.out.symm)
  have g1 : 2 ≤ n := by omega
  have g2 : n ≤ 1000000000 := by omega
  clear h1 h2
  go_enter Tryz.func10, Tryz.ntmps10
  go_wp2
  go_loop [3] (fun t => ∃ d : Int, t = .int .i64 d ∧ 2 ≤ d ∧ d ≤ 100000 ∧ (∀ e : Int, 2 ≤ e → e < d → n % e ≠ 0)) (fun t => (100000 - intOf t).toNat)
  case atStart => exact ⟨2, rfl, by omega, by omega, fun e h h' => by omega⟩
  case round =>
    obtain ⟨d, rfl, h1, h2, h3⟩ := hrel
    have H3 := Lib.hid h3; clear h3
    have b1 : 0 ≤ d * d := Int.mul_nonneg (by omega) (by omega)
    have b2 : d * d ≤ 10000000000 := by
      have x1 : d * d ≤ 100000 * d := Int.mul_le_mul_of_nonneg_right (by omega) (by omega)
      omega
    by_cases c1 : d * d ≤ n
    · by_cases c2 : n % d = 0
      · have hF := Lib.hid (isPB_dvd g1 h1 c1 c2)
        have d1 := t_beq c2
        clear c2
        go_wp2
        go_ret
        exact Ret.eq0 (ret_bool hF.out.symm)
      · have d1 := f_beq c2
        have hlt : d < 100000 := by
          apply Classical.byContradiction; intro hc
          have x1 : 100000 * 100000 ≤ 100000 * d := Int.mul_le_mul_of_nonneg_left (by omega) (by omega)
          have x2 : 100000 * d ≤ d * d := Int.mul_le_mul_of_nonneg_right (by omega) (by omega)
          omega
        have hN : Hid (∀ e : Int, 2 ≤ e → e < d + 1 → n % e ≠ 0) := Lib.hid (fun e he1 he2 => by
          by_cases hed : e = d
          · rw [hed]; exact c2
          · exact H3.out e he1 (by omega))
        clear c2
        go_wp2
        exact ⟨⟨d + 1, rfl, by omega, by omega, hN.out⟩, by simp [intOf]; omega⟩
    · have hF := Lib.hid (isPB_of_trial g1 g2 h1 (by omega) H3.out)
      go_wp2
      go_ret
      exact Ret.eq0 (ret_bool hF.out.symm)
end Go.Proofs.YthkklilhjnpedaaGreat
namespace Go.Proofs.YthkklilhjnpedaaGreat
open Go.RowKit FF
def invE (a m : Int) : Int := if modB m = false then 2 else if Int.gcd a m = 1 then 0 else 12
def invV (a m : Int) : Int := if invE a m = 0 then invM a m else 0
theorem inv_bad {a m : Int} (h : modB m = false) : invE a m = 2 ∧ invV a m = 0 := by
  have e : invE a m = 2 := if_pos h
  exact ⟨e, by unfold invV; rw [e]; rfl⟩
theorem inv_none {a m : Int} (h : modB m = true) (g : Int.gcd a m ≠ 1) : invE a m = 12 ∧ invV a m = 0 := by
  have e : invE a m = 12 := by unfold invE; rw [h, if_neg (by simp), if_neg g]
  exact ⟨e, by unfold invV; rw [e]; rfl⟩
theorem inv_good {a m : Int} (h : modB m = true) (g : Int.gcd a m = 1) : invE a m = 0 ∧ invV a m = invM a m := by
  have e : invE a m = 0 := by unfold invE; rw [h, if_neg (by simp), if_pos g]
  exact ⟨e, by unfold invV; rw [e]; rfl⟩
set_option maxHeartbeats 400000 in
theorem Inverse_any (a m : Int) (w : World) (ha : I64 a) :
    Calls Tryz.prog 121 #[.int .i64 a, .int .i64 m] w (Ret w (.tuple #[.int .i64 (invV a m), .int .i64 (invE a m)])) := by
  have hM := Lib.hid (fun w => modulus_any m w)
  cases h : modB m
  · obtain ⟨e1, e2⟩ := inv_bad (a := a) h
    have E1 := Lib.hid e1; have E2 := Lib.hid e2; clear e1 e2
    rw [h] at hM
    clear h
    go_enter Tryz.func121, Tryz.ntmps121
    go_wp2_with fail
    refine (hM.out _).mono ?_
    rintro e w' ⟨rfl, n1, rfl⟩
    go_wp2_with fail
    go_ret2
    exact Ret.eq _ (ret_two E2.out.symm E1.out.symm)
  · obtain ⟨m1, m2⟩ := modB_true.1 h
    have hD := Lib.hid (fun w => mod_any a m w ha (by omega) ⟨by omega, by omega⟩)
    have r0 := Int.emod_nonneg a (b := m) (by omega)
    have r1 := Int.emod_lt_of_pos a (b := m) (by omega)
    have hG := Lib.hid (fun w => gcd_any (a % m) m w (by omega) (by omega))
    rw [gcd_emod_left] at hG
    by_cases g : Int.gcd a m = 1
    · obtain ⟨e1, e2⟩ := inv_good h g
      have E1 := Lib.hid e1; have E2 := Lib.hid e2; clear e1 e2
      have hI := Lib.hid (fun w => inverse_any a m w ha m1 m2 g)
      rw [g] at hG
      rw [h] at hM
      clear h g ha
      go_enter Tryz.func121, Tryz.ntmps121
      go_wp2_with fail
      refine (hM.out _).mono ?_
      rintro e w' ⟨rfl, n1, rfl⟩
      go_wp2_with fail
      refine (hD.out _).mono ?_
      rintro e w' ⟨rfl, n2, rfl⟩
      go_wp2_with fail
      refine (hG.out _).mono ?_
      rintro e w' ⟨rfl, n3, rfl⟩
      go_wp2_with fail
      refine (hI.out _).mono ?_
      rintro e w' ⟨rfl, n4, rfl⟩
      go_wp2_with fail
      go_ret2
      exact Ret.eq _ (ret_two E2.out.symm E1.out.symm)
    · obtain ⟨e1, e2⟩ := inv_none h g
      have E1 := Lib.hid e1; have E2 := Lib.hid e2; clear e1 e2
      have d : (((Int.gcd a m : Nat) : Int) != 1) = true := bne_iff_ne.2 (by omega)
      generalize ((Int.gcd a m : Nat) : Int) = G at *
      rw [h] at hM
      clear h g ha
      go_enter Tryz.func121, Tryz.ntmps121
      go_wp2_with fail
      refine (hM.out _).mono ?_
      rintro e w' ⟨rfl, n1, rfl⟩
      go_wp2_with fail
      refine (hD.out _).mono ?_
      rintro e w' ⟨rfl, n2, rfl⟩
      go_wp2_with fail
      refine (hG.out _).mono ?_
      rintro e w' ⟨rfl, n3, rfl⟩
      go_wp2_with fail
      go_ret2
      exact Ret.eq _ (ret_two E2.out.symm E1.out.symm)
end Go.Proofs.YthkklilhjnpedaaGreat
end
