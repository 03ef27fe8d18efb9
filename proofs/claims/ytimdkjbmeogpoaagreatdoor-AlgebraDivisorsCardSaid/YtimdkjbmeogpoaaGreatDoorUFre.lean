/- solve, splits and Divisor: an algebra that is ramified nowhere has a zero divisor. -/
import Derived.Test.YtimdkjbmeogpoaaGreatDoorULgh
import Derived.Test.YtimdkjbmeogpoaaGreatDoorUQa0
import Derived.Test.YtimdkjbmeogpoaaGreatDoorUQo0
section
namespace Go.Proofs.YtimdkjbmeogpoaaGreatDoor
open Go.RowKit FF
theorem wrapF (x : Int) (h1 : -4611686018427387904 ≤ x) (h2 : x ≤ 4611686018427387904) : IntKind.i64.wrap x = x := by rw [IntKind.wrap_i64]; omega
structure FreeR (n r s d : Int) : Prop where
 eq : n = r * (s * s)
 s1 : 1 ≤ s
 r0 : r ≠ 0
 d2 : 2 ≤ d
 nd : ∀ e : Int, 2 ≤ e → e < d → ¬ e * e ∣ r
theorem FreeR.start {n : Int} (h : n ≠ 0) : FreeR n n 1 2 := ⟨by omega, by omega, h, by omega, fun e h1 h2 => by omega⟩
theorem FreeR.bnd {n r s d : Int} (h : FreeR n r s d) (hn : -1000 ≤ n ∧ n ≤ 1000) : (-1000 ≤ r ∧ r ≤ 1000) ∧ s ≤ 31 := by
 have e : n.natAbs = r.natAbs * (s * s).natAbs := by rw [← Int.natAbs_mul, ← h.eq]
 have r1 : 1 ≤ r.natAbs := by have := h.r0; omega
 have hs : 0 < s * s := Int.mul_pos (by have := h.s1; omega) (by have := h.s1; omega)
 have s1 : 1 ≤ (s * s).natAbs := by omega
 have h1 : r.natAbs ≤ n.natAbs := by rw [e]; exact Nat.le_mul_of_pos_right _ s1
 have h2 : (s * s).natAbs ≤ n.natAbs := by rw [e]; exact Nat.le_mul_of_pos_left _ r1
 refine ⟨by omega, ?_⟩
 apply Classical.byContradiction; intro hh
 have := Int.mul_le_mul (show (32 : Int) ≤ s by omega) (show (32 : Int) ≤ s by omega) (by omega) (by omega)
 omega
theorem FreeR.done {n r s d : Int} (h : FreeR n r s d) (hl : (r.natAbs : Int) < d * d) : SF r := fun q hq hd => by
 have hq2 := hq.two_le
 have h1 := Int.le_of_dvd (show (0 : Int) < r.natAbs by have := h.r0; omega) (Int.dvd_natAbs.2 hd)
 refine h.nd q (by omega) ?_ hd
 apply Classical.byContradiction; intro hh
 have := h.d2
 have := Int.mul_le_mul (show d ≤ (q : Int) by omega) (show d ≤ (q : Int) by omega) (by omega) (by omega)
 omega
theorem FreeR.skip {n r s d : Int} (h : FreeR n r s d) (hd : r.tmod (d * d) ≠ 0) : FreeR n r s (d + 1) :=
 ⟨h.eq, h.s1, h.r0, by have := h.d2; omega, fun e h1 h2 g => by
  by_cases he : e = d
  ·subst he; exact hd (Int.tmod_eq_zero_of_dvd g)
  ·exact h.nd e h1 (by omega) g⟩
theorem FreeR.take {n r s d : Int} (h : FreeR n r s d) (hd : r.tmod (d * d) = 0) : FreeR n (r.tdiv (d * d)) (s * d) d ∧ (r.tdiv (d * d)).natAbs < r.natAbs := by
 have h4 : 2 * 2 ≤ d * d := Int.mul_le_mul h.d2 h.d2 (by omega) (by have := h.d2; omega)
 obtain ⟨k, hk⟩ := Int.dvd_of_tmod_eq_zero hd
 have e : r.tdiv (d * d) = k := by rw [hk]; exact Int.mul_tdiv_cancel_left _ (by omega)
 rw [e]
 have hr := h.r0
 have k0 : k ≠ 0 := fun g => hr (by rw [hk, g, Int.mul_zero])
 have s1 : 1 * 1 ≤ s * d := Int.mul_le_mul h.s1 (by have := h.d2; omega) (by omega) (by have := h.s1; omega)
 refine ⟨⟨by rw [h.eq, hk]; grind, by omega, k0, h.d2, fun e h1 h2 g => h.nd e h1 h2 (Int.dvd_trans g ⟨d * d, by rw [hk, Int.mul_comm]⟩)⟩, ?_⟩
 rw [hk, Int.natAbs_mul]
 have h5 : 4 ≤ (d * d).natAbs := by omega
 have h6 : 4 * k.natAbs ≤ (d * d).natAbs * k.natAbs := Nat.mul_le_mul_right _ h5
 omega
set_option maxHeartbeats 1000000 in
theorem free_any (n : Int) (w : World) (h0 : n ≠ 0) (hn : -1000 ≤ n ∧ n ≤ 1000) :
  Calls Tryz.prog 79 #[.int .i64 n] w fun e w' => ∃ p s : Int, n = p * (s * s) ∧ SF p ∧ 1 ≤ s ∧ e = .returned (.tuple #[.int .i64 p, .int .i64 s]) ∧ ∃ m, w' = w.drewN m := by
 have hAbs := lhd qabs_any
 have HN := lhd hn
 have H0 := lhd (FreeR.start h0)
 clear hn h0
 go_enter Tryz.func79, Tryz.ntmps79
 go_wp2_with fail
 go_loopw [2, 3, 4] (fun s2 s3 s4 wr => ∃ r s d : Int, s2 = .int .i64 r ∧ s3 = .int .i64 s ∧ s4 = .int .i64 d ∧ FreeR n r s d ∧ d ≤ 40 ∧ ∃ m, wr = w.drewN m) (fun _ _ s4 _ => 100 - (intOf s4).toNat)
 case atStart => exact ⟨n, 1, 2, rfl, rfl, rfl, H0.out, by omega, 0, rfl⟩
 case round =>
  clear H0
  obtain ⟨r, s, d, rfl, rfl, rfl, hR, d9, m, rfl⟩ := hrel
  have HR := lhd hR
  obtain ⟨⟨r1, r2⟩, s2⟩ := hR.bnd HN.out
  have s1 := hR.s1; have d2 := hR.d2
  clear hR
  obtain ⟨-, q2⟩ := mulb (x := d) (y := d) (m := 40) (n := 40) (by omega) (by omega)
  have q1 : 0 ≤ d * d := Int.mul_nonneg (by omega) (by omega)
  simp only [Int.reduceMul] at q2
  have HA := lhd (fun w => hAbs.out r w (by omega) (by omega))
  obtain ⟨z, hz⟩ : ∃ z : Int, (r.natAbs : Int) = z := ⟨_, rfl⟩
  have HZ := lhd hz
  have z0 : 0 ≤ z := by omega
  have z9 : z ≤ 1000 := by omega
  rw [hz] at HA
  clear hz
  by_cases hc : d * d ≤ z
  ·have HD := lhd (show d ≤ 31 by
    apply Classical.byContradiction; intro hh
    have := Int.mul_le_mul (show (32 : Int) ≤ d by omega) (show (32 : Int) ≤ d by omega) (by omega) (by omega)
    omega)
   go_wp2_with fail
   refine (HA.out _).mono ?_
   rintro e w' ⟨rfl, n1, rfl⟩
   clear HA
   go_wp2_with fail
   go_loopw [2, 3] (fun s2 s3 wr => ∃ r' s' : Int, s2 = .int .i64 r' ∧ s3 = .int .i64 s' ∧ FreeR n r' s' d ∧ ∃ m, wr = w.drewN m) (fun s2 _ _ => (intOf s2).natAbs)
   case atStart => exact ⟨r, s, rfl, rfl, HR.out, _, rfl⟩
   case round =>
    clear HR HZ z0 z9 hc s1 s2 r1 r2
    obtain ⟨r', s', rfl, rfl, hR', m2, rfl⟩ := hrel
    have HR' := lhd hR'
    obtain ⟨⟨r1, r2⟩, s2⟩ := hR'.bnd HN.out
    have s1 := hR'.s1
    clear hR'
    have q4 : d * d ≠ 0 := by
     have := Int.mul_pos (show 0 < d by omega) (show 0 < d by omega)
     omega
    by_cases ht : r'.tmod (d * d) = 0
    ·have t1 : (r'.tmod (d * d) == 0) = true := beq_iff_eq.2 ht
     have HT := lhd (HR'.out.take ht)
     obtain ⟨⟨u1, u2⟩, -⟩ := HT.out.1.bnd HN.out
     obtain ⟨v1, v2⟩ := mulb (x := s') (y := d) (m := 31) (n := 40) (by omega) (by omega)
     simp only [Int.reduceMul] at v1 v2
     have v3 : IntKind.i64.wrap (s' * d) = s' * d := wrapF _ (by omega) (by omega)
     have u3 : IntKind.i64.wrap (r'.tdiv (d * d)) = r'.tdiv (d * d) := wrapF _ (by omega) (by omega)
     clear ht
     go_wp2_with fail
     exact ⟨⟨_, _, rfl, rfl, HT.out.1, _, rfl⟩, by simp only [intOf]; exact HT.out.2⟩
    ·have t1 : (r'.tmod (d * d) == 0) = false := beq_eq_false_iff_ne.2 ht
     have HT := lhd (HR'.out.skip ht)
     clear ht
     go_wp2_with fail
     have := HD.out
     exact ⟨⟨r', s', d + 1, rfl, rfl, rfl, HT.out, by omega, _, rfl⟩, by simp only [intOf]; omega⟩
  ·have HS := lhd (show SF r from HR.out.done (by rw [HZ.out]; omega))
   go_wp2_with fail
   refine (HA.out _).mono ?_
   rintro e w' ⟨rfl, n1, rfl⟩
   clear HA
   go_wp2_with fail
   go_ret2
   exact ⟨r, s, HR.out.eq, HS.out, HR.out.s1, rfl, _, rfl⟩
def RootPost (n : Int) (w : World) (e : Ending) (w' : World) : Prop := ∃ (r : Int) (b : Bool), 0 ≤ r ∧ r ≤ 2001 ∧ (b = true → r * r = n) ∧ (b = false → ∀ k : Int, 0 ≤ k → k * k ≠ n) ∧ e = .returned (.tuple #[.int .i64 r, .bool b]) ∧ ∃ m, w' = w.drewN m
set_option maxHeartbeats 1000000 in
theorem root_any (n : Int) (w : World) (h0 : 0 ≤ n) (h9 : n ≤ 4000000) :
  Calls Tryz.prog 82 #[.int .i64 n] w (RootPost n w) := by
 have HN := lhd h0
 have HN9 := lhd h9
 go_enter Tryz.func82, Tryz.ntmps82
 go_wp2_with fail
 go_loopw [4] (fun s4 wr => ∃ r : Int, s4 = .int .i64 r ∧ 0 ≤ r ∧ r ≤ 2001 ∧ (∀ k : Int, 0 ≤ k → k < r → k * k < n) ∧ ∃ m, wr = w.drewN m) (fun s4 _ => 3000 - (intOf s4).toNat)
 case atStart => exact ⟨0, rfl, by omega, by omega, fun k h1 h2 => by omega, 0, rfl⟩
 case round =>
  obtain ⟨r, rfl, r0, r9, hk, m, rfl⟩ := hrel
  have HK := lhd hk
  clear hk
  obtain ⟨-, q2⟩ := mulb (x := r) (y := r) (m := 2001) (n := 2001) (by omega) (by omega)
  have q1 : 0 ≤ r * r := Int.mul_nonneg (by omega) (by omega)
  simp only [Int.reduceMul] at q2
  by_cases hc : r * r < n
  ·have HR := lhd (show r ≤ 2000 by
    apply Classical.byContradiction; intro hh
    have := Int.mul_le_mul (show (2001 : Int) ≤ r by omega) (show (2001 : Int) ≤ r by omega) (by omega) (by omega)
    omega)
   go_wp2_with fail
   have := HR.out
   exact ⟨⟨r + 1, rfl, by omega, by omega, fun k h1 h2 => by
    by_cases h : k = r
    ·subst h; exact hc
    ·exact HK.out k h1 (by omega), _, rfl⟩, by simp only [intOf]; omega⟩
  ·go_wp2_with fail
   go_ret2
   refine ⟨r, r * r == n, r0, r9, fun h => beq_iff_eq.1 h, fun h k k0 hkn => ?_, rfl, _, rfl⟩
   have hne := beq_eq_false_iff_ne.1 h
   by_cases hkr : k < r
   ·have := HK.out k k0 hkr; omega
   ·have := Int.mul_le_mul (show r ≤ k by omega) (show r ≤ k by omega) r0 (by omega)
    omega
theorem free_b (n : Int) (w : World) (h0 : n ≠ 0) (hn : -1000 ≤ n ∧ n ≤ 1000) :
  Calls Tryz.prog 79 #[.int .i64 n] w fun e w' => ∃ p s : Int, (n = p * (s * s) ∧ SF p ∧ 1 ≤ s) ∧ e = .returned (.tuple #[.int .i64 p, .int .i64 s]) ∧ Below w.heap.size w w' := by
 refine (free_any n w h0 hn).mono ?_
 rintro e w' ⟨p, s, h1, h2, h3, rfl, m, rfl⟩
 exact ⟨p, s, ⟨h1, h2, h3⟩, rfl, below_drewN (Below.refl _ _) m⟩
theorem free_bnd {n p s : Int} (h0 : n ≠ 0) (hn : -1000 ≤ n ∧ n ≤ 1000) (h : n = p * (s * s) ∧ SF p ∧ 1 ≤ s) : p ≠ 0 ∧ (-1000 ≤ p ∧ p ≤ 1000) ∧ s ≤ 31 := by
 have hp : p ≠ 0 := fun g => h0 (by rw [h.1, g, Int.zero_mul])
 have := FreeR.bnd (n := n) (r := p) (s := s) (d := 2) ⟨h.1, h.2.2, hp, by omega, fun e h1 h2 => by omega⟩ hn
 exact ⟨hp, this⟩
def NoHit (g P Q u v : Int) : Prop := ∀ w : Int, ¬ Hit g P Q u v w
theorem NoHit.neg {g P Q u v : Int} (hg : 0 < g) (h : P * u * u + Q * v * v < 0) : NoHit g P Q u v := fun w hh => by
 have h1 := hh.eq
 unfold hitN at h1
 have h2 : 0 ≤ g * (w * w) := Int.mul_nonneg (by omega) (Int.mul_nonneg hh.w0 hh.w0)
 omega
theorem NoHit.mod {g P Q u v : Int} (h : (P * u * u + Q * v * v).tmod g ≠ 0) : NoHit g P Q u v := fun w hh => h (by
 have h1 := hh.eq
 unfold hitN at h1
 rw [h1]; exact Int.mul_tmod_right ..)
theorem NoHit.root {g P Q u v : Int} (hg : 0 < g) (h : ∀ k : Int, 0 ≤ k → k * k ≠ (P * u * u + Q * v * v).tdiv g) : NoHit g P Q u v := fun w hh => by
 have h1 := hh.eq
 unfold hitN at h1
 refine h w hh.w0 ?_
 rw [h1, Int.mul_tdiv_cancel_left _ (by omega)]
theorem NoHit.nz {g P Q u v : Int} (h : u + v = 0) : NoHit g P Q u v := fun _ hh => hh.nz h
theorem Hit.of {g P Q u v r : Int} (hnz : u + v ≠ 0) (hm : (P * u * u + Q * v * v).tmod g = 0) (hr : r * r = (P * u * u + Q * v * v).tdiv g) (r0 : 0 ≤ r) : Hit g P Q u v r :=
 ⟨hnz, by unfold hitN; rw [hr]; exact (Int.mul_tdiv_cancel' (Int.dvd_of_tmod_eq_zero hm)).symm, r0⟩
structure SolveF (a b p s q t g P Q : Int) : Prop where
 hE : aE a b = 0
 hR : ramL a b 999 = []
 ha : a = p * (s * s) ∧ SF p ∧ 1 ≤ s
 hb : b = q * (t * t) ∧ SF q ∧ 1 ≤ t
 hg : g = Int.gcd p q
 hP : P = p.tdiv g
 hQ : Q = q.tdiv g
theorem SolveF.bnd {a b p s q t g P Q : Int} (h : SolveF a b p s q t g P Q) : p ≠ 0 ∧ (-1000 ≤ p ∧ p ≤ 1000) ∧ (1 ≤ s ∧ s ≤ 31) ∧ (-1000 ≤ q ∧ q ≤ 1000) ∧ (1 ≤ t ∧ t ≤ 31) ∧ (1 ≤ g ∧ g ≤ 1000) ∧ (-1000 ≤ P ∧ P ≤ 1000) ∧ (-1000 ≤ Q ∧ Q ≤ 1000) := by
 obtain ⟨ha, hb, a9, b9⟩ := aE_zero.1 h.hE
 obtain ⟨p0, p9, s9⟩ := free_bnd ha a9 h.ha
 obtain ⟨q0, q9, t9⟩ := free_bnd hb b9 h.hb
 have hg0 : Int.gcd p q ≠ 0 := fun g => p0 (Int.gcd_eq_zero_iff.1 g).1
 have hg1 := Int.le_of_dvd (show (0 : Int) < p.natAbs by omega) (Int.dvd_natAbs.2 (Int.gcd_dvd_left (a := p) (b := q)))
 have hP := h.hP; have hQ := h.hQ
 have h1 := tdiv_le (a := p) (g := g) (m := 1000) p9
 have h2 := tdiv_le (a := q) (g := g) (m := 1000) q9
 have := h.hg
 exact ⟨p0, p9, ⟨h.ha.2.2, s9⟩, q9, ⟨h.hb.2.2, t9⟩, ⟨by omega, by omega⟩, by rw [hP]; exact h1, by rw [hQ]; exact h2⟩
theorem SolveF.some {a b p s q t g P Q : Int} (h : SolveF a b p s q t g P Q) (hn : ∀ u v : Int, 0 ≤ u → 0 ≤ v → u * u ≤ q.natAbs → v * v ≤ p.natAbs → NoHit g P Q u v) : False := by
 obtain ⟨u, v, w, u0, v0, hu, hv, hh⟩ := solve_ex h.hE h.hR h.ha.1 h.hb.1 h.ha.2.1 h.hb.2.1 h.hg
 rw [← h.hP, ← h.hQ] at hh
 exact hn u v u0 v0 hu hv w hh
theorem SolveF.zd {a b p s q t g P Q u v w : Int} (h : SolveF a b p s q t g P Q) (hh : Hit g P Q u v w) (u0 : 0 ≤ u) (v0 : 0 ≤ v) (hu : u * u ≤ q.natAbs) (hv : v * v ≤ p.natAbs) : Zd a b (u * t) (v * s) (g * w * s * t) :=
 Hit.zd h.ha.1 h.hb.1 h.ha.2.2 h.hb.2.2 h.hg h.bnd.1 (by rw [← h.hP, ← h.hQ]; exact hh) u0 v0 hu hv
theorem sq_le32 {u n : Int} (h : u * u ≤ n) (hn : n ≤ 1000) : u ≤ 31 := by
 apply Classical.byContradiction; intro hh
 have := Int.mul_le_mul (show (32 : Int) ≤ u by omega) (show (32 : Int) ≤ u by omega) (by omega) (by omega)
 omega
def SolvePost (a b : Int) (w : World) (e : Ending) (w' : World) : Prop := ∃ x y z : Int, Zd a b x y z ∧ e = .returned (.tuple #[.int .i64 x, .int .i64 y, .int .i64 z, .bool true]) ∧ Below w.heap.size w w'
set_option maxHeartbeats 4000000 in
set_option maxRecDepth 100000 in
theorem solve_any (a b : Int) (w : World) (hE : aE a b = 0) (hR : ramL a b 999 = []) :
  Calls Tryz.prog 37 #[.agg #[.int .i64 a, .int .i64 b]] w (SolvePost a b w) := by
 obtain ⟨ha, hb, a9, b9⟩ := aE_zero.1 hE
 have HFa := lhd (fun w => free_b a w ha a9)
 have HFb := lhd (fun w => free_b b w hb b9)
 have HE := lhd hE; have HR := lhd hR
 clear hE hR ha hb a9 b9
 go_enter Tryz.func37, Tryz.ntmps37
 go_upto_region 1 with fail
 obtain ⟨W0, hW0⟩ : ∃ W0 : World, W0 = (w.alloc (.cells #[.int .i64 a, .int .i64 b] 23)) := ⟨_, rfl⟩
 rw [← hW0]
 have HB0 := lhd (show Bx w [(w.heap.size, #[.int .i64 a, .int .i64 b])] W0 by rw [hW0]; simpa using ((Bx.nil (Below.refl w.heap.size w)).new #[.int .i64 a, .int .i64 b] 23))
 clear hW0
 obtain ⟨c0_0, c0_1⟩ := HB0.out.two lm0
 go_wp2_with fail
 refine (HFa.out _).mono ?_
 rintro e1 w1 ⟨p, s, ea, rfl, hbb⟩
 have HB1 := lhd (HB0.out.keep hbb)
 clear c0_0 c0_1
 clear hbb HB0
 have EA := lhd ea
 clear ea HFa
 obtain ⟨c0_0, c0_1⟩ := HB1.out.two lm0
 go_wp2_with fail
 refine (HFb.out _).mono ?_
 rintro e2 w2 ⟨q, t, eb, rfl, hbb⟩
 have HB2 := lhd (HB1.out.keep hbb)
 clear c0_0 c0_1
 clear hbb HB1
 have EB := lhd eb
 clear eb HFb
 obtain ⟨g, hg⟩ : ∃ g : Int, (Int.gcd p q : Int) = g := ⟨_, rfl⟩
 obtain ⟨P, hP⟩ : ∃ P : Int, p.tdiv g = P := ⟨_, rfl⟩
 obtain ⟨Q, hQ⟩ : ∃ Q : Int, q.tdiv g = Q := ⟨_, rfl⟩
 have HS := lhd (show SolveF a b p s q t g P Q from ⟨HE.out, HR.out, EA.out, EB.out, hg.symm, hP.symm, hQ.symm⟩)
 obtain ⟨-, ⟨p1, p2⟩, ⟨s1, s2⟩, ⟨q1, q2⟩, ⟨t1, t2⟩, ⟨g1, g2⟩, ⟨P1, P2⟩, ⟨Q1, Q2⟩⟩ := HS.out.bnd
 have HGc := lhd (fun (A : Option Addr) (cc : Nat) (w : World) (hx : ShowsI w A [p, q]) => (show Calls Tryz.prog 80 #[.slice A 2 cc] w (Ret w (.int .i64 g)) by
  have h := qgcd_any A [p, q] 2 cc w hx rfl (by omega) (fun i hi => by
   match i, hi with
   | 0, _ => exact ⟨by show -4611686018427387904 ≤ p; omega, by show p ≤ 4611686018427387904; omega⟩
   | 1, _ => exact ⟨by show -4611686018427387904 ≤ q; omega, by show q ≤ 4611686018427387904; omega⟩)
  rw [gcdL_two, hg] at h
  exact h))
 have wP : IntKind.i64.wrap P = P := wrap_id _ (by omega) (by omega)
 have wQ : IntKind.i64.wrap Q = Q := wrap_id _ (by omega) (by omega)
 clear EA EB hg HE HR
 go_wp2_with fail
 refine (HGc.out _ _ _ (shows_two (by simp) p q)).mono ?_
 rintro e3 w3 ⟨rfl, n3, rfl⟩
 clear HGc
 obtain ⟨W3, hW3⟩ : ∃ W3 : World, W3 = (w2.alloc (.cells #[.int .i64 p, .int .i64 q] 3)).drewN n3 := ⟨_, rfl⟩
 rw [← hW3]
 have HB3 := lhd (show Below w.heap.size w W3 from hW3 ▸ below_drewN (HB2.out.below.alloc HB2.out.below.size _) n3)
 clear hW3 HB2
 have hAp := fun w => qabs_any p w (by omega) (by omega)
 have hAq := fun w => qabs_any q w (by omega) (by omega)
 obtain ⟨zp, hzp⟩ : ∃ z : Int, (p.natAbs : Int) = z := ⟨_, rfl⟩
 obtain ⟨zq, hzq⟩ : ∃ z : Int, (q.natAbs : Int) = z := ⟨_, rfl⟩
 have zp0 : 0 ≤ zp := by omega
 have zp9 : zp ≤ 1000 := by omega
 have zq0 : 0 ≤ zq := by omega
 have zq9 : zq ≤ 1000 := by omega
 rw [hzp] at hAp; rw [hzq] at hAq
 have HAp := lhd hAp; have HAq := lhd hAq; have HZ := lhd (And.intro hzp hzq)
 clear hAp hAq hzp hzq
 go_wp2_with fail
 go_loopw [11] (fun s11 wr => ∃ u : Int, s11 = .int .i64 u ∧ 0 ≤ u ∧ u ≤ 32 ∧ (∀ u' v' : Int, 0 ≤ u' → u' < u → 0 ≤ v' → v' * v' ≤ zp → NoHit g P Q u' v') ∧ ∃ m, wr = W3.drewN m) (fun s11 _ => 100 - (intOf s11).toNat)
 case atStart => exact ⟨0, rfl, by omega, by omega, fun u' v' h1 h2 => by omega, _, by first | rfl | exact (World.drewN_zero _).symm⟩
 case round =>
  obtain ⟨u, rfl, u0, u9, hno, m, rfl⟩ := hrel
  have HNO := lhd hno; clear hno
  obtain ⟨-, uu2⟩ := mulb (x := u) (y := u) (m := 32) (n := 32) (by omega) (by omega)
  have uu1 : 0 ≤ u * u := Int.mul_nonneg u0 u0
  simp only [Int.reduceMul] at uu2
  by_cases hc : u * u ≤ zq
  ·have u31 := lhd (sq_le32 hc zq9)
   go_wp2_with fail
   refine (HAq.out _).mono ?_
   rintro e4 w4 ⟨rfl, n4, rfl⟩
   go_wp2_with fail
   go_loopw [12] (fun s12 wr => ∃ v : Int, s12 = .int .i64 v ∧ 0 ≤ v ∧ v ≤ 32 ∧ (∀ v' : Int, 0 ≤ v' → v' < v → NoHit g P Q u v') ∧ ∃ m, wr = W3.drewN m) (fun s12 _ => 100 - (intOf s12).toNat)
   case atStart => exact ⟨0, rfl, by omega, by omega, fun v' h1 h2 => by omega, _, by first | rfl | (rw [World.drewN_drewN])⟩
   case round =>
    obtain ⟨v, rfl, v0, v9, hnv, m2, rfl⟩ := hrel
    have HNV := lhd hnv; clear hnv
    obtain ⟨-, vv2⟩ := mulb (x := v) (y := v) (m := 32) (n := 32) (by omega) (by omega)
    have vv1 : 0 ≤ v * v := Int.mul_nonneg v0 v0
    simp only [Int.reduceMul] at vv2
    by_cases hv : v * v ≤ zp
    ·have v31 := lhd (sq_le32 hv zp9)
     obtain ⟨a1, a2⟩ := mulb (x := P) (y := u) (m := 1000) (n := 32) (by omega) (by omega)
     obtain ⟨a3, a4⟩ := mulb (x := P * u) (y := u) (m := 32000) (n := 32) (by omega) (by omega)
     obtain ⟨b1, b2⟩ := mulb (x := Q) (y := v) (m := 1000) (n := 32) (by omega) (by omega)
     obtain ⟨b3, b4⟩ := mulb (x := Q * v) (y := v) (m := 32000) (n := 32) (by omega) (by omega)
     simp only [Int.reduceMul] at a1 a2 a3 a4 b1 b2 b3 b4
     have w1 : IntKind.i64.wrap (P * u) = P * u := wrap_id _ (by omega) (by omega)
     have w2 : IntKind.i64.wrap (P * u * u) = P * u * u := wrap_id _ (by omega) (by omega)
     have w3 : IntKind.i64.wrap (Q * v) = Q * v := wrap_id _ (by omega) (by omega)
     have w4 : IntKind.i64.wrap (Q * v * v) = Q * v * v := wrap_id _ (by omega) (by omega)
     have w5 : IntKind.i64.wrap (P * u * u + Q * v * v) = P * u * u + Q * v * v := wrap_id _ (by omega) (by omega)
     have hgne : g ≠ 0 := by omega
     go_wp2_with fail
     refine (HAp.out _).mono ?_
     rintro e5 w5 ⟨rfl, n5, rfl⟩
     go_wp2_with fail
     go_quiet (fail)
     obtain ⟨N, hN⟩ : ∃ N : Int, P * u * u + Q * v * v = N := ⟨_, rfl⟩
     rw [hN]
     have N1 : -2048000 ≤ N := by omega
     have N2 : N ≤ 2048000 := by omega
     have HN := lhd hN
     clear w1 w2 w3 w4 w5 a1 a2 a3 a4 b1 b2 b3 b4 hN
     by_cases h1 : u + v = 0
     ·have t1 : (u + v == 0) = true := beq_iff_eq.2 h1
      have HH := lhd (NoHit.nz (g := g) (P := P) (Q := Q) h1)
      clear h1
      go_wp2_with fail
      have := v31.out
      refine ⟨⟨v + 1, rfl, by omega, by omega, fun v' h1 h2 => ?_, _, by first | rfl | simp only [World.drewN_drewN]⟩, by simp only [intOf]; omega⟩
      by_cases hvv : v' = v
      ·subst hvv; exact HH.out
      ·exact HNV.out v' h1 (by omega)
     have t1 : (u + v == 0) = false := beq_eq_false_iff_ne.2 h1
     have H1 := lhd h1; clear h1
     by_cases h2 : N < 0
     ·have HH := lhd (NoHit.neg (g := g) (P := P) (Q := Q) (u := u) (v := v) (by omega) (by rw [HN.out]; exact h2))
      go_wp2_with fail
      have := v31.out
      refine ⟨⟨v + 1, rfl, by omega, by omega, fun v' h1 h2 => ?_, _, by first | rfl | simp only [World.drewN_drewN]⟩, by simp only [intOf]; omega⟩
      by_cases hvv : v' = v
      ·subst hvv; exact HH.out
      ·exact HNV.out v' h1 (by omega)
     have h2' : 0 ≤ N := by omega
     clear h2
     have em := lhd (Int.tmod_eq_emod_of_nonneg (a := N) (b := g) h2')
     have ed := lhd (Int.tdiv_eq_ediv_of_nonneg (a := N) (b := g) h2')
     by_cases h3 : ¬ N % g = 0
     ·have HH := lhd (NoHit.mod (g := g) (P := P) (Q := Q) (u := u) (v := v) (by rw [HN.out, em.out]; exact h3))
      have t3 : (N % g == 0) = false := beq_eq_false_iff_ne.2 h3
      have t4 : (N % g != 0) = true := bne_iff_ne.2 h3
      clear h3
      go_wp2_with fail
      have := v31.out
      refine ⟨⟨v + 1, rfl, by omega, by omega, fun v' h1 h2 => ?_, _, by first | rfl | simp only [World.drewN_drewN]⟩, by simp only [intOf]; omega⟩
      by_cases hvv : v' = v
      ·subst hvv; exact HH.out
      ·exact HNV.out v' h1 (by omega)
     have h3 : N % g = 0 := Classical.not_not.1 h3
     have t3 : (N % g == 0) = true := beq_iff_eq.2 h3
     have t4 : (N % g != 0) = false := by rw [bne_eq_false_iff_eq]; exact h3
     have H3 := lhd h3
     clear h3
     obtain ⟨R, hR⟩ : ∃ R : Int, N / g = R := ⟨_, rfl⟩
     have R0 : 0 ≤ R := hR ▸ Int.ediv_nonneg (by omega) (by omega)
     have R9 : R ≤ 2048000 := by rw [← hR, ← ed.out]; exact (tdiv_le (a := N) (g := g) (m := 2048000) ⟨by omega, by omega⟩).2
     have wR : IntKind.i64.wrap R = R := wrap_id _ (by omega) (by omega)
     have HRo := lhd (fun w => root_any R w R0 (by omega))
     go_wp2_with fail
     refine (HRo.out _).mono ?_
     rintro e6 w6 ⟨r, bb, r0, r9, hb1, hb2, rfl, n6, rfl⟩
     have HRR := lhd hR; clear hR HRo
     cases bb
     ·have HH := lhd (NoHit.root (g := g) (P := P) (Q := Q) (u := u) (v := v) (by omega) (by rw [HN.out, ed.out, HRR.out]; exact hb2 rfl))
      clear hb1 hb2
      go_wp2_with fail
      have := v31.out
      refine ⟨⟨v + 1, rfl, by omega, by omega, fun v' h1 h2 => ?_, _, by first | rfl | simp only [World.drewN_drewN]⟩, by simp only [intOf]; omega⟩
      by_cases hvv : v' = v
      ·subst hvv; exact HH.out
      ·exact HNV.out v' h1 (by omega)
     have HH := lhd (Hit.of (g := g) (P := P) (Q := Q) (u := u) (v := v) (r := r) H1.out (by rw [HN.out, em.out]; exact H3.out) (by rw [HN.out, ed.out, HRR.out]; exact hb1 rfl) r0)
     have HZd := lhd (HS.out.zd HH.out u0 v0 (by rw [HZ.out.2]; exact hc) (by rw [HZ.out.1]; exact hv))
     clear hb1 hb2
     obtain ⟨c1, c2⟩ := mulb (x := u) (y := t) (m := 32) (n := 31) (by omega) (by omega)
     obtain ⟨c3, c4⟩ := mulb (x := v) (y := s) (m := 32) (n := 31) (by omega) (by omega)
     obtain ⟨c5, c6⟩ := mulb (x := g) (y := r) (m := 1000) (n := 2001) (by omega) (by omega)
     obtain ⟨c7, c8⟩ := mulb (x := g * r) (y := s) (m := 2001000) (n := 31) (by omega) (by omega)
     obtain ⟨c9, c10⟩ := mulb (x := g * r * s) (y := t) (m := 62031000) (n := 31) (by omega) (by omega)
     simp only [Int.reduceMul] at c1 c2 c3 c4 c5 c6 c7 c8 c9 c10
     have w1 : IntKind.i64.wrap (u * t) = u * t := wrap_id _ (by omega) (by omega)
     have w2 : IntKind.i64.wrap (v * s) = v * s := wrap_id _ (by omega) (by omega)
     have w3 : IntKind.i64.wrap (g * r) = g * r := wrap_id _ (by omega) (by omega)
     have w4 : IntKind.i64.wrap (g * r * s) = g * r * s := wrap_id _ (by omega) (by omega)
     have w5 : IntKind.i64.wrap (g * r * s * t) = g * r * s * t := wrap_id _ (by omega) (by omega)
     clear HNO HNV
     go_wp2_with fail
     try go_quiet (fail)
     try go_wp2_with fail
     (try simp only [Exit.inBlock, Exit.then]); refine bodyPost_ret (results_tmp4 rfl _ _ _) rfl ?_
     exact ⟨u * t, v * s, g * r * s * t, HZd.out, rfl, by first | exact below_drewN HB3.out _ | (simp only [World.drewN_drewN]; exact below_drewN HB3.out _) | exact (below_drewN HB3.out _).drew⟩
    ·have HH := lhd (show ∀ v' : Int, 0 ≤ v' → v' * v' ≤ zp → NoHit g P Q u v' from fun v' h1 h2 => HNV.out v' h1 (by
      apply Classical.byContradiction; intro hh
      have := Int.mul_le_mul (show v ≤ v' by omega) (show v ≤ v' by omega) v0 (by omega)
      omega))
     go_wp2_with fail
     refine (HAp.out _).mono ?_
     rintro e5 w5 ⟨rfl, n5, rfl⟩
     go_wp2_with fail
     have := u31.out
     refine ⟨⟨u + 1, rfl, by omega, by omega, fun u' v' h1 h2 h3 h4 => ?_, _, by first | rfl | simp only [World.drewN_drewN]⟩, by simp only [intOf]; omega⟩
     by_cases huu : u' = u
     ·subst huu; exact HH.out v' h3 h4
     ·exact HNO.out u' v' h1 (by omega) h3 h4
  ·exact (HS.out.some fun u' v' h1 h2 h3 h4 => HNO.out u' v' h1 (by
    rw [HZ.out.2] at h3
    apply Classical.byContradiction; intro hh
    have := Int.mul_le_mul (show u ≤ u' by omega) (show u ≤ u' by omega) u0 (by omega)
    omega) h2 (by rw [HZ.out.1] at h4; exact h4)).elim
end Go.Proofs.YtimdkjbmeogpoaaGreatDoor
end
