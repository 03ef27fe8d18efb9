/- Lift of the program and of the reference. -/
import Derived.Test.YtmlkiddkgikdhaaTon
import Derived.Test.YtmlkiddkgikdhaaRRts
import Derived.Test.YtmlkiddkgikdhaaRt3
import Derived.Test.YtmlkiddkgikdhaaBez
namespace Go.Proofs.Ytmlkiddkgikdhaa
open Go.RowKit FF

/-- the error of Lift -/
def liftE (a p k r : Int) : Int := if ppE p k = 0 then (if p = 2 then 11 else if r % p = 0 then 3 else if r % p * (r % p) % p = a % p then 0 else 3) else ppE p k
/-- what Lift finds -/
def LiftVal (a p k r x : Int) : Prop := (liftE a p k r = 0 → 0 ≤ x ∧ x < ppV p k ∧ Cg (ppV p k) (x * x) a ∧ Cg p x r) ∧ (liftE a p k r ≠ 0 → x = 0)
/-- what Lift hands back -/
def LiftPost (a p k r : Int) (w : World) (e : Ending) (w' : World) : Prop := ∃ x n, e = .returned (.tuple #[.int .i64 x, .int .i64 (liftE a p k r)]) ∧ LiftVal a p k r x ∧ w' = w.drewN n
theorem LiftPost.none {a p k r E : Int} {w : World} (n : Nat) (h : liftE a p k r = E) (hE : E ≠ 0) : LiftPost a p k r w (.returned (.tuple #[.int .i64 0, .int .i64 E])) (w.drewN n) :=
  ⟨0, n, by rw [h], ⟨fun g => absurd (h.symm.trans g) hE, fun _ => rfl⟩, rfl⟩
theorem LiftPost.none3 {a p k r E : Int} {w w' : World} (h : liftE a p k r = E) (hE : E ≠ 0) (hw : ∃ n, w' = w.drewN n) : LiftPost a p k r w (.returned (.tuple #[.int .i64 0, .int .i64 E])) w' := by
  obtain ⟨n, rfl⟩ := hw; exact LiftPost.none n h hE
theorem liftE_ok {a p k r : Int} (h : liftE a p k r = 0) : ppE p k = 0 ∧ p ≠ 2 ∧ r % p ≠ 0 ∧ r % p * (r % p) % p = a % p := by
  unfold liftE at h
  by_cases c1 : ppE p k = 0
  · rw [if_pos c1] at h
    by_cases c2 : p = 2
    · rw [if_pos c2] at h; exact absurd h (by omega)
    rw [if_neg c2] at h
    by_cases c3 : r % p = 0
    · rw [if_pos c3] at h; exact absurd h (by omega)
    rw [if_neg c3] at h
    by_cases c4 : r % p * (r % p) % p = a % p
    · exact ⟨c1, c2, c3, c4⟩
    · rw [if_neg c4] at h; exact absurd h (by omega)
  · rw [if_neg c1] at h; exact absurd h c1
/-- what a good lift stands on -/
theorem lift_facts {a p k r : Int} (h : liftE a p k r = 0) : ∃ P K : Nat, p = P ∧ k = K ∧ IsP P ∧ 2 < P ∧ 1 ≤ K ∧ ppV p k = (P : Int) ^ K ∧ (P : Int) ^ K ≤ 1000000000 ∧ Cg P (r * r) a ∧ ¬ (P : Int) ∣ a := by
  obtain ⟨h1, h2, h3, h4⟩ := liftE_ok h
  obtain ⟨P, K, rfl, rfl, g1, g2, g3, g4, g5⟩ := pp_good h1
  have := g1.1
  refine ⟨P, K, rfl, rfl, g1, by omega, g2, g3, g4, ?_, fun hd => h3 ?_⟩
  · have e := Cg.emod (P : Int) r
    exact ((e.mul e).symm).trans (Cg.of_emod h4)
  · rw [Int.emod_eq_zero_of_dvd hd] at h4
    have hd2 := Int.dvd_of_emod_eq_zero h4
    rcases g1.idvd_mul hd2 with d | d <;> exact (Int.emod_emod (a := r) .. ▸ Int.emod_eq_zero_of_dvd d)
theorem sub_mod_zero {x b p : Int} (b0 : 0 ≤ b) (b1 : b < p) : (x - b) % p = 0 ↔ x % p = b := by
  constructor
  · intro h
    have h2 := (Cg.of_emod (show (x - b) % p = 0 % p by rw [h, Int.zero_emod])).emod_eq
    have h3 : Cg p x b := ⟨(x - b) / p, by have := Int.emod_add_mul_ediv (x - b) p; omega⟩
    rw [h3.emod_eq, Int.emod_eq_of_lt b0 b1]
  · intro h
    have h3 : Cg p x b := Cg.of_emod (by rw [h, Int.emod_eq_of_lt b0 b1])
    obtain ⟨t, ht⟩ := h3
    rw [ht, Int.mul_emod_right]

set_option maxHeartbeats 2000000 in
theorem Lift_any (a p k r : Int) (w : World) (ha : I64 a) (hk : I64 k) (hr : I64 r) : Calls Try.prog 35 #[.int .i64 a, .int .i64 p, .int .i64 k, .int .i64 r] w (LiftPost a p k r w) := by
  have hP := Lib.hid (fun w => primePower_any p k w hk)
  by_cases h : ppE p k = 0
  · rw [h] at hP
    obtain ⟨P, K, rfl, rfl, g1, g2, g3, g4, g5⟩ := pp_good h
    have hp2 := g1.1
    by_cases h2 : (P : Int) = 2
    · have E := Lib.hid (show liftE a P K r = 11 by unfold liftE; rw [if_pos h, if_pos h2])
      have d2 := t_beq h2
      clear h h2 g1 g2 g3 g4 g5 hp2
      generalize (P : Int) = p at *
      generalize ppV p K = V at *
      go_enter Try.func35, Try.ntmps35
      go_wp2_with fail
      refine (hP.out _).mono ?_
      rintro e w' ⟨rfl, n1, rfl⟩
      go_wp2_with fail
      go_ret2
      exact LiftPost.none _ E.out (by decide)
    have hM := Lib.hid (fun (b : Int) (w : World) (hb : I64 b) => mod_any b P w hb (by omega) ⟨by omega, by omega⟩)
    have hMr := Lib.hid (fun w => hM.out r w hr)
    have hMa := Lib.hid (fun w => hM.out a w ha)
    have b0 := Int.emod_nonneg a (b := P) (by omega)
    have b1 := Int.emod_lt_of_pos a (b := P) (by omega)
    have x0 := Int.emod_nonneg r (b := P) (by omega)
    have x1 := Int.emod_lt_of_pos r (b := P) (by omega)
    have d2 := f_beq h2
    by_cases h3 : r % P = 0
    · have E := Lib.hid (show liftE a P K r = 3 by unfold liftE; rw [if_pos h, if_neg h2, if_pos h3])
      have d3 := t_beq h3
      clear h h2 h3
      generalize ppV P K = V at *
      generalize r % P = x at *
      go_enter Try.func35, Try.ntmps35
      go_wp2_with fail
      refine (hP.out _).mono ?_
      rintro e w' ⟨rfl, n1, rfl⟩
      go_wp2_with fail
      refine (hMr.out _).mono ?_
      rintro e w' ⟨rfl, n2, rfl⟩
      go_wp2_with fail
      go_ret2
      exact LiftPost.none _ E.out (by decide)
    have q1 : 0 ≤ r % P * (r % P) ∧ r % P * (r % P) ≤ 1000000000 * 1000000000 := mul_le x0 (by omega) x0 (by omega)
    obtain ⟨q1, q2⟩ := q1
    have d3 := f_beq h3
    by_cases h4 : r % P * (r % P) % P = a % P
    · have hE : liftE a P K r = 0 := by unfold liftE; rw [if_pos h, if_neg h2, if_neg h3, if_pos h4]
      have E := Lib.hid hE
      have d4 := t_beq ((sub_mod_zero b0 b1).2 h4)
      obtain ⟨P', K', e1, e2, -, f2, -, -, -, f6, f7⟩ := lift_facts hE
      obtain rfl : P = P' := by omega
      obtain rfl : K = K' := by omega
      have hL := Lib.hid (fun w => lift_any a r (ppV P K) P K w ha hr g1 f2 g2 g3.symm (by omega) f6 f7)
      have HV := Lib.hid (fun x h1 h2 h3 h4 => (show LiftVal a P K r x from ⟨fun _ => ⟨h1, h2, h3, h4⟩, fun g => absurd hE g⟩))
      clear hE h h2 h3 h4 f6 f7 g3 g4
      have d5 : (((r % P * (r % P) - a % P) % P) != 0) = false := by rw [bne, d4]; rfl
      generalize ppV P K = V at *
      generalize r % P = x at *
      generalize a % P = b at *
      go_enter Try.func35, Try.ntmps35
      go_wp2_with fail
      refine (hP.out _).mono ?_
      rintro e w' ⟨rfl, n1, rfl⟩
      go_wp2_with fail
      refine (hMr.out _).mono ?_
      rintro e w' ⟨rfl, n2, rfl⟩
      go_wp2_with fail
      refine (hMr.out _).mono ?_
      rintro e w' ⟨rfl, n3, rfl⟩
      go_wp2_with fail
      refine (hMr.out _).mono ?_
      rintro e w' ⟨rfl, n4, rfl⟩
      go_wp2_with fail
      refine (hMa.out _).mono ?_
      rintro e w' ⟨rfl, n5, rfl⟩
      go_wp2_with fail
      refine (hM.out _ _ ⟨by omega, by omega⟩).mono ?_
      rintro e w' ⟨rfl, n6, rfl⟩
      go_wp2_with fail
      refine (hL.out _).mono ?_
      rintro e w' ⟨y, hy, rfl, n7, rfl⟩
      go_wp2_with fail
      go_ret2
      exact ⟨y, _, by rw [E.out]; rfl, HV.out y hy.1 hy.2.1 hy.2.2.1 hy.2.2.2, rfl⟩
    · have E := Lib.hid (show liftE a P K r = 3 by unfold liftE; rw [if_pos h, if_neg h2, if_neg h3, if_neg h4])
      have d4 := f_beq (fun g => h4 ((sub_mod_zero b0 b1).1 g))
      clear h h2 h3 h4
      have d5 : (((r % P * (r % P) - a % P) % P) != 0) = true := by rw [bne, d4]; rfl
      generalize ppV P K = V at *
      generalize r % P = x at *
      generalize a % P = b at *
      go_enter Try.func35, Try.ntmps35
      go_wp2_with fail
      refine (hP.out _).mono ?_
      rintro e w' ⟨rfl, n1, rfl⟩
      go_wp2_with fail
      refine (hMr.out _).mono ?_
      rintro e w' ⟨rfl, n2, rfl⟩
      go_wp2_with fail
      refine (hMr.out _).mono ?_
      rintro e w' ⟨rfl, n3, rfl⟩
      go_wp2_with fail
      refine (hMr.out _).mono ?_
      rintro e w' ⟨rfl, n4, rfl⟩
      go_wp2_with fail
      refine (hMa.out _).mono ?_
      rintro e w' ⟨rfl, n5, rfl⟩
      go_wp2_with fail
      refine (hM.out _ _ ⟨by omega, by omega⟩).mono ?_
      rintro e w' ⟨rfl, n6, rfl⟩
      go_wp2_with fail
      go_ret2
      exact LiftPost.none _ E.out (by decide)
  · have E := Lib.hid (show liftE a p k r = ppE p k from if_neg h)
    have d := bne_iff_ne.2 h
    have hE0 := Lib.hid h
    clear h
    generalize ppE p k = E' at *
    generalize ppV p k = V at *
    go_enter Try.func35, Try.ntmps35
    go_wp2_with fail
    refine (hP.out _).mono ?_
    rintro e w' ⟨rfl, n1, rfl⟩
    go_wp2_with fail
    go_ret2
    exact LiftPost.none _ E.out hE0.out

set_option maxHeartbeats 2000000 in
theorem rLift_any (a p k r : Int) (w : World) (ha : I64 a) (hk : I64 k) (hr : I64 r) : Calls Try.prog 36 #[.int .i64 a, .int .i64 p, .int .i64 k, .int .i64 r] w (LiftPost a p k r w) := by
  have hP := Lib.hid (fun w => rPrimePower_any p k w hk)
  by_cases h : ppE p k = 0
  · rw [h] at hP
    obtain ⟨P, K, rfl, rfl, g1, g2, g3, g4, g5⟩ := pp_good h
    have hp2 := g1.1
    by_cases h2 : (P : Int) = 2
    · have E := Lib.hid (show liftE a P K r = 11 by unfold liftE; rw [if_pos h, if_pos h2])
      have d2 := t_beq h2
      clear h h2 g1 g2 g3 g4 g5 hp2
      generalize (P : Int) = p at *
      generalize ppV p K = V at *
      go_enter Try.func36, Try.ntmps36
      go_wp2_with fail
      refine (hP.out _).mono ?_
      rintro e w' ⟨rfl, n1, rfl⟩
      go_wp2_with fail
      go_ret2
      exact LiftPost.none _ E.out (by decide)
    have hM := Lib.hid (fun (b m : Int) (w : World) (hb : I64 b) (h1 : 1 ≤ m) (h2 : m ≤ 1000000000) => rMod_any b m w hb (by omega) ⟨by omega, by omega⟩)
    have hMr := Lib.hid (fun w => hM.out r P w hr (by omega) (by omega))
    have hMa := Lib.hid (fun w => hM.out a P w ha (by omega) (by omega))
    have b0 := Int.emod_nonneg a (b := P) (by omega)
    have b1 := Int.emod_lt_of_pos a (b := P) (by omega)
    have x0 := Int.emod_nonneg r (b := P) (by omega)
    have x1 := Int.emod_lt_of_pos r (b := P) (by omega)
    have d2 := f_beq h2
    by_cases h3 : r % P = 0
    · have E := Lib.hid (show liftE a P K r = 3 by unfold liftE; rw [if_pos h, if_neg h2, if_pos h3])
      have d3 := t_beq h3
      clear h h2 h3 g3 g4
      generalize ppV P K = V at *
      generalize r % P = x at *
      go_enter Try.func36, Try.ntmps36
      go_wp2_with fail
      refine (hP.out _).mono ?_
      rintro e w' ⟨rfl, n1, rfl⟩
      go_wp2_with fail
      refine (hMr.out _).mono ?_
      rintro e w' ⟨rfl, n2, rfl⟩
      go_wp2_with fail
      go_big_quiet (fail)
      go_wp2_with fail
      go_ret2
      exact LiftPost.none3 E.out (by decide) (by simp only [World.drewN_drewN]; exact ⟨_, rfl⟩)
    have q1 : 0 ≤ r % P * (r % P) ∧ r % P * (r % P) ≤ 1000000000 * 1000000000 := mul_le x0 (by omega) x0 (by omega)
    obtain ⟨q1, q2⟩ := q1
    have d3 := f_beq h3
    by_cases h4 : r % P * (r % P) % P = a % P
    · have hE : liftE a P K r = 0 := by unfold liftE; rw [if_pos h, if_neg h2, if_neg h3, if_pos h4]
      have E := Lib.hid hE
      have d4 := t_beq h4
      have d5 : ((r % P * (r % P) % P) != (a % P)) = false := by rw [bne, d4]; rfl
      obtain ⟨P', K', e1, e2, -, f2, -, -, -, f6, f7⟩ := lift_facts hE
      obtain rfl : P = P' := by omega
      obtain rfl : K = K' := by omega
      have HV := Lib.hid (fun x h1 h2 h3 h4 => (show LiftVal a P K r x from ⟨fun _ => ⟨h1, h2, h3, h4⟩, fun g => absurd hE g⟩))
      have HS := Lib.hid (LiftRel.start (k := K) g1 g2 f6)
      have HM := Lib.hid (fun m x (h : LiftRel P K a r m x) (hlt : m < ppV P K) => (show m * P ≤ ppV P K ∧ 1 ≤ m ∧ 2 * m ≤ m * P from by have := LiftRel.mul g1 h (g3 ▸ hlt); rw [← g3] at this; exact this))
      have HN := Lib.hid (fun m x (h : LiftRel P K a r m x) (hlt : m < ppV P K) => InRel.start g1 (by omega) h f7 (g3 ▸ hlt))
      have HD := Lib.hid (fun m x (h : LiftRel P K a r m x) (hlt : ¬ m < ppV P K) => (show m = ppV P K from by rw [g3]; exact LiftRel.done g1 h (g3 ▸ hlt)))
      have hPq : (P : Int) ≤ ppV P K := by
        rw [g3]
        have := pow_le_q (p := P) (i := 1) (k := K) g1.pos g2
        rwa [Int.pow_succ, Int.pow_zero, Int.one_mul] at this
      have V9 : ppV P K ≤ 1000000000 := by omega
      have hEm := Lib.hid (fun (b m : Int) (h : 1 ≤ m) => (show 0 ≤ b % m ∧ b % m < m from ⟨Int.emod_nonneg _ (by omega), Int.emod_lt_of_pos _ (by omega)⟩))
      clear hE h h2 h3 h4 f6 f7 g3 g4 e1 e2
      generalize ppV P K = q at *
      generalize hxx : r % P = x at *
      generalize hbb : a % P = b at *
      have HX := Lib.hid hxx
      clear hxx hbb
      go_enter Try.func36, Try.ntmps36
      go_wp2_with fail
      refine (hP.out _).mono ?_
      rintro e w' ⟨rfl, n1, rfl⟩
      go_wp2_with fail
      refine (hMr.out _).mono ?_
      rintro e w' ⟨rfl, n2, rfl⟩
      go_wp2_with fail
      go_big_quiet ((go_at_call 86; first | exact quiet_off (hMa.out _) | exact Calls.quiet_of (hMa.out _)))
      go_wp2_with fail
      go_loopw [12, 13] (fun s9 s10 wr => ∃ x m : Int, s9 = .int .i64 x ∧ s10 = .int .i64 m ∧ 1 ≤ m ∧ m ≤ q ∧ LiftRel P K a r m x ∧ ∃ n, wr = w.drewN n) (fun _ s10 _ => (q - intOf s10).toNat)
      case atStart => exact ⟨x, P, rfl, rfl, by omega, hPq, HX.out ▸ HS.out, _, World.drewN_drewN ..⟩
      case round =>
        obtain ⟨x, m, rfl, rfl, m1, m2, hL, n3, rfl⟩ := hrel
        have HL := Lib.hid hL; clear hL
        by_cases hlt : m < q
        · obtain ⟨q1, q2, q3⟩ := HM.out m x HL.out hlt
          obtain ⟨y, hy⟩ := HN.out m x HL.out hlt
          have HY := Lib.hid hy; clear hy
          have hP0 : (0 : Int) ≤ m * P := by omega
          have ym := HY.out.top.xm
          go_wp2_with fail
          go_loopw [12] (fun s12 wr => ∃ x : Int, s12 = .int .i64 x ∧ InRel P K a r m y x ∧ ∃ n, wr = w.drewN n) (fun s12 _ => (y + 1 - intOf s12).toNat)
          case atStart => exact ⟨x, rfl, HY.out, _, rfl⟩
          case round =>
            obtain ⟨x, rfl, hI, n4, rfl⟩ := hrel
            have HI := Lib.hid hI; clear hI
            have x0 := HI.out.x0; have xy := HI.out.xy
            obtain ⟨g1, g2⟩ := mul_le (x := x) (y := x) (a := 1000000000) (b := 1000000000) x0 (by omega) x0 (by omega)
            obtain ⟨e1, e2⟩ := hEm.out a (m * P) (by omega)
            by_cases hc : x * x % (m * P) = a % (m * P)
            · have HN2 := Lib.hid (HI.out.done hc)
              have d6 := t_beq hc
              have d7 : (x * x % (m * P) != a % (m * P)) = false := by rw [bne, d6]; rfl
              clear hc
              go_wp2_with fail
              go_big_quiet ((go_at_call 86; first | exact quiet_off (hM.out _ _ _ ha (by omega) (by omega)) | exact Calls.quiet_of (hM.out _ _ _ ha (by omega) (by omega))))
              go_wp2_with fail
              exact ⟨⟨_, m * P, rfl, rfl, by omega, q1, HN2.out, _, rfl⟩, by show (q - m * P).toNat < (q - m).toNat; omega⟩
            · have HN2 := Lib.hid (HI.out.next hc)
              have xy2 := HN2.out.xy
              have d6 := f_beq hc
              have d7 : (x * x % (m * P) != a % (m * P)) = true := by rw [bne, d6]; rfl
              clear hc
              go_wp2_with fail
              go_big_quiet ((go_at_call 86; first | exact quiet_off (hM.out _ _ _ ha (by omega) (by omega)) | exact Calls.quiet_of (hM.out _ _ _ ha (by omega) (by omega))))
              go_wp2_with fail
              exact ⟨⟨_, rfl, HN2.out, _, rfl⟩, by show (y + 1 - (x + m)).toNat < (y + 1 - x).toNat; omega⟩
        · have HQ := Lib.hid (HD.out m x HL.out (by omega))
          have x1 : x < q := by have := HQ.out; have := HL.out.xm; omega
          have HC := Lib.hid (show Cg q (x * x) a from HQ.out ▸ HL.out.xx)
          go_wp2_with fail
          go_ret2
          exact ⟨x, _, by rw [E.out]; rfl, HV.out x HL.out.x0 x1 HC.out HL.out.xr, rfl⟩
    · have E := Lib.hid (show liftE a P K r = 3 by unfold liftE; rw [if_pos h, if_neg h2, if_neg h3, if_neg h4])
      have d4 := f_beq h4
      clear h h2 h3 h4 g3 g4
      generalize ppV P K = V at *
      generalize r % P = x at *
      generalize a % P = b at *
      go_enter Try.func36, Try.ntmps36
      go_wp2_with fail
      refine (hP.out _).mono ?_
      rintro e w' ⟨rfl, n1, rfl⟩
      go_wp2_with fail
      refine (hMr.out _).mono ?_
      rintro e w' ⟨rfl, n2, rfl⟩
      go_wp2_with fail
      go_big_quiet ((go_at_call 86; first | exact quiet_off (hMa.out _) | exact Calls.quiet_of (hMa.out _)))
      go_wp2_with fail
      go_ret2
      exact LiftPost.none3 E.out (by decide) (by simp only [World.drewN_drewN]; exact ⟨_, rfl⟩)
  · have E := Lib.hid (show liftE a p k r = ppE p k from if_neg h)
    have d := bne_iff_ne.2 h
    have hE0 := Lib.hid h
    clear h
    generalize ppE p k = E' at *
    generalize ppV p k = V at *
    go_enter Try.func36, Try.ntmps36
    go_wp2_with fail
    refine (hP.out _).mono ?_
    rintro e w' ⟨rfl, n1, rfl⟩
    go_wp2_with fail
    go_ret2
    exact LiftPost.none _ E.out hE0.out
end Go.Proofs.Ytmlkiddkgikdhaa
