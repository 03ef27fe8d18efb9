/- The law IntegerHensel answers true at all numbers. -/
import Derived.Test.YtmlkiddkgikdhaaIntegerRoots
import Derived.Test.YtmlkiddkgikdhaaLift
import Derived.Test.YtmlkiddkgikdhaaVb
namespace Go.Proofs.Ytmlkiddkgikdhaa
open Go.RowKit FF
attribute [local go_sem ↓] Go.wp_at_zero Go.wp_at_succ

theorem LiftVal.unique {a p k r x y : Int} (hx : LiftVal a p k r x) (hy : LiftVal a p k r y) : y = x := by
  by_cases h : liftE a p k r = 0
  · obtain ⟨P, K, rfl, rfl, g1, g2, g3, g4, g5, g6, g7⟩ := lift_facts h
    obtain ⟨x0, x1, x2, x3⟩ := hx.1 h
    obtain ⟨y0, y1, y2, y3⟩ := hy.1 h
    rw [g4] at x1 x2 y1 y2
    exact lift_unique g1 (by omega) g3 g7 y2 x2 y3 x3 y0 y1 x0 x1
  · rw [hx.2 h, hy.2 h]
/-- a good lift is one of two roots -/
theorem hensel_two {a p k r x : Int} (h : liftE a p k r = 0) (hx : LiftVal a p k r x) : rootsE a p k = 0 ∧ x ∈ rootsR a p k ∧ (rootsR a p k).length = 2 := by
  have hp := (liftE_ok h).1
  obtain ⟨P, K, rfl, rfl, g1, g2, g3, g4, g5, g6, g7⟩ := lift_facts h
  obtain ⟨x0, x1, x2, x3⟩ := hx.1 h
  rw [g4] at x1 x2
  have hl := two_roots_of g1 (by omega) g3 g7 x2 x0 x1
  have hE : rootsE a P K = 0 := by unfold rootsE; rw [if_pos hp, g4, hl]; rfl
  have hR : rootsR a P K = rootsL a ((P : Int) ^ K) := by unfold rootsR; rw [if_pos hE, g4]
  exact ⟨hE, by rw [hR]; exact mem_rootsL.2 ⟨x0, x1, x2⟩, by rw [hR]; exact hl⟩
theorem hensel_large {a p k r : Int} (hp : ppE p k = 0) (h : rootsE a p k ≠ 0) : rootsE a p k = 8 ∧ liftE a p k r ≠ 0 ∧ a % p = 0 := by
  have hl : 1000 < (rootsL a (ppV p k)).length := by
    apply Classical.byContradiction
    intro g
    apply h
    unfold rootsE; rw [if_pos hp, if_neg g]
  have h8 : rootsE a p k = 8 := by unfold rootsE; rw [if_pos hp, if_pos hl]
  obtain ⟨P, K, rfl, rfl, g1, g2, g3, g4, g5⟩ := pp_good hp
  rw [g3] at hl
  have hd : (P : Int) ∣ a := by
    apply Classical.byContradiction
    intro g
    have := few_roots g1 g2 g
    omega
  refine ⟨h8, fun g => ?_, Int.emod_eq_zero_of_dvd hd⟩
  obtain ⟨P', K', e1, _, _, _, _, _, _, _, f⟩ := lift_facts g
  obtain rfl : P = P' := by omega
  exact f hd
theorem roots_get {a q : Int} {i : Nat} (h : i < (rootsL a q).length) : 0 ≤ (rootsL a q).getD i 0 ∧ (rootsL a q).getD i 0 < q ∧ ((rootsL a q).getD i 0 * (rootsL a q).getD i 0 - a % q) % q = 0 := by
  have hm : (rootsL a q).getD i 0 ∈ rootsL a q := by rw [List.getD_eq_getElem?_getD, List.getElem?_eq_getElem h]; exact List.getElem_mem _
  obtain ⟨h0, h1, h2⟩ := mem_rootsL.1 hm
  refine ⟨h0, h1, (sub_mod_zero (Int.emod_nonneg _ (by omega)) (Int.emod_lt_of_pos _ (by omega))).2 h2.emod_eq⟩
theorem roots_ascend {a q : Int} {i : Nat} (h0 : 0 < i) (h : i < (rootsL a q).length) : (rootsL a q).getD (i - 1) 0 < (rootsL a q).getD i 0 := by
  rw [List.getD_eq_getElem?_getD, List.getD_eq_getElem?_getD, List.getElem?_eq_getElem h, List.getElem?_eq_getElem (show i - 1 < (rootsL a q).length by omega)]
  exact List.pairwise_iff_getElem.1 (rootsL_asc a q) (i - 1) i (by omega) h (by omega)
theorem mem_take_succ {L : List Int} {i : Nat} (h : i < L.length) (x : Int) : x ∈ L.take (i + 1) ↔ x ∈ L.take i ∨ L.getD i 0 = x := by
  rw [List.take_succ_eq_append_getElem h, List.mem_append, List.mem_singleton, List.getD_eq_getElem?_getD, List.getElem?_eq_getElem h]
  simp [eq_comm]

set_option maxRecDepth 100000 in
set_option maxHeartbeats 4000000 in
theorem IntegerHensel_law (a r p k : Int) (w : World) (ha : I64 a) (hr : I64 r) (_hp : I64 p) (hk : I64 k) :
    Calls Try.prog 8 #[.int .i64 a, .int .i64 r, .agg #[.int .i64 p, .int .i64 k]] w fun e w' => e = .returned (.bool true) ∧ Below w.heap.size w w' := by
  have hA := Lib.hid awake_any
  have h1 := Lib.hid (fun w => Lift_any a p k r w ha hk hr)
  have h2 := Lib.hid (fun w => rLift_any a p k r w ha hk hr)
  have hP := Lib.hid (fun w => rPrimePower_any p k w hk)
  have hR := Lib.hid (fun w => Roots_any a p k w ha hk)
  unfold LiftPost at h1 h2
  unfold RootsPost at hR
  by_cases h : ppE p k = 0
  · rw [h] at hP
    have HU := Lib.hid (fun x y hx hy => LiftVal.unique (a := a) (p := p) (k := k) (r := r) (x := x) (y := y) hx hy)
    have d2 := bne_self' (liftE a p k r)
    obtain ⟨P, K, hpP, -, g1, g2, g3, g4, g5⟩ := pp_good h
    have hp2 := g1.1
    have p1 : 1 ≤ p ∧ p ≤ 1000000000 := by omega
    have V1 : 1 ≤ ppV p k ∧ ppV p k ≤ 1000000000 := by rw [g3]; have := ppos g1 K; omega
    obtain ⟨p1, p9⟩ := p1
    obtain ⟨V1, V9⟩ := V1
    have hM := Lib.hid (fun (b m : Int) (w : World) (hb : I64 b) (h1 : 1 ≤ m) (h2 : m ≤ 1000000000) => bMod_any b m w hb (by omega) ⟨by omega, by omega⟩)
    clear g1 g2 g3 g4 g5 hpP hp2
    by_cases hE : rootsE a p k = 0
    · have hEnd := Lib.hid (fun x (hx : LiftVal a p k r x) (g : liftE a p k r = 0) => (hensel_two g hx).2)
      have hRL : rootsR a p k = rootsL a (ppV p k) := if_pos hE
      have HG := Lib.hid (fun i (hi : i < (rootsL a (ppV p k)).length) => roots_get hi)
      have HS := Lib.hid (fun i h0 (hi : i < (rootsL a (ppV p k)).length) => roots_ascend h0 hi)
      have hlen := rootsR_len a p k
      rw [hE] at hR
      rw [hRL] at hR hEnd hlen
      have b0 := Int.emod_nonneg a (b := ppV p k) (by omega)
      have b1 := Int.emod_lt_of_pos a (b := ppV p k) (by omega)
      have hMa := Lib.hid (fun w => hM.out a (ppV p k) w ha V1 V9)
      clear hE h hRL
      generalize rootsL a (ppV p k) = L at *
      generalize LiftVal a p k r = LV at *
      generalize liftE a p k r = E at *
      generalize ppV p k = V at *
      generalize a % V = b at *
      go_enter Try.func8, Try.ntmps8
      go_wp2_with fail
      go_quiet (fail)
      go_wp2_with fail
      refine (h1.out _).mono ?_
      rintro e w' ⟨x, n1, rfl, hx, rfl⟩
      go_wp2_with fail
      refine (h2.out _).mono ?_
      rintro e w' ⟨y, n2, rfl, hy, rfl⟩
      obtain rfl := HU.out x y hx hy
      have d3 := bne_self' y
      have HEnd := Lib.hid (hEnd.out y hx)
      clear hx hy hEnd HU h1 h2
      go_wp2_with fail
      refine (hP.out _).mono ?_
      rintro e w' ⟨rfl, n3, rfl⟩
      go_wp2_with fail
      refine (hR.out _).mono ?_
      rintro e w2 ⟨A, c, rfl, hs, -, -, hb⟩
      have HS2 := Lib.hid hs
      have HB := Lib.hid (((Below.refl w.heap.size w).alloc (Nat.le_refl _) _).trans ((below_draws hb).mono (by simp)))
      clear hs hb hP hR
      have hN0 : ∃ N : Nat, L.length = N := ⟨_, rfl⟩
      obtain ⟨N, hN⟩ := hN0
      have HN := Lib.hid hN
      rw [hN] at hlen ⊢
      clear hN
      go_wp2_with fail
      go_loopw [17, 18] (fun s17 s18 wr => ∃ i : Nat, s18 = .int .i64 i ∧ i ≤ N ∧ s17 = .bool (decide (y ∈ L.take i)) ∧ ∃ n, wr = w2.drewN n) (fun _ s18 _ => N - (intOf s18).toNat)
      case atStart => exact ⟨0, rfl, Nat.zero_le _, by simp, 0, rfl⟩
      case round =>
        obtain ⟨i, rfl, hi, rfl, n4, rfl⟩ := hrel
        by_cases hlt : i < N
        · obtain ⟨bk, o, rfl, hcell, -, hbk⟩ := shows_bound HS2.out HN.out hlt
          obtain ⟨y0, y1, y2⟩ := HG.out i (by rw [HN.out]; exact hlt)
          have HT := Lib.hid (mem_take_succ (by rw [HN.out]; exact hlt : i < L.length) y)
          have hwb : winB (L.getD i 0) 0 (V - 1) = true := winB_iff.2 ⟨y0, by omega⟩
          have hW := Lib.hid (fun (wz : World) => by have := bWithin_any (L.getD i 0) 0 (V - 1) wz; rw [hwb] at this; exact this)
          clear hwb
          have hMm := Lib.hid (fun w h => y2 ▸ hM.out (L.getD i 0 * L.getD i 0 - b) V w h V1 V9)
          obtain ⟨m0, m1⟩ := mul_le (x := L.getD i 0) (y := L.getD i 0) (a := 1000000000) (b := 1000000000) y0 (by omega) y0 (by omega)
          have hlt' : (i : Int) < N := by omega
          rcases Nat.eq_zero_or_pos i with h0 | hpos
          · have hg : decide ((0 : Int) < (i : Int)) = false := decide_eq_false (by omega)
            have hg2 : decide (0 < i) = false := decide_eq_false (by omega)
            clear h0
            generalize L.getD i 0 = z at *
            by_cases hm : y ∈ L.take i
            · have dm := decide_eq_true hm
              have HT2 := Lib.hid (decide_eq_true (HT.out.2 (.inl hm)))
              rw [dm]
              clear hm
              go_wp2_with fail
              go_big_quiet ((first | (go_at_call 27; exact quiet_off (hW.out _)) | (go_at_call 32; first | with_reducible exact quiet_off (hMa.out _) | exact quiet_off (hMm.out _ ⟨by omega, by omega⟩))))
              go_wp2_with fail
              exact ⟨⟨i + 1, by go_num, by omega, by rw [HT2.out], _, rfl⟩, by simp [intOf]; omega⟩
            · have dm := decide_eq_false hm
              rw [dm]
              by_cases hzy : z = y
              · have HT2 := Lib.hid (decide_eq_true (HT.out.2 (.inr hzy)))
                have dz := t_beq hzy
                clear hzy hm
                go_wp2_with fail
                go_big_quiet ((first | (go_at_call 27; exact quiet_off (hW.out _)) | (go_at_call 32; first | with_reducible exact quiet_off (hMa.out _) | exact quiet_off (hMm.out _ ⟨by omega, by omega⟩))))
                go_wp2_with fail
                exact ⟨⟨i + 1, by go_num, by omega, by rw [HT2.out], _, rfl⟩, by simp [intOf]; omega⟩
              · have HT2 := Lib.hid (decide_eq_false (fun g => (HT.out.1 g).elim hm hzy))
                have dz := f_beq hzy
                clear hzy hm
                go_wp2_with fail
                go_big_quiet ((first | (go_at_call 27; exact quiet_off (hW.out _)) | (go_at_call 32; first | with_reducible exact quiet_off (hMa.out _) | exact quiet_off (hMm.out _ ⟨by omega, by omega⟩))))
                go_wp2_with fail
                exact ⟨⟨i + 1, by go_num, by omega, by rw [HT2.out], _, rfl⟩, by simp [intOf]; omega⟩
          · have hasc := HS.out i hpos (by rw [HN.out]; exact hlt)
            obtain ⟨bk', o', hbo, hcell2, -, -⟩ := shows_bound HS2.out HN.out (show i - 1 < N by omega)
            injection hbo with hbo; injection hbo with hb1 hb2
            subst hb1; subst hb2
            have hg : (0 : Int) < (i : Int) := by omega
            generalize L.getD i 0 = z at *
            generalize L.getD (i - 1) 0 = z' at *
            have hle : decide (z ≤ z') = false := decide_eq_false (by omega)
            by_cases hm : y ∈ L.take i
            · have dm := decide_eq_true hm
              have HT2 := Lib.hid (decide_eq_true (HT.out.2 (.inl hm)))
              rw [dm]
              clear hm
              go_wp2_with fail
              go_big_quiet ((first | (go_at_call 27; exact quiet_off (hW.out _)) | (go_at_call 32; first | with_reducible exact quiet_off (hMa.out _) | exact quiet_off (hMm.out _ ⟨by omega, by omega⟩))))
              go_wp2_with fail
              exact ⟨⟨i + 1, by go_num, by omega, by rw [HT2.out], _, rfl⟩, by simp [intOf]; omega⟩
            · have dm := decide_eq_false hm
              rw [dm]
              by_cases hzy : z = y
              · have HT2 := Lib.hid (decide_eq_true (HT.out.2 (.inr hzy)))
                have dz := t_beq hzy
                clear hzy hm
                go_wp2_with fail
                go_big_quiet ((first | (go_at_call 27; exact quiet_off (hW.out _)) | (go_at_call 32; first | with_reducible exact quiet_off (hMa.out _) | exact quiet_off (hMm.out _ ⟨by omega, by omega⟩))))
                go_wp2_with fail
                exact ⟨⟨i + 1, by go_num, by omega, by rw [HT2.out], _, rfl⟩, by simp [intOf]; omega⟩
              · have HT2 := Lib.hid (decide_eq_false (fun g => (HT.out.1 g).elim hm hzy))
                have dz := f_beq hzy
                clear hzy hm
                go_wp2_with fail
                go_big_quiet ((first | (go_at_call 27; exact quiet_off (hW.out _)) | (go_at_call 32; first | with_reducible exact quiet_off (hMa.out _) | exact quiet_off (hMm.out _ ⟨by omega, by omega⟩))))
                go_wp2_with fail
                exact ⟨⟨i + 1, by go_num, by omega, by rw [HT2.out], _, rfl⟩, by simp [intOf]; omega⟩
        · obtain rfl : i = N := by omega
          have hall : L.take i = L := List.take_of_length_le (by rw [HN.out]; exact Nat.le_refl _)
          rw [hall]
          clear hall
          by_cases hE : E = 0
          · obtain ⟨e1, e2⟩ := HEnd.out hE
            have dm : decide (y ∈ L) = true := decide_eq_true e1
            have hi2 : i = 2 := by rw [← HN.out]; exact e2
            subst hE
            subst hi2
            rw [dm]
            clear dm e1 e2 HG HS HS2 HN
            go_wp2_with fail
            refine (hA.out _).mono ?_
            rintro e w' ⟨rfl, hb⟩
            go_wp2_with fail
            go_ret
            exact ⟨rfl, HB.out.trans ((below_draws hb).mono HB.out.size)⟩
          · have d5 := bne_iff_ne.2 hE
            clear hE HG HS HS2 HN
            generalize decide (y ∈ L) = dm
            go_wp2_with fail
            refine (hA.out _).mono ?_
            rintro e w' ⟨rfl, hb⟩
            go_wp2_with fail
            go_ret
            exact ⟨rfl, HB.out.trans ((below_draws hb).mono HB.out.size)⟩
    · obtain ⟨e1, e2, e3⟩ := hensel_large (r := r) h hE
      have hMp := Lib.hid (fun w => e3 ▸ hM.out a p w ha p1 p9)
      have d4 := bne_iff_ne.2 e2
      rw [e1] at hR
      clear e1 e2 e3 hE h
      generalize LiftVal a p k r = LV at *
      generalize liftE a p k r = E at *
      generalize ppV p k = V at *
      generalize rootsR a p k = L at *
      go_enter Try.func8, Try.ntmps8
      go_wp2_with fail
      go_quiet (fail)
      go_wp2_with fail
      refine (h1.out _).mono ?_
      rintro e w' ⟨x, n1, rfl, hx, rfl⟩
      go_wp2_with fail
      refine (h2.out _).mono ?_
      rintro e w' ⟨y, n2, rfl, hy, rfl⟩
      obtain rfl := HU.out x y hx hy
      have d3 := bne_self' y
      clear hx hy
      go_wp2_with fail
      refine (hP.out _).mono ?_
      rintro e w' ⟨rfl, n3, rfl⟩
      go_wp2_with fail
      refine (hR.out _).mono ?_
      rintro e w2 ⟨A, c, rfl, hs, -, -, hb⟩
      have HB := Lib.hid (((Below.refl w.heap.size w).alloc (Nat.le_refl _) _).trans ((below_draws hb).mono (by simp)))
      clear hs hb
      go_wp2_with fail
      refine (hMp.out _).mono ?_
      rintro e w' ⟨rfl, n5, rfl⟩
      go_wp2_with fail
      refine (hA.out _).mono ?_
      rintro e w' ⟨rfl, hb⟩
      go_wp2_with fail
      go_ret
      exact ⟨rfl, HB.out.trans ((below_draws hb).mono HB.out.size)⟩
  · have HU := Lib.hid (fun x y hx hy => LiftVal.unique (a := a) (p := p) (k := k) (r := r) (x := x) (y := y) hx hy)
    generalize LiftVal a p k r = LV at *
    have d1 := bne_iff_ne.2 h
    clear h hR
    generalize ppV p k = V at *
    generalize ppE p k = E at *
    have d2 := bne_self' (liftE a p k r)
    generalize liftE a p k r = E2 at *
    go_enter Try.func8, Try.ntmps8
    go_wp2_with fail
    go_quiet (fail)
    go_wp2_with fail
    refine (h1.out _).mono ?_
    rintro e w' ⟨x, n1, rfl, hx, rfl⟩
    go_wp2_with fail
    refine (h2.out _).mono ?_
    rintro e w' ⟨y, n2, rfl, hy, rfl⟩
    obtain rfl := HU.out x y hx hy
    have d3 := bne_self' y
    clear hx hy
    go_wp2_with fail
    refine (hP.out _).mono ?_
    rintro e w' ⟨rfl, n3, rfl⟩
    go_wp2_with fail
    refine (hA.out _).mono ?_
    rintro e w' ⟨rfl, hb⟩
    go_wp2_with fail
    go_ret
    exact ⟨rfl, ((Below.refl w.heap.size w).alloc (Nat.le_refl _) _).trans ((below_draws hb).mono (by simp))⟩
end Go.Proofs.Ytmlkiddkgikdhaa
