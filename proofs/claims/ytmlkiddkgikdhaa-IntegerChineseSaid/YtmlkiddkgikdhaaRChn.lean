/- Chinese of the reference. -/
import Derived.Test.YtmlkiddkgikdhaaChn
namespace Go.Proofs.Ytmlkiddkgikdhaa
open Go.RowKit FF

set_option maxRecDepth 100000 in
set_option maxHeartbeats 8000000 in
theorem rChinese_any (A : Option Addr) (l : List (Int × Int)) (c : Nat) (w : World) (hs : ShowsP w A l) (hl : l.length ≤ 25) (_hlc : l.length ≤ c) (hr : ∀ i, i < l.length → I64 (l.getD i (0, 0)).1) :
    Calls Try.prog 55 #[.slice A l.length c] w fun e w' => e = .returned (.tuple #[.agg #[.int .i64 (chinAll l).1, .int .i64 (chinAll l).2.1], .int .i64 (chinAll l).2.2]) ∧ Below w.heap.size w w' := by
  have HS := Lib.hid hs
  have hMo := Lib.hid (fun m w => rIsModulus_any m w)
  clear hs
  by_cases h20 : 20 < l.length
  · have hE : chinAll l = (0, 0, 8) := if_pos h20
    rw [hE]
    clear hE _hlc hr
    generalize l.length = N at *
    go_enter Try.func55, Try.ntmps55
    go_wp2_with fail
    refine bodyPost_ret (v := .tuple #[.agg #[.int .i64 0, .int .i64 0], .int .i64 8]) (by simp [results, Try.results55, go_sem]) rfl ?_
    exact ⟨rfl, (Below.refl _ _).alloc (Nat.le_refl _) _⟩
  · have hN0 : ∃ N : Nat, l.length = N := ⟨_, rfl⟩
    obtain ⟨N, hN⟩ := hN0
    have HN := Lib.hid hN
    have H20 := Lib.hid h20
    have hMd := Lib.hid (fun (b m : Int) (w : World) (h1 : I64 b) (h2 : 1 ≤ m) (h3 : m ≤ 1000000000) => rMod_any b m w h1 (by omega) ⟨by omega, by omega⟩)
    have hGc := Lib.hid (fun (a b : Int) (w : World) (h1 : 1 ≤ a) (h2 : a ≤ 1000000000) (h3 : 1 ≤ b) (h4 : b ≤ 1000000000) => rGcd_any a b w (by omega) (by omega) (by omega) (by omega))
    have hIv := Lib.hid (fun (a m : Int) (w : World) (h : I64 a) (h1 : 1 ≤ m) (h2 : m ≤ 1000000000) (h3 : Int.gcd a m = 1) => rInverse_any a m w h)
    have HI := Lib.hid hr
    rw [hN] at hl h20 _hlc ⊢
    clear hN hr
    go_enter Try.func55, Try.ntmps55
    go_wp2_with fail
    go_loopw [4] (fun s23 wr => ∃ i : Nat, s23 = .int .i64 i ∧ i ≤ N ∧ Two w 0 0 wr ∧ ∀ j, j < i → modB (l.getD j (0, 0)).2 = true) (fun s23 _ => N - (intOf s23).toNat)
    case atStart => exact ⟨0, rfl, Nat.zero_le _, Two.start _ _ _ _, fun j hj => absurd hj (by omega)⟩
    case round =>
      obtain ⟨i, rfl, hi, hR, hG⟩ := hrel
      have HR := Lib.hid hR; have HG := Lib.hid hG
      clear hR hG
      by_cases hlt : i < N
      · obtain ⟨b, o, rfl, hb, hc1, hc2⟩ := HS.out.at HN.out hlt
        have hk1 := (HR.out.bel.cell (p := ⟨b, o + i * 2, none⟩) hb).trans hc1
        have hk2 := (HR.out.bel.cell (p := ⟨b, o + i * 2 + 1, none⟩) hb).trans hc2
        have hlt' : (i : Int) < N := by omega
        clear hc1 hc2
        cases hm : modB (l.getD i (0, 0)).2
        · have hE := Lib.hid (chinAll_mod H20.out (by rw [HN.out]; exact hlt) hm)
          have hMi := Lib.hid (fun w => hm ▸ hMo.out (l.getD i (0, 0)).2 w)
          clear hm
          generalize (l.getD i (0, 0)).1 = r at *
          generalize (l.getD i (0, 0)).2 = m at *
          go_wp2_with fail
          refine (hMi.out _).mono ?_
          rintro e w' ⟨rfl, n1, rfl⟩
          have HR2 := HR.out.drewN n1
          obtain ⟨q0, -, -, -, -, -⟩ := HR2
          obtain ⟨-, q1, q2, q3, q4, q5⟩ := HR.out
          go_wp2_with fail
          refine bodyPost_ret (v := .tuple #[.agg #[.int .i64 0, .int .i64 0], .int .i64 2]) (by simp [results, Try.results55, go_sem, q1, q2]) rfl ?_
          exact ⟨by rw [hE.out], (q0.setCell (Nat.le_refl _) _).setCell (Nat.le_refl _) _⟩
        · have hMi := Lib.hid (fun w => hm ▸ hMo.out (l.getD i (0, 0)).2 w)
          have HM := Lib.hid hm
          clear hm
          generalize (l.getD i (0, 0)).1 = r at *
          generalize hmm : (l.getD i (0, 0)).2 = m at *
          have HMM := Lib.hid hmm
          clear hmm
          go_wp2_with fail
          refine (hMi.out _).mono ?_
          rintro e w' ⟨rfl, n1, rfl⟩
          go_wp2_with fail
          refine ⟨⟨i + 1, by go_num, by omega, ?_, fun j hj => ?_⟩, by simp [intOf]; omega⟩
          · exact HR.out.drewN _
          · rcases Nat.lt_or_ge j i with g | g
            · exact HG.out j g
            · obtain rfl : j = i := by omega
              rw [HMM.out]; exact HM.out
      · obtain rfl : N = i := by omega
        have HMB := Lib.hid (fun j (hj : j < N) => modB_true.1 (HG.out j hj))
        clear hMo
        go_wp2_with fail
        go_loopw [5] (fun s35 wr => ∃ i : Nat, s35 = .int .i64 i ∧ i ≤ N ∧ Two w 0 0 wr ∧ ∀ j, j < i → ∀ k, k < j → agreeB (l.getD j (0, 0)) (l.getD k (0, 0)) = true) (fun s35 _ => N - (intOf s35).toNat)
        case atStart => exact ⟨0, rfl, Nat.zero_le _, HR.out, fun j hj => absurd hj (by omega)⟩
        case round =>
          clear HR
          obtain ⟨i, rfl, hi, hR, hP⟩ := hrel
          have HR := Lib.hid hR; have HP := Lib.hid hP
          clear hR hP
          by_cases hlt : i < N
          · obtain ⟨b, o, rfl, hb, hc1, hc2⟩ := HS.out.at HN.out hlt
            have hk1 := (HR.out.bel.cell (p := ⟨b, o + i * 2, none⟩) hb).trans hc1
            have hk2 := (HR.out.bel.cell (p := ⟨b, o + i * 2 + 1, none⟩) hb).trans hc2
            have hlt' : (i : Int) < N := by omega
            have hr1 := HI.out i (by rw [HN.out]; exact hlt)
            obtain ⟨m1, m2⟩ := HMB.out i hlt
            have hx : ∃ x, l.getD i (0, 0) = x := ⟨_, rfl⟩
            obtain ⟨x, hx⟩ := hx
            have HX := Lib.hid hx
            rw [hx] at hk1 hk2 m1 m2 hr1
            clear hc1 hc2 hx
            go_wp2_with fail
            obtain ⟨W6, hW6⟩ : ∃ W6 : World, W6 = wr := ⟨_, rfl⟩
            subst hW6
            go_loopw [6] (fun s44 wr2 => ∃ k : Nat, s44 = .int .i64 k ∧ k ≤ i ∧ (∃ n, wr2 = W6.drewN n) ∧ ∀ k', k' < k → agreeB (l.getD i (0, 0)) (l.getD k' (0, 0)) = true) (fun s44 _ => i - (intOf s44).toNat)
            case atStart => exact ⟨0, rfl, Nat.zero_le _, ⟨0, rfl⟩, fun j hj => absurd hj (by omega)⟩
            case round =>
              obtain ⟨k, rfl, hk, ⟨n0, rfl⟩, hQ⟩ := hrel
              have HQ := Lib.hid hQ
              clear hQ
              by_cases hlt2 : k < i
              · obtain ⟨b', o', he, hb', hc1, hc2⟩ := HS.out.at HN.out (show k < N by omega)
                injection he with he; injection he with he1 he2
                subst he1; subst he2
                have hq1 := (HR.out.bel.cell (p := ⟨b, o + k * 2, none⟩) hb).trans hc1
                have hq2 := (HR.out.bel.cell (p := ⟨b, o + k * 2 + 1, none⟩) hb).trans hc2
                have hlt2' : (k : Int) < i := by omega
                have hr2 := HI.out k (by rw [HN.out]; omega)
                obtain ⟨m3, m4⟩ := HMB.out k (by omega)
                have hy : ∃ y, l.getD k (0, 0) = y := ⟨_, rfl⟩
                obtain ⟨y, hy⟩ := hy
                have HY := Lib.hid hy
                rw [hy] at hq1 hq2 m3 m4 hr2
                clear hc1 hc2 hy
                have hgc : ∃ g : Int, (Int.gcd x.2 y.2 : Int) = g ∧ 1 ≤ g ∧ g ≤ 1000000000 := by
                  obtain ⟨h1, h2, -⟩ := chin_bounds (R := 0) (r := 0) (M := x.2) (m := y.2) (Int.le_refl 0) (by omega) m2 m3 m4
                  exact ⟨_, rfl, h1, h2⟩
                obtain ⟨g, hg, g1, g2⟩ := hgc
                have hGi := Lib.hid (fun w => hg ▸ hGc.out x.2 y.2 w m1 m2 m3 m4)
                have hMx := Lib.hid (fun w => hMd.out x.1 g w hr1 g1 g2)
                have hMy := Lib.hid (fun w => hMd.out y.1 g w hr2 g1 g2)
                have hA : agreeB x y = (x.1 % g == y.1 % g) := by unfold agreeB; rw [hg]
                clear hg
                cases hc : (x.1 % g == y.1 % g)
                · have hE := Lib.hid (chinAll_pair H20.out (fun j hj => HG.out j (by rw [← HN.out]; exact hj)) (by rw [HN.out]; exact hlt) hlt2 (by rw [HX.out, HY.out, hA, hc]))
                  have hc2 : (x.1 % g != y.1 % g) = true := by rw [bne, hc]; rfl
                  clear hA
                  generalize x.1 % g = v1 at *
                  generalize y.1 % g = v2 at *
                  go_wp2_with fail
                  go_big_quiet ((go_at_call 100; first | exact quiet_off (hGi.out _) | exact Calls.quiet_of (hGi.out _)))
                  obtain ⟨n1, hqq⟩ : ∃ n1 : Nat, n1 = nq := ⟨_, rfl⟩
                  subst hqq
                  go_wp2_with fail
                  go_big_quiet ((go_at_call 86; first | with_reducible exact quiet_off (hMx.out _) | exact quiet_off (hMy.out _)))
                  have HB := Lib.hid HR.out.bel
                  obtain ⟨-, p1, p2, p3, p4, p5⟩ := HR.out
                  go_wp2_with fail
                  refine bodyPost_ret (v := .tuple #[.agg #[.int .i64 0, .int .i64 0], .int .i64 12]) (by simp [results, Try.results55, go_sem, p1, p2]) rfl ?_
                  exact ⟨by rw [hE.out], ((below_drewN HB.out _).setCell (Nat.le_refl _) _).setCell (Nat.le_refl _) _⟩
                · have HA := Lib.hid (show agreeB (l.getD i (0, 0)) (l.getD k (0, 0)) = true by rw [HX.out, HY.out, hA, hc])
                  have hc2 : (x.1 % g != y.1 % g) = false := by rw [bne, hc]; rfl
                  clear hA
                  generalize x.1 % g = v1 at *
                  generalize y.1 % g = v2 at *
                  go_wp2_with fail
                  go_big_quiet ((go_at_call 100; first | exact quiet_off (hGi.out _) | exact Calls.quiet_of (hGi.out _)))
                  obtain ⟨n1, hqq⟩ : ∃ n1 : Nat, n1 = nq := ⟨_, rfl⟩
                  subst hqq
                  go_wp2_with fail
                  go_big_quiet ((go_at_call 86; first | with_reducible exact quiet_off (hMx.out _) | exact quiet_off (hMy.out _)))
                  go_wp2_with fail
                  refine ⟨⟨k + 1, by go_num, by omega, ⟨_, rfl⟩, fun k' hk' => ?_⟩, by simp [intOf]; omega⟩
                  rcases Nat.lt_or_ge k' k with g | g
                  · exact HQ.out k' g
                  · obtain rfl : k' = k := by omega
                    exact HA.out
              · obtain rfl : k = i := by omega
                go_wp2_with fail
                refine ⟨⟨k + 1, by go_num, by omega, HR.out.drewN _, fun j hj k' hk' => ?_⟩, by simp [intOf]; omega⟩
                rcases Nat.lt_or_ge j k with g | g
                · exact HP.out j g k' hk'
                · obtain rfl : j = k := by omega
                  exact HQ.out k' hk'
          · obtain rfl : N = i := by omega
            have hgo := Lib.hid (chinAll_go H20.out (fun j hj => HG.out j (by rw [← HN.out]; exact hj)) (fun j hj => HP.out j (by rw [← HN.out]; exact hj)))
            go_wp2_with fail
            obtain ⟨W1, hW1⟩ : ∃ W1 : World, W1 = wr := ⟨_, rfl⟩
            subst hW1
            go_loopw [9] (fun s68 wr => ∃ (i : Nat) (R M : Int), s68 = .int .i64 i ∧ i ≤ N ∧ Two W1 R M wr ∧ 0 ≤ R ∧ R < M ∧ M ≤ 1000000000 ∧ chinGo (l.drop i) R M = chinAll l) (fun s68 _ => N - (intOf s68).toNat)
            case atStart => exact ⟨0, 0, 1, rfl, Nat.zero_le _, Two.start _ _ _ _, by omega, by omega, by omega, hgo.out.symm⟩
            case round =>
              obtain ⟨i, R, M, rfl, hi, hT, R0, RM, M9, hgo2⟩ := hrel
              have HT := Lib.hid hT; have HGo := Lib.hid hgo2
              obtain ⟨t0, t1, t2, t3, t4, t5⟩ := hT
              clear hgo2 t0
              by_cases hlt : i < N
              · obtain ⟨b, o, rfl, hb, hc1, hc2⟩ := HS.out.at HN.out hlt
                have hbW : b < W1.heap.size := Nat.lt_of_lt_of_le hb HR.out.bel.size
                have hk1 := (HT.out.bel.cell (p := ⟨b, o + i * 2, none⟩) hbW).trans ((HR.out.bel.cell (p := ⟨b, o + i * 2, none⟩) hb).trans hc1)
                have hk2 := (HT.out.bel.cell (p := ⟨b, o + i * 2 + 1, none⟩) hbW).trans ((HR.out.bel.cell (p := ⟨b, o + i * 2 + 1, none⟩) hb).trans hc2)
                have hlt' : (i : Int) < N := by omega
                have hr1 := HI.out i (by rw [HN.out]; exact hlt)
                obtain ⟨m1, m2⟩ := HMB.out i hlt
                have HAt := Lib.hid (chinGo_at (l := l) (i := i) (by rw [HN.out]; exact hlt) R M)
                generalize l.getD i (0, 0) = x at *
                clear hc1 hc2
                have HCR := Lib.hid (fun h => chin_next (r := x.1) R0 RM m1 M9 m2 h)
                obtain ⟨g1, g2, b1, b2, a1, a2, hab, p0, p1, d1, d2, d3, d4, hpm⟩ := chin_bounds (r := x.1) R0 RM M9 m1 m2
                have eR := Lib.hid (show chinR R M x.1 x.2 = R + M * chinT R M x.1 x.2 from rfl)
                have eM := Lib.hid (show chinM M x.2 = M * (x.2 / Int.gcd M x.2) from rfl)
                have eT := Lib.hid (show chinT R M x.1 x.2 = (x.1 % x.2 - R).tdiv (Int.gcd M x.2) % (x.2 / Int.gcd M x.2) * invM (M / Int.gcd M x.2) (x.2 / Int.gcd M x.2) % (x.2 / Int.gcd M x.2) from rfl)
                obtain ⟨v0, v1, -⟩ := invM_spec (a := M / Int.gcd M x.2) (m := x.2 / Int.gcd M x.2) (by omega) hab
                have hGi := Lib.hid (fun w => hGc.out M x.2 w (by omega) M9 m1 m2)
                have hMx := Lib.hid (fun w => hMd.out x.1 x.2 w hr1 m1 m2)
                obtain ⟨ig1, ig2⟩ := inv_good (modB_true.2 ⟨b1, b2⟩) hab
                have hIx := Lib.hid (fun w => ig1 ▸ ig2 ▸ hIv.out (M / Int.gcd M x.2) (x.2 / Int.gcd M x.2) w ⟨by omega, by omega⟩ b1 b2 hab)
                have HPm := Lib.hid hpm
                have p0' : 0 ≤ M / Int.gcd M x.2 * x.2 ∧ M / Int.gcd M x.2 * x.2 ≤ 1000000000000000000 := by omega
                obtain ⟨p0', p1'⟩ := p0'
                clear ig1 ig2 hpm
                have y0 := Int.emod_nonneg x.1 (b := x.2) (by omega)
                have y1 := Int.emod_lt_of_pos x.1 (b := x.2) (by omega)
                clear hab
                generalize (Int.gcd M x.2 : Int) = g at *
                have k7 : W1.heap.size < wr.heap.size := t5
                by_cases hbig : 1000000000 < M * (x.2 / g)
                · have hE := Lib.hid (show chinAll l = (0, 0, 8) by rw [← HGo.out, HAt.out, if_pos (by rw [eM.out]; exact hbig)])
                  have hbig2 : 1000000000 < M / g * x.2 := by rw [HPm.out]; exact hbig
                  go_wp2_with fail
                  go_big_quiet ((go_at_call 100; exact Calls.quiet_of (n := _) (hGi.out _)))
                  obtain ⟨n1, hqq⟩ : ∃ n1 : Nat, n1 = nq := ⟨_, rfl⟩
                  subst hqq
                  obtain ⟨-, p1, p2, p3, p4, p5⟩ := HR.out.next HT.out.bel
                  have HB := Lib.hid ((HR.out.next HT.out.bel).bel)
                  go_wp2_with fail
                  go_big_quiet (fail)
                  go_wp2_with fail
                  refine bodyPost_ret (v := .tuple #[.agg #[.int .i64 0, .int .i64 0], .int .i64 8]) (by simp [results, Try.results55, go_sem, p1, p2]) rfl ?_
                  exact ⟨by rw [hE.out], ((below_drewN HB.out _).setCell (Nat.le_refl _) _).setCell (Nat.le_refl _) _⟩
                · have hbig2 : ¬ 1000000000 < M / g * x.2 := by rw [HPm.out]; exact hbig
                  obtain ⟨j0, j1, j2, j3, j4, j5⟩ := HCR.out (by rw [eM.out]; omega)
                  have HNx := Lib.hid (show chinGo (l.drop (i + 1)) (chinR R M x.1 x.2) (chinM M x.2) = chinAll l by rw [← HGo.out, HAt.out, if_neg (by rw [eM.out]; exact hbig)])
                  rw [eR.out, eM.out] at HNx
                  rw [eR.out, eM.out] at j5
                  rw [eR.out] at j4
                  by_cases hone : 1 < x.2 / g
                  · rw [eT.out] at j0 j1 j2 j3 j4 j5 HNx
                    clear HCR HGo HAt eR eM eT
                    have hMD := Lib.hid (fun w => hMd.out ((x.1 % x.2 - R).tdiv g) (x.2 / g) w ⟨by omega, by omega⟩ b1 b2)
                    have z0 := Int.emod_nonneg ((x.1 % x.2 - R).tdiv g) (b := x.2 / g) (by omega)
                    have z1 := Int.emod_lt_of_pos ((x.1 % x.2 - R).tdiv g) (b := x.2 / g) (by omega)
                    obtain ⟨z2, z3⟩ := mul_le z0 (by omega : (x.1 % x.2 - R).tdiv g % (x.2 / g) ≤ 1000000000) v0 (by omega : invM (M / g) (x.2 / g) ≤ 1000000000)
                    generalize x.1 % x.2 = rr at *
                    generalize invM (M / g) (x.2 / g) = iv at *
                    go_wp2_with fail
                    go_big_quiet ((go_at_call 100; exact Calls.quiet_of (n := _) (hGi.out _)))
                    obtain ⟨n1, hqq⟩ : ∃ n1 : Nat, n1 = nq := ⟨_, rfl⟩
                    subst hqq
                    go_wp2_with fail
                    go_big_quiet (fail)
                    obtain ⟨n2, hqq⟩ : ∃ n2 : Nat, n2 = nq := ⟨_, rfl⟩
                    subst hqq
                    go_wp2_with fail
                    refine (hIx.out _).mono ?_
                    rintro e w' ⟨rfl, n3, rfl⟩
                    go_wp2_with fail
                    go_big_quiet ((go_at_call 86; first | with_reducible exact quiet_off (hMx.out _) | exact quiet_off (hMD.out _)))
                    go_wp2_with fail
                    exact ⟨⟨i + 1, _, _, by go_num, by omega, (HT.out.drewN _).put _ _, j4, j5, by omega, HNx.out⟩, by simp [intOf]; omega⟩
                  · have hp1 : x.2 / g = 1 := by omega
                    have hT0 : chinT R M x.1 x.2 = 0 := by rw [eT.out, hp1, Int.emod_one]
                    rw [hT0, hp1, Int.mul_zero, Int.add_zero, Int.mul_one] at j5 HNx
                    clear HCR HGo HAt eR eM eT hT0 j0 j1 j2 j3 j4
                    have hone' : (x.2 / g : Int) = 1 := hp1
                    go_wp2_with fail
                    go_big_quiet ((go_at_call 100; exact Calls.quiet_of (n := _) (hGi.out _)))
                    obtain ⟨n1, hqq⟩ : ∃ n1 : Nat, n1 = nq := ⟨_, rfl⟩
                    subst hqq
                    go_wp2_with fail
                    go_big_quiet (fail)
                    obtain ⟨n2, hqq⟩ : ∃ n2 : Nat, n2 = nq := ⟨_, rfl⟩
                    subst hqq
                    go_wp2_with fail
                    exact ⟨⟨i + 1, R, M, by go_num, by omega, (HT.out.drewN _).put _ _, R0, RM, M9, HNx.out⟩, by simp [intOf]; omega⟩
              · obtain rfl : N = i := by omega
                have hE : chinAll l = (R, M, 0) := by rw [← HGo.out, List.drop_of_length_le (by rw [HN.out]; exact Nat.le_refl _)]; rfl
                have HE := Lib.hid hE
                clear hE
                obtain ⟨-, p1, p2, p3, p4, p5⟩ := HR.out.next HT.out.bel
                have HB := Lib.hid ((HR.out.next HT.out.bel).bel)
                go_wp2_with fail
                refine bodyPost_ret (v := .tuple #[.agg #[.int .i64 R, .int .i64 M], .int .i64 0]) (by simp [results, Try.results55, go_sem, p1, p2]) rfl ?_
                exact ⟨by rw [HE.out], (HB.out.setCell (Nat.le_refl _) _).setCell (Nat.le_refl _) _⟩
end Go.Proofs.Ytmlkiddkgikdhaa
