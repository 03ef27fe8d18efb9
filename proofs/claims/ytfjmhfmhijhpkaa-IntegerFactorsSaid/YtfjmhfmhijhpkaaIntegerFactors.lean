/- The law IntegerFactors answers true at all numbers and lists. -/
import Derived.Test.YtfjmhfmhijhpkaaIfp
namespace Go.Proofs.Ytfjmhfmhijhpkaa
open Go.RowKit FF
attribute [local go_sem ↓] Go.wp_at_zero Go.wp_at_succ

theorem rCheckNumber_bad {n : Int} (w : World) (h : modB n = false) : Calls Try.prog 39 #[.int .i64 n] w (Ret w (.int .i64 2)) := by have := rCheckNumber_any n w; rw [h] at this; exact this
theorem rCheckNumber_ok {n : Int} (w : World) (h : modB n = true) : Calls Try.prog 39 #[.int .i64 n] w (Ret w (.int .i64 0)) := by have := rCheckNumber_any n w; rw [h] at this; exact this
theorem stepsOf_len (ls : List (Value × List Refs)) : (stepsOf ls).length = ls.length := List.length_map ..
theorem drewN_b (w : World) (n : Nat) : Below w.heap.size w (w.drewN n) := below_drewN (Below.refl _ _) n

set_option maxHeartbeats 16000000 in
set_option maxRecDepth 100000 in
theorem IntegerFactors_law (n : Int) (A : Option Addr) (l : List (Int × Int)) (c : Nat) (A2 : Option Addr) (Ls : List (List Stpp)) (c2 : Nat) (w : World) (_hn : I64 n) (hl : ShowsW w A l) (hlc : l.length ≤ c) (hcm : c ≤ maxLen) (hI1 : ∀ i, i < l.length → I64 (l.getD i (0, 0)).1) (hI2 : ∀ i, i < l.length → I64 (l.getD i (0, 0)).2)
    (hL : ShowsL w A2 Ls) (hlc2 : Ls.length ≤ c2) (_hcm2 : c2 ≤ maxLen) (hI : ListsI Ls) :
    Calls Try.prog 7 #[.int .i64 n, .slice A l.length c, .slice A2 Ls.length c2] w fun e w' => e = .returned (.bool true) ∧ Below w.heap.size w w' := by
  have hA := Lib.hid awake_any
  have HP := Lib.hid (fun W (h : ShowsW W A l) (h' : ShowsL W A2 Ls) => CheckFactor_any n A A2 l Ls c c2 W h hlc hcm h' hI1 hI2 hI)
  have HR := Lib.hid (fun W (h : ShowsW W A l) (h' : ShowsL W A2 Ls) => rCheckFactor_any n A A2 l Ls c c2 W h hlc hcm h' hI1 hI2 hI)
  have HS := Lib.hid hl; have HL := Lib.hid hL
  obtain ⟨nl, hnl⟩ : ∃ nl, l.length = nl := ⟨_, rfl⟩
  obtain ⟨nL, hnL⟩ : ∃ nL, Ls.length = nL := ⟨_, rfl⟩
  have HNL := Lib.hid hnL
  rw [hnl] at hlc HP HR ⊢
  rw [hnL] at hlc2 HP HR ⊢
  unfold maxLen at hcm
  clear hnl hnL hl hL hI1 hI2 hI
  by_cases h35 : 35 < nl
  · go_enter Try.func7, Try.ntmps7
    go_wp2_with fail
    refine (hA.out _).mono ?_
    rintro e w' ⟨rfl, hb⟩
    go_wp2_with fail
    go_ret
    exact ⟨rfl, hb⟩
  · by_cases h36 : 35 < nL
    · go_enter Try.func7, Try.ntmps7
      go_wp2_with fail
      refine (hA.out _).mono ?_
      rintro e w' ⟨rfl, hb⟩
      go_wp2_with fail
      go_ret
      exact ⟨rfl, hb⟩
    · go_enter Try.func7, Try.ntmps7
      go_wp2_with fail
      go_loopw [7] (fun s wr => ∃ k : Nat, s = .int .i64 k ∧ k ≤ nL ∧ ∃ m, wr = w.drewN m) (fun s _ => nL - (RowKit.intOf s).toNat)
      case atStart => exact ⟨0, rfl, by omega, 0, rfl⟩
      case round =>
        obtain ⟨k, rfl, hk, m, rfl⟩ := hrel
        by_cases h0 : k < nL
        · obtain ⟨b1, o1, A1, c1, rfl, hb1, x1, x2, x3, x4⟩ := HL.out.at (show k < Ls.length by rw [HNL.out]; exact h0)
          have HX := Lib.hid x2
          obtain ⟨pl, hpl⟩ : ∃ pl, (Ls.getD k []).length = pl := ⟨_, rfl⟩
          have HPL := Lib.hid hpl
          rw [hpl] at x1 x3
          unfold maxLen at x4
          clear hpl x2
          by_cases hp : 70 < pl
          · go_wp2_with fail
            refine (hA.out _).mono ?_
            rintro e w' ⟨rfl, hb⟩
            go_wp2_with fail
            go_ret
            exact ⟨rfl, if_draws hb⟩
          · go_wp2_with fail
            go_loopw [8] (fun s wr => ∃ q : Nat, s = .int .i64 q ∧ q ≤ pl ∧ ∃ m, wr = w.drewN m) (fun s _ => pl - (RowKit.intOf s).toNat)
            case atStart => exact ⟨0, rfl, by omega, m, rfl⟩
            case round =>
              obtain ⟨q, rfl, hq, m2, rfl⟩ := hrel
              by_cases hq0 : q < pl
              · obtain ⟨b3, o3, A3, c3, rfl, hb3, y1, y2, y3⟩ := HX.out.at (show q < (Ls.getD k []).length by rw [HPL.out]; exact hq0)
                obtain ⟨rl, hrl⟩ : ∃ rl, ((Ls.getD k []).getD q (0, 0, [])).2.2.length = rl := ⟨_, rfl⟩
                rw [hrl] at y1 y2
                unfold maxLen at y3
                clear hrl
                by_cases hp7 : 70 < rl
                · go_wp2_with fail
                  refine (hA.out _).mono ?_
                  rintro e w' ⟨rfl, hb⟩
                  go_wp2_with fail
                  go_ret
                  exact ⟨rfl, if_draws hb⟩
                · go_wp2_with fail
                  exact ⟨⟨q + 1, by go_num, by omega, _, rfl⟩, by simp [RowKit.intOf]; omega⟩
              · go_wp2_with fail
                exact ⟨⟨k + 1, by go_num, by omega, _, rfl⟩, by simp [RowKit.intOf]; omega⟩
        · have HB0 := Lib.hid (drewN_b w m)
          have HS0 := Lib.hid (HS.out.below (drewN_b w m))
          have HL0 := Lib.hid (HL.out.below (drewN_b w m))
          obtain rfl : k = nL := by omega
          obtain ⟨W1, hW1⟩ : ∃ W1, w.drewN m = W1 := ⟨_, rfl⟩
          rw [hW1] at HB0 HS0 HL0 ⊢
          clear hW1
          have hDv := Lib.hid (fun w => Divisors_any n w)
          cases hm : modB n
          · have HF := Lib.hid hm
            have hFa := Lib.hid (fun w => Factor_bad n w hm)
            have hCN := Lib.hid (fun w => rCheckNumber_bad (n := n) w hm)
            clear hm
            go_wp2_with fail
            refine (hFa.out _).mono ?_
            rintro e W2 ⟨rfl, hb2⟩
            have HB2 := Lib.hid hb2
            clear hb2
            go_wp2_with fail
            refine (hDv.out _).mono ?_
            intro e W3 hd
            obtain ⟨rfl, hb3⟩ : e = .returned (.tuple #[.slice none 0 0, .int .i64 2]) ∧ Below W2.heap.size W2 W3 := by
              rcases hd with ⟨-, h⟩ | ⟨h, -⟩
              · exact h
              · rw [HF.out] at h; cases h
            have HB3 := Lib.hid (HB2.out.trans (hb3.mono HB2.out.size))
            clear hd hb3
            go_wp2_with fail
            refine (HP.out W3 (HS0.out.below HB3.out) (HL0.out.below HB3.out)).mono ?_
            rintro e W4 ⟨E, rfl, hE, hb4⟩
            have HE := Lib.hid hE
            have HB4 := Lib.hid (HB3.out.trans (hb4.mono HB3.out.size))
            have d1 := if_bne E
            clear hE hb4
            go_wp2_with fail
            refine (HR.out W4 (HS0.out.below HB4.out) (HL0.out.below HB4.out)).mono ?_
            rintro e W5 ⟨E', rfl, hE', hb5⟩
            obtain rfl : E = E' := HE.out.unique hE'
            have HB5 := Lib.hid ((HB0.out.trans (HB4.out.mono HB0.out.size)).trans (hb5.mono (Nat.le_trans HB0.out.size HB4.out.size)))
            clear hE' hb5
            go_wp2_with fail
            refine (hCN.out _).mono ?_
            rintro e w' ⟨rfl, n6, rfl⟩
            go_wp2_with fail
            refine (hA.out _).mono ?_
            rintro e w' ⟨rfl, hb⟩
            have HB6 := Lib.hid (HB5.out.trans ((if_draws hb).mono HB5.out.size))
            clear hb
            go_wp2_with fail
            go_ret
            exact ⟨rfl, HB6.out⟩
          · have HF := Lib.hid hm
            obtain ⟨h1, h2⟩ := modB_true.1 hm
            have hFa := Lib.hid (fun w => Factor_any n w h1 h2)
            have hRF := Lib.hid (fun w => rFactors_any n w h1 h2)
            have hRD := Lib.hid (fun w => rDivisors_any n w h1 h2)
            have hCN := Lib.hid (fun w => rCheckNumber_ok (n := n) w hm)
            have hll : (facs n).length ≤ 30 := facs_len h1 h2
            have HAt := Lib.hid (fun i => @facs_at n h1 i)
            have HI64 := Lib.hid (fun i => @castP_i64 n h1 h2 i)
            have HGd := Lib.hid (fun ls k => @Prf.good n ls k)
            have HFl := Lib.hid (fun W A (h : ShowsI W A (flatP (facs n))) => ShowsW.flat h)
            obtain ⟨F, hF⟩ : ∃ F, facs n = F := ⟨_, rfl⟩
            obtain ⟨nf, hnf⟩ : ∃ nf, F.length = nf := ⟨_, rfl⟩
            rw [hF] at hFa hRF hll HAt HI64 HGd HFl
            rw [hnf] at hFa hRF hll HAt HI64 HGd
            have HNf := Lib.hid hnf
            have hCl : (castP F).length = nf := by rw [castP_len, hnf]
            have HCl := Lib.hid hCl
            have HFl2 : (flatP F).length = 2 * nf := by rw [flatP_len, hnf]
            have HFq := Lib.hid HFl2
            clear hm hF hnf hCl HFl2
            go_wp2_with fail
            refine (hFa.out _).mono ?_
            rintro e W2 ⟨v, rfl, hG⟩
            obtain ⟨A3, c3, rfl, hs3, hc3, hm3, -⟩ := hG.shows
            have HB2 := Lib.hid hG.below
            have H32 := Lib.hid hs3
            have HM3 := Lib.hid hm3
            unfold maxLen at hm3
            clear hG hs3
            go_wp2_with fail
            refine (hDv.out _).mono ?_
            intro e W3 hd
            obtain ⟨v, D, rfl, hD, hR, hb3⟩ : ∃ v D, e = .returned (.tuple #[v, .int .i64 0]) ∧ DivL n D ∧ Row1 W2.heap.size v D.length D W3 ∧ Below W2.heap.size W2 W3 := by
              rcases hd with ⟨h, -⟩ | ⟨-, h⟩
              · rw [HF.out] at h; cases h
              · exact h
            obtain ⟨A4, c4, rfl, hs4, hc4, hm4⟩ := hR.shows
            have hDm : D.length ≤ maxLen := Nat.le_trans hc4 hm4
            have HDm := Lib.hid hDm
            have H43 := Lib.hid hs4
            have HD := Lib.hid hD
            have H33 := Lib.hid (H32.out.below hb3)
            have HB3 := Lib.hid (HB2.out.trans (hb3.mono HB2.out.size))
            unfold maxLen at hm4
            clear hd hb3 hR hs4 hD hDm
            go_wp2_with fail
            refine (HP.out W3 (HS0.out.below HB3.out) (HL0.out.below HB3.out)).mono ?_
            rintro e W4 ⟨E, rfl, hE, hb4⟩
            have HE := Lib.hid hE
            have H44 := Lib.hid (H43.out.below hb4)
            have H34 := Lib.hid (H33.out.below hb4)
            have HB4 := Lib.hid (HB3.out.trans (hb4.mono HB3.out.size))
            have d1 := if_bne E
            clear hE hb4
            go_wp2_with fail
            refine (HR.out W4 (HS0.out.below HB4.out) (HL0.out.below HB4.out)).mono ?_
            rintro e W5 ⟨E', rfl, hE', hb5⟩
            obtain rfl : E = E' := HE.out.unique hE'
            have H45 := Lib.hid (H44.out.below hb5)
            have H35 := Lib.hid (H34.out.below hb5)
            have HB5 := Lib.hid ((HB0.out.trans (HB4.out.mono HB0.out.size)).trans (hb5.mono (Nat.le_trans HB0.out.size HB4.out.size)))
            clear hE' hb5
            go_wp2_with fail
            refine (hCN.out _).mono ?_
            rintro e w' ⟨rfl, n6, rfl⟩
            have H46 := Lib.hid (H45.out.below (drewN_b W5 n6))
            have H36 := Lib.hid (H35.out.below (drewN_b W5 n6))
            have HB6 := Lib.hid (HB5.out.trans ((drewN_b W5 n6).mono HB5.out.size))
            obtain ⟨W6, hW6⟩ : ∃ W6, W5.drewN n6 = W6 := ⟨_, rfl⟩
            rw [hW6] at H46 H36 HB6 ⊢
            clear hW6
            go_wp2_with fail
            refine (hRF.out _).mono ?_
            rintro e W7 ⟨v, rfl, hG⟩
            obtain ⟨A5, c5, rfl, hs5, hc5, hm5, -⟩ := hG.shows
            have hb7 := hG.below
            have H47 := Lib.hid (H46.out.below hb7)
            have H37 := Lib.hid (H36.out.below hb7)
            have H57 := Lib.hid hs5
            have HB7 := Lib.hid (HB6.out.trans (hb7.mono HB6.out.size))
            unfold maxLen at hm5
            clear hG hs5 hb7
            go_wp2_with fail
            refine (powers_same A3 A5 (flatP F) nf c3 c5 W7 H37.out H57.out HFq.out (by omega)).mono ?_
            rintro e W8 ⟨rfl, hb8⟩
            have H48 := Lib.hid (H47.out.below hb8)
            have H38 := Lib.hid (H37.out.below hb8)
            have HB8 := Lib.hid (HB7.out.trans (hb8.mono HB7.out.size))
            clear hb8
            go_wp2_with fail
            refine (hRD.out _).mono ?_
            rintro e W9 ⟨v, D', rfl, hD', hR, hb9⟩
            obtain rfl : D = D' := HD.out.unique hD'
            obtain ⟨A6, c6, rfl, hs6, hc6, hm6⟩ := hR.shows
            have H39 := Lib.hid (H38.out.below hb9)
            have HB9 := Lib.hid (HB8.out.trans (hb9.mono HB8.out.size))
            have HIn := Lib.hid ((decide_eq_true (rfl : D = D)) ▸ Ints_any A4 A6 D D c4 c6 W9 (H48.out.below hb9) hs6 HDm.out)
            unfold maxLen at hm6
            clear hR hs6 hb9 hD'
            go_wp2_with fail
            refine HIn.out.mono ?_
            rintro e w' ⟨rfl, n10, rfl⟩
            have H3a := Lib.hid (H39.out.below (drewN_b W9 n10))
            have HBa := Lib.hid (HB9.out.trans ((drewN_b W9 n10).mono HB9.out.size))
            obtain ⟨Wa, hWa⟩ : ∃ Wa, W9.drewN n10 = Wa := ⟨_, rfl⟩
            rw [hWa] at H3a HBa ⊢
            clear hWa
            obtain ⟨j0, hj, hjz0, hjz1, hjz2⟩ := info_parts info_steps
            have HJ := Lib.hid hj; have HJ0 := Lib.hid hjz0; have HJ1 := Lib.hid hjz1; have HJ2 := Lib.hid hjz2
            clear hj hjz0 hjz1 hjz2
            go_wp2_with fail
            obtain ⟨Wb, hWb⟩ : ∃ Wb : World, Wb = Wa := ⟨_, rfl⟩
            subst hWb
            go_loopw [14, 15] (fun s14 s15 wx => ∃ (k : Nat) (ls : List (Value × List Refs)), s15 = .int .i64 k ∧ k ≤ nf ∧ Prf F ls k ∧ OwnL Wb s14 ls wx) (fun _ s15 _ => nf - (RowKit.intOf s15).toNat)
            case atStart => exact ⟨0, [], rfl, Nat.zero_le _, Prf.start F, OwnL.start (Below.refl _ _)⟩
            case round =>
              obtain ⟨k, ls, rfl, hk, hP, hO⟩ := hrel
              have HPf := Lib.hid hP; have HO := Lib.hid hO
              clear hP hO
              by_cases hkf : k < nf
              · obtain ⟨b, o, rfl, hb, hcell⟩ := (H3a.out.below HO.out.2.1) (by rw [HFq.out]; omega)
                obtain ⟨p, e, M, hpe, -, -, hpp, p2, pn, -⟩ := HAt.out k hkf
                have q0 := hcell (2 * k) (by rw [HFq.out]; omega)
                rw [(flatP_get (by rw [HNf.out]; exact hkf)).1, hpe, Nat.mul_comm 2 k] at q0
                have HPp := Lib.hid hpp
                have HPe := Lib.hid (show (F.getD k (0, 0)).1 = p by rw [hpe])
                dsimp only at q0
                clear hcell hpe hpp
                go_wp2_with fail
                refine (Certify_own p wr).mono ?_
                intro e W10 hc
                obtain ⟨ks, k1, k2, v, os, rfl, k3, hG⟩ : ∃ ks : List Int, ks.Pairwise (· < ·) ∧ (∀ m, m ∈ ks ↔ FF.Reach p m) ∧ ∃ v os, e = .returned (.tuple #[v, .int .i64 0]) ∧ os.map (fun x => x.1) = ks.map stepOf ∧ GotS wr v os W10 := by
                  rcases hc with ⟨h, -⟩ | ⟨-, h⟩
                  · rw [isPB_iff.2 ⟨HPp.out, by omega⟩] at h; cases h
                  · exact h
                obtain ⟨Ao, co, rfl, -⟩ := hG.shows
                have HO2 := Lib.hid (HO.out.keep hG.2.1)
                have HSr := Lib.hid (StepRow.of hG)
                have HN := Lib.hid (HPf.out.step (v := .slice Ao os.length co) HPe.out HPp.out (by omega) k1 k2 k3)
                clear hc k1 k2 k3 hG q0 hb
                go_wp2_with (at_builtin; (refine wpList_append_ownL rfl (.tmp 139) (.tmp 141) 78 rfl j0 _ 24 Try.underlying78 HJ.out HJ0.out HJ1.out HJ2.out (by decide) _ ls rfl HO2.out _ (.slice Ao os.length co, os) 1 HSr.out rfl (by have := HPf.out.1; omega) (by have := HPf.out.1; unfold maxLen; omega) ?_; intro v' w3 hg2 hg3; have HO3 := Lib.hid hg2; clear hg2 hg3))
                exact ⟨⟨k + 1, _, by first | rfl | go_num, by omega, HN.out, HO3.out⟩, by simp [RowKit.intOf]; omega⟩
              · obtain rfl : k = nf := by omega
                obtain ⟨A7, c7, e7, hL7, hc7, hm7⟩ := HO.out.shows
                subst e7
                have H3b := H3a.out.below HO.out.2.1
                have hCk := CheckFactor_any n A3 A7 (castP F) (stepsOf ls) c3 c7 wr (HFl.out wr A3 H3b) (by rw [HCl.out]; exact hc3) HM3.out hL7 (fun i hi => (HI64.out i (by rw [HCl.out] at hi; exact hi)).1) (fun i hi => (HI64.out i (by rw [HCl.out] at hi; exact hi)).2) HPf.out.2.2
                rw [HCl.out, stepsOf_len] at hCk
                have HCk := Lib.hid hCk
                have HG := Lib.hid (HGd.out ls k rfl HPf.out)
                unfold maxLen at hm7
                clear hCk H3b hL7
                go_wp2_with fail
                refine HCk.out.mono ?_
                rintro e W11 ⟨E2, rfl, hE2, hb11⟩
                obtain rfl : E2 = 0 := hE2.unique (.inr (.inl ⟨HF.out, HG.out, rfl⟩))
                have HB11 := Lib.hid (HBa.out.trans ((HO.out.2.1.trans (hb11.mono HO.out.2.1.size)).mono HBa.out.size))
                clear hE2 hb11
                go_wp2_with fail
                refine (hA.out _).mono ?_
                rintro e w' ⟨rfl, hb⟩
                have HBz := Lib.hid (HB11.out.trans (hb.mono HB11.out.size))
                clear hb
                go_wp2_with fail
                go_ret
                exact ⟨rfl, HBz.out⟩
end Go.Proofs.Ytfjmhfmhijhpkaa
