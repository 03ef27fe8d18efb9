/- The law IntegerPrimes answers true at all numbers and lists of steps. -/
import Derived.Test.YtfjmhfmhijhpkaaCfy
import Derived.Test.YtfjmhfmhijhpkaaRce
import Derived.Test.YtfjmhfmhijhpkaaRck
import Derived.Test.YtfjmhfmhijhpkaaCkp
import Derived.Test.YtfjmhfmhijhpkaaAwk
import Derived.Test.YtfjmhfmhijhpkaaSym0
namespace Go.Proofs.Ytfjmhfmhijhpkaa
open Go.RowKit FF
attribute [local go_sem ↓] Go.wp_at_zero Go.wp_at_succ

theorem ShowsS.at {w : World} {A : Option Addr} {L : List Stpp} (h : ShowsS w A L) {i : Nat} (hi : i < L.length) : ∃ b o A' c', A = some ⟨b, o, none⟩ ∧ b < w.heap.size ∧ w.cell? ⟨b, o + i * 3, none⟩ = some (.int .i64 (L.getD i (0, 0, [])).1) ∧
    w.cell? ⟨b, o + i * 3 + 1, none⟩ = some (.int .i64 (L.getD i (0, 0, [])).2.1) ∧ w.cell? ⟨b, o + i * 3 + 2, none⟩ = some (.slice A' (L.getD i (0, 0, [])).2.2.length c') ∧ ShowsI w A' (L.getD i (0, 0, [])).2.2 ∧ (L.getD i (0, 0, [])).2.2.length ≤ c' ∧ c' ≤ maxLen := by
  obtain ⟨b, o, e, hb, hc⟩ := h (by omega)
  obtain ⟨A', c', h1⟩ := hc i hi
  exact ⟨b, o, A', c', e, hb, h1⟩
theorem ip_bne (x : Int) : (x != x) = false := by simp
theorem ip_draws {w w' : World} {m : Nat} (h : Below (w.drewN m).heap.size (w.drewN m) w') : Below w.heap.size w w' := (below_drewN (Below.refl _ _) m).trans h
set_option maxHeartbeats 4000000 in
theorem steps_same (A A' : Option Addr) (L : List Stpp) (c c' : Nat) (w : World) (hs : ShowsS w A L) (hs' : ShowsS w A' L) (hl : L.length ≤ 1000) :
    Calls Try.prog 24 #[.slice A L.length c, .slice A' L.length c'] w (Ret w (.bool true)) := by
  have HS := Lib.hid hs
  have HS' := Lib.hid hs'
  clear hs hs'
  obtain ⟨n, hn⟩ : ∃ n, L.length = n := ⟨_, rfl⟩
  have HN := Lib.hid hn
  rw [hn] at hl ⊢
  clear hn
  go_enter Try.func24, Try.ntmps24
  go_wp2_with fail
  go_loopw [5] (fun s wr => ∃ k : Nat, s = .int .i64 k ∧ k ≤ n ∧ ∃ m, wr = w.drewN m) (fun s _ => n - (intOf s).toNat)
  case atStart => exact ⟨0, rfl, by omega, 0, rfl⟩
  case round =>
    obtain ⟨k, rfl, hk, m, rfl⟩ := hrel
    by_cases h0 : k < n
    · have hk2 : k < L.length := by rw [HN.out]; exact h0
      obtain ⟨b1, o1, A1, c1, rfl, hb1, x1, x2, x3, x4, x5, x6⟩ := HS.out.at hk2
      obtain ⟨b2, o2, A2, c2, rfl, hb2, y1, y2, y3, y4, y5, y6⟩ := HS'.out.at hk2
      have hpl : (L.getD k (0, 0, [])).2.2.length ≤ maxLen := Nat.le_trans x5 x6
      have HI := Lib.hid (fun m => (decide_eq_true (rfl : (L.getD k (0, 0, [])).2.2 = (L.getD k (0, 0, [])).2.2)) ▸ Ints_any A1 A2 (L.getD k (0, 0, [])).2.2 (L.getD k (0, 0, [])).2.2 c1 c2 (w.drewN m) (x4.drewN m) (y4.drewN m) hpl)
      obtain ⟨N, hN⟩ : ∃ N, (L.getD k (0, 0, [])).1 = N := ⟨_, rfl⟩
      obtain ⟨R, hR⟩ : ∃ R, (L.getD k (0, 0, [])).2.1 = R := ⟨_, rfl⟩
      obtain ⟨P, hP⟩ : ∃ P, (L.getD k (0, 0, [])).2.2 = P := ⟨_, rfl⟩
      rw [hN] at x1 y1; rw [hR] at x2 y2; rw [hP] at x3 y3 HI
      have d1 := ip_bne N
      have d2 := ip_bne R
      clear hN hR hP x4 x5 x6 y4 y5 y6 hpl hk2
      go_wp2_with fail
      go_big_quiet ((go_at_call 42; exact quiet_off (HI.out _)))
      go_wp2_with fail
      exact ⟨⟨k + 1, by go_num, by omega, _, rfl⟩, by simp [intOf]; omega⟩
    · obtain rfl : k = n := by omega
      go_wp2_with fail
      go_ret
      exact Ret.eq _ rfl
theorem stepsI_map {n : Int} (hn : IsP n.toNat) (hn9 : n ≤ 1000000000) {ks : List Int} (hk : ∀ m ∈ ks, FF.Reach n m) : StepsI (ks.map stepOf) := by
  intro i hi
  rw [List.length_map] at hi
  rw [map_getD hi]
  obtain ⟨p1, p2, p3⟩ := (hk _ (getD_mem hi)).prime hn
  obtain ⟨r1, r2, -⟩ := rootOf_spec p1
  refine ⟨⟨by show _ ≤ ks.getD i 0; omega, by show ks.getD i 0 ≤ _; omega⟩, ⟨by show _ ≤ rootOf _; omega, by show rootOf _ ≤ _; omega⟩, fun j hj => ?_⟩
  have := mem_of_primesOf p1 (getD_mem (l := primesOf (ks.getD i 0 - 1)) (j := j) hj)
  exact ⟨by show _ ≤ (primesOf (ks.getD i 0 - 1)).getD j 0; omega, by show (primesOf (ks.getD i 0 - 1)).getD j 0 ≤ _; omega⟩
set_option maxHeartbeats 8000000 in
set_option maxRecDepth 100000 in
theorem IntegerPrimes_law (n : Int) (A : Option Addr) (L : List Stpp) (c : Nat) (w : World) (_hn : I64 n) (hs : ShowsS w A L) (hlc : L.length ≤ c) (hcm : c ≤ maxLen) (hI : StepsI L) :
    Calls Try.prog 4 #[.int .i64 n, .slice A L.length c] w fun e w' => e = .returned (.bool true) ∧ Below w.heap.size w w' := by
  have hA := Lib.hid awake_any
  obtain ⟨nl, hnl⟩ : ∃ nl, L.length = nl := ⟨_, rfl⟩
  have HN := Lib.hid hnl
  have HS := Lib.hid hs
  have HCm := Lib.hid hcm
  have hlm : L.length ≤ maxLen := Nat.le_trans hlc hcm
  have HLm := Lib.hid hlm
  have HCP := Lib.hid (fun W (h : ShowsS W A L) => CheckPrime_any A L c n W h hlm hI)
  have HCR := Lib.hid (fun W (h : ShowsS W A L) => rCheckPrime_any A L c n W h hlc hcm hI)
  rw [hnl] at hlc HCP HCR ⊢
  unfold maxLen at hcm
  clear hnl hs hI hlm
  by_cases h70 : 70 < nl
  · go_enter Try.func4, Try.ntmps4
    go_wp2_with fail
    refine (hA.out _).mono ?_
    rintro e w' ⟨rfl, hb⟩
    go_wp2_with fail
    go_ret
    exact ⟨rfl, hb⟩
  · go_enter Try.func4, Try.ntmps4
    go_wp2_with fail
    go_loopw [5] (fun s wr => ∃ k : Nat, s = .int .i64 k ∧ k ≤ nl ∧ ∃ m, wr = w.drewN m) (fun s _ => nl - (intOf s).toNat)
    case atStart => exact ⟨0, rfl, by omega, 0, rfl⟩
    case round =>
      obtain ⟨k, rfl, hk, m, rfl⟩ := hrel
      by_cases h0 : k < nl
      · obtain ⟨b1, o1, A1, c1, rfl, hb1, x1, x2, x3, x4, x5, x6⟩ := HS.out.at (show k < L.length by rw [HN.out]; exact h0)
        obtain ⟨pl, hpl⟩ : ∃ pl, (L.getD k (0, 0, [])).2.2.length = pl := ⟨_, rfl⟩
        rw [hpl] at x3 x5
        unfold maxLen at x6
        clear hpl x1 x2 x4
        by_cases hp : 70 < pl
        · go_wp2_with fail
          refine (hA.out _).mono ?_
          rintro e w' ⟨rfl, hb⟩
          go_wp2_with fail
          go_ret
          exact ⟨rfl, ip_draws hb⟩
        · go_wp2_with fail
          exact ⟨⟨k + 1, by go_num, by omega, _, rfl⟩, by simp [intOf]; omega⟩
      · have hb0 : Below w.heap.size w (w.drewN m) := below_drewN (Below.refl _ _) m
        have HB0 := Lib.hid hb0
        have HS0 := Lib.hid (HS.out.below hb0)
        clear hb0
        obtain rfl : k = nl := by omega
        obtain ⟨W1, hW1⟩ : ∃ W1, w.drewN m = W1 := ⟨_, rfl⟩
        rw [hW1] at HB0 HS0 ⊢
        clear hW1
        have hC := Lib.hid (Certify_any n W1)
        have hP := Lib.hid (fun w => isPrime_any n w)
        have hRP := Lib.hid (fun w => rIsPrime_any n w)
        go_wp2_with fail
        refine hC.out.mono ?_
        intro e W2 hc
        rcases hc with ⟨hb, rfl, hb2⟩ | ⟨hb, ks, k1, k2, A2, c2, rfl, s2, l2, m2, hb2⟩
        · have HF := Lib.hid hb
          have hR := Lib.hid (rCertify_any n W2)
          have HB2 := Lib.hid hb2
          rw [hb] at hP hRP
          clear hb hb2 hC
          go_wp2_with fail
          refine hR.out.mono ?_
          intro e W3 hc
          obtain ⟨rfl, hb3⟩ : e = .returned (.tuple #[.slice none 0 0, .int .i64 11]) ∧ Below W2.heap.size W2 W3 := by
            rcases hc with ⟨-, h1, h2⟩ | ⟨hb, -⟩
            · exact ⟨h1, h2⟩
            · rw [HF.out] at hb; cases hb
          have HB3 := Lib.hid (HB2.out.trans (hb3.mono HB2.out.size))
          have hk3 := HCP.out W3 (HS0.out.below HB3.out)
          have HK3 := Lib.hid hk3
          clear hc hb3 hk3 hR HB2
          go_wp2_with fail
          refine HK3.out.mono ?_
          rintro e W4 ⟨E, rfl, hE, hb4⟩
          have HE := Lib.hid hE
          have hE0 : E ≠ 0 := fun e => by
            subst e
            have := hE.prime
            have := isPB_iff.2 this
            rw [HF.out] at this; cases this
          have d1 := ip_bne E
          have d2 : (E != 0) = true := bne_iff_ne.2 hE0
          have HB4 := Lib.hid (HB3.out.trans (hb4.mono HB3.out.size))
          clear hE hE0 hb4 HK3 HB3
          have hSt := Lib.hid (fun w => steps_same none none [] 0 0 w (fun h => absurd h (by simp)) (fun h => absurd h (by simp)) (by simp))
          have hkr := Lib.hid (fun m => HCR.out (W4.drewN m) ((HS0.out.below HB4.out).below (below_drewN (Below.refl _ _) m)))
          go_wp2_with fail
          refine (hP.out _).mono ?_
          rintro e w' ⟨rfl, n5, rfl⟩
          go_wp2_with fail
          refine (hRP.out _).mono ?_
          rintro e w' ⟨rfl, n6, rfl⟩
          go_wp2_with fail
          refine (hSt.out _).mono ?_
          rintro e w' ⟨rfl, n7, rfl⟩
          go_wp2_with fail
          refine (hkr.out _).mono ?_
          rintro e W5 ⟨E', rfl, hE', hb5⟩
          obtain rfl := hE'.unique HE.out
          have HB5 := Lib.hid (HB4.out.trans ((ip_draws hb5).mono HB4.out.size))
          clear hE' hb5 HB4 hkr
          go_wp2_with fail
          refine (hA.out _).mono ?_
          rintro e w' ⟨rfl, hb9⟩
          have HB9 := Lib.hid (HB5.out.trans (hb9.mono HB5.out.size))
          clear hb9
          go_wp2_with fail
          go_ret
          exact ⟨rfl, HB0.out.trans (HB9.out.mono HB0.out.size)⟩
        · have HF := Lib.hid hb
          obtain ⟨hn, hn9⟩ := isPB_iff.1 hb
          have hR := Lib.hid (rCertify_any n W2)
          have HB2 := Lib.hid hb2
          have HS2 := Lib.hid s2
          have HL2 := Lib.hid l2; have HM2 := Lib.hid m2
          have HK := Lib.hid k2
          have HCk := Lib.hid (cert_ok hn hn9 k1 k2)
          have HSI := Lib.hid (stepsI_map hn hn9 (fun m hm => (k2 m).1 hm))
          have hks : ks.length ≤ 31 := reach_short hn hn9 (asc_nodup k1) (fun m hm => (k2 m).1 hm)
          have HAs := Lib.hid k1
          rw [hb] at hP hRP
          unfold maxLen at m2
          clear hb hb2 hC s2 hn hn9
          go_wp2_with fail
          refine hR.out.mono ?_
          intro e W3 hc
          obtain ⟨A3, c3, rfl, s3, l3, m3, hb3⟩ : ∃ A3 c3, e = .returned (.tuple #[.slice A3 ks.length c3, .int .i64 0]) ∧ ShowsS W3 A3 (ks.map stepOf) ∧ ks.length ≤ c3 ∧ c3 ≤ maxLen ∧ Below W2.heap.size W2 W3 := by
            rcases hc with ⟨hb, -⟩ | ⟨-, kk, q1, q2, A3, c3, r1, r2, r3, r4, r5⟩
            · rw [HF.out] at hb; cases hb
            · obtain rfl : kk = ks := asc_unique q1 HAs.out (fun x => (q2 x).trans (HK.out x).symm)
              exact ⟨A3, c3, r1, r2, r3, r4, r5⟩
          have HB3 := Lib.hid (HB2.out.trans (hb3.mono HB2.out.size))
          have HS2' := Lib.hid (HS2.out.below hb3)
          have HS3 := Lib.hid s3
          have hk3 := HCP.out W3 (HS0.out.below HB3.out)
          have HK3 := Lib.hid hk3
          unfold maxLen at m3
          clear hc hb3 hk3 hR HB2 s3 k1 k2 HS2
          go_wp2_with fail
          refine HK3.out.mono ?_
          rintro e W4 ⟨E, rfl, hE, hb4⟩
          have HE := Lib.hid hE
          have HPr := Lib.hid (fun e : E = 0 => (show isPB n = true from isPB_iff.2 ((e ▸ hE : CkE n L 0).prime)))
          have d1 := ip_bne E
          have HB4 := Lib.hid (HB3.out.trans (hb4.mono HB3.out.size))
          have HS4 := Lib.hid (HS2'.out.below hb4)
          have hSt := Lib.hid (fun m => (by have h := steps_same A2 A3 (ks.map stepOf) c2 c3 (W4.drewN m) ((HS2'.out.below hb4).below (below_drewN (Below.refl _ _) m)) ((HS3.out.below hb4).below (below_drewN (Below.refl _ _) m)) (by rw [List.length_map]; omega); rw [List.length_map] at h; exact h : Calls Try.prog 24 #[.slice A2 ks.length c2, .slice A3 ks.length c3] (W4.drewN m) (Ret (W4.drewN m) (.bool true))))
          have hkr := Lib.hid (fun m => HCR.out (W4.drewN m) ((HS0.out.below HB4.out).below (below_drewN (Below.refl _ _) m)))
          have hown := Lib.hid (fun W (h : ShowsS W A2 (ks.map stepOf)) => (by have h1 := CheckPrime_any A2 (ks.map stepOf) c2 n W h (by rw [List.length_map]; unfold maxLen; omega) HSI.out; rw [List.length_map] at h1; exact h1 : Calls Try.prog 21 #[.int .i64 n, .slice A2 ks.length c2] W (CkPost W n (ks.map stepOf))))
          clear hE hb4 HK3 HB3 HS2' HS3
          by_cases hE0 : E = 0
          · have d2 : (E != 0) = false := by rw [hE0]; rfl
            clear hE0
            go_wp2_with fail
            refine (hP.out _).mono ?_
            rintro e w' ⟨rfl, n5, rfl⟩
            go_wp2_with fail
            refine (hRP.out _).mono ?_
            rintro e w' ⟨rfl, n6, rfl⟩
            go_wp2_with fail
            refine (hSt.out _).mono ?_
            rintro e w' ⟨rfl, n7, rfl⟩
            go_wp2_with fail
            refine (hkr.out _).mono ?_
            rintro e W5 ⟨E', rfl, hE', hb5⟩
            obtain rfl := hE'.unique HE.out
            have HS5 := Lib.hid (HS4.out.below (ip_draws hb5))
            have HB5 := Lib.hid (HB4.out.trans ((ip_draws hb5).mono HB4.out.size))
            clear hE' hb5 HB4 hkr
            go_wp2_with fail
            refine (hown.out _ HS5.out).mono ?_
            rintro e W6 ⟨E6, rfl, hE6, hb6⟩
            obtain rfl := hE6.unique HCk.out
            have HB6 := Lib.hid (HB5.out.trans (hb6.mono HB5.out.size))
            clear hE6 hb6 HB5
            go_wp2_with fail
            refine (hP.out _).mono ?_
            rintro e w' ⟨rfl, n8, rfl⟩
            have HB7 := Lib.hid (below_drewN HB6.out n8)
            go_wp2_with fail
            refine (hA.out _).mono ?_
            rintro e w' ⟨rfl, hb9⟩
            have HB9 := Lib.hid (HB7.out.trans (hb9.mono HB7.out.size))
            clear hb9
            go_wp2_with fail
            go_ret
            exact ⟨rfl, HB0.out.trans (HB9.out.mono HB0.out.size)⟩
          · have d2 : (E != 0) = true := bne_iff_ne.2 hE0
            clear hE0
            go_wp2_with fail
            refine (hP.out _).mono ?_
            rintro e w' ⟨rfl, n5, rfl⟩
            go_wp2_with fail
            refine (hRP.out _).mono ?_
            rintro e w' ⟨rfl, n6, rfl⟩
            go_wp2_with fail
            refine (hSt.out _).mono ?_
            rintro e w' ⟨rfl, n7, rfl⟩
            go_wp2_with fail
            refine (hkr.out _).mono ?_
            rintro e W5 ⟨E', rfl, hE', hb5⟩
            obtain rfl := hE'.unique HE.out
            have HS5 := Lib.hid (HS4.out.below (ip_draws hb5))
            have HB5 := Lib.hid (HB4.out.trans ((ip_draws hb5).mono HB4.out.size))
            clear hE' hb5 HB4 hkr
            go_wp2_with fail
            refine (hown.out _ HS5.out).mono ?_
            rintro e W6 ⟨E6, rfl, hE6, hb6⟩
            obtain rfl := hE6.unique HCk.out
            have HB6 := Lib.hid (HB5.out.trans (hb6.mono HB5.out.size))
            clear hE6 hb6 HB5
            go_wp2_with fail
            refine (hA.out _).mono ?_
            rintro e w' ⟨rfl, hb9⟩
            have HB9 := Lib.hid (HB6.out.trans (hb9.mono HB6.out.size))
            clear hb9
            go_wp2_with fail
            go_ret
            exact ⟨rfl, HB0.out.trans (HB9.out.mono HB0.out.size)⟩
end Go.Proofs.Ytfjmhfmhijhpkaa
