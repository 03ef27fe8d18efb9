/- CheckFactor of the reference. -/
import Derived.Test.YtfjmhfmhijhpkaaCkf
import Derived.Test.YtfjmhfmhijhpkaaRck
import Derived.Test.YtfjmhfmhijhpkaaSym0
namespace Go.Proofs.Ytfjmhfmhijhpkaa
open Go.RowKit FF
attribute [local go_sem ↓] Go.wp_at_zero Go.wp_at_succ

theorem eqP2 (x0 x1 y0 y1 : Int) (w : World) : Sem.run Try.prog (Op.equalIn 10000 90 (.agg #[.int .i64 x0, .int .i64 x1]) (.agg #[.int .i64 y0, .int .i64 y1])) w = .ok (x0 == y0 && x1 == y1) w := by
  have h := run_equalIn_agg (P := Try.prog) w 9999 90 #[.int .i64 x0, .int .i64 x1] #[.int .i64 y0, .int .i64 y1] (by kernel_rfl) (by kernel_rfl)
  rw [show (10000 : Nat) = 9999 + 1 from rfl, h]
  cases h0 : (x0 == y0) <;> cases h1 : (x1 == y1) <;> simp [go_sem, h0, h1, -beq_iff_eq, -beq_eq_false_iff_ne]
theorem rCheckNumber_any (n : Int) (w : World) : Calls Try.prog 39 #[.int .i64 n] w (Ret w (.int .i64 (if modB n = true then 0 else 2))) := by
  have hM := Lib.hid (fun w => rIsModulus_any n w)
  cases hb : modB n
  · rw [hb] at hM
    clear hb
    go_enter Try.func39, Try.ntmps39
    go_wp2_with fail
    refine (hM.out _).mono ?_
    rintro e w' ⟨rfl, n1, rfl⟩
    go_wp2_with fail
    go_ret
    exact Ret.eq _ rfl
  · rw [hb] at hM
    clear hb
    go_enter Try.func39, Try.ntmps39
    go_wp2_with fail
    refine (hM.out _).mono ?_
    rintro e w' ⟨rfl, n1, rfl⟩
    go_wp2_with fail
    go_ret
    exact Ret.eq _ rfl
theorem ip_bne' (x : Int) : (x != x) = false := by simp
theorem cf_ext {n : Int} {l : List (Int × Int)} (hl : l.length = (castP (facs n)).length) (h : ∀ j, j < l.length → l.getD j (0, 0) = (castP (facs n)).getD j (0, 0)) : l = castP (facs n) := by
  refine List.ext_getElem hl fun i h1 h2 => ?_
  have := h i h1
  rwa [getD_lt h1, getD_lt h2] at this
set_option maxRecDepth 100000 in
set_option maxHeartbeats 8000000 in
theorem rCheckFactor_any (n : Int) (A A2 : Option Addr) (l : List (Int × Int)) (Ls : List (List Stpp)) (c c2 : Nat) (w : World) (hl : ShowsW w A l) (hlc : l.length ≤ c) (hcm : c ≤ maxLen) (hL : ShowsL w A2 Ls)
    (hI1 : ∀ i, i < l.length → I64 (l.getD i (0, 0)).1) (hI2 : ∀ i, i < l.length → I64 (l.getD i (0, 0)).2) (hI : ListsI Ls) :
    Calls Try.prog 38 #[.int .i64 n, .slice A l.length c, .slice A2 Ls.length c2] w (CfPost w n l Ls) := by
  have HM := Lib.hid (fun w => rCheckNumber_any n w)
  unfold maxLen at hcm
  have HS := Lib.hid hl; have HL := Lib.hid hL; have HI := Lib.hid hI; have HI1 := Lib.hid hI1; have HI2 := Lib.hid hI2
  obtain ⟨nl, hnl⟩ : ∃ nl, l.length = nl := ⟨_, rfl⟩
  obtain ⟨nL, hnL⟩ : ∃ nL, Ls.length = nL := ⟨_, rfl⟩
  have HN := Lib.hid hnl; have HNL := Lib.hid hnL
  rw [hnl] at hlc ⊢
  rw [hnL]
  clear hl hL hI hI1 hI2 hnl hnL
  cases hm : modB n
  · have HMb := Lib.hid hm
    rw [hm] at HM
    clear hm
    go_enter Try.func38, Try.ntmps38
    go_wp2_with fail
    refine (HM.out _).mono ?_
    rintro e w' ⟨rfl, n1, rfl⟩
    go_wp2_with fail
    go_ret
    exact ⟨2, rfl, .inl ⟨HMb.out, rfl⟩, below_drewN (Below.refl _ _) _⟩
  · have HMb := Lib.hid hm
    obtain ⟨hn1, hn9⟩ := modB_true.1 hm
    rw [hm] at HM
    have HF := Lib.hid (fun w => rFactors_any n w hn1 hn9)
    clear hm
    go_enter Try.func38, Try.ntmps38
    go_wp2_with fail
    refine (HM.out _).mono ?_
    rintro e w' ⟨rfl, n1, rfl⟩
    go_wp2_with fail
    refine (HF.out _).mono ?_
    rintro e W1 ⟨fv, rfl, hG⟩
    have HB1 := Lib.hid ((below_drewN (Below.refl w.heap.size w) n1).trans hG.2)
    obtain ⟨Af, cf, rfl, hsf, hf1, hf2, -⟩ := hG.shows
    have HW := Lib.hid (ShowsW.flat hsf)
    obtain ⟨nf, hnf⟩ : ∃ nf, (facs n).length = nf := ⟨_, rfl⟩
    have HNf := Lib.hid (show (castP (facs n)).length = nf by rw [castP_len, hnf])
    rw [hnf] at hf1 ⊢
    unfold maxLen at hf2
    clear hG hsf HM HF hnf
    by_cases hlf : nl = nf
    · by_cases hne : nL = nl
      · subst hne
        subst hlf
        have d1 := ip_bne' (nL : Int)
        go_wp2_with fail
        obtain ⟨WL, hWL⟩ : ∃ WL, castP (facs n) = WL := ⟨_, rfl⟩
        have HWL := Lib.hid hWL
        rw [hWL] at HW HNf
        clear hWL
        go_loopw [9] (fun s9 wx => ∃ i : Nat, s9 = .int .i64 i ∧ i ≤ nL ∧ (∀ j, j < i → l.getD j (0, 0) = WL.getD j (0, 0) ∧ cfOk l Ls j) ∧ Below W1.heap.size W1 wx) (fun s9 _ => nL - (intOf s9).toNat)
        case atStart => exact ⟨0, rfl, Nat.zero_le _, (fun j hj => absurd hj (by omega)), Below.refl _ _⟩
        case round =>
          obtain ⟨i, rfl, hi, hst, hB⟩ := hrel
          have HSt := Lib.hid hst; have HB := Lib.hid hB
          have HBw := Lib.hid (HB1.out.trans (hB.mono HB1.out.size))
          clear hst hB
          by_cases hil : i < nL
          · have hil2 : i < l.length := by rw [HN.out]; exact hil
            obtain ⟨bl, ol, rfl, hbl, hcl⟩ := (HS.out.below HBw.out) (by omega)
            obtain ⟨x0, x1⟩ := hcl i hil2
            obtain ⟨bp, op, rfl, hbp, hcp⟩ := (HL.out.below HBw.out) (by rw [HNL.out]; omega)
            obtain ⟨Ai, ci, z0, hsi, hli, hci⟩ := hcp i (by rw [HNL.out]; exact hil)
            obtain ⟨bf, of, rfl, hbf, hcf⟩ := (HW.out.below HB.out) (by rw [HNf.out]; omega)
            obtain ⟨y0, y1⟩ := hcf i (by rw [HNf.out]; exact hil)
            have hCk := Lib.hid (fun W (h : Below wr.heap.size wr W) => rCheckPrime_any Ai (Ls.getD i []) ci (l.getD i (0, 0)).1 W (hsi.below h) hli hci (HI.out i (by rw [HNL.out]; exact hil)))
            obtain ⟨p, hp⟩ : ∃ p, (l.getD i (0, 0)).1 = p := ⟨_, rfl⟩
            obtain ⟨ex, hex⟩ : ∃ ex, (l.getD i (0, 0)).2 = ex := ⟨_, rfl⟩
            obtain ⟨fp, hfp⟩ : ∃ p, (WL.getD i (0, 0)).1 = p := ⟨_, rfl⟩
            obtain ⟨fe, hfe⟩ : ∃ ex, (WL.getD i (0, 0)).2 = ex := ⟨_, rfl⟩
            have HPe := Lib.hid (show l.getD i (0, 0) = (p, ex) from Prod.ext hp hex)
            have HFe := Lib.hid (show WL.getD i (0, 0) = (fp, fe) from Prod.ext hfp hfe)
            rw [hp] at x0 hCk; rw [hex] at x1; rw [hfp] at y0; rw [hfe] at y1
            obtain ⟨lp, hlp⟩ : ∃ lp, (Ls.getD i []).length = lp := ⟨_, rfl⟩
            rw [hlp] at z0 hli hCk
            unfold maxLen at hci
            clear hp hex hfp hfe hcl hcp hcf hlp hsi hil2
            have hi8 : (0 : Int) ≤ (i : Int) := by omega
            have hi9 : (i : Int) < (nL : Int) := by omega
            go_upto_region 10 with fail
            by_cases heq : p = fp ∧ ex = fe
            · obtain ⟨rfl, rfl⟩ := heq
              have hop := eqP2 p ex p ex
              rw [show (p == p && ex == ex) = true by simp] at hop
              have MK := Lib.hid (fun w' (h : Below wr.heap.size wr w') => (show Below wr.heap.size wr w' ∧ w'.cell? ⟨bl, ol + i * 2, none⟩ = some (.int .i64 p) ∧ w'.cell? ⟨bl, ol + i * 2 + 1, none⟩ = some (.int .i64 ex) ∧ w'.cell? ⟨bf, of + i * 2, none⟩ = some (.int .i64 p) ∧ w'.cell? ⟨bf, of + i * 2 + 1, none⟩ = some (.int .i64 ex) ∧ w'.cell? ⟨bp, op + i, none⟩ = some (.slice Ai lp ci) from
                ⟨h, (h.cell (p := ⟨bl, ol + i * 2, none⟩) hbl).trans x0, (h.cell (p := ⟨bl, ol + i * 2 + 1, none⟩) hbl).trans x1, (h.cell (p := ⟨bf, of + i * 2, none⟩) hbf).trans y0, (h.cell (p := ⟨bf, of + i * 2 + 1, none⟩) hbf).trans y1, (h.cell (p := ⟨bp, op + i, none⟩) hbp).trans z0⟩))
              have HG := Lib.hid (MK.out _ (Below.refl _ _).drew)
              go_region_held3 (fun w' => Below wr.heap.size wr w' ∧ w'.cell? ⟨bl, ol + i * 2, none⟩ = some (.int .i64 p) ∧ w'.cell? ⟨bl, ol + i * 2 + 1, none⟩ = some (.int .i64 ex) ∧ w'.cell? ⟨bf, of + i * 2, none⟩ = some (.int .i64 p) ∧ w'.cell? ⟨bf, of + i * 2 + 1, none⟩ = some (.int .i64 ex) ∧ w'.cell? ⟨bp, op + i, none⟩ = some (.slice Ai lp ci))
                (first
                  | assumption
                  | exact HG.out
                  | exact MK.out _ ((And.left (by assumption) : Below wr.heap.size wr _).trans (Below.mono (by assumption) (Below.size (And.left (by assumption))))))
                (first
                  | (go_at_call 25; (with_reducible refine (hCk.out _ (And.left (by assumption))).mono ?_); rintro e w2 ⟨E, rfl, hEi, b2⟩))
              all_goals
                have HBv := Lib.hid (And.left (by assumption) : Below wr.heap.size wr w2)
                have HEi := Lib.hid hEi
                have HB9 := Lib.hid (HB.out.trans (HBv.out.mono HB.out.size))
                clear hEi hop
                by_cases hE0 : E = 0
                · have dE : (E != 0) = false := by rw [hE0]; rfl
                  have HX := Lib.hid (show l.getD i (0, 0) = WL.getD i (0, 0) ∧ cfOk l Ls i from ⟨by rw [HPe.out, HFe.out], by unfold cfOk; rw [HPe.out]; exact hE0 ▸ HEi.out⟩)
                  clear hE0
                  go_wp2_with fail
                  exact ⟨⟨i + 1, by first | rfl | go_num, by omega, (fun j hj => by
                    rcases Nat.lt_or_ge j i with g | g
                    · exact HSt.out j g
                    · rw [show j = i by omega]; exact HX.out), HB9.out⟩, by simp [intOf]; omega⟩
                · have dE : (E != 0) = true := bne_iff_ne.2 hE0
                  have HX := Lib.hid (show ¬ CfGood n l Ls from fun h => by
                    have h2 := h.2.2 i (by rw [HN.out]; exact hil)
                    rw [HPe.out] at h2
                    exact hE0 (HEi.out.unique h2))
                  clear hE0
                  go_wp2_with fail
                  go_ret
                  exact ⟨18, rfl, .inr (.inr ⟨HMb.out, HX.out, rfl⟩), HBw.out.trans (HBv.out.mono HBw.out.size)⟩
            · have hx : (p == fp && ex == fe) = false := by
                cases h1 : (p == fp && ex == fe)
                · rfl
                · rw [Bool.and_eq_true, beq_iff_eq, beq_iff_eq] at h1; exact absurd h1 heq
              have hop := eqP2 p ex fp fe
              rw [hx] at hop
              have HX := Lib.hid (show ¬ CfGood n l Ls from fun h => heq (by
                have := h.1
                rw [HWL.out] at this
                have h2 := HPe.out
                rw [this, HFe.out] at h2
                injection h2 with h2 h3
                exact ⟨h2.symm, h3.symm⟩))
              clear heq hx hCk
              go_big_quiet (fail)
              go_wp2_with fail
              go_ret
              exact ⟨18, rfl, .inr (.inr ⟨HMb.out, HX.out, rfl⟩), below_drewN HBw.out _⟩
          · have hie : i = nL := by omega
            have HX := Lib.hid (show CfGood n l Ls from ⟨by
              have h1 : l.length = (castP (facs n)).length := by rw [HN.out, HWL.out, HNf.out]
              refine cf_ext h1 fun j hj => ?_
              rw [HWL.out]
              exact (HSt.out j (by rw [HN.out] at hj; omega)).1, by rw [HN.out, HNL.out], fun j hj => (HSt.out j (by rw [HN.out] at hj; omega)).2⟩)
            clear hie
            go_wp2_with fail
            go_ret
            exact ⟨0, rfl, .inr (.inl ⟨HMb.out, HX.out, rfl⟩), HBw.out⟩
      · have HX := Lib.hid (show ¬ CfGood n l Ls from fun h => hne (by rw [← HNL.out, ← HN.out]; exact h.2.1))
        have d1 := ip_bne' (nl : Int)
        have d2 : ((nL : Int) != (nl : Int)) = true := bne_iff_ne.2 (by omega)
        subst hlf
        clear hne
        go_wp2_with fail
        go_ret
        exact ⟨18, rfl, .inr (.inr ⟨HMb.out, HX.out, rfl⟩), HB1.out⟩
    · have HX := Lib.hid (show ¬ CfGood n l Ls from fun h => hlf (by rw [← HN.out, ← HNf.out, h.1]))
      have d1 : ((nl : Int) != (nf : Int)) = true := bne_iff_ne.2 (by omega)
      clear hlf
      go_wp2_with fail
      go_ret
      exact ⟨18, rfl, .inr (.inr ⟨HMb.out, HX.out, rfl⟩), HB1.out⟩
end Go.Proofs.Ytfjmhfmhijhpkaa
