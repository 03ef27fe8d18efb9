/- The pure elements of the reference's search. -/
import Derived.Test.YtfjmhfmhijhpkaaGreatDoorIs0
namespace Go.Proofs.YtfjmhfmhijhpkaaGreatDoor
open Go.RowKit FF


set_option maxHeartbeats 40000000 in
set_option maxRecDepth 100000 in
theorem rPure_any (c d n : Int) (w : World) (hc : aE c d = 0) (hn : -1000 ≤ n ∧ n ≤ 1000) :
    Calls Tryz.prog 44 #[.agg #[.int .i64 c, .int .i64 d], .int .i64 n] w (PurePost w (pick (rtB c d n) 9826)) := by
  have HSq := Lib.hid (fun w ix iy iz e (hq : qB ⟨0, ix, iy, iz, e⟩ = true) => rSquare_any c d n 0 ix iy iz e w hq hc hn)
  have HNo := Lib.hid (fun w ix iy iz e (hq : qB ⟨0, ix, iy, iz, e⟩ = true) (he : (⟨0, ix, iy, iz, e⟩ : Qt).d ≠ 0) => rNormal_any ⟨0, ix, iy, iz, e⟩ w (fitBound_of hq) he)
  obtain ⟨i0, hi, hz0, hz1, hz2⟩ := info_parts info_quat
  have HI := Lib.hid hi; have HZ0 := Lib.hid hz0; have HZ1 := Lib.hid hz1; have HZ2 := Lib.hid hz2
  clear hi hz0 hz1 hz2 hc hn
  unfold PurePost
  have HPd := Lib.hid (show ∀ q, rtB c d n q = (decide (gq q = 1) && sqB c d n q) from fun _ => rfl)
  generalize rtB c d n = P at *
  go_enter Tryz.func44, Tryz.ntmps44
  go_wp2_with fail
  obtain ⟨W1, hW1⟩ : ∃ W1 : World, W1 = w.alloc (.cells #[.int .i64 c, .int .i64 d] 23) := ⟨_, rfl⟩
  rw [← hW1]
  have HC := Lib.hid (show Cells W1 w.heap.size #[.int .i64 c, .int .i64 d] by rw [hW1]; exact Cells.new w _ _ rfl)
  have HB1 := Lib.hid (show Below w.heap.size w W1 by rw [hW1]; exact (Below.refl _ _).alloc (Nat.le_refl _) _)
  have HS1 := Lib.hid (show w.heap.size < W1.heap.size by rw [hW1]; simp)
  clear hW1
  go_loopw [5, 6] (fun s5 s6 wr => ∃ e : Int, s6 = .int .i64 e ∧ 1 ≤ e ∧ e ≤ 3 ∧ Got W1 29 5 s5 (pick P (idx e (-8) (-8) (-8))).length (qflat (pick P (idx e (-8) (-8) (-8)))) wr) (fun _ s6 _ => (3 - intOf s6).toNat)
  case atStart => exact ⟨1, rfl, by omega, by omega, Got.start (Below.refl _ _)⟩
  case round =>
    obtain ⟨e, rfl, e1, e2, hG⟩ := hrel
    have HG0 := Lib.hid hG
    obtain ⟨A5, c5, e5, hs5, hc5, hc6, hF5⟩ := hG.shows
    obtain rfl := e5
    have HS5 := Lib.hid hs5; have HC5 := Lib.hid (And.intro hc5 hc6)
    have HF5 := Lib.hid hF5; clear hs5 hc5 hc6 hG hF5
    by_cases he : e ≤ 2
    · skip
      obtain ⟨wo0, hwo⟩ : ∃ wo0 : World, wo0 = wr := ⟨_, rfl⟩; subst hwo
      go_wp2_with fail
      go_loopw [5, 7] (fun s5 s7 wr => ∃ ix : Int, s7 = .int .i64 ix ∧ -8 ≤ ix ∧ ix ≤ 9 ∧ Got W1 29 5 s5 (pick P (idx e ix (-8) (-8))).length (qflat (pick P (idx e ix (-8) (-8)))) wr) (fun _ s7 _ => (9 - intOf s7).toNat)
      case atStart => exact ⟨-8, rfl, by omega, by omega, HG0.out⟩
      case round =>
        obtain ⟨ix, rfl, ix1, ix2, hG⟩ := hrel
        have HG1 := Lib.hid hG
        obtain ⟨A5, c5, e5, hs5, hc5, hc6, hF5⟩ := hG.shows
        obtain rfl := e5
        have HS5 := Lib.hid hs5; have HC5 := Lib.hid (And.intro hc5 hc6)
        clear HG0
        have HF5 := Lib.hid hF5; clear hs5 hc5 hc6 hG hF5
        by_cases hix : ix ≤ 8
        · skip
          obtain ⟨wo1, hwo⟩ : ∃ wo1 : World, wo1 = wr := ⟨_, rfl⟩; subst hwo
          go_wp2_with fail
          go_loopw [5, 8] (fun s5 s8 wr => ∃ iy : Int, s8 = .int .i64 iy ∧ -8 ≤ iy ∧ iy ≤ 9 ∧ Got W1 29 5 s5 (pick P (idx e ix iy (-8))).length (qflat (pick P (idx e ix iy (-8)))) wr) (fun _ s8 _ => (9 - intOf s8).toNat)
          case atStart => exact ⟨-8, rfl, by omega, by omega, HG1.out⟩
          case round =>
            obtain ⟨iy, rfl, iy1, iy2, hG⟩ := hrel
            have HG2 := Lib.hid hG
            obtain ⟨A5, c5, e5, hs5, hc5, hc6, hF5⟩ := hG.shows
            obtain rfl := e5
            have HS5 := Lib.hid hs5; have HC5 := Lib.hid (And.intro hc5 hc6)
            clear HG1
            have HF5 := Lib.hid hF5; clear hs5 hc5 hc6 hG hF5
            by_cases hiy : iy ≤ 8
            · skip
              obtain ⟨wo2, hwo⟩ : ∃ wo2 : World, wo2 = wr := ⟨_, rfl⟩; subst hwo
              go_wp2_with fail
              go_loopw [5, 9] (fun s5 s9 wr => ∃ iz : Int, s9 = .int .i64 iz ∧ -8 ≤ iz ∧ iz ≤ 9 ∧ Got W1 29 5 s5 (pick P (idx e ix iy iz)).length (qflat (pick P (idx e ix iy iz))) wr) (fun _ s9 _ => (9 - intOf s9).toNat)
              case atStart => exact ⟨-8, rfl, by omega, by omega, HG2.out⟩
              case round =>
                obtain ⟨iz, rfl, iz1, iz2, hG⟩ := hrel
                have HG3 := Lib.hid hG
                obtain ⟨A5, c5, e5, hs5, hc5, hc6, hF5⟩ := hG.shows
                obtain rfl := e5
                have HS5 := Lib.hid hs5; have HC5 := Lib.hid (And.intro hc5 hc6)
                clear HG2
                have HF5 := Lib.hid hF5; clear hs5 hc5 hc6 hG hF5
                by_cases hiz : iz ≤ 8
                · skip
                  have hq : qB ⟨0, ix, iy, iz, e⟩ = true := qB_iff.2 ⟨by dsimp only; omega, by dsimp only; omega, by dsimp only; omega, by dsimp only; omega, by dsimp only; omega⟩
                  have HN := Lib.hid (fun w => HNo.out w ix iy iz e hq (by show e ≠ 0; omega))
                  have HS := Lib.hid (fun w => HSq.out w ix iy iz e hq)
                  have hqk := qk_idx (d := e) (x := ix) (y := iy) (z := iz) ⟨by omega, by omega⟩ ⟨by omega, by omega⟩ ⟨by omega, by omega⟩ ⟨by omega, by omega⟩
                  have hzi := idx_z (d := e) (x := ix) (y := iy) (z := iz) (by omega) (by omega) (by omega) (by omega)
                  have hgq := nrm_gq (q := ⟨0, ix, iy, iz, e⟩) (show 1 ≤ e by omega)
                  have hpd := HPd.out ⟨0, ix, iy, iz, e⟩
                  have hlen := pick_length P (idx e ix iy iz)
                  have hlt := idx_lt (d := e) (x := ix) (y := iy) (z := iz) ⟨by omega, by omega⟩ ⟨by omega, by omega⟩ ⟨by omega, by omega⟩ ⟨by omega, by omega⟩
                  have HY := Lib.hid (fun (h : P ⟨0, ix, iy, iz, e⟩ = true) => pick_yes hqk h)
                  have HNn := Lib.hid (fun (h : P ⟨0, ix, iy, iz, e⟩ = false) => pick_no hqk h)
                  rw [← hzi] at HY HNn
                  clear hq hqk hzi HPd HSq HNo
                  generalize P ⟨0, ix, iy, iz, e⟩ = F at *
                  generalize sqB c d n ⟨0, ix, iy, iz, e⟩ = S at *
                  have HM : ∃ m0 m1 m2 m3 m4 : Int, nrm ⟨0, ix, iy, iz, e⟩ = ⟨m0, m1, m2, m3, m4⟩ := ⟨_, _, _, _, _, rfl⟩
                  obtain ⟨m0, m1, m2, m3, m4, hM⟩ := HM
                  rw [hM, Qt.mk.injEq] at hgq
                  rw [hM] at HN
                  simp only [qv] at HN
                  have HD := Lib.hid (And.intro hgq hpd); clear hgq hpd hM
                  go_upto_region 15 with fail
                  obtain ⟨V, hV⟩ : ∃ V : World, V = wr.alloc (.cells #[.int .i64 0, .int .i64 ix, .int .i64 iy, .int .i64 iz, .int .i64 e] 29) := ⟨_, rfl⟩
                  rw [← hV]
                  have HV := Lib.hid (show Bx w [(wr.heap.size, #[.int .i64 0, .int .i64 ix, .int .i64 iy, .int .i64 iz, .int .i64 e]), (w.heap.size, #[.int .i64 c, .int .i64 d])] V from hV ▸ (((Bx.nil HB1.out).cons (Nat.le_refl _) HC.out).keep HG3.out.below).new _ _)
                  have HGV := Lib.hid (show Got W1 29 5 (.slice A5 (pick P (idx e ix iy iz)).length c5) (pick P (idx e ix iy iz)).length (qflat (pick P (idx e ix iy iz))) V from hV ▸ HG3.out.alloc _)
                  clear hV HG3 HS5 HC5 HF5
                  generalize wr.heap.size = g at *
                  cases hE : (m0 == 0 && (m1 == ix && (m2 == iy && (m3 == iz && m4 == e))))
                  · have HF := Lib.hid (show F = false by
                      have h1 := HD.out.1; have h2 := HD.out.2
                      rw [h2, decide_eq_false (fun hg => ?_)]; rfl
                      obtain ⟨a0, a1, a2, a3, a4⟩ := h1.2 hg
                      simp [a0, a1, a2, a3, a4] at hE)
                    have hEq : ∀ w, Sem.run Tryz.prog (Op.equalIn 10000 29 (.agg #[.int .i64 m0, .int .i64 m1, .int .i64 m2, .int .i64 m3, .int .i64 m4]) (.agg #[.int .i64 0, .int .i64 ix, .int .i64 iy, .int .i64 iz, .int .i64 e])) w = .ok false w := fun w => by rw [eq5q, hE]
                    clear HD
                    refine wp_region_inv (V.heap.size) [(0, 32, .agg #[.int .i64 0, .int .i64 ix, .int .i64 iy, .int .i64 iz, .int .i64 e]), (1, 33, .agg #[.int .i64 m0, .int .i64 m1, .int .i64 m2, .int .i64 m3, .int .i64 m4]), (2, 34, .agg #[.int .i64 0, .int .i64 ix, .int .i64 iy, .int .i64 iz, .int .i64 e]), (3, 35, .bool false), (4, 36, .bool false), (5, 37, undef), (6, 38, undef), (7, 39, undef), (8, 40, undef), (9, 41, .bool false)] [] [⟨g, 999, #[.int .i64 0, .int .i64 ix, .int .i64 iy, .int .i64 iz, .int .i64 e], #[.int .i64 0, .int .i64 ix, .int .i64 iy, .int .i64 iz, .int .i64 e]⟩, ⟨w.heap.size, 999, #[.int .i64 c, .int .i64 d], #[.int .i64 c, .int .i64 d]⟩] [32, 33, 34, 35, 36, 37, 38, 39, 40, 41] ?_ (by kernel_rfl) (by kernel_rfl) (by kernel_rfl) ?_ (forall_ops ⟨?_, ?_, ?_, ?_, ?_, ?_, ?_, ?_, ?_, ?_, trivial⟩) ?_
                    · exact Nat.le_refl _
                    · intro c hc
                      simp only [List.mem_cons, List.not_mem_nil, or_false] at hc
                      rcases hc with rfl | rfl
                      · exact ⟨(HV.out.own _ (List.mem_cons_self ..)).2, .inr rfl⟩
                      · exact ⟨(HV.out.own _ (List.mem_cons_of_mem _ (List.mem_cons_self ..))).2, .inr rfl⟩
                    · refine .inl ⟨.inl rfl, .inl ⟨.agg #[.int .i64 0, .int .i64 ix, .int .i64 iy, .int .i64 iz, .int .i64 e], val_only (d := 32) (by kernel_rfl), by simp, by simp, fun y W hB hO hV K Q' hK => ?_⟩⟩
                      have hc : Cells W (g) #[.int .i64 0, .int .i64 ix, .int .i64 iy, .int .i64 iz, .int .i64 e] := hO _ (List.mem_cons_self ..) rfl
                      have kk := hc.five
                      have k0 := kk.1
                      have k1 := kk.2.1
                      have k2 := kk.2.2.1
                      have k3 := kk.2.2.2.1
                      have k4 := kk.2.2.2.2
                      clear kk
                      simp only [fr, putAll, List.foldl_cons, List.foldl_nil, List.setIfInBounds_toArray, List.set_cons_zero, List.set_cons_succ] at hK ⊢
                      go_simp
                      exact hK W (Below.refl _ _)
                    · refine .inl ⟨.inl rfl, .inl ⟨.agg #[.int .i64 m0, .int .i64 m1, .int .i64 m2, .int .i64 m3, .int .i64 m4], val_only (d := 33) (by kernel_rfl), by simp, by simp, fun y W hB hO hV K Q' hK => ?_⟩⟩
                      have y32 : y 32 = .agg #[.int .i64 0, .int .i64 ix, .int .i64 iy, .int .i64 iz, .int .i64 e] := hV (0, 32, .agg #[.int .i64 0, .int .i64 ix, .int .i64 iy, .int .i64 iz, .int .i64 e]) (val_get (by kernel_rfl)) (by kernel_rfl)
                      simp only [fr, putAll, List.foldl_cons, List.foldl_nil, List.setIfInBounds_toArray, List.set_cons_zero, List.set_cons_succ] at hK ⊢
                      simp only [y32] at hK ⊢
                      go_simp
                      refine (HN.out _).mono ?_
                      intro e w' h
                      rw [h.1]
                      exact hK w' h.2
                    · refine .inl ⟨.inl rfl, .inl ⟨.agg #[.int .i64 0, .int .i64 ix, .int .i64 iy, .int .i64 iz, .int .i64 e], val_only (d := 34) (by kernel_rfl), by simp, by simp, fun y W hB hO hV K Q' hK => ?_⟩⟩
                      have hc : Cells W (g) #[.int .i64 0, .int .i64 ix, .int .i64 iy, .int .i64 iz, .int .i64 e] := hO _ (List.mem_cons_self ..) rfl
                      have kk := hc.five
                      have k0 := kk.1
                      have k1 := kk.2.1
                      have k2 := kk.2.2.1
                      have k3 := kk.2.2.2.1
                      have k4 := kk.2.2.2.2
                      clear kk
                      simp only [fr, putAll, List.foldl_cons, List.foldl_nil, List.setIfInBounds_toArray, List.set_cons_zero, List.set_cons_succ] at hK ⊢
                      go_simp
                      exact hK W (Below.refl _ _)
                    · refine .inl ⟨.inl rfl, .inl ⟨.bool false, val_only (d := 35) (by kernel_rfl), by simp, by simp, fun y W hB hO hV K Q' hK => ?_⟩⟩
                      have y33 : y 33 = .agg #[.int .i64 m0, .int .i64 m1, .int .i64 m2, .int .i64 m3, .int .i64 m4] := hV (1, 33, .agg #[.int .i64 m0, .int .i64 m1, .int .i64 m2, .int .i64 m3, .int .i64 m4]) (val_get (by kernel_rfl)) (by kernel_rfl)
                      have y34 : y 34 = .agg #[.int .i64 0, .int .i64 ix, .int .i64 iy, .int .i64 iz, .int .i64 e] := hV (2, 34, .agg #[.int .i64 0, .int .i64 ix, .int .i64 iy, .int .i64 iz, .int .i64 e]) (val_get (by kernel_rfl)) (by kernel_rfl)
                      simp only [fr, putAll, List.foldl_cons, List.foldl_nil, List.setIfInBounds_toArray, List.set_cons_zero, List.set_cons_succ] at hK ⊢
                      simp only [y33, y34] at hK ⊢
                      go_simp
                      exact hK W (Below.refl _ _)
                    · refine .inl ⟨.inl rfl, .inl ⟨.bool false, val_only (d := 36) (by kernel_rfl), by simp, by simp, fun y W hB hO hV K Q' hK => ?_⟩⟩
                      have y35 : y 35 = .bool false := hV (3, 35, .bool false) (val_get (by kernel_rfl)) (by kernel_rfl)
                      simp only [fr, putAll, List.foldl_cons, List.foldl_nil, List.setIfInBounds_toArray, List.set_cons_zero, List.set_cons_succ] at hK ⊢
                      simp only [y35] at hK ⊢
                      go_simp
                      exact hK W (Below.refl _ _)
                    · exact .inr ⟨⟨4, false, rfl, by kernel_rfl, (4, 36, .bool false), val_get (by kernel_rfl), rfl, rfl⟩, val_only (d := 37) (by kernel_rfl), by simp, by simp⟩
                    · exact .inr ⟨⟨4, false, rfl, by kernel_rfl, (4, 36, .bool false), val_get (by kernel_rfl), rfl, rfl⟩, val_only (d := 38) (by kernel_rfl), by simp, by simp⟩
                    · exact .inr ⟨⟨4, false, rfl, by kernel_rfl, (4, 36, .bool false), val_get (by kernel_rfl), rfl, rfl⟩, val_only (d := 39) (by kernel_rfl), by simp, by simp⟩
                    · exact .inr ⟨⟨4, false, rfl, by kernel_rfl, (4, 36, .bool false), val_get (by kernel_rfl), rfl, rfl⟩, val_only (d := 40) (by kernel_rfl), by simp, by simp⟩
                    · refine .inl ⟨.inl rfl, .inl ⟨.bool false, val_only (d := 41) (by kernel_rfl), by simp, by simp, fun y W hB hO hV K Q' hK => ?_⟩⟩
                      have y36 : y 36 = .bool false := hV (4, 36, .bool false) (val_get (by kernel_rfl)) (by kernel_rfl)
                      have y40 : y 40 = undef := hV (8, 40, undef) (val_get (by kernel_rfl)) (by kernel_rfl)
                      simp only [fr, putAll, List.foldl_cons, List.foldl_nil, List.setIfInBounds_toArray, List.set_cons_zero, List.set_cons_succ] at hK ⊢
                      simp only [y36, y40] at hK ⊢
                      go_simp
                      exact hK W (Below.refl _ _)
                    intro y W4 hB hO hV hX hA
                    have y32 : y 32 = .agg #[.int .i64 0, .int .i64 ix, .int .i64 iy, .int .i64 iz, .int .i64 e] := hV (0, 32, .agg #[.int .i64 0, .int .i64 ix, .int .i64 iy, .int .i64 iz, .int .i64 e]) (val_get (by kernel_rfl))
                    have y33 : y 33 = .agg #[.int .i64 m0, .int .i64 m1, .int .i64 m2, .int .i64 m3, .int .i64 m4] := hV (1, 33, .agg #[.int .i64 m0, .int .i64 m1, .int .i64 m2, .int .i64 m3, .int .i64 m4]) (val_get (by kernel_rfl))
                    have y34 : y 34 = .agg #[.int .i64 0, .int .i64 ix, .int .i64 iy, .int .i64 iz, .int .i64 e] := hV (2, 34, .agg #[.int .i64 0, .int .i64 ix, .int .i64 iy, .int .i64 iz, .int .i64 e]) (val_get (by kernel_rfl))
                    have y35 : y 35 = .bool false := hV (3, 35, .bool false) (val_get (by kernel_rfl))
                    have y36 : y 36 = .bool false := hV (4, 36, .bool false) (val_get (by kernel_rfl))
                    have y37 : y 37 = undef := hV (5, 37, undef) (val_get (by kernel_rfl))
                    have y38 : y 38 = undef := hV (6, 38, undef) (val_get (by kernel_rfl))
                    have y39 : y 39 = undef := hV (7, 39, undef) (val_get (by kernel_rfl))
                    have y40 : y 40 = undef := hV (8, 40, undef) (val_get (by kernel_rfl))
                    have y41 : y 41 = .bool false := hV (9, 41, .bool false) (val_get (by kernel_rfl))
                    have ho0 := hO _ (List.mem_cons_self ..)
                    have ho1 := hO _ (List.mem_cons_of_mem _ (List.mem_cons_self ..))
                    dsimp only at ho0 ho1
                    have HB4 := Lib.hid (show Bx w [(g, #[.int .i64 0, .int .i64 ix, .int .i64 iy, .int .i64 iz, .int .i64 e]), (w.heap.size, #[.int .i64 c, .int .i64 d])] W4 from (((Bx.nil (HV.out.below.trans (hB.mono HV.out.below.size))).cons (HV.out.own _ (List.mem_cons_of_mem _ (List.mem_cons_self ..))).1 ho1).cons (HV.out.own _ (List.mem_cons_self ..)).1 ho0))
                    simp only [fr, putAll, List.foldl_cons, List.foldl_nil, List.setIfInBounds_toArray, List.set_cons_zero, List.set_cons_succ]
                    simp only [y32, y33, y34, y35, y36, y37, y38, y39, y40, y41]
                    have hbv := hB
                    clear y32 y33 y34 y35 y36 y37 y38 y39 y40 y41  hB hO hV hX hA ho0 ho1
                    have HG4 := Lib.hid (HGV.out.keep hbv)
                    clear hbv HGV HV HN HS hEq
                    have HZ := Lib.hid (HNn.out HF.out)
                    clear HY HNn HF hE
                    go_wp2_with fail
                    exact ⟨⟨iz + 1, by go_num, by omega, by omega, by rw [HZ.out]; exact HG4.out⟩, by simp [intOf]; omega⟩
                  have HFS := Lib.hid (show F = S by
                    have h1 := HD.out.1; have h2 := HD.out.2
                    simp only [Bool.and_eq_true, beq_iff_eq] at hE
                    rw [h2, decide_eq_true (h1.1 hE)]; rfl)
                  cases S
                  · have HF := Lib.hid HFS.out
                    have hEq : ∀ w, Sem.run Tryz.prog (Op.equalIn 10000 29 (.agg #[.int .i64 m0, .int .i64 m1, .int .i64 m2, .int .i64 m3, .int .i64 m4]) (.agg #[.int .i64 0, .int .i64 ix, .int .i64 iy, .int .i64 iz, .int .i64 e])) w = .ok true w := fun w => by rw [eq5q, hE]
                    clear HD
                    refine wp_region_inv (V.heap.size) [(0, 32, .agg #[.int .i64 0, .int .i64 ix, .int .i64 iy, .int .i64 iz, .int .i64 e]), (1, 33, .agg #[.int .i64 m0, .int .i64 m1, .int .i64 m2, .int .i64 m3, .int .i64 m4]), (2, 34, .agg #[.int .i64 0, .int .i64 ix, .int .i64 iy, .int .i64 iz, .int .i64 e]), (3, 35, .bool true), (4, 36, .bool true), (5, 37, .agg #[.int .i64 c, .int .i64 d]), (6, 38, .agg #[.int .i64 0, .int .i64 ix, .int .i64 iy, .int .i64 iz, .int .i64 e]), (7, 39, .int .i64 n), (8, 40, .bool false), (9, 41, .bool false)] [] [⟨g, 999, #[.int .i64 0, .int .i64 ix, .int .i64 iy, .int .i64 iz, .int .i64 e], #[.int .i64 0, .int .i64 ix, .int .i64 iy, .int .i64 iz, .int .i64 e]⟩, ⟨w.heap.size, 999, #[.int .i64 c, .int .i64 d], #[.int .i64 c, .int .i64 d]⟩] [32, 33, 34, 35, 36, 37, 38, 39, 40, 41] ?_ (by kernel_rfl) (by kernel_rfl) (by kernel_rfl) ?_ (forall_ops ⟨?_, ?_, ?_, ?_, ?_, ?_, ?_, ?_, ?_, ?_, trivial⟩) ?_
                    · exact Nat.le_refl _
                    · intro c hc
                      simp only [List.mem_cons, List.not_mem_nil, or_false] at hc
                      rcases hc with rfl | rfl
                      · exact ⟨(HV.out.own _ (List.mem_cons_self ..)).2, .inr rfl⟩
                      · exact ⟨(HV.out.own _ (List.mem_cons_of_mem _ (List.mem_cons_self ..))).2, .inr rfl⟩
                    · refine .inl ⟨.inl rfl, .inl ⟨.agg #[.int .i64 0, .int .i64 ix, .int .i64 iy, .int .i64 iz, .int .i64 e], val_only (d := 32) (by kernel_rfl), by simp, by simp, fun y W hB hO hV K Q' hK => ?_⟩⟩
                      have hc : Cells W (g) #[.int .i64 0, .int .i64 ix, .int .i64 iy, .int .i64 iz, .int .i64 e] := hO _ (List.mem_cons_self ..) rfl
                      have kk := hc.five
                      have k0 := kk.1
                      have k1 := kk.2.1
                      have k2 := kk.2.2.1
                      have k3 := kk.2.2.2.1
                      have k4 := kk.2.2.2.2
                      clear kk
                      simp only [fr, putAll, List.foldl_cons, List.foldl_nil, List.setIfInBounds_toArray, List.set_cons_zero, List.set_cons_succ] at hK ⊢
                      go_simp
                      exact hK W (Below.refl _ _)
                    · refine .inl ⟨.inl rfl, .inl ⟨.agg #[.int .i64 m0, .int .i64 m1, .int .i64 m2, .int .i64 m3, .int .i64 m4], val_only (d := 33) (by kernel_rfl), by simp, by simp, fun y W hB hO hV K Q' hK => ?_⟩⟩
                      have y32 : y 32 = .agg #[.int .i64 0, .int .i64 ix, .int .i64 iy, .int .i64 iz, .int .i64 e] := hV (0, 32, .agg #[.int .i64 0, .int .i64 ix, .int .i64 iy, .int .i64 iz, .int .i64 e]) (val_get (by kernel_rfl)) (by kernel_rfl)
                      simp only [fr, putAll, List.foldl_cons, List.foldl_nil, List.setIfInBounds_toArray, List.set_cons_zero, List.set_cons_succ] at hK ⊢
                      simp only [y32] at hK ⊢
                      go_simp
                      refine (HN.out _).mono ?_
                      intro e w' h
                      rw [h.1]
                      exact hK w' h.2
                    · refine .inl ⟨.inl rfl, .inl ⟨.agg #[.int .i64 0, .int .i64 ix, .int .i64 iy, .int .i64 iz, .int .i64 e], val_only (d := 34) (by kernel_rfl), by simp, by simp, fun y W hB hO hV K Q' hK => ?_⟩⟩
                      have hc : Cells W (g) #[.int .i64 0, .int .i64 ix, .int .i64 iy, .int .i64 iz, .int .i64 e] := hO _ (List.mem_cons_self ..) rfl
                      have kk := hc.five
                      have k0 := kk.1
                      have k1 := kk.2.1
                      have k2 := kk.2.2.1
                      have k3 := kk.2.2.2.1
                      have k4 := kk.2.2.2.2
                      clear kk
                      simp only [fr, putAll, List.foldl_cons, List.foldl_nil, List.setIfInBounds_toArray, List.set_cons_zero, List.set_cons_succ] at hK ⊢
                      go_simp
                      exact hK W (Below.refl _ _)
                    · refine .inl ⟨.inl rfl, .inl ⟨.bool true, val_only (d := 35) (by kernel_rfl), by simp, by simp, fun y W hB hO hV K Q' hK => ?_⟩⟩
                      have y33 : y 33 = .agg #[.int .i64 m0, .int .i64 m1, .int .i64 m2, .int .i64 m3, .int .i64 m4] := hV (1, 33, .agg #[.int .i64 m0, .int .i64 m1, .int .i64 m2, .int .i64 m3, .int .i64 m4]) (val_get (by kernel_rfl)) (by kernel_rfl)
                      have y34 : y 34 = .agg #[.int .i64 0, .int .i64 ix, .int .i64 iy, .int .i64 iz, .int .i64 e] := hV (2, 34, .agg #[.int .i64 0, .int .i64 ix, .int .i64 iy, .int .i64 iz, .int .i64 e]) (val_get (by kernel_rfl)) (by kernel_rfl)
                      simp only [fr, putAll, List.foldl_cons, List.foldl_nil, List.setIfInBounds_toArray, List.set_cons_zero, List.set_cons_succ] at hK ⊢
                      simp only [y33, y34] at hK ⊢
                      go_simp
                      exact hK W (Below.refl _ _)
                    · refine .inl ⟨.inl rfl, .inl ⟨.bool true, val_only (d := 36) (by kernel_rfl), by simp, by simp, fun y W hB hO hV K Q' hK => ?_⟩⟩
                      have y35 : y 35 = .bool true := hV (3, 35, .bool true) (val_get (by kernel_rfl)) (by kernel_rfl)
                      simp only [fr, putAll, List.foldl_cons, List.foldl_nil, List.setIfInBounds_toArray, List.set_cons_zero, List.set_cons_succ] at hK ⊢
                      simp only [y35] at hK ⊢
                      go_simp
                      exact hK W (Below.refl _ _)
                    · refine .inl ⟨.inr ⟨4, true, rfl, by kernel_rfl, (4, 36, .bool true), val_get (by kernel_rfl), rfl, rfl⟩, .inl ⟨.agg #[.int .i64 c, .int .i64 d], val_only (d := 37) (by kernel_rfl), by simp, by simp, fun y W hB hO hV K Q' hK => ?_⟩⟩
                      have hc : Cells W (w.heap.size) #[.int .i64 c, .int .i64 d] := hO _ (List.mem_cons_of_mem _ (List.mem_cons_self ..)) rfl
                      have kk := hc.two
                      have k0 := kk.1
                      have k1 := kk.2
                      clear kk
                      simp only [fr, putAll, List.foldl_cons, List.foldl_nil, List.setIfInBounds_toArray, List.set_cons_zero, List.set_cons_succ] at hK ⊢
                      go_simp
                      exact hK W (Below.refl _ _)
                    · refine .inl ⟨.inr ⟨4, true, rfl, by kernel_rfl, (4, 36, .bool true), val_get (by kernel_rfl), rfl, rfl⟩, .inl ⟨.agg #[.int .i64 0, .int .i64 ix, .int .i64 iy, .int .i64 iz, .int .i64 e], val_only (d := 38) (by kernel_rfl), by simp, by simp, fun y W hB hO hV K Q' hK => ?_⟩⟩
                      have hc : Cells W (g) #[.int .i64 0, .int .i64 ix, .int .i64 iy, .int .i64 iz, .int .i64 e] := hO _ (List.mem_cons_self ..) rfl
                      have kk := hc.five
                      have k0 := kk.1
                      have k1 := kk.2.1
                      have k2 := kk.2.2.1
                      have k3 := kk.2.2.2.1
                      have k4 := kk.2.2.2.2
                      clear kk
                      simp only [fr, putAll, List.foldl_cons, List.foldl_nil, List.setIfInBounds_toArray, List.set_cons_zero, List.set_cons_succ] at hK ⊢
                      go_simp
                      exact hK W (Below.refl _ _)
                    · refine .inl ⟨.inr ⟨4, true, rfl, by kernel_rfl, (4, 36, .bool true), val_get (by kernel_rfl), rfl, rfl⟩, .inl ⟨.int .i64 n, val_only (d := 39) (by kernel_rfl), by simp, by simp, fun y W hB hO hV K Q' hK => ?_⟩⟩
                      simp only [fr, putAll, List.foldl_cons, List.foldl_nil, List.setIfInBounds_toArray, List.set_cons_zero, List.set_cons_succ] at hK ⊢
                      go_simp
                      exact hK W (Below.refl _ _)
                    · refine .inl ⟨.inr ⟨4, true, rfl, by kernel_rfl, (4, 36, .bool true), val_get (by kernel_rfl), rfl, rfl⟩, .inl ⟨.bool false, val_only (d := 40) (by kernel_rfl), by simp, by simp, fun y W hB hO hV K Q' hK => ?_⟩⟩
                      have y37 : y 37 = .agg #[.int .i64 c, .int .i64 d] := hV (5, 37, .agg #[.int .i64 c, .int .i64 d]) (val_get (by kernel_rfl)) (by kernel_rfl)
                      have y38 : y 38 = .agg #[.int .i64 0, .int .i64 ix, .int .i64 iy, .int .i64 iz, .int .i64 e] := hV (6, 38, .agg #[.int .i64 0, .int .i64 ix, .int .i64 iy, .int .i64 iz, .int .i64 e]) (val_get (by kernel_rfl)) (by kernel_rfl)
                      have y39 : y 39 = .int .i64 n := hV (7, 39, .int .i64 n) (val_get (by kernel_rfl)) (by kernel_rfl)
                      simp only [fr, putAll, List.foldl_cons, List.foldl_nil, List.setIfInBounds_toArray, List.set_cons_zero, List.set_cons_succ] at hK ⊢
                      simp only [y37, y38, y39] at hK ⊢
                      go_simp
                      refine (HS.out _).mono ?_
                      intro e w' h
                      rw [h.1]
                      exact hK w' h.2
                    · refine .inl ⟨.inl rfl, .inl ⟨.bool false, val_only (d := 41) (by kernel_rfl), by simp, by simp, fun y W hB hO hV K Q' hK => ?_⟩⟩
                      have y36 : y 36 = .bool true := hV (4, 36, .bool true) (val_get (by kernel_rfl)) (by kernel_rfl)
                      have y40 : y 40 = .bool false := hV (8, 40, .bool false) (val_get (by kernel_rfl)) (by kernel_rfl)
                      simp only [fr, putAll, List.foldl_cons, List.foldl_nil, List.setIfInBounds_toArray, List.set_cons_zero, List.set_cons_succ] at hK ⊢
                      simp only [y36, y40] at hK ⊢
                      go_simp
                      exact hK W (Below.refl _ _)
                    intro y W4 hB hO hV hX hA
                    have y32 : y 32 = .agg #[.int .i64 0, .int .i64 ix, .int .i64 iy, .int .i64 iz, .int .i64 e] := hV (0, 32, .agg #[.int .i64 0, .int .i64 ix, .int .i64 iy, .int .i64 iz, .int .i64 e]) (val_get (by kernel_rfl))
                    have y33 : y 33 = .agg #[.int .i64 m0, .int .i64 m1, .int .i64 m2, .int .i64 m3, .int .i64 m4] := hV (1, 33, .agg #[.int .i64 m0, .int .i64 m1, .int .i64 m2, .int .i64 m3, .int .i64 m4]) (val_get (by kernel_rfl))
                    have y34 : y 34 = .agg #[.int .i64 0, .int .i64 ix, .int .i64 iy, .int .i64 iz, .int .i64 e] := hV (2, 34, .agg #[.int .i64 0, .int .i64 ix, .int .i64 iy, .int .i64 iz, .int .i64 e]) (val_get (by kernel_rfl))
                    have y35 : y 35 = .bool true := hV (3, 35, .bool true) (val_get (by kernel_rfl))
                    have y36 : y 36 = .bool true := hV (4, 36, .bool true) (val_get (by kernel_rfl))
                    have y37 : y 37 = .agg #[.int .i64 c, .int .i64 d] := hV (5, 37, .agg #[.int .i64 c, .int .i64 d]) (val_get (by kernel_rfl))
                    have y38 : y 38 = .agg #[.int .i64 0, .int .i64 ix, .int .i64 iy, .int .i64 iz, .int .i64 e] := hV (6, 38, .agg #[.int .i64 0, .int .i64 ix, .int .i64 iy, .int .i64 iz, .int .i64 e]) (val_get (by kernel_rfl))
                    have y39 : y 39 = .int .i64 n := hV (7, 39, .int .i64 n) (val_get (by kernel_rfl))
                    have y40 : y 40 = .bool false := hV (8, 40, .bool false) (val_get (by kernel_rfl))
                    have y41 : y 41 = .bool false := hV (9, 41, .bool false) (val_get (by kernel_rfl))
                    have ho0 := hO _ (List.mem_cons_self ..)
                    have ho1 := hO _ (List.mem_cons_of_mem _ (List.mem_cons_self ..))
                    dsimp only at ho0 ho1
                    have HB4 := Lib.hid (show Bx w [(g, #[.int .i64 0, .int .i64 ix, .int .i64 iy, .int .i64 iz, .int .i64 e]), (w.heap.size, #[.int .i64 c, .int .i64 d])] W4 from (((Bx.nil (HV.out.below.trans (hB.mono HV.out.below.size))).cons (HV.out.own _ (List.mem_cons_of_mem _ (List.mem_cons_self ..))).1 ho1).cons (HV.out.own _ (List.mem_cons_self ..)).1 ho0))
                    simp only [fr, putAll, List.foldl_cons, List.foldl_nil, List.setIfInBounds_toArray, List.set_cons_zero, List.set_cons_succ]
                    simp only [y32, y33, y34, y35, y36, y37, y38, y39, y40, y41]
                    have hbv := hB
                    clear y32 y33 y34 y35 y36 y37 y38 y39 y40 y41  hB hO hV hX hA ho0 ho1
                    have HG4 := Lib.hid (HGV.out.keep hbv)
                    clear hbv HGV HV HN HS hEq
                    have HZ := Lib.hid (HNn.out HF.out)
                    clear HY HNn HF hE
                    go_wp2_with fail
                    exact ⟨⟨iz + 1, by go_num, by omega, by omega, by rw [HZ.out]; exact HG4.out⟩, by simp [intOf]; omega⟩
                  have HF := Lib.hid HFS.out
                  have hEq : ∀ w, Sem.run Tryz.prog (Op.equalIn 10000 29 (.agg #[.int .i64 m0, .int .i64 m1, .int .i64 m2, .int .i64 m3, .int .i64 m4]) (.agg #[.int .i64 0, .int .i64 ix, .int .i64 iy, .int .i64 iz, .int .i64 e])) w = .ok true w := fun w => by rw [eq5q, hE]
                  clear HD
                  refine wp_region_inv (V.heap.size) [(0, 32, .agg #[.int .i64 0, .int .i64 ix, .int .i64 iy, .int .i64 iz, .int .i64 e]), (1, 33, .agg #[.int .i64 m0, .int .i64 m1, .int .i64 m2, .int .i64 m3, .int .i64 m4]), (2, 34, .agg #[.int .i64 0, .int .i64 ix, .int .i64 iy, .int .i64 iz, .int .i64 e]), (3, 35, .bool true), (4, 36, .bool true), (5, 37, .agg #[.int .i64 c, .int .i64 d]), (6, 38, .agg #[.int .i64 0, .int .i64 ix, .int .i64 iy, .int .i64 iz, .int .i64 e]), (7, 39, .int .i64 n), (8, 40, .bool true), (9, 41, .bool true)] [] [⟨g, 999, #[.int .i64 0, .int .i64 ix, .int .i64 iy, .int .i64 iz, .int .i64 e], #[.int .i64 0, .int .i64 ix, .int .i64 iy, .int .i64 iz, .int .i64 e]⟩, ⟨w.heap.size, 999, #[.int .i64 c, .int .i64 d], #[.int .i64 c, .int .i64 d]⟩] [32, 33, 34, 35, 36, 37, 38, 39, 40, 41] ?_ (by kernel_rfl) (by kernel_rfl) (by kernel_rfl) ?_ (forall_ops ⟨?_, ?_, ?_, ?_, ?_, ?_, ?_, ?_, ?_, ?_, trivial⟩) ?_
                  · exact Nat.le_refl _
                  · intro c hc
                    simp only [List.mem_cons, List.not_mem_nil, or_false] at hc
                    rcases hc with rfl | rfl
                    · exact ⟨(HV.out.own _ (List.mem_cons_self ..)).2, .inr rfl⟩
                    · exact ⟨(HV.out.own _ (List.mem_cons_of_mem _ (List.mem_cons_self ..))).2, .inr rfl⟩
                  · refine .inl ⟨.inl rfl, .inl ⟨.agg #[.int .i64 0, .int .i64 ix, .int .i64 iy, .int .i64 iz, .int .i64 e], val_only (d := 32) (by kernel_rfl), by simp, by simp, fun y W hB hO hV K Q' hK => ?_⟩⟩
                    have hc : Cells W (g) #[.int .i64 0, .int .i64 ix, .int .i64 iy, .int .i64 iz, .int .i64 e] := hO _ (List.mem_cons_self ..) rfl
                    have kk := hc.five
                    have k0 := kk.1
                    have k1 := kk.2.1
                    have k2 := kk.2.2.1
                    have k3 := kk.2.2.2.1
                    have k4 := kk.2.2.2.2
                    clear kk
                    simp only [fr, putAll, List.foldl_cons, List.foldl_nil, List.setIfInBounds_toArray, List.set_cons_zero, List.set_cons_succ] at hK ⊢
                    go_simp
                    exact hK W (Below.refl _ _)
                  · refine .inl ⟨.inl rfl, .inl ⟨.agg #[.int .i64 m0, .int .i64 m1, .int .i64 m2, .int .i64 m3, .int .i64 m4], val_only (d := 33) (by kernel_rfl), by simp, by simp, fun y W hB hO hV K Q' hK => ?_⟩⟩
                    have y32 : y 32 = .agg #[.int .i64 0, .int .i64 ix, .int .i64 iy, .int .i64 iz, .int .i64 e] := hV (0, 32, .agg #[.int .i64 0, .int .i64 ix, .int .i64 iy, .int .i64 iz, .int .i64 e]) (val_get (by kernel_rfl)) (by kernel_rfl)
                    simp only [fr, putAll, List.foldl_cons, List.foldl_nil, List.setIfInBounds_toArray, List.set_cons_zero, List.set_cons_succ] at hK ⊢
                    simp only [y32] at hK ⊢
                    go_simp
                    refine (HN.out _).mono ?_
                    intro e w' h
                    rw [h.1]
                    exact hK w' h.2
                  · refine .inl ⟨.inl rfl, .inl ⟨.agg #[.int .i64 0, .int .i64 ix, .int .i64 iy, .int .i64 iz, .int .i64 e], val_only (d := 34) (by kernel_rfl), by simp, by simp, fun y W hB hO hV K Q' hK => ?_⟩⟩
                    have hc : Cells W (g) #[.int .i64 0, .int .i64 ix, .int .i64 iy, .int .i64 iz, .int .i64 e] := hO _ (List.mem_cons_self ..) rfl
                    have kk := hc.five
                    have k0 := kk.1
                    have k1 := kk.2.1
                    have k2 := kk.2.2.1
                    have k3 := kk.2.2.2.1
                    have k4 := kk.2.2.2.2
                    clear kk
                    simp only [fr, putAll, List.foldl_cons, List.foldl_nil, List.setIfInBounds_toArray, List.set_cons_zero, List.set_cons_succ] at hK ⊢
                    go_simp
                    exact hK W (Below.refl _ _)
                  · refine .inl ⟨.inl rfl, .inl ⟨.bool true, val_only (d := 35) (by kernel_rfl), by simp, by simp, fun y W hB hO hV K Q' hK => ?_⟩⟩
                    have y33 : y 33 = .agg #[.int .i64 m0, .int .i64 m1, .int .i64 m2, .int .i64 m3, .int .i64 m4] := hV (1, 33, .agg #[.int .i64 m0, .int .i64 m1, .int .i64 m2, .int .i64 m3, .int .i64 m4]) (val_get (by kernel_rfl)) (by kernel_rfl)
                    have y34 : y 34 = .agg #[.int .i64 0, .int .i64 ix, .int .i64 iy, .int .i64 iz, .int .i64 e] := hV (2, 34, .agg #[.int .i64 0, .int .i64 ix, .int .i64 iy, .int .i64 iz, .int .i64 e]) (val_get (by kernel_rfl)) (by kernel_rfl)
                    simp only [fr, putAll, List.foldl_cons, List.foldl_nil, List.setIfInBounds_toArray, List.set_cons_zero, List.set_cons_succ] at hK ⊢
                    simp only [y33, y34] at hK ⊢
                    go_simp
                    exact hK W (Below.refl _ _)
                  · refine .inl ⟨.inl rfl, .inl ⟨.bool true, val_only (d := 36) (by kernel_rfl), by simp, by simp, fun y W hB hO hV K Q' hK => ?_⟩⟩
                    have y35 : y 35 = .bool true := hV (3, 35, .bool true) (val_get (by kernel_rfl)) (by kernel_rfl)
                    simp only [fr, putAll, List.foldl_cons, List.foldl_nil, List.setIfInBounds_toArray, List.set_cons_zero, List.set_cons_succ] at hK ⊢
                    simp only [y35] at hK ⊢
                    go_simp
                    exact hK W (Below.refl _ _)
                  · refine .inl ⟨.inr ⟨4, true, rfl, by kernel_rfl, (4, 36, .bool true), val_get (by kernel_rfl), rfl, rfl⟩, .inl ⟨.agg #[.int .i64 c, .int .i64 d], val_only (d := 37) (by kernel_rfl), by simp, by simp, fun y W hB hO hV K Q' hK => ?_⟩⟩
                    have hc : Cells W (w.heap.size) #[.int .i64 c, .int .i64 d] := hO _ (List.mem_cons_of_mem _ (List.mem_cons_self ..)) rfl
                    have kk := hc.two
                    have k0 := kk.1
                    have k1 := kk.2
                    clear kk
                    simp only [fr, putAll, List.foldl_cons, List.foldl_nil, List.setIfInBounds_toArray, List.set_cons_zero, List.set_cons_succ] at hK ⊢
                    go_simp
                    exact hK W (Below.refl _ _)
                  · refine .inl ⟨.inr ⟨4, true, rfl, by kernel_rfl, (4, 36, .bool true), val_get (by kernel_rfl), rfl, rfl⟩, .inl ⟨.agg #[.int .i64 0, .int .i64 ix, .int .i64 iy, .int .i64 iz, .int .i64 e], val_only (d := 38) (by kernel_rfl), by simp, by simp, fun y W hB hO hV K Q' hK => ?_⟩⟩
                    have hc : Cells W (g) #[.int .i64 0, .int .i64 ix, .int .i64 iy, .int .i64 iz, .int .i64 e] := hO _ (List.mem_cons_self ..) rfl
                    have kk := hc.five
                    have k0 := kk.1
                    have k1 := kk.2.1
                    have k2 := kk.2.2.1
                    have k3 := kk.2.2.2.1
                    have k4 := kk.2.2.2.2
                    clear kk
                    simp only [fr, putAll, List.foldl_cons, List.foldl_nil, List.setIfInBounds_toArray, List.set_cons_zero, List.set_cons_succ] at hK ⊢
                    go_simp
                    exact hK W (Below.refl _ _)
                  · refine .inl ⟨.inr ⟨4, true, rfl, by kernel_rfl, (4, 36, .bool true), val_get (by kernel_rfl), rfl, rfl⟩, .inl ⟨.int .i64 n, val_only (d := 39) (by kernel_rfl), by simp, by simp, fun y W hB hO hV K Q' hK => ?_⟩⟩
                    simp only [fr, putAll, List.foldl_cons, List.foldl_nil, List.setIfInBounds_toArray, List.set_cons_zero, List.set_cons_succ] at hK ⊢
                    go_simp
                    exact hK W (Below.refl _ _)
                  · refine .inl ⟨.inr ⟨4, true, rfl, by kernel_rfl, (4, 36, .bool true), val_get (by kernel_rfl), rfl, rfl⟩, .inl ⟨.bool true, val_only (d := 40) (by kernel_rfl), by simp, by simp, fun y W hB hO hV K Q' hK => ?_⟩⟩
                    have y37 : y 37 = .agg #[.int .i64 c, .int .i64 d] := hV (5, 37, .agg #[.int .i64 c, .int .i64 d]) (val_get (by kernel_rfl)) (by kernel_rfl)
                    have y38 : y 38 = .agg #[.int .i64 0, .int .i64 ix, .int .i64 iy, .int .i64 iz, .int .i64 e] := hV (6, 38, .agg #[.int .i64 0, .int .i64 ix, .int .i64 iy, .int .i64 iz, .int .i64 e]) (val_get (by kernel_rfl)) (by kernel_rfl)
                    have y39 : y 39 = .int .i64 n := hV (7, 39, .int .i64 n) (val_get (by kernel_rfl)) (by kernel_rfl)
                    simp only [fr, putAll, List.foldl_cons, List.foldl_nil, List.setIfInBounds_toArray, List.set_cons_zero, List.set_cons_succ] at hK ⊢
                    simp only [y37, y38, y39] at hK ⊢
                    go_simp
                    refine (HS.out _).mono ?_
                    intro e w' h
                    rw [h.1]
                    exact hK w' h.2
                  · refine .inl ⟨.inl rfl, .inl ⟨.bool true, val_only (d := 41) (by kernel_rfl), by simp, by simp, fun y W hB hO hV K Q' hK => ?_⟩⟩
                    have y36 : y 36 = .bool true := hV (4, 36, .bool true) (val_get (by kernel_rfl)) (by kernel_rfl)
                    have y40 : y 40 = .bool true := hV (8, 40, .bool true) (val_get (by kernel_rfl)) (by kernel_rfl)
                    simp only [fr, putAll, List.foldl_cons, List.foldl_nil, List.setIfInBounds_toArray, List.set_cons_zero, List.set_cons_succ] at hK ⊢
                    simp only [y36, y40] at hK ⊢
                    go_simp
                    exact hK W (Below.refl _ _)
                  intro y W4 hB hO hV hX hA
                  have y32 : y 32 = .agg #[.int .i64 0, .int .i64 ix, .int .i64 iy, .int .i64 iz, .int .i64 e] := hV (0, 32, .agg #[.int .i64 0, .int .i64 ix, .int .i64 iy, .int .i64 iz, .int .i64 e]) (val_get (by kernel_rfl))
                  have y33 : y 33 = .agg #[.int .i64 m0, .int .i64 m1, .int .i64 m2, .int .i64 m3, .int .i64 m4] := hV (1, 33, .agg #[.int .i64 m0, .int .i64 m1, .int .i64 m2, .int .i64 m3, .int .i64 m4]) (val_get (by kernel_rfl))
                  have y34 : y 34 = .agg #[.int .i64 0, .int .i64 ix, .int .i64 iy, .int .i64 iz, .int .i64 e] := hV (2, 34, .agg #[.int .i64 0, .int .i64 ix, .int .i64 iy, .int .i64 iz, .int .i64 e]) (val_get (by kernel_rfl))
                  have y35 : y 35 = .bool true := hV (3, 35, .bool true) (val_get (by kernel_rfl))
                  have y36 : y 36 = .bool true := hV (4, 36, .bool true) (val_get (by kernel_rfl))
                  have y37 : y 37 = .agg #[.int .i64 c, .int .i64 d] := hV (5, 37, .agg #[.int .i64 c, .int .i64 d]) (val_get (by kernel_rfl))
                  have y38 : y 38 = .agg #[.int .i64 0, .int .i64 ix, .int .i64 iy, .int .i64 iz, .int .i64 e] := hV (6, 38, .agg #[.int .i64 0, .int .i64 ix, .int .i64 iy, .int .i64 iz, .int .i64 e]) (val_get (by kernel_rfl))
                  have y39 : y 39 = .int .i64 n := hV (7, 39, .int .i64 n) (val_get (by kernel_rfl))
                  have y40 : y 40 = .bool true := hV (8, 40, .bool true) (val_get (by kernel_rfl))
                  have y41 : y 41 = .bool true := hV (9, 41, .bool true) (val_get (by kernel_rfl))
                  have ho0 := hO _ (List.mem_cons_self ..)
                  have ho1 := hO _ (List.mem_cons_of_mem _ (List.mem_cons_self ..))
                  dsimp only at ho0 ho1
                  have HB4 := Lib.hid (show Bx w [(g, #[.int .i64 0, .int .i64 ix, .int .i64 iy, .int .i64 iz, .int .i64 e]), (w.heap.size, #[.int .i64 c, .int .i64 d])] W4 from (((Bx.nil (HV.out.below.trans (hB.mono HV.out.below.size))).cons (HV.out.own _ (List.mem_cons_of_mem _ (List.mem_cons_self ..))).1 ho1).cons (HV.out.own _ (List.mem_cons_self ..)).1 ho0))
                  simp only [fr, putAll, List.foldl_cons, List.foldl_nil, List.setIfInBounds_toArray, List.set_cons_zero, List.set_cons_succ]
                  simp only [y32, y33, y34, y35, y36, y37, y38, y39, y40, y41]
                  have hbv := hB
                  clear y32 y33 y34 y35 y36 y37 y38 y39 y40 y41  hB hO hV hX hA ho0 ho1
                  have HG4 := Lib.hid (HGV.out.keep hbv)
                  clear hbv HGV HV HN HS hEq
                  have HZ := Lib.hid (HY.out HF.out)
                  clear HY HNn HF hE
                  obtain ⟨k0, k1, k2, k3, k4⟩ := HB4.out.five (List.mem_cons_self ..)
                  go_wp2_with (at_builtin; refine wpList_append_got rfl (.tmp 42) (.tmp 44) 37 rfl 29 i0 _ 5 40 Tryz.underlying37 HI.out HZ0.out HZ1.out HZ2.out rfl (by decide) _ (pick P (idx e ix iy iz)).length _ rfl HG4.out _ _ [0, ix, iy, iz, e] rfl rfl 1 rfl (by omega) (by unfold maxLen; omega) ?_; intro v' w5 hg5; have HG5 := Lib.hid hg5; clear hg5)
                  exact ⟨⟨iz + 1, by go_num, by omega, by omega, by rw [HZ.out, List.length_append, qflat_snoc]; exact HG5.out⟩, by simp [intOf]; omega⟩
                · have iz9 : iz = 9 := by omega
                  subst iz9
                  go_wp2_with fail
                  exact ⟨⟨iy + 1, by go_num, by omega, by omega, by rw [idx_y e ix iy]; exact HG3.out⟩, by simp [intOf]; omega⟩
            · have iy9 : iy = 9 := by omega
              subst iy9
              go_wp2_with fail
              exact ⟨⟨ix + 1, by go_num, by omega, by omega, by rw [idx_x e ix]; exact HG2.out⟩, by simp [intOf]; omega⟩
        · have ix9 : ix = 9 := by omega
          subst ix9
          go_wp2_with fail
          exact ⟨⟨e + 1, by go_num, by omega, by omega, by rw [idx_d e]; exact HG1.out⟩, by simp [intOf]; omega⟩
    · have e9 : e = 3 := by omega
      subst e9
      have hi0 : pick P (idx 3 (-8) (-8) (-8)) = pick P 9826 := by rw [idx_end]
      have HE := Lib.hid hi0; clear hi0
      go_wp2_with fail
      go_ret
      exact ⟨A5, c5, by rw [HE.out]; rfl, by have := HS5.out; rwa [HE.out] at this, by have := HC5.out.1; rwa [HE.out] at this, HC5.out.2, HB1.out.trans (HG0.out.below.mono (by have := HS1.out; omega)), HF5.out.mono (by have := HS1.out; omega)⟩

end Go.Proofs.YtfjmhfmhijhpkaaGreatDoor
