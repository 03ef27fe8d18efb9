/- Words: a step of the long division. -/
import Derived.Test.YtfjmhfmhijhpkaaGreatDoorTak
namespace Go.Proofs.YtfjmhfmhijhpkaaGreatDoor
open Go.RowKit FF

set_option maxHeartbeats 4000000 in
theorem step_any (G j n N c c' D : Nat) (f : Nat → Nat) (A' : Option Addr) (w : World) (hr : rowP w G 134 N (rowN f)) (hj : j + (n + 3) ≤ N) (hN : N ≤ 3000000) (hf : ∀ k, f k < WB)
    (hy : Shows .u32 w A' (digs WB D)) (hD : wl D = n + 2) (hne : ∀ a, A' = some a → a.block ≠ G) (hlt : val WB (seg f j (n + 3)) < D * WB) :
    Calls Tryz.prog 184 #[.slice (some ⟨G, j, none⟩) (n + 3) c, .slice A' (n + 2) c'] w fun e w' =>
      ∃ R : List Nat, e = .returned (.int .u32 (val WB (seg f j (n + 3)) / D : Nat)) ∧ R.length = n + 3 ∧ Dig WB R ∧ val WB R = val WB (seg f j (n + 3)) % D ∧ rowP w' G 134 N (rowN (put f j R)) ∧ w.grownBy w' (some G) := by
  have hvs : (digs WB D).length = n + 2 := hD
  have hD0 : 0 < D := by
    apply Nat.pos_of_ne_zero
    intro e
    rw [e, wl_zero] at hD
    omega
  obtain ⟨t1, et1⟩ : ∃ t1, f (j + (n + 2)) = t1 := ⟨_, rfl⟩
  obtain ⟨t0, et0⟩ : ∃ t0, f (j + (n + 1)) = t0 := ⟨_, rfl⟩
  obtain ⟨r2, er2⟩ : ∃ r2, f (j + n) = r2 := ⟨_, rfl⟩
  obtain ⟨d1, ed1⟩ : ∃ d1, (digs WB D).getD (n + 1) 0 = d1 := ⟨_, rfl⟩
  obtain ⟨d2, ed2⟩ : ∃ d2, (digs WB D).getD n 0 = d2 := ⟨_, rfl⟩
  have hd1 : 0 < d1 := by
    apply Nat.pos_of_ne_zero
    intro e
    rw [e] at ed1
    have h1 := val_take_zero (B := WB) (xs := digs WB D) (k := n + 1) (by omega) ed1 (by rw [List.take_of_length_le (by omega)])
    have h2 := val_take_lt (B := WB) (xs := digs WB D) (n := n + 1) (dig_digs' WB2 _) (by omega)
    rw [h1, val_digs' WB2] at h2
    have := digs_length_le WB2 h2
    omega
  have SN : StepNums n (seg f j (n + 3)) (digs WB D) t1 t0 r2 d1 d2 :=
    ⟨seg_length _ _ _, hvs, dig_seg hf _ _, dig_digs' WB2 _, by rw [seg_getD (by omega)]; exact et1, by rw [seg_getD (by omega)]; exact et0, by rw [seg_getD (by omega)]; exact er2, ed1, ed2, hd1, by
      have : val 4294967296 (digs WB D) = D := val_digs' WB2 D
      rw [this]; exact hlt⟩
  have hb1 : t1 < 4294967296 := et1 ▸ hf _
  have hb0 : t0 < 4294967296 := et0 ▸ hf _
  have hbr : r2 < 4294967296 := er2 ▸ hf _
  have hbd1 : d1 < 4294967296 := ed1 ▸ (dig_digs' WB2 D).getD (by decide) _
  have hbd2 : d2 < 4294967296 := ed2 ▸ (dig_digs' WB2 D).getD (by decide) _
  have hGs : G < w.heap.size := hr.lt
  have hfro := hr.frozen
  have k1 : w.cell? ⟨G, j + (n + 2), none⟩ = some (.int .u32 (t1 : Nat)) := by rw [← et1]; exact hr.cell (by omega)
  have k0 : w.cell? ⟨G, j + (n + 1), none⟩ = some (.int .u32 (t0 : Nat)) := by rw [← et0]; exact hr.cell (by omega)
  have kr : w.cell? ⟨G, j + n, none⟩ = some (.int .u32 (r2 : Nat)) := by rw [← er2]; exact hr.cell (by omega)
  obtain ⟨b, o, rfl, hb, hcell⟩ := hy (by omega)
  have q1 : w.cell? ⟨b, o + (n + 1), none⟩ = some (.int .u32 (d1 : Nat)) := by rw [← ed1]; exact hcell _ (by omega)
  have q2 : w.cell? ⟨b, o + n, none⟩ = some (.int .u32 (d2 : Nat)) := by rw [← ed2]; exact hcell _ (by omega)
  have HST := Lib.hid SN.start
  have HNX := Lib.hid (fun g hg hc => SN.next (g := g) hg hc)
  have HSP := Lib.hid (fun g hg hc => SN.stop (g := g) hg hc)
  have HFR := Lib.hid (fun g hg hc => SN.far (g := g) hg hc)
  have hval : val WB (digs WB D) = D := val_digs' WB2 D
  have HTk := Lib.hid (fun (k g : Nat) (h3 : g < WB) => by
    have := take_any G j (n + 3) N c c' g f (some ⟨b, o, none⟩) (digs WB D) (w.drewN k) (show rowP (w.drewN k) G 134 N (rowN f) from hr) hj hN hf (hy.drewN k) (dig_digs' WB2 D) hne h3
    rw [hvs, List.take_of_length_le (by omega), hval] at this
    exact this)
  have hat := Lib.hid (fun (i : Nat) (W : World) (hi : i ≤ N) (h : Shows .u32 W (some ⟨b, o, none⟩) (digs WB D)) => by
    have := at_any (some ⟨b, o, none⟩) (digs WB D) c' i W h (by omega) (dig_digs' WB2 D)
    rw [hvs] at this
    exact this)
  have hyb := Lib.hid (fun i => (dig_digs' WB2 D).getD (show 0 < WB by decide) i)
  have hDM := Lib.hid (show D ≤ WB ^ (n + 3) from Nat.le_trans (Nat.le_of_lt (lt_pow_digs WB2 D)) (Nat.pow_le_pow_right (by decide) (by omega)))
  have hEnd := Lib.hid (fun (g cy : Nat) (R : List Nat) (h1 : val WB (seg f j (n + 3)) / D ≤ g) (h2 : g ≤ val WB (seg f j (n + 3)) / D + 1) (hl : R.length = n + 3) (hd : Dig WB R) (h : val WB R + g * D = val WB (seg f j (n + 3)) + WB ^ (n + 3) * cy) =>
    take_end hD0 h1 h2 h (hl ▸ val_lt hd) hDM.out)
  have hAll := Lib.hid (show (digs WB D).take (n + 3) = digs WB D from List.take_of_length_le (by omega))
  have HVL := Lib.hid hval
  have hv2 : val 4294967296 (digs WB D) = D := hval
  rw [hv2] at HST HNX HSP HFR
  change Hid (∀ g, GuessRel _ _ _ _ (val WB (seg f j (n + 3))) D g → _) at HNX HSP HFR
  change Hid (GuessRel _ _ _ _ (val WB (seg f j (n + 3))) D _) at HST
  clear hval hv2
  have HR := Lib.hid hr; have HF := Lib.hid hf; have HY := Lib.hid hy; have HNE := Lib.hid hne; have HD := Lib.hid hD; have HLT := Lib.hid hlt
  clear SN hr hf hy hne hD hlt hcell hfro hvs et1 et0 er2 ed1 ed2
  have e1 : IntKind.i64.wrap ((n : Int) + 2 - 1) = (n : Int) + 1 := by rw [IntWalk.i64_in _ (by omega)]; omega
  have e2 : (0 : Int) ≤ (n : Int) + 2 - 1 := by omega
  have e3 : ((n : Int) + 1).toNat = n + 1 := by omega
  have e4 : ((n : Int) + 2).toNat = n + 2 := by omega
  have e5 : IntKind.i64.wrap (n : Int) = (n : Int) := IntWalk.i64_in _ (by omega)
  have e6 : (n : Int) < (n : Int) + 2 := by omega
  have e7 : (n : Int) < (n : Int) + 3 := by omega
  have e8 : (n : Int) + 1 < (n : Int) + 2 := by omega
  have e9 : (0 : Int) ≤ (n : Int) + 1 := by omega
  have u1 : IntKind.u64.wrap (d1 : Int) = (d1 : Int) := by simp only [IntKind.wrap, IntKind.bits, IntKind.signed]; simp; omega
  have u2 : IntKind.u64.wrap (d2 : Int) = (d2 : Int) := by simp only [IntKind.wrap, IntKind.bits, IntKind.signed]; simp; omega
  have u3 : IntKind.u64.wrap (r2 : Int) = (r2 : Int) := by simp only [IntKind.wrap, IntKind.bits, IntKind.signed]; simp; omega
  obtain ⟨T, hT⟩ : ∃ T, t1 * 4294967296 + t0 = T := ⟨_, rfl⟩
  have hTb : T < 18446744073709551616 := by omega
  have hTc : bits .or .u64 ((t1 : Int) * 4294967296) (t0 : Int) = (T : Int) := by rw [or_shift hb1 hb0, hT]
  obtain ⟨q, hq⟩ : ∃ q, T / d1 = q := ⟨_, rfl⟩
  have hqT : q ≤ T := hq ▸ Nat.div_le_self _ _
  have hqc : IntKind.u64.wrap ((T : Int) / d1) = (q : Int) := by
    rw [← Int.natCast_ediv, hq]
    simp only [IntKind.wrap, IntKind.bits, IntKind.signed]; simp; omega
  rw [hT] at HST HNX HSP HFR
  rw [hq] at HST
  clear hT hq
  rcases (show (q : Int) ≤ 4294967295 ∨ (4294967295 : Int) < q by omega) with hql | hql
  all_goals
    first
    | rw [Nat.min_eq_left (show q ≤ 4294967295 by omega)] at HST
    | rw [Nat.min_eq_right (show 4294967295 ≤ q by omega)] at HST
    go_enter Tryz.func184, Tryz.ntmps184
    go_wp2
    go_quiet (fail)
    go_wp2
    have HTB := Lib.hid hTb
    clear hTc hqc k1 k0 hTb hqT hql
    go_loopw [7] (fun s7 wr => ∃ g : Nat, s7 = .int .u64 g ∧ GuessRel T r2 d1 d2 (val WB (seg f j (n + 3))) D g ∧ ∃ m, wr = w.drewN m) (fun s _ => (intOf s).toNat)
    case atStart => exact ⟨_, rfl, HST.out, _, rfl⟩
    case round =>
      clear HST
      obtain ⟨g, rfl, hg, m, rfl⟩ := hrel
      obtain ⟨R0, hR0⟩ : ∃ R0, T = g * d1 + R0 := ⟨T - g * d1, by have := hg.top; omega⟩
      have hglt := hg.lt
      have N1 := HNX.out g hg; have N2 := HSP.out g hg; have N3 := HFR.out g hg
      have NL := Lib.hid hg.le
      clear hg HNX HSP HFR
      have hsub : T - g * d1 = R0 := by omega
      rw [hsub] at N1 N2 N3
      obtain ⟨P1, hP1⟩ : ∃ P, g * d1 = P := ⟨_, rfl⟩
      obtain ⟨P2, hP2⟩ : ∃ P, g * d2 = P := ⟨_, rfl⟩
      have b1 : P1 ≤ 4294967295 * 4294967295 := hP1 ▸ Nat.mul_le_mul (by omega) (by omega)
      have b2 : P2 ≤ 4294967295 * 4294967295 := hP2 ▸ Nat.mul_le_mul (by omega) (by omega)
      have x1 : IntKind.u64.wrap ((g : Int) * d1) = (P1 : Int) := by rw [← Int.natCast_mul, hP1]; simp only [IntKind.wrap, IntKind.bits, IntKind.signed]; simp; omega
      have x2 : IntKind.u64.wrap ((g : Int) * d2) = (P2 : Int) := by rw [← Int.natCast_mul, hP2]; simp only [IntKind.wrap, IntKind.bits, IntKind.signed]; simp; omega
      rw [hP1] at hR0
      rw [hP2] at N1 N2
      clear hsub hP1 hP2
      have x3 : IntKind.u64.wrap ((T : Int) - P1) = (R0 : Int) := by have := HTB.out; simp only [IntKind.wrap, IntKind.bits, IntKind.signed]; simp; omega
      clear hR0
      obtain ⟨Z, hZ⟩ : ∃ Z : Int, bits .or .u64 (IntKind.u64.wrap ((R0 : Int) * 4294967296)) (r2 : Int) = Z := ⟨_, rfl⟩
      have key : (decide (Z < P2) = true ∧ decide ((R0 : Int) < 4294967296) = true ∧ Hid (0 < g ∧ GuessRel T r2 d1 d2 (val WB (seg f j (n + 3))) D (g - 1))) ∨
          (decide (Z < P2) = true ∧ decide ((R0 : Int) < 4294967296) = false ∧ Hid (g ≤ val WB (seg f j (n + 3)) / D + 1)) ∨
          (decide (Z < P2) = false ∧ decide ((R0 : Int) < 4294967296) = decide ((R0 : Int) < 4294967296) ∧ Hid (g ≤ val WB (seg f j (n + 3)) / D + 1)) := by
        by_cases hfar : R0 < 4294967296
        · have s1 : IntKind.u64.wrap ((R0 : Int) * 4294967296) = (R0 : Int) * 4294967296 := by simp only [IntKind.wrap, IntKind.bits, IntKind.signed]; simp; omega
          rw [s1, or_shift hfar hbr] at hZ
          subst hZ
          by_cases hc : R0 * 4294967296 + r2 < P2
          · exact .inl ⟨decide_eq_true (by omega), decide_eq_true (by omega), N1 hc⟩
          · exact .inr (.inr ⟨decide_eq_false (by omega), rfl, N2 (by omega)⟩)
        · have N4 := N3 (by omega)
          by_cases hc : Z < P2
          · exact .inr (.inl ⟨decide_eq_true hc, decide_eq_false (by omega), N4⟩)
          · exact .inr (.inr ⟨decide_eq_false hc, rfl, N4⟩)
      clear N1 N2 N3 b1 b2
      rcases key with ⟨B1, B2, N4⟩ | key
      · go_wp2
        go_quiet (fail)
        go_wp2
        have hg0 := N4.out.1
        have e10 : IntKind.u64.wrap ((g : Int) - 1) = ((g - 1 : Nat) : Int) := by simp only [IntKind.wrap, IntKind.bits, IntKind.signed]; simp; omega
        rw [e10]
        exact ⟨⟨g - 1, rfl, N4.out.2, _, rfl⟩, by simp [intOf]; omega⟩
      · rcases key with ⟨B1, B2, N4⟩ | ⟨B1, -, N4⟩
        all_goals
          go_wp2
          go_quiet (fail)
          go_wp2_with fail
          have hy2 := fun k => HY.out.drewN k
          refine (HTk.out _ g hglt).mono ?_
          clear x1 x2 x3 hZ B1 kr q1 q2 u1 u2 u3 e1 e2 e3 e4 e5 e6 e7 e8 e9 hb1 hb0 hbr hbd1 hbd2
          rintro e w2 ⟨R, cy, rfl, hRl, hRd, hRv, hRr, hRg⟩
          obtain ⟨f1, f2⟩ := hEnd.out g cy R NL.out N4.out hRl hRd hRv
          by_cases hcy : cy = 0
          · obtain ⟨r1, r2⟩ := f1 hcy
            have hb0 : ((cy : Int) == 0) = true := by rw [hcy]; rfl
            rw [hb0]
            have H1 := Lib.hid hRl; have H2 := Lib.hid hRd; have H3 := Lib.hid r1; have H4 := Lib.hid r2; have H5 := Lib.hid hRr; have H6 := Lib.hid hRg
            clear f1 f2 hRl hRd hRv hRr hRg r1 r2 hcy hb0 NL N4 hEnd HTk hat
            go_wp2
            go_ret
            refine ⟨R, ret_int (by rw [H3.out]), H1.out, H2.out, H4.out, H5.out, ?_⟩
            exact ⟨H6.out.os, H6.out.tape, H6.out.output, H6.out.size, H6.out.block⟩
          · obtain ⟨r1, r2⟩ := f2 hcy
            have hb0 : ((cy : Int) == 0) = false := f_beq (by omega)
            rw [hb0]
            have HYr := Lib.hid (Shows.grown (hy2 _) hRg HNE.out)
            have HRg := Lib.hid (World.grownBy.mk hRg.os hRg.tape hRg.output hRg.size hRg.block : w.grownBy w2 (some G))
            have HRr := Lib.hid (show rowP w2 G 134 N (rowN (put (put f j R) j [])) from hRr.congr fun i _ => by unfold rowN; rw [put_nil])
            have H1 := Lib.hid hRl; have H2 := Lib.hid hRd; have H3 := Lib.hid r1; have H4 := Lib.hid r2
            have hRt := Lib.hid (show R.take (n + 3) = R from List.take_of_length_le (by omega))
            have bR := Lib.hid (fun i => hRd.getD (show 0 < WB by decide) i)
            clear f1 f2 hRl hRd hRv hRr hRg r1 r2 hcy hb0 NL N4 hEnd HTk hy2 HY
            go_wp2
            go_loopw [8, 85] (fun s8 s85 wr => ∃ (i cz : Nat) (S : List Nat), s8 = .int .u64 cz ∧ s85 = .int .i64 i ∧ i ≤ n + 3 ∧ cz ≤ 1 ∧ S.length = i ∧ Dig WB S ∧ val WB S + WB ^ i * cz = val WB (R.take i) + val WB ((digs WB D).take i) ∧ rowP wr G 134 N (rowN (put (put f j R) j S)) ∧ w.grownBy wr (some G) ∧ Shows .u32 wr (some ⟨b, o, none⟩) (digs WB D)) (fun _ s _ => n + 3 - (intOf s).toNat)
            case atStart => exact ⟨0, 0, [], rfl, rfl, Nat.zero_le _, Nat.zero_le _, rfl, fun x hx => absurd hx (by simp), by simp [val], HRr.out, HRg.out, HYr.out⟩
            case round =>
              clear HRr HRg HYr
              obtain ⟨i, cz, S, rfl, rfl, hi, hcz, hSl, hSd, hSv, hSr, hSg, hSy⟩ := hrel
              by_cases hin : i < n + 3
              · have bx : R.getD i 0 < 4294967296 := bR.out i
                have bY : (digs WB D).getD i 0 < 4294967296 := hyb.out i
                have hcell : wr.cell? ⟨G, j + i, none⟩ = some (.int .u32 (R.getD i 0 : Nat)) := by
                  have := hSr.cell (show j + i < N by omega)
                  unfold rowN at this
                  rw [put_past (by omega)] at this
                  rw [this]
                  unfold put
                  rw [if_pos (by rw [H1.out]; omega), Nat.add_sub_cancel_left]
                have hfro := hSr.frozen (j + i)
                have hGs2 : G < wr.heap.size := hSr.lt
                have hC := Lib.hid (fun k => hat.out i (wr.drewN k) (by omega) (hSy.drewN k))
                have hstep := Lib.hid (plus_step (B := WB) (xs := R) (ys := digs WB D) (c := cz) hSl hSv rfl)
                have HSl := Lib.hid hSl; have HSd := Lib.hid hSd; have HSr := Lib.hid hSr; have HSg := Lib.hid hSg; have HSy := Lib.hid hSy
                clear hSl hSd hSv hSr hSg hSy hat hyb bR hGs
                generalize R.getD i 0 = x at *
                generalize (digs WB D).getD i 0 = y at *
                have v1 : IntKind.u64.wrap (x : Int) = (x : Int) := by simp only [IntKind.wrap, IntKind.bits, IntKind.signed]; simp; omega
                have v2 : IntKind.u64.wrap ((x : Int) + y) = ((x + y : Nat) : Int) := by simp only [IntKind.wrap, IntKind.bits, IntKind.signed]; simp; omega
                have v3 : IntKind.u64.wrap ((x : Int) + y + cz) = ((x + y + cz : Nat) : Int) := by simp only [IntKind.wrap, IntKind.bits, IntKind.signed]; simp; omega
                have hin' : (i : Int) < (n : Int) + 3 := by omega
                go_wp2
                go_quiet ((go_at_call 151; exact Calls.quiet_of (hC.out _)))
                go_wp2
                refine ⟨⟨i + 1, (x + y + cz) / 4294967296, S ++ [(x + y + cz) % 4294967296], ?_, by go_num, by omega, by omega, by simp [HSl.out], dig_snoc HSd.out (Nat.mod_lt _ (by decide)), hstep.out, ?_, only_setCell (only_drewN HSg.out _) (.inl rfl) _, ?_⟩, by simp [intOf]; omega⟩
                · rfl
                · exact rowP_put HSl.out HSr.out
                · exact HSy.out.grown (only_setCell (only_drewN (World.grownBy.refl wr (some G)) _) (.inl rfl) _) HNE.out
              · obtain rfl : i = n + 3 := by omega
                rw [hRt.out, hAll.out, HVL.out] at hSv
                have hlt := val_lt hSd
                rw [hSl] at hlt
                have h4 := H4.out
                have h5 := Nat.mod_lt (val WB (seg f j (n + 3))) hD0
                have h6 : val WB S = val WB (seg f j (n + 3)) % D := by
                  generalize WB ^ (n + 3) = M at *
                  generalize val WB (seg f j (n + 3)) % D = V at *
                  have h7 := hDM.out
                  rcases (show cz = 0 ∨ cz = 1 by omega) with rfl | rfl <;> omega
                have hv := h6
                have hrow : rowP wr G 134 N (rowN (put f j S)) := by rw [← put_put (f := f) (R := R) (by rw [H1.out, hSl])]; exact hSr
                have HSl := Lib.hid hSl; have HSd := Lib.hid hSd; have HSr := Lib.hid hrow; have HSg := Lib.hid hSg; have HSv := Lib.hid hv
                clear hSl hSd hSr hSg hSy hv hrow hSv hlt hat hyb bR h4 h5 h6
                have h3 : g = val WB (seg f j (n + 3)) / D + 1 := H3.out
                have hg0 : 1 ≤ g := by rw [h3]; exact Nat.succ_le_succ (Nat.zero_le _)
                have HE := Lib.hid (show g - 1 = val WB (seg f j (n + 3)) / D by rw [h3]; rfl)
                have e10 : IntKind.u64.wrap ((g : Int) - 1) = ((g - 1 : Nat) : Int) := by simp only [IntKind.wrap, IntKind.bits, IntKind.signed]; simp; omega
                clear h3
                go_wp2
                go_ret
                refine ⟨S, ret_int ?_, HSl.out, HSd.out, HSv.out, HSr.out, HSg.out⟩
                rw [← HE.out]
end Go.Proofs.YtfjmhfmhijhpkaaGreatDoor
