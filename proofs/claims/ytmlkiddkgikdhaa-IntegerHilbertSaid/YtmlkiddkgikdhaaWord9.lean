/- Words: DivMod where nothing is to be put right. -/
import Derived.Test.YtmlkiddkgikdhaaWord8
namespace Go.Proofs.Ytmlkiddkgikdhaa
open Go.RowKit FF
set_option maxRecDepth 100000 in
set_option maxHeartbeats 2000000 in
theorem DivMod_plain (bx by' : Bool) (A A' : Option Addr) (xs ys : List Nat) (c c' : Nat) (w : World) (hx : Shows .u32 w A xs) (dx : Dig WB xs) (hcx : xs.length ≤ c) (hcx2 : c ≤ maxLen)
    (hy : Shows .u32 w A' ys) (dy : Dig WB ys) (hcy : ys.length ≤ c') (hcy2 : c' ≤ maxLen) (hal : wl (val WB xs) ≤ 900000) (hbl : wl (val WB ys) ≤ 900000) (hb0 : 0 < val WB ys) (HD : DivKnown (val WB ys))
    (hadj : bx = true → val WB xs % val WB ys = 0) (nn rr : Nat) (hnn : nn = val WB xs / val WB ys) (hrr : rr = val WB xs % val WB ys) (dq : Bool) (hdq : ((bx != by') && decide (nn ≠ 0)) = dq) :
    Calls Try.prog 47 #[.agg #[.bool bx, .slice A xs.length c], .agg #[.bool by', .slice A' ys.length c']] w fun e w' =>
      ∃ A2 c2 A3 c3, e = .returned (.tuple #[.agg #[.bool dq, .slice A2 (wl nn) c2], .agg #[.bool false, .slice A3 (wl rr) c3], .int .i64 0]) ∧
        Shows .u32 w' A2 (digs WB nn) ∧ Shows .u32 w' A3 (digs WB rr) ∧ wl nn ≤ c2 ∧ c2 ≤ maxLen ∧ wl rr ≤ c3 ∧ c3 ≤ maxLen ∧ Below w.heap.size w w' := by
  have HSx := Lib.hid (fun w' (h : Shows .u32 w' A xs) => size_any bx A xs c w' h dx hcx hcx2)
  have HSy := Lib.hid (fun w' (h : Shows .u32 w' A' ys) => size_any by' A' ys c' w' h dy hcy hcy2)
  have HX := Lib.hid hx; have HY := Lib.hid hy
  have TX := Lib.hid (hx.trim dx); have TY := Lib.hid (hy.trim dy)
  clear hx hy dx dy hcx hcx2 hcy hcy2
  generalize val WB xs = a at *
  generalize val WB ys = b at *
  have hqa : wl (a / b) ≤ wl a := digs_mono WB2 (Nat.div_le_self _ _)
  have hrb : a % b < b := Nat.mod_lt _ hb0
  have hrl : wl (a % b) ≤ wl b := digs_mono WB2 (by omega)
  have hDv := fun A A' (w' : World) ha hb => HD A A' a (wl a) (wl b) w' ha hb (by omega) (Nat.le_refl _) (by unfold maxLen; omega)
  unfold DivPost at hDv
  have d0 : (((wl b : Nat) : Int) == 0) = false := f_beq (by have : wl b ≠ 0 := fun h => absurd (wl_eq_zero.1 h) (by omega); omega)
  have HB0 := Lib.hid hb0
  clear HD hb0
  generalize a / b = q at *
  generalize a % b = r at *
  have HDv := Lib.hid hDv; clear hDv
  have hM1 := fun (A : Option Addr) (c : Nat) (w' : World) (hc : wl nn ≤ c ∧ c ≤ maxLen) (h : Shows .u32 w' A (digs WB nn)) => by
    have := made_any (bx != by') A (digs WB nn) c w' h (dig_digs' WB2 nn) hc.1 hc.2 (by rw [val_digs' WB2]; rw [hnn]; omega)
    rw [val_digs' WB2, hdq] at this; exact this
  have hM2 := fun (A : Option Addr) (c : Nat) (w' : World) (hc : wl rr ≤ c ∧ c ≤ maxLen) (h : Shows .u32 w' A (digs WB rr)) => by
    have := made_any false A (digs WB rr) c w' h (dig_digs' WB2 rr) hc.1 hc.2 (by rw [val_digs' WB2]; rw [hrr]; omega)
    rw [val_digs' WB2] at this; exact this
  change ∀ A c w', _ → _ → Calls _ _ #[.bool (bx != by'), .slice A (wl nn) c] w' _ at hM1
  change ∀ A c w', _ → _ → Calls _ _ #[.bool false, .slice A (wl rr) c] w' _ at hM2
  have HM2 := Lib.hid hM2; clear hM2
  have hnr : bx = true → ¬ ((0 : Int) < (wl r : Nat)) := fun h => by
    rw [hadj h]; simp [wl_zero]
  subst hnn hrr
  clear hadj
  cases bx <;> cases by'
  all_goals
    have HM1 := Lib.hid hM1
    clear hM1 hdq
    have HNR := Lib.hid hnr; clear hnr
    try have hnt := HNR.out rfl
    go_enter Try.func47, Try.ntmps47
    go_wp2_with fail
    refine (HSy.out _ ((((HY.out.alloc _).alloc _).alloc _).alloc _)).mono ?_
    rintro e W1 ⟨rfl, hb1⟩
    simp only [World.size_alloc] at hb1
    obtain ⟨k0, k1, k2, k3, f2, f3, hz⟩ := four_keep hb1
    have B1 := Lib.hid hb1
    have X1 := Lib.hid ((((HX.out.alloc _).alloc _).alloc _).alloc _ |>.below (by simpa only [World.size_alloc] using hb1))
    have TX1 := Lib.hid ((((TX.out.alloc _).alloc _).alloc _).alloc _ |>.below (by simpa only [World.size_alloc] using hb1))
    have TY1 := Lib.hid ((((TY.out.alloc _).alloc _).alloc _).alloc _ |>.below (by simpa only [World.size_alloc] using hb1))
    have z1 : w.heap.size + 1 + 1 + 1 + 1 ≤ W1.heap.size := hz
    clear hb1
    go_wp2_with fail
    refine (HSx.out _ X1.out).mono ?_
    rintro e W2 ⟨rfl, hb2⟩
    have hB2 := B1.out.trans (hb2.mono z1)
    have TX2 := Lib.hid (TX1.out.below hb2)
    have TY2 := Lib.hid (TY1.out.below hb2)
    have z2 : w.heap.size + 1 + 1 + 1 + 1 ≤ W2.heap.size := Nat.le_trans z1 hb2.size
    clear k0 k1 k2 k3 f2 f3 hz
    obtain ⟨k0, k1, k2, k3, f2, f3, hz⟩ := four_keep hB2
    have B2 := Lib.hid hB2
    clear hb2 hB2 B1 X1 TX1 TY1 z1
    go_wp2_with fail
    refine (HDv.out _ _ _ TX2.out TY2.out).mono ?_
    rintro e W3 ⟨A2, c2, A3, c3, rfl, hc2, hc2m, hc3, hc3m, hs2, hs3, hb3⟩
    have hB3 := B2.out.trans (hb3.mono z2)
    have z3 : w.heap.size + 1 + 1 + 1 + 1 ≤ W3.heap.size := Nat.le_trans z2 hb3.size
    clear k0 k1 k2 k3 f2 f3 hz
    obtain ⟨k0, k1, k2, k3, f2, f3, hz⟩ := four_keep hB3
    have B3 := Lib.hid hB3
    have TY3 := Lib.hid (TY2.out.below hb3)
    have S2 := Lib.hid hs2; have S3 := Lib.hid hs3
    clear hb3 hB3 hs2 hs3 B2 TX2 TY2 z2
    go_wp2_with fail
    have WN := Lib.hid (And.intro hc2 hc2m)
    have WR := Lib.hid (And.intro hc3 hc3m)
    have BN := B3; have zN := z3; have SN := S2; have SR := S3
    refine (HM1.out _ _ _ WN.out SN.out).mono ?_
    rintro e W5 ⟨Aq, cq, rfl, hsq, hcq1, hcq2, hfq, hbq⟩
    have B5 := BN.out.trans (hbq.mono zN)
    have z5 : w.heap.size + 1 + 1 + 1 + 1 ≤ W5.heap.size := Nat.le_trans zN hbq.size
    have SQ := Lib.hid hsq; have FQ := Lib.hid (hfq.mono zN)
    have SR5 := Lib.hid (SR.out.below hbq)
    have B5' := Lib.hid B5
    obtain ⟨k0, k1, k2, k3, f2, f3, hz⟩ := four_keep B5
    clear hsq hfq hbq B5
    go_wp2_with fail
    refine (HM2.out _ _ _ WR.out SR5.out).mono ?_
    rintro e W6 ⟨Ar, cr, rfl, hsr, hcr1, hcr2, hfr, hbr⟩
    have B6 := B5'.out.trans (hbr.mono z5)
    clear k0 k1 k2 k3 f2 f3 hz
    obtain ⟨k0, k1, k2, k3, f2, f3, hz⟩ := four_keep B6
    have SQ6 := Lib.hid (SQ.out.below hbr)
    have SRR := Lib.hid hsr; have FR := Lib.hid (hfr.mono z5)
    have HB := Lib.hid (below_four B6)
    clear hsr hfr hbr SQ SR5 B6 B5'
    go_wp2_with fail
    refine bodyPost_ret (v := .tuple #[.agg #[.bool dq, .slice Aq (wl nn) cq], .agg #[.bool false, .slice Ar (wl rr) cr], .int .i64 0]) (by simp [results, Try.results47, go_sem, k2, k3]) rfl ?_
    exact ⟨Aq, cq, Ar, cr, rfl, ((((SQ6.out.setCell FQ.out (p := ⟨w.heap.size + 1 + 1, 0, none⟩) (by simp) _).setCell FQ.out (p := ⟨w.heap.size + 1 + 1, 1, none⟩) (by simp) _).setCell FQ.out (p := ⟨w.heap.size + 1 + 1 + 1, 0, none⟩) (by simp) _).setCell FQ.out (p := ⟨w.heap.size + 1 + 1 + 1, 1, none⟩) (by simp) _), ((((SRR.out.setCell FR.out (p := ⟨w.heap.size + 1 + 1, 0, none⟩) (by simp) _).setCell FR.out (p := ⟨w.heap.size + 1 + 1, 1, none⟩) (by simp) _).setCell FR.out (p := ⟨w.heap.size + 1 + 1 + 1, 0, none⟩) (by simp) _).setCell FR.out (p := ⟨w.heap.size + 1 + 1 + 1, 1, none⟩) (by simp) _), hcq1, hcq2, hcr1, hcr2, ((((HB.out.setCell (p := ⟨w.heap.size + 1 + 1, 0, none⟩) (by simp; omega) _).setCell (p := ⟨w.heap.size + 1 + 1, 1, none⟩) (by simp; omega) _).setCell (p := ⟨w.heap.size + 1 + 1 + 1, 0, none⟩) (by simp; omega) _).setCell (p := ⟨w.heap.size + 1 + 1 + 1, 1, none⟩) (by simp; omega) _)⟩
end Go.Proofs.Ytmlkiddkgikdhaa
