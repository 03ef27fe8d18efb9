/- Words: DivMod. -/
import Derived.Test.YtmlkiddkgikdhaaWord9
namespace Go.Proofs.Ytmlkiddkgikdhaa
open Go.RowKit FF
set_option maxRecDepth 100000 in
set_option maxHeartbeats 2000000 in
theorem DivMod_adj (bx by' : Bool) (A A' : Option Addr) (xs ys : List Nat) (c c' : Nat) (w : World) (hx : Shows .u32 w A xs) (dx : Dig WB xs) (hcx : xs.length ≤ c) (hcx2 : c ≤ maxLen)
    (hy : Shows .u32 w A' ys) (dy : Dig WB ys) (hcy : ys.length ≤ c') (hcy2 : c' ≤ maxLen) (hal : wl (val WB xs) ≤ 900000) (hbl : wl (val WB ys) ≤ 900000) (hb0 : 0 < val WB ys) (HD : DivKnown (val WB ys))
    (hadj : bx = true ∧ 0 < val WB xs % val WB ys) (nn rr : Nat) (hnn : nn = val WB xs / val WB ys + 1) (hrr : rr = val WB ys - val WB xs % val WB ys) (dq : Bool) (hdq : ((bx != by') && decide (nn ≠ 0)) = dq) :
    Calls Try.prog 47 #[.agg #[.bool bx, .slice A xs.length c], .agg #[.bool by', .slice A' ys.length c']] w fun e w' =>
      ∃ A2 c2 A3 c3, e = .returned (.tuple #[.agg #[.bool dq, .slice A2 (wl nn) c2], .agg #[.bool false, .slice A3 (wl rr) c3], .int .i64 0]) ∧
        Shows .u32 w' A2 (digs WB nn) ∧ Shows .u32 w' A3 (digs WB rr) ∧ wl nn ≤ c2 ∧ c2 ≤ maxLen ∧ wl rr ≤ c3 ∧ c3 ≤ maxLen ∧ Below w.heap.size w w' := by
  have HSx := Lib.hid (fun w' (h : Shows .u32 w' A xs) => size_any bx A xs c w' h dx hcx hcx2)
  have HSy := Lib.hid (fun w' (h : Shows .u32 w' A' ys) => size_any by' A' ys c' w' h dy hcy hcy2)
  have HX := Lib.hid hx; have HY := Lib.hid hy
  have TX := Lib.hid (hx.trim dx); have TY := Lib.hid (hy.trim dy)
  clear hx hy dx dy hcx hcx2 hcy hcy2
  generalize val WB xs = a at *
  generalize val WB ys = b at *
  have hqa : wl (a / b) ≤ wl a := digs_mono WB2 (Nat.div_le_self _ _)
  have hrb : a % b < b := Nat.mod_lt _ hb0
  have hrl : wl (a % b) ≤ wl b := digs_mono WB2 (by omega)
  have hnl : wl nn ≤ wl a + 1 := by
    refine digs_length_le WB2 ?_
    have h1 := lt_pow_digs WB2 a
    have h2 : a / b ≤ a := Nat.div_le_self _ _
    change a < WB ^ wl a at h1
    have h3 : WB ^ wl a * 2 ≤ WB ^ wl a * WB := Nat.mul_le_mul_left _ WB2
    rw [Nat.pow_succ]; omega
  have hrrl : wl rr ≤ wl b := digs_mono WB2 (by omega)
  have hDv := fun A A' (w' : World) ha hb => HD A A' a (wl a) (wl b) w' ha hb (by omega) (Nat.le_refl _) (by unfold maxLen; omega)
  unfold DivPost at hDv
  have d0 : (((wl b : Nat) : Int) == 0) = false := f_beq (by have : wl b ≠ 0 := fun h => absurd (wl_eq_zero.1 h) (by omega); omega)
  have HB0 := Lib.hid hb0
  clear HD hb0
  generalize a / b = q at *
  generalize a % b = r at *
  have HDv := Lib.hid hDv; clear hDv
  have hM1 := fun (A : Option Addr) (c : Nat) (w' : World) (hc : wl nn ≤ c ∧ c ≤ maxLen) (h : Shows .u32 w' A (digs WB nn)) => by
    have := made_any (bx != by') A (digs WB nn) c w' h (dig_digs' WB2 nn) hc.1 hc.2 (by rw [val_digs' WB2]; omega)
    rw [val_digs' WB2, hdq] at this; exact this
  have hM2 := fun (A : Option Addr) (c : Nat) (w' : World) (hc : wl rr ≤ c ∧ c ≤ maxLen) (h : Shows .u32 w' A (digs WB rr)) => by
    have := made_any false A (digs WB rr) c w' h (dig_digs' WB2 rr) hc.1 hc.2 (by rw [val_digs' WB2]; omega)
    rw [val_digs' WB2] at this; exact this
  change ∀ A c w', _ → _ → Calls _ _ #[.bool (bx != by'), .slice A (wl nn) c] w' _ at hM1
  change ∀ A c w', _ → _ → Calls _ _ #[.bool false, .slice A (wl rr) c] w' _ at hM2
  have HM2 := Lib.hid hM2; clear hM2
  have hr0 : (0 : Int) < (wl r : Nat) := by
    have : wl r ≠ 0 := fun h => absurd (wl_eq_zero.1 h) (by omega)
    omega
  have HP := Lib.hid (fun (A A' : Option Addr) (c : Nat) (W : World) (h : Shows .u32 W A (digs WB q)) (h' : Shows .u32 W A' [1]) => by
    have := plus_any A A' (digs WB q) [1] c 1 W h h' (dig_digs' WB2 q) (fun x hx => by rw [List.mem_singleton.1 hx]; decide) (by show wl q ≤ _; omega) (by simp)
    rw [val_digs' WB2, show val WB [1] = 1 from rfl, ← hnn] at this; exact this)
  have HMi := Lib.hid (fun (A A' : Option Addr) (c c' : Nat) (W : World) (h : Shows .u32 W A (digs WB b)) (h' : Shows .u32 W A' (digs WB r)) => by
    have := minus_any A A' (digs WB b) (digs WB r) c c' W h h' (dig_digs' WB2 b) (dig_digs' WB2 r) (by show wl b ≤ _; omega) hrl (by rw [val_digs' WB2, val_digs' WB2]; omega)
    rw [val_digs' WB2, val_digs' WB2, ← hrr] at this; exact this)
  change Hid (∀ A A' c W, _ → _ → Calls _ _ #[.slice A (wl q) c, .slice A' 1 1] W _) at HP
  change Hid (∀ A A' c c' W, _ → _ → Calls _ _ #[.slice A (wl b) c, .slice A' (wl r) c'] W _) at HMi
  obtain ⟨rfl, _⟩ := hadj
  clear hnn hrr
  cases by'
  all_goals
    have HM1 := Lib.hid hM1
    clear hM1 hdq
    go_enter Try.func47, Try.ntmps47
    go_wp2_with fail
    refine (HSy.out _ ((((HY.out.alloc _).alloc _).alloc _).alloc _)).mono ?_
    rintro e W1 ⟨rfl, hb1⟩
    simp only [World.size_alloc] at hb1
    obtain ⟨k0, k1, k2, k3, f2, f3, hz⟩ := four_keep hb1
    have B1 := Lib.hid hb1
    have X1 := Lib.hid ((((HX.out.alloc _).alloc _).alloc _).alloc _ |>.below (by simpa only [World.size_alloc] using hb1))
    have TX1 := Lib.hid ((((TX.out.alloc _).alloc _).alloc _).alloc _ |>.below (by simpa only [World.size_alloc] using hb1))
    have TY1 := Lib.hid ((((TY.out.alloc _).alloc _).alloc _).alloc _ |>.below (by simpa only [World.size_alloc] using hb1))
    have z1 : w.heap.size + 1 + 1 + 1 + 1 ≤ W1.heap.size := hz
    clear hb1
    go_wp2_with fail
    refine (HSx.out _ X1.out).mono ?_
    rintro e W2 ⟨rfl, hb2⟩
    have hB2 := B1.out.trans (hb2.mono z1)
    have TX2 := Lib.hid (TX1.out.below hb2)
    have TY2 := Lib.hid (TY1.out.below hb2)
    have z2 : w.heap.size + 1 + 1 + 1 + 1 ≤ W2.heap.size := Nat.le_trans z1 hb2.size
    clear k0 k1 k2 k3 f2 f3 hz
    obtain ⟨k0, k1, k2, k3, f2, f3, hz⟩ := four_keep hB2
    have B2 := Lib.hid hB2
    clear hb2 hB2 B1 X1 TX1 TY1 z1
    go_wp2_with fail
    refine (HDv.out _ _ _ TX2.out TY2.out).mono ?_
    rintro e W3 ⟨A2, c2, A3, c3, rfl, hc2, hc2m, hc3, hc3m, hs2, hs3, hb3⟩
    have hB3 := B2.out.trans (hb3.mono z2)
    have z3 : w.heap.size + 1 + 1 + 1 + 1 ≤ W3.heap.size := Nat.le_trans z2 hb3.size
    clear k0 k1 k2 k3 f2 f3 hz
    obtain ⟨k0, k1, k2, k3, f2, f3, hz⟩ := four_keep hB3
    have B3 := Lib.hid hB3
    have TY3 := Lib.hid (TY2.out.below hb3)
    have S2 := Lib.hid hs2; have S3 := Lib.hid hs3
    clear hb3 hB3 hs2 hs3 B2 TX2 TY2 z2
    go_wp2_with fail
    have S1 := Lib.hid (show Shows .u32 (W3.alloc (Obj.cells #[Value.int IntKind.u32 1] 111)) (some ⟨W3.heap.size, 0, none⟩) [1] from Shows.new (fun i hi => by
      match i, hi with
      | 0, _ => rfl))
    refine (HP.out _ _ _ _ (S2.out.alloc _) S1.out).mono ?_
    rintro e W4 ⟨A4, rfl, hs4, hf4, hb4⟩
    rw [World.size_alloc] at hb4
    have hB4 := Lib.hid ((B3.out.alloc z3 (.cells #[.int .u32 1] 111)).trans (hb4.mono (Nat.le_succ_of_le z3)))
    have z4 : w.heap.size + 1 + 1 + 1 + 1 ≤ W4.heap.size := Nat.le_trans z3 (by have := hb4.size; rw [World.size_alloc] at this; omega)
    have hb4' := (Below.refl W3.heap.size W3).alloc (Nat.le_refl _) (.cells #[.int .u32 1] 111) |>.trans (hb4.mono (Nat.le_succ _))
    have S4 := Lib.hid hs4
    have TY4 := Lib.hid (TY3.out.below hb4')
    have S34 := Lib.hid (S3.out.below hb4')
    clear k0 k1 k2 k3 f2 f3 hz hs4 hf4 hb4 hb4' S1
    go_wp2_with fail
    refine (HMi.out _ _ _ _ _ TY4.out S34.out).mono ?_
    rintro e W45 ⟨A5, rfl, hs5, hf5, hb5⟩
    have BN := Lib.hid (hB4.out.trans (hb5.mono z4))
    have zN : w.heap.size + 1 + 1 + 1 + 1 ≤ W45.heap.size := Nat.le_trans z4 hb5.size
    have SN := Lib.hid (S4.out.below hb5)
    have SR := Lib.hid hs5
    obtain ⟨k0, k1, k2, k3, f2, f3, hz⟩ := four_keep BN.out
    have WN := Lib.hid (And.intro (Nat.le_refl (wl nn)) (show wl nn ≤ maxLen by unfold maxLen; omega))
    have WR := Lib.hid (And.intro (Nat.le_refl (wl rr)) (show wl rr ≤ maxLen by unfold maxLen; omega))
    clear hs5 hf5 hb5 S4 TY4 S34 hB4
    go_wp2_with fail
    refine (HM1.out _ _ _ WN.out SN.out).mono ?_
    rintro e W5 ⟨Aq, cq, rfl, hsq, hcq1, hcq2, hfq, hbq⟩
    have B5 := BN.out.trans (hbq.mono zN)
    have z5 : w.heap.size + 1 + 1 + 1 + 1 ≤ W5.heap.size := Nat.le_trans zN hbq.size
    have SQ := Lib.hid hsq; have FQ := Lib.hid (hfq.mono zN)
    have SR5 := Lib.hid (SR.out.below hbq)
    have B5' := Lib.hid B5
    obtain ⟨k0, k1, k2, k3, f2, f3, hz⟩ := four_keep B5
    clear hsq hfq hbq B5
    go_wp2_with fail
    refine (HM2.out _ _ _ WR.out SR5.out).mono ?_
    rintro e W6 ⟨Ar, cr, rfl, hsr, hcr1, hcr2, hfr, hbr⟩
    have B6 := B5'.out.trans (hbr.mono z5)
    clear k0 k1 k2 k3 f2 f3 hz
    obtain ⟨k0, k1, k2, k3, f2, f3, hz⟩ := four_keep B6
    have SQ6 := Lib.hid (SQ.out.below hbr)
    have SRR := Lib.hid hsr; have FR := Lib.hid (hfr.mono z5)
    have HB := Lib.hid (below_four B6)
    clear hsr hfr hbr SQ SR5 B6 B5'
    go_wp2_with fail
    refine bodyPost_ret (v := .tuple #[.agg #[.bool dq, .slice Aq (wl nn) cq], .agg #[.bool false, .slice Ar (wl rr) cr], .int .i64 0]) (by simp [results, Try.results47, go_sem, k2, k3]) rfl ?_
    exact ⟨Aq, cq, Ar, cr, rfl, ((((SQ6.out.setCell FQ.out (p := ⟨w.heap.size + 1 + 1, 0, none⟩) (by simp) _).setCell FQ.out (p := ⟨w.heap.size + 1 + 1, 1, none⟩) (by simp) _).setCell FQ.out (p := ⟨w.heap.size + 1 + 1 + 1, 0, none⟩) (by simp) _).setCell FQ.out (p := ⟨w.heap.size + 1 + 1 + 1, 1, none⟩) (by simp) _), ((((SRR.out.setCell FR.out (p := ⟨w.heap.size + 1 + 1, 0, none⟩) (by simp) _).setCell FR.out (p := ⟨w.heap.size + 1 + 1, 1, none⟩) (by simp) _).setCell FR.out (p := ⟨w.heap.size + 1 + 1 + 1, 0, none⟩) (by simp) _).setCell FR.out (p := ⟨w.heap.size + 1 + 1 + 1, 1, none⟩) (by simp) _), hcq1, hcq2, hcr1, hcr2, ((((HB.out.setCell (p := ⟨w.heap.size + 1 + 1, 0, none⟩) (by simp; omega) _).setCell (p := ⟨w.heap.size + 1 + 1, 1, none⟩) (by simp; omega) _).setCell (p := ⟨w.heap.size + 1 + 1 + 1, 0, none⟩) (by simp; omega) _).setCell (p := ⟨w.heap.size + 1 + 1 + 1, 1, none⟩) (by simp; omega) _)⟩

theorem sval_natAbs (s : Bool) (n : Nat) : (sval s n).natAbs = n := by unfold sval; split <;> omega
theorem sval_neg (s : Bool) (n : Nat) : (s && decide (n ≠ 0)) = decide (sval s n < 0) := by
  unfold sval
  cases s
  · rw [Bool.false_and, if_neg (by decide)]; exact (decide_eq_false (by omega)).symm
  · rw [Bool.true_and, if_pos rfl, decide_eq_decide]; omega

/-- DivMod: quotient and remainder as of the integers that the arguments say -/
theorem DivMod_any (bx by' : Bool) (A A' : Option Addr) (xs ys : List Nat) (c c' : Nat) (w : World) (hx : Shows .u32 w A xs) (dx : Dig WB xs) (hcx : xs.length ≤ c) (hcx2 : c ≤ maxLen)
    (hy : Shows .u32 w A' ys) (dy : Dig WB ys) (hcy : ys.length ≤ c') (hcy2 : c' ≤ maxLen) (hal : wl (val WB xs) ≤ 900000) (hbl : wl (val WB ys) ≤ 900000) (hb0 : 0 < val WB ys) (HD : DivKnown (val WB ys)) :
    Calls Try.prog 47 #[.agg #[.bool bx, .slice A xs.length c], .agg #[.bool by', .slice A' ys.length c']] w fun e w' =>
      ∃ (Q R : Int) (A2 : Option Addr) (c2 : Nat) (A3 : Option Addr) (c3 : Nat), Q = sval bx (val WB xs) / sval by' (val WB ys) ∧ R = sval bx (val WB xs) % sval by' (val WB ys) ∧
        e = .returned (.tuple #[.agg #[.bool (decide (Q < 0)), .slice A2 (wl Q.natAbs) c2], .agg #[.bool (decide (R < 0)), .slice A3 (wl R.natAbs) c3], .int .i64 0]) ∧
        Shows .u32 w' A2 (digs WB Q.natAbs) ∧ Shows .u32 w' A3 (digs WB R.natAbs) ∧ wl Q.natAbs ≤ c2 ∧ c2 ≤ maxLen ∧ wl R.natAbs ≤ c3 ∧ c3 ≤ maxLen ∧ Below w.heap.size w w' := by
  obtain ⟨d1, d2⟩ := div_signs hb0 (rfl : val WB xs / val WB ys = _) (rfl : val WB xs % val WB ys = _) bx by'
  by_cases hadj : bx = true ∧ 0 < val WB xs % val WB ys
  · obtain ⟨q1, q2⟩ := d1 hadj.1 hadj.2
    refine (DivMod_adj bx by' A A' xs ys c c' w hx dx hcx hcx2 hy dy hcy hcy2 hal hbl hb0 HD hadj _ _ rfl rfl _ rfl).mono ?_
    rintro e w' ⟨A2, c2, A3, c3, rfl, s1, s2, h1, h2, h3, h4, h5⟩
    refine ⟨_, _, A2, c2, A3, c3, rfl, rfl, ?_⟩
    rw [← q1, ← q2, sval_natAbs, sval_neg, Int.natAbs_natCast, show decide (((val WB ys - val WB xs % val WB ys : Nat) : Int) < 0) = false from decide_eq_false (by omega)]
    exact ⟨rfl, s1, s2, h1, h2, h3, h4, h5⟩
  · obtain ⟨q1, q2⟩ := d2 (fun h => by apply Classical.byContradiction; intro hc; exact hadj ⟨h, by omega⟩)
    refine (DivMod_plain bx by' A A' xs ys c c' w hx dx hcx hcx2 hy dy hcy hcy2 hal hbl hb0 HD (fun h => by apply Classical.byContradiction; intro hc; exact hadj ⟨h, by omega⟩) _ _ rfl rfl _ rfl).mono ?_
    rintro e w' ⟨A2, c2, A3, c3, rfl, s1, s2, h1, h2, h3, h4, h5⟩
    refine ⟨_, _, A2, c2, A3, c3, rfl, rfl, ?_⟩
    rw [← q1, ← q2, sval_natAbs, sval_neg, Int.natAbs_natCast, show decide (((val WB xs % val WB ys : Nat) : Int) < 0) = false from decide_eq_false (by omega)]
    exact ⟨rfl, s1, s2, h1, h2, h3, h4, h5⟩
end Go.Proofs.Ytmlkiddkgikdhaa
