/- The reference's integers: quotient and remainder, greatest common divisor. -/
import Derived.Test.YtmlkiddkgikdhaaRsu
namespace Go.Proofs.Ytmlkiddkgikdhaa
open Go.RowKit FF

set_option maxRecDepth 100000 in
set_option maxHeartbeats 2000000 in
theorem rDivMod_zero (s t : Bool) (A A' : Option Addr) (n m c c' : Nat) (x y : Int) (w : World) (_hx : AI w s A n c x) (hy : AI w t A' m c' y) (hlen : n + m ≤ 400000) (h0 : y = 0) :
    Calls Try.prog 48 #[.agg #[.bool s, .slice A n c], .agg #[.bool t, .slice A' m c']] w fun e w' =>
      e = .returned (.tuple #[.agg #[.bool false, .slice none 0 0], .agg #[.bool false, .slice none 0 0], .int .i64 10]) ∧ Below w.heap.size w w' := by
  subst h0
  have HDy := Lib.hid (fun w' h => rDigits_any t A' m c' 0 w' h (by omega))
  unfold HalfPost at HDy
  have HY := Lib.hid hy
  have d0 : (((hl (0 : Int).natAbs : Nat) : Int) == 0) = true := t_beq rfl
  clear _hx hy
  generalize hl (0 : Int).natAbs = l at *
  go_enter Try.func48, Try.ntmps48
  go_wp2_with fail
  refine (HDy.out _ ((((HY.out.alloc _).alloc _).alloc _).alloc _)).mono ?_
  rintro e W1 ⟨Ay, cy, rfl, -, -, -, -, hb1⟩
  simp only [World.size_alloc] at hb1
  obtain ⟨k0, k1, k2, k3, f2, f3, hz⟩ := four_keep hb1
  have HW := Lib.hid (below_four hb1)
  clear hb1
  go_wp2_with fail
  refine bodyPost_ret (v := .tuple #[.agg #[.bool false, .slice none 0 0], .agg #[.bool false, .slice none 0 0], .int .i64 10]) (by simp [results, Try.results48, go_sem, k2, k3]) rfl ?_
  exact ⟨rfl, ((((HW.out.setCell (p := ⟨w.heap.size + 1 + 1, 0, none⟩) (by simp; omega) _).setCell (p := ⟨w.heap.size + 1 + 1, 1, none⟩) (by simp; omega) _).setCell (p := ⟨w.heap.size + 1 + 1 + 1, 0, none⟩) (by simp; omega) _).setCell (p := ⟨w.heap.size + 1 + 1 + 1, 1, none⟩) (by simp; omega) _)⟩

set_option maxRecDepth 100000 in
set_option maxHeartbeats 4000000 in
theorem rDivMod_plain (s t : Bool) (A A' : Option Addr) (n m c c' : Nat) (x y : Int) (w : World) (hx : AI w s A n c x) (hy : AI w t A' m c' y) (hlen : n + m ≤ 400000) (hb0 : 0 < y.natAbs)
    (hadj : s = true → x.natAbs % y.natAbs = 0) (nn rr : Nat) (hnn : nn = x.natAbs / y.natAbs) (hrr : rr = x.natAbs % y.natAbs) (dq : Bool) (hdq : ((s != t) && decide (nn ≠ 0)) = dq) :
    Calls Try.prog 48 #[.agg #[.bool s, .slice A n c], .agg #[.bool t, .slice A' m c']] w fun e w' =>
      ∃ A2 c2 A3 c3, e = .returned (.tuple #[.agg #[.bool dq, .slice A2 (wl nn) c2], .agg #[.bool false, .slice A3 (wl rr) c3], .int .i64 0]) ∧
        Shows .u32 w' A2 (digs WB nn) ∧ Shows .u32 w' A3 (digs WB rr) ∧ wl nn ≤ c2 ∧ c2 ≤ maxLen ∧ wl rr ≤ c3 ∧ c3 ≤ maxLen ∧ Below w.heap.size w w' := by
  have HDx := Lib.hid (fun w' h => rDigits_any s A n c x w' h (by omega))
  have HDy := Lib.hid (fun w' h => rDigits_any t A' m c' y w' h (by omega))
  unfold HalfPost at HDx HDy
  have hla := hx.hl_le
  have hlb := hy.hl_le
  have HX := Lib.hid hx; have HY := Lib.hid hy
  clear hx hy
  generalize x.natAbs = a at *
  generalize y.natAbs = b at *
  have hqa : hl (a / b) ≤ hl a := hl_le (Nat.div_le_self _ _)
  have hrb : a % b < b := Nat.mod_lt _ hb0
  have hrl : hl (a % b) ≤ hl b := hl_le (by omega)
  have hDv := fun A A' c c' (w' : World) ha hb => rDivide_any A A' a b c c' w' ha hb (by omega) (by omega) hb0
  unfold RDivPost at hDv
  have d0 : (((hl b : Nat) : Int) == 0) = false := f_beq (by have := hl_pos (n := b) (by omega); omega)
  clear hb0
  subst hnn hrr
  have hM1 := fun (A : Option Addr) (c : Nat) (w' : World) (h : Shows .i64 w' A (digs HB (a / b))) (h1 : hl (a / b) ≤ c) (h2 : c ≤ maxLen) => by
    have := rMade_any (s != t) A (digs HB (a / b)) c w' h (dig_digs' HB2 (a / b)) h1 h2 (show hl (a / b) ≤ 3000000 by omega)
    rw [val_digs' HB2, hdq] at this; exact this
  have hM2 := fun (A : Option Addr) (c : Nat) (w' : World) (h : Shows .i64 w' A (digs HB (a % b))) (h1 : hl (a % b) ≤ c) (h2 : c ≤ maxLen) => by
    have := rMade_any false A (digs HB (a % b)) c w' h (dig_digs' HB2 (a % b)) h1 h2 (show hl (a % b) ≤ 3000000 by omega)
    rw [val_digs' HB2] at this; exact this
  change ∀ (A : Option Addr) (c : Nat) (w' : World), _ → _ → _ → Calls _ _ #[.bool (s != t), .slice A (hl (a / b)) c] w' _ at hM1
  change ∀ (A : Option Addr) (c : Nat) (w' : World), _ → _ → _ → Calls _ _ #[.bool false, .slice A (hl (a % b)) c] w' _ at hM2
  have HM2 := Lib.hid hM2; clear hM2
  generalize a / b = nn at *
  generalize a % b = rr at *
  have HDv := Lib.hid hDv; clear hDv
  have hnr : s = true → ¬ ((0 : Int) < (hl rr : Nat)) := fun h => by
    rw [hadj h]; simp [hl_zero]
  clear hadj hrl hrb
  cases s <;> cases t
  all_goals
    have HNR := Lib.hid hnr; clear hnr
    try have hnt := HNR.out rfl
    have HM1 := Lib.hid hM1
    clear hM1
    go_enter Try.func48, Try.ntmps48
    go_wp2_with fail
    refine (HDy.out _ ((((HY.out.alloc _).alloc _).alloc _).alloc _)).mono ?_
    rintro e W1 ⟨Ay, cy, rfl, hsy, qy1, qy2, -, hb1⟩
    simp only [World.size_alloc] at hb1
    obtain ⟨k0, k1, k2, k3, f2, f3, hz⟩ := four_keep hb1
    have B1 := Lib.hid hb1
    have X1 := Lib.hid (HX.out.keep (below_four hb1))
    have SY1 := Lib.hid hsy
    have z1 : w.heap.size + 1 + 1 + 1 + 1 ≤ W1.heap.size := hz
    clear hb1 hsy
    go_wp2_with fail
    refine (HDx.out _ X1.out).mono ?_
    rintro e W2 ⟨Ax, cx, rfl, hsx, qx1, qx2, -, hb2⟩
    have hB2 := B1.out.trans (hb2.mono z1)
    have SX2 := Lib.hid hsx
    have SY2 := Lib.hid (SY1.out.below hb2)
    have z2 : w.heap.size + 1 + 1 + 1 + 1 ≤ W2.heap.size := Nat.le_trans z1 hb2.size
    clear k0 k1 k2 k3 f2 f3 hz
    obtain ⟨k0, k1, k2, k3, f2, f3, hz⟩ := four_keep hB2
    have B2 := Lib.hid hB2
    clear hb2 hB2 B1 X1 SY1 z1 hsx
    go_wp2_with fail
    refine (HDv.out _ _ _ _ _ SX2.out SY2.out).mono ?_
    rintro e W3 ⟨A2, c2, A3, c3, rfl, hc2, hc2m, hc3, hc3m, hs2, hs3, hb3⟩
    have hB3 := B2.out.trans (hb3.mono z2)
    have z3 : w.heap.size + 1 + 1 + 1 + 1 ≤ W3.heap.size := Nat.le_trans z2 hb3.size
    clear k0 k1 k2 k3 f2 f3 hz
    obtain ⟨k0, k1, k2, k3, f2, f3, hz⟩ := four_keep hB3
    have B3 := Lib.hid hB3
    have SY3 := Lib.hid (SY2.out.below hb3)
    have S2 := Lib.hid hs2; have S3 := Lib.hid hs3
    clear hb3 hB3 hs2 hs3 B2 SX2 SY2 z2
    go_wp2_with fail
    have WN := Lib.hid (And.intro hc2 hc2m)
    have WR := Lib.hid (And.intro hc3 hc3m)
    have BN := B3; have zN := z3; have SN := S2; have SR := S3
    refine (HM1.out _ _ _ SN.out WN.out.1 WN.out.2).mono ?_
    rintro e W5 ⟨Aq, cq, rfl, hsq, hcq1, hcq2, hfq, hbq⟩
    have B5 := BN.out.trans (hbq.mono zN)
    have z5 : w.heap.size + 1 + 1 + 1 + 1 ≤ W5.heap.size := Nat.le_trans zN hbq.size
    have SQ := Lib.hid hsq; have FQ := Lib.hid (hfq.mono zN)
    have SR5 := Lib.hid (SR.out.below hbq)
    have B5' := Lib.hid B5
    clear k0 k1 k2 k3 f2 f3 hz
    obtain ⟨k0, k1, k2, k3, f2, f3, hz⟩ := four_keep B5
    clear hsq hfq hbq B5
    go_wp2_with fail
    refine (HM2.out _ _ _ SR5.out WR.out.1 WR.out.2).mono ?_
    rintro e W6 ⟨Ar, cr, rfl, hsr, hcr1, hcr2, hfr, hbr⟩
    have B6 := B5'.out.trans (hbr.mono z5)
    clear k0 k1 k2 k3 f2 f3 hz
    obtain ⟨k0, k1, k2, k3, f2, f3, hz⟩ := four_keep B6
    have SQ6 := Lib.hid (SQ.out.below hbr)
    have SRR := Lib.hid hsr; have FR := Lib.hid (hfr.mono z5)
    have HW := Lib.hid (below_four B6)
    clear hsr hfr hbr SQ SR5 B6 B5'
    go_wp2_with fail
    refine bodyPost_ret (v := .tuple #[.agg #[.bool dq, .slice Aq (wl nn) cq], .agg #[.bool false, .slice Ar (wl rr) cr], .int .i64 0]) (by simp [results, Try.results48, go_sem, k2, k3]) rfl ?_
    exact ⟨Aq, cq, Ar, cr, rfl, ((((SQ6.out.setCell FQ.out (p := ⟨w.heap.size + 1 + 1, 0, none⟩) (by simp) _).setCell FQ.out (p := ⟨w.heap.size + 1 + 1, 1, none⟩) (by simp) _).setCell FQ.out (p := ⟨w.heap.size + 1 + 1 + 1, 0, none⟩) (by simp) _).setCell FQ.out (p := ⟨w.heap.size + 1 + 1 + 1, 1, none⟩) (by simp) _), ((((SRR.out.setCell FR.out (p := ⟨w.heap.size + 1 + 1, 0, none⟩) (by simp) _).setCell FR.out (p := ⟨w.heap.size + 1 + 1, 1, none⟩) (by simp) _).setCell FR.out (p := ⟨w.heap.size + 1 + 1 + 1, 0, none⟩) (by simp) _).setCell FR.out (p := ⟨w.heap.size + 1 + 1 + 1, 1, none⟩) (by simp) _), hcq1, hcq2, hcr1, hcr2, ((((HW.out.setCell (p := ⟨w.heap.size + 1 + 1, 0, none⟩) (by simp; omega) _).setCell (p := ⟨w.heap.size + 1 + 1, 1, none⟩) (by simp; omega) _).setCell (p := ⟨w.heap.size + 1 + 1 + 1, 0, none⟩) (by simp; omega) _).setCell (p := ⟨w.heap.size + 1 + 1 + 1, 1, none⟩) (by simp; omega) _)⟩

set_option maxRecDepth 100000 in
set_option maxHeartbeats 4000000 in
theorem rDivMod_adj (s t : Bool) (A A' : Option Addr) (n m c c' : Nat) (x y : Int) (w : World) (hx : AI w s A n c x) (hy : AI w t A' m c' y) (hlen : n + m ≤ 400000) (hb0 : 0 < y.natAbs)
    (hadj : s = true ∧ 0 < x.natAbs % y.natAbs) (nn rr : Nat) (hnn : nn = x.natAbs / y.natAbs + 1) (hrr : rr = y.natAbs - x.natAbs % y.natAbs) (dq : Bool) (hdq : ((s != t) && decide (nn ≠ 0)) = dq) :
    Calls Try.prog 48 #[.agg #[.bool s, .slice A n c], .agg #[.bool t, .slice A' m c']] w fun e w' =>
      ∃ A2 c2 A3 c3, e = .returned (.tuple #[.agg #[.bool dq, .slice A2 (wl nn) c2], .agg #[.bool false, .slice A3 (wl rr) c3], .int .i64 0]) ∧
        Shows .u32 w' A2 (digs WB nn) ∧ Shows .u32 w' A3 (digs WB rr) ∧ wl nn ≤ c2 ∧ c2 ≤ maxLen ∧ wl rr ≤ c3 ∧ c3 ≤ maxLen ∧ Below w.heap.size w w' := by
  have HDx := Lib.hid (fun w' h => rDigits_any s A n c x w' h (by omega))
  have HDy := Lib.hid (fun w' h => rDigits_any t A' m c' y w' h (by omega))
  unfold HalfPost at HDx HDy
  have hla := hx.hl_le
  have hlb := hy.hl_le
  have HX := Lib.hid hx; have HY := Lib.hid hy
  clear hx hy
  generalize x.natAbs = a at *
  generalize y.natAbs = b at *
  have hqa : hl (a / b) ≤ hl a := hl_le (Nat.div_le_self _ _)
  have hrb : a % b < b := Nat.mod_lt _ hb0
  have hrl : hl (a % b) ≤ hl b := hl_le (by omega)
  have hDv := fun A A' c c' (w' : World) ha hb => rDivide_any A A' a b c c' w' ha hb (by omega) (by omega) hb0
  unfold RDivPost at hDv
  have d0 : (((hl b : Nat) : Int) == 0) = false := f_beq (by have := hl_pos (n := b) (by omega); omega)
  have hnl : hl nn ≤ hl a + 1 := by
    refine Nat.le_trans (hl_le (show nn ≤ a + 1 by have := Nat.div_le_self a b; omega)) (Nat.le_trans (hl_add a 1) ?_)
    have h1 : hl 1 = 1 := by decide
    by_cases h0 : a = 0
    · subst h0
      obtain ⟨-, h⟩ := hadj
      simp at h
    · have := hl_pos h0
      omega
  have hrrl : hl rr ≤ hl b := hl_le (by omega)
  have hM1 := fun (A : Option Addr) (c : Nat) (w' : World) (h : Shows .i64 w' A (digs HB nn)) (h1 : hl nn ≤ c) (h2 : c ≤ maxLen) => by
    have := rMade_any (s != t) A (digs HB nn) c w' h (dig_digs' HB2 nn) h1 h2 (show hl nn ≤ 3000000 by omega)
    rw [val_digs' HB2, hdq] at this; exact this
  have hM2 := fun (A : Option Addr) (c : Nat) (w' : World) (h : Shows .i64 w' A (digs HB rr)) (h1 : hl rr ≤ c) (h2 : c ≤ maxLen) => by
    have := rMade_any false A (digs HB rr) c w' h (dig_digs' HB2 rr) h1 h2 (show hl rr ≤ 3000000 by omega)
    rw [val_digs' HB2] at this; exact this
  change ∀ (A : Option Addr) (c : Nat) (w' : World), _ → _ → _ → Calls _ _ #[.bool (s != t), .slice A (hl nn) c] w' _ at hM1
  change ∀ (A : Option Addr) (c : Nat) (w' : World), _ → _ → _ → Calls _ _ #[.bool false, .slice A (hl rr) c] w' _ at hM2
  have HM2 := Lib.hid hM2; clear hM2
  have hr0 : (0 : Int) < (hl (a % b) : Nat) := by
    have := hl_pos (n := a % b) (by omega)
    omega
  have HP := Lib.hid (fun (A A' : Option Addr) (c : Nat) (W : World) (h : Shows .i64 W A (digs HB (a / b))) (h' : Shows .i64 W A' [1]) => by
    have := rPlus_any A A' (digs HB (a / b)) [1] c 1 W h h' (dig_digs' HB2 _) (fun x hx => by rw [List.mem_singleton.1 hx]; decide) (show hl (a / b) ≤ 2000000 by omega) (by simp)
    rw [val_digs' HB2, show val HB [1] = 1 from rfl, ← hnn] at this; exact this)
  have HMi := Lib.hid (fun (A A' : Option Addr) (c c' : Nat) (W : World) (h : Shows .i64 W A (digs HB b)) (h' : Shows .i64 W A' (digs HB (a % b))) => by
    have := rMinus_any A A' (digs HB b) (digs HB (a % b)) c c' W h h' (dig_digs' HB2 b) (dig_digs' HB2 _) (show hl b ≤ 2000000 by omega) hrl (by rw [val_digs' HB2, val_digs' HB2]; omega)
    rw [val_digs' HB2, val_digs' HB2, ← hrr] at this; exact this)
  change Hid (∀ (A A' : Option Addr) (c : Nat) (W : World), _ → _ → Calls _ _ #[.slice A (hl (a / b)) c, .slice A' 1 1] W _) at HP
  change Hid (∀ (A A' : Option Addr) (c c' : Nat) (W : World), _ → _ → Calls _ _ #[.slice A (hl b) c, .slice A' (hl (a % b)) c'] W _) at HMi
  unfold HalfPost at HP HMi
  obtain ⟨rfl, _⟩ := hadj
  clear hnn hrr hb0
  generalize a / b = q at *
  generalize a % b = r at *
  have HDv := Lib.hid hDv; clear hDv
  cases t
  all_goals
    have HM1 := Lib.hid hM1
    clear hM1
    go_enter Try.func48, Try.ntmps48
    go_wp2_with fail
    refine (HDy.out _ ((((HY.out.alloc _).alloc _).alloc _).alloc _)).mono ?_
    rintro e W1 ⟨Ay, cy, rfl, hsy, qy1, qy2, -, hb1⟩
    simp only [World.size_alloc] at hb1
    obtain ⟨k0, k1, k2, k3, f2, f3, hz⟩ := four_keep hb1
    have B1 := Lib.hid hb1
    have X1 := Lib.hid (HX.out.keep (below_four hb1))
    have SY1 := Lib.hid hsy
    have z1 : w.heap.size + 1 + 1 + 1 + 1 ≤ W1.heap.size := hz
    clear hb1 hsy
    go_wp2_with fail
    refine (HDx.out _ X1.out).mono ?_
    rintro e W2 ⟨Ax, cx, rfl, hsx, qx1, qx2, -, hb2⟩
    have hB2 := B1.out.trans (hb2.mono z1)
    have SX2 := Lib.hid hsx
    have SY2 := Lib.hid (SY1.out.below hb2)
    have z2 : w.heap.size + 1 + 1 + 1 + 1 ≤ W2.heap.size := Nat.le_trans z1 hb2.size
    clear k0 k1 k2 k3 f2 f3 hz
    obtain ⟨k0, k1, k2, k3, f2, f3, hz⟩ := four_keep hB2
    have B2 := Lib.hid hB2
    clear hb2 hB2 B1 X1 SY1 z1 hsx
    go_wp2_with fail
    refine (HDv.out _ _ _ _ _ SX2.out SY2.out).mono ?_
    rintro e W3 ⟨A2, c2, A3, c3, rfl, hc2, hc2m, hc3, hc3m, hs2, hs3, hb3⟩
    have hB3 := B2.out.trans (hb3.mono z2)
    have z3 : w.heap.size + 1 + 1 + 1 + 1 ≤ W3.heap.size := Nat.le_trans z2 hb3.size
    clear k0 k1 k2 k3 f2 f3 hz
    obtain ⟨k0, k1, k2, k3, f2, f3, hz⟩ := four_keep hB3
    have B3 := Lib.hid hB3
    have SY3 := Lib.hid (SY2.out.below hb3)
    have S2 := Lib.hid hs2; have S3 := Lib.hid hs3
    clear hb3 hB3 hs2 hs3 B2 SX2 SY2 z2
    go_wp2_with fail
    have S1 := Lib.hid (show Shows .i64 (W3.alloc (Obj.cells #[Value.int IntKind.i64 1] 3)) (some ⟨W3.heap.size, 0, none⟩) [1] from Shows.new (fun i hi => by
      match i, hi with
      | 0, _ => rfl))
    refine (HP.out _ _ _ _ (S2.out.alloc _) S1.out).mono ?_
    rintro e W4 ⟨A4, c4, rfl, hs4, q41, q42, hf4, hb4⟩
    rw [World.size_alloc] at hb4
    have hB4 := Lib.hid ((B3.out.alloc z3 (.cells #[.int .i64 1] 3)).trans (hb4.mono (Nat.le_succ_of_le z3)))
    have z4 : w.heap.size + 1 + 1 + 1 + 1 ≤ W4.heap.size := Nat.le_trans z3 (by have := hb4.size; rw [World.size_alloc] at this; omega)
    have hb4' := (Below.refl W3.heap.size W3).alloc (Nat.le_refl _) (.cells #[.int .i64 1] 3) |>.trans (hb4.mono (Nat.le_succ _))
    have S4 := Lib.hid hs4
    have SY4 := Lib.hid (SY3.out.below hb4')
    have S34 := Lib.hid (S3.out.below hb4')
    clear k0 k1 k2 k3 f2 f3 hz hs4 hf4 hb4 hb4' S1
    go_wp2_with fail
    refine (HMi.out _ _ _ _ _ SY4.out S34.out).mono ?_
    rintro e W45 ⟨A5, c5, rfl, hs5, q51, q52, hf5, hb5⟩
    have BN := Lib.hid (hB4.out.trans (hb5.mono z4))
    have zN : w.heap.size + 1 + 1 + 1 + 1 ≤ W45.heap.size := Nat.le_trans z4 hb5.size
    have SN := Lib.hid (S4.out.below hb5)
    have SR := Lib.hid hs5
    obtain ⟨k0, k1, k2, k3, f2, f3, hz⟩ := four_keep BN.out
    have WN := Lib.hid (And.intro q41 q42)
    have WR := Lib.hid (And.intro q51 q52)
    clear hs5 hf5 hb5 S4 SY4 S34 hB4
    go_wp2_with fail
    refine (HM1.out _ _ _ SN.out WN.out.1 WN.out.2).mono ?_
    rintro e W5 ⟨Aq, cq, rfl, hsq, hcq1, hcq2, hfq, hbq⟩
    have B5 := BN.out.trans (hbq.mono zN)
    have z5 : w.heap.size + 1 + 1 + 1 + 1 ≤ W5.heap.size := Nat.le_trans zN hbq.size
    have SQ := Lib.hid hsq; have FQ := Lib.hid (hfq.mono zN)
    have SR5 := Lib.hid (SR.out.below hbq)
    have B5' := Lib.hid B5
    clear k0 k1 k2 k3 f2 f3 hz
    obtain ⟨k0, k1, k2, k3, f2, f3, hz⟩ := four_keep B5
    clear hsq hfq hbq B5
    go_wp2_with fail
    refine (HM2.out _ _ _ SR5.out WR.out.1 WR.out.2).mono ?_
    rintro e W6 ⟨Ar, cr, rfl, hsr, hcr1, hcr2, hfr, hbr⟩
    have B6 := B5'.out.trans (hbr.mono z5)
    clear k0 k1 k2 k3 f2 f3 hz
    obtain ⟨k0, k1, k2, k3, f2, f3, hz⟩ := four_keep B6
    have SQ6 := Lib.hid (SQ.out.below hbr)
    have SRR := Lib.hid hsr; have FR := Lib.hid (hfr.mono z5)
    have HW := Lib.hid (below_four B6)
    clear hsr hfr hbr SQ SR5 B6 B5'
    go_wp2_with fail
    refine bodyPost_ret (v := .tuple #[.agg #[.bool dq, .slice Aq (wl nn) cq], .agg #[.bool false, .slice Ar (wl rr) cr], .int .i64 0]) (by simp [results, Try.results48, go_sem, k2, k3]) rfl ?_
    exact ⟨Aq, cq, Ar, cr, rfl, ((((SQ6.out.setCell FQ.out (p := ⟨w.heap.size + 1 + 1, 0, none⟩) (by simp) _).setCell FQ.out (p := ⟨w.heap.size + 1 + 1, 1, none⟩) (by simp) _).setCell FQ.out (p := ⟨w.heap.size + 1 + 1 + 1, 0, none⟩) (by simp) _).setCell FQ.out (p := ⟨w.heap.size + 1 + 1 + 1, 1, none⟩) (by simp) _), ((((SRR.out.setCell FR.out (p := ⟨w.heap.size + 1 + 1, 0, none⟩) (by simp) _).setCell FR.out (p := ⟨w.heap.size + 1 + 1, 1, none⟩) (by simp) _).setCell FR.out (p := ⟨w.heap.size + 1 + 1 + 1, 0, none⟩) (by simp) _).setCell FR.out (p := ⟨w.heap.size + 1 + 1 + 1, 1, none⟩) (by simp) _), hcq1, hcq2, hcr1, hcr2, ((((HW.out.setCell (p := ⟨w.heap.size + 1 + 1, 0, none⟩) (by simp; omega) _).setCell (p := ⟨w.heap.size + 1 + 1, 1, none⟩) (by simp; omega) _).setCell (p := ⟨w.heap.size + 1 + 1 + 1, 0, none⟩) (by simp; omega) _).setCell (p := ⟨w.heap.size + 1 + 1 + 1, 1, none⟩) (by simp; omega) _)⟩
end Go.Proofs.Ytmlkiddkgikdhaa
