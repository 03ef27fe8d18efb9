/- Words about integers, fractions and matrices that lie in memory; the calls that the fractions of both sides are made of. -/
import Derived.Test.YtimdkjbmeogpoaaGreatDoorURti
import Derived.Test.YtimdkjbmeogpoaaGreatDoorURpf
section
namespace Go.Proofs.YtimdkjbmeogpoaaGreatDoor
open Go.RowKit FF
theorem add_cases (s t : Bool) (a b : Nat) : ∃ (u : Bool) (v : Nat), sval s a + sval t b = sval u v ∧ v ≤ a + b ∧ ((s == t) = true ∧ u = s ∧ v = a + b ∨ (s == t) = false ∧ decide (a < b) = false ∧ b ≤ a ∧ u = s ∧ v = a - b ∨ (s == t) = false ∧ decide (a < b) = true ∧ a ≤ b ∧ u = t ∧ v = b - a) := by
 by_cases h : s = t
 ·subst h
  refine ⟨s, a + b, ?_, Nat.le_refl _, .inl ⟨beq_self_eq_true s, rfl, rfl⟩⟩
  cases s <;> simp [sval] <;> omega
 ·have hf : (s == t) = false := by simpa using h
  by_cases hle : b ≤ a
  ·refine ⟨s, a - b, ?_, by omega, .inr (.inl ⟨hf, decide_eq_false (by omega), hle, rfl, rfl⟩)⟩
   cases s <;> cases t <;> simp at h <;> simp [sval] <;> omega
  ·refine ⟨t, b - a, ?_, by omega, .inr (.inr ⟨hf, decide_eq_true (by omega), by omega, rfl, rfl⟩)⟩
   cases s <;> cases t <;> simp at h <;> simp [sval] <;> omega
theorem hl_add (a b : Nat) : hl (a + b) ≤ max (hl a) (hl b) + 1 := by
 have h1 := lt_pow_digs HB2 a
 have h2 := lt_pow_digs HB2 b
 change a < HB ^ hl a at h1
 change b < HB ^ hl b at h2
 refine digs_length_le HB2 ?_
 have h3 : HB ^ hl a ≤ HB ^ max (hl a) (hl b) := Nat.pow_le_pow_right (by decide) (by omega)
 have h4 : HB ^ hl b ≤ HB ^ max (hl a) (hl b) := Nat.pow_le_pow_right (by decide) (by omega)
 rw [Nat.pow_succ]
 have h5 : HB ^ max (hl a) (hl b) * 2 ≤ HB ^ max (hl a) (hl b) * HB := Nat.mul_le_mul_left _ HB2
 omega
theorem AI.eq_sval {w : World} {s : Bool} {A : Option Addr} {n c : Nat} {z : Int} (h : AI w s A n c z) : sval s z.natAbs = z := by
 obtain ⟨xs, -, -, -, -, -, rfl, -⟩ := h
 rw [sval_natAbs]
theorem below_draw1 {B : Nat} {a w : World} (h : Below B a w) : Below B a w.drew := h.drew
theorem below_draw2 {B n : Nat} {a w : World} (h : Below B a w) : Below B a (w.drewN n).drew := (below_drewN h n).drew
set_option maxRecDepth 100000 in
set_option maxHeartbeats 4000000 in
theorem rAdd_any (s t : Bool) (A A' : Option Addr) (n m c c' : Nat) (x y : Int) (w : World) (hx : AI w s A n c x) (hy : AI w t A' m c' y) (hlen : n + m ≤ 400000) :
  Calls Tryz.prog 78 #[.agg #[.bool s, .slice A n c], .agg #[.bool t, .slice A' m c']] w (IntPost w (x + y)) := by
 have HDx := lhd (fun w' h => rDigits_any s A n c x w' h (by omega))
 have HDy := lhd (fun w' h => rDigits_any t A' m c' y w' h (by omega))
 unfold HalfPost at HDx HDy
 have ex := hx.eq_sval
 have ey := hy.eq_sval
 have hla := hx.hl_le
 have hlb := hy.hl_le
 have HX := lhd hx; have HY := lhd hy
 obtain ⟨u, v, hsv, hvab, hcase⟩ := add_cases s t x.natAbs y.natAbs
 rw [ex, ey] at hsv
 generalize x.natAbs = a at *
 generalize y.natAbs = b at *
 have hvl : hl v ≤ 2 * n + 2 * m + 1 := Nat.le_trans (hl_le hvab) (Nat.le_trans (hl_add a b) (by omega))
 have HSV := lhd (show sval u v = x + y from hsv.symm)
 generalize x + y = z at *
 have HL := lhd (fun (A A' : Option Addr) (c c' : Nat) (w' : World) (h : Shows .i64 w' A (digs HB a)) (h' : Shows .i64 w' A' (digs HB b)) => rLess_any A A' a b c c' w' h h' (by omega))
 have HP := lhd (fun (A A' : Option Addr) (c c' : Nat) (w' : World) (h : Shows .i64 w' A (digs HB a)) (h' : Shows .i64 w' A' (digs HB b)) => by
  have := rPlus_any A A' (digs HB a) (digs HB b) c c' w' h h' (dig_digs' HB2 a) (dig_digs' HB2 b) (show hl a ≤ 2000000 by omega) (show hl b ≤ 2000000 by omega)
  rw [val_digs' HB2, val_digs' HB2] at this; exact this)
 have HN1 := lhd (fun (hle : b ≤ a) (A A' : Option Addr) (c c' : Nat) (w' : World) (h : Shows .i64 w' A (digs HB a)) (h' : Shows .i64 w' A' (digs HB b)) => by
  have := rMinus_any A A' (digs HB a) (digs HB b) c c' w' h h' (dig_digs' HB2 a) (dig_digs' HB2 b) (show hl a ≤ 2000000 by omega) (hl_le hle) (by rw [val_digs' HB2, val_digs' HB2]; exact hle)
  rw [val_digs' HB2, val_digs' HB2] at this; exact this)
 have HN2 := lhd (fun (hle : a ≤ b) (A A' : Option Addr) (c c' : Nat) (w' : World) (h : Shows .i64 w' A (digs HB a)) (h' : Shows .i64 w' A' (digs HB b)) => by
  have := rMinus_any A' A (digs HB b) (digs HB a) c' c w' h' h (dig_digs' HB2 b) (dig_digs' HB2 a) (show hl b ≤ 2000000 by omega) (hl_le hle) (by rw [val_digs' HB2, val_digs' HB2]; exact hle)
  rw [val_digs' HB2, val_digs' HB2] at this; exact this)
 change Hid (∀ (A A' : Option Addr) (c c' : Nat) (w' : World), _ → _ → Calls _ _ #[.slice A (hl a) c, .slice A' (hl b) c'] w' _) at HP
 change Hid (_ → ∀ (A A' : Option Addr) (c c' : Nat) (w' : World), _ → _ → Calls _ _ #[.slice A (hl a) c, .slice A' (hl b) c'] w' _) at HN1
 change Hid (_ → ∀ (A A' : Option Addr) (c c' : Nat) (w' : World), _ → _ → Calls _ _ #[.slice A' (hl b) c', .slice A (hl a) c] w' _) at HN2
 unfold HalfPost at HP HN1 HN2
 have HM := lhd (fun (A : Option Addr) (c : Nat) (w' : World) (h : Shows .i64 w' A (digs HB v)) (h1 : hl v ≤ c) (h2 : c ≤ maxLen) => by
  have := rMade_any u A (digs HB v) c w' h (dig_digs' HB2 v) h1 h2 (show hl v ≤ 3000000 by omega)
  rw [val_digs' HB2] at this; exact this)
 change Hid (∀ (A : Option Addr) (c : Nat) (w' : World), _ → _ → _ → Calls _ _ #[.bool u, .slice A (hl v) c] w' _) at HM
 have HK := lhd hcase
 clear hx hy ex ey hsv hvab hcase hla hlb hvl hlen
 have hR : w.heap.size + 1 < w.heap.size + 1 + 1 := by omega
 go_enter Tryz.func78, Tryz.ntmps78
 go_wp2_with fail
 go_region_held3 (fun w' => Below w.heap.size w w' ∧ w'.cell? ⟨w.heap.size, 0, none⟩ = some (.bool s) ∧ w'.cell? ⟨w.heap.size, 1, none⟩ = some (.slice A n c) ∧ w'.cell? ⟨w.heap.size + 1, 0, none⟩ = some (.bool t) ∧ w'.cell? ⟨w.heap.size + 1, 1, none⟩ = some (.slice A' m c') ∧
  w'.cell? ⟨w.heap.size + 1 + 1, 0, none⟩ = some (cellAt w' ⟨w.heap.size + 1 + 1, 0, none⟩) ∧ w'.cell? ⟨w.heap.size + 1 + 1, 1, none⟩ = some (cellAt w' ⟨w.heap.size + 1 + 1, 1, none⟩) ∧ w'.frozen? ⟨w.heap.size + 1 + 1, 0, none⟩ = false ∧ w'.frozen? ⟨w.heap.size + 1 + 1, 1, none⟩ = false ∧ w.heap.size + 1 + 1 < w'.heap.size)
  (first
   | (refine ⟨(((Below.refl _ _).alloc (Nat.le_refl _) _).alloc (by simp) _).alloc (by simp; omega) _ |>.drew, ?_⟩; simp [go_sem, cellAt])
   | (refine Sres.keep hR (by assumption) ?_; first | assumption | exact (Below.refl _ _).alloc (Nat.le_refl _) _ | exact below_drewN (Below.refl _ _) _)
   | exact Sres.store hR (by assumption) _ _)
  (first
   | (go_at_call 124; (with_reducible refine (HDx.out _ (in_ai (by assumption) HX.out)).mono ?_); rintro e w' ⟨A1, c1, rfl, hs1, q1, q2, hf1, hbx⟩)
   | (go_at_call 124; (with_reducible refine (HDy.out _ (in_ai (by assumption) HY.out)).mono ?_); rintro e w' ⟨A2, c2, rfl, hs2, q3, q4, hf2, hby⟩))
 have B2 := three_drew (hbx.trans (hby.mono hbx.size))
 obtain ⟨k0, k1, k2, f2, hz, B⟩ := three_keep B2
 have X2 := lhd (show Sres w (w.heap.size + 1 + 1) (.bool s) (.slice A n c) (.bool t) (.slice A' m c') w' from ⟨B, k0 0, k0 1, k1 0, k1 1, cellAt_of (k2 0), cellAt_of (k2 1), f2 0, f2 1, hz⟩)
 have HB2 := lhd B2
 have SA := lhd (hs1.below hby); have SB := lhd hs2
 have q00 := k0 0; have q10 := k1 0
 clear B2 k0 k1 k2 f2 B hbx hby hs1 hs2 hf1 hf2 HDx HDy HX HY
 obtain ⟨w2, h2⟩ : ∃ w2, w2 = w' := ⟨_, rfl⟩
 subst h2
 rcases HK.out with ⟨h1, e2, h3⟩ | ⟨h1, h2, h3, e2, h5⟩ | ⟨h1, h2, h3, e2, h5⟩
 ·have e2' := e2.symm
  subst e2'
  rw [← h3] at HP
  clear h3 e2 HK HN1 HN2 HL
  go_wp2_with fail
  go_region_held3 (fun w' => Below w.heap.size w w' ∧ w'.cell? ⟨w.heap.size, 0, none⟩ = some (.bool s) ∧ w'.cell? ⟨w.heap.size, 1, none⟩ = some (.slice A n c) ∧ w'.cell? ⟨w.heap.size + 1, 0, none⟩ = some (.bool t) ∧ w'.cell? ⟨w.heap.size + 1, 1, none⟩ = some (.slice A' m c') ∧
  w'.cell? ⟨w.heap.size + 1 + 1, 0, none⟩ = some (cellAt w' ⟨w.heap.size + 1 + 1, 0, none⟩) ∧ w'.cell? ⟨w.heap.size + 1 + 1, 1, none⟩ = some (cellAt w' ⟨w.heap.size + 1 + 1, 1, none⟩) ∧ w'.frozen? ⟨w.heap.size + 1 + 1, 0, none⟩ = false ∧ w'.frozen? ⟨w.heap.size + 1 + 1, 1, none⟩ = false ∧ w.heap.size + 1 + 1 < w'.heap.size)
   (first
    | exact ⟨X2.out.1.drew, X2.out.2⟩
    | (refine Sres.keep hR (by assumption) ?_; first | assumption | exact (Below.refl _ _).alloc (Nat.le_refl _) _ | exact below_drewN (Below.refl _ _) _)
    | exact Sres.store hR (by assumption) _ _)
   (first
    | (go_at_call 125; (refine (HP.out A1 A2 c1 c2 _ (SA.out.below (below_draw1 (Below.refl _ _))) (SB.out.below (below_draw1 (Below.refl _ _)))).mono ?_); rintro e w' ⟨A4, c4, rfl, hs4, q5, q6, hf4, hbt⟩)
    | (go_at_call 122; (refine (HM.out A4 c4 _ hs4 q5 q6).mono ?_); rintro e w' ⟨A3, c3, rfl, hs3, k1, k2, hf3, hb3⟩))
  have B3 := HB2.out.trans (Below.mono ⟨hbt.os, hbt.tape, hbt.output, hbt.size, hbt.block⟩ hz)
  obtain ⟨-, -, -, -, hz0, B0⟩ := three_keep B3
  obtain ⟨-, -, q, -, -, B⟩ := three_keep (B3.trans (hb3.mono (by have := B3.size; simpa using this)))
  go_wp2_with fail
  refine bodyPost_ret (v := .agg #[.bool (s && !decide (v = 0)), .slice A3 (wl v) c3]) (by simp [results, Tryz.results78, go_sem, q]) rfl ?_
  exact fin_post B0 hz0 B (by omega) HSV.out rfl hs3 k1 k2 hf3
 ·have e2' := e2.symm
  subst e2'
  rw [← h5] at HN1
  rw [h2] at HL
  clear h5 e2 h2 HK HP HN2
  go_wp2_with fail
  refine (HL.out A1 A2 c1 c2 _ SA.out SB.out).mono ?_
  rintro e w' ⟨rfl, n1, rfl⟩
  go_wp2_with fail
  go_region_held3 (fun w' => Below w.heap.size w w' ∧ w'.cell? ⟨w.heap.size, 0, none⟩ = some (.bool s) ∧ w'.cell? ⟨w.heap.size, 1, none⟩ = some (.slice A n c) ∧ w'.cell? ⟨w.heap.size + 1, 0, none⟩ = some (.bool t) ∧ w'.cell? ⟨w.heap.size + 1, 1, none⟩ = some (.slice A' m c') ∧
  w'.cell? ⟨w.heap.size + 1 + 1, 0, none⟩ = some (cellAt w' ⟨w.heap.size + 1 + 1, 0, none⟩) ∧ w'.cell? ⟨w.heap.size + 1 + 1, 1, none⟩ = some (cellAt w' ⟨w.heap.size + 1 + 1, 1, none⟩) ∧ w'.frozen? ⟨w.heap.size + 1 + 1, 0, none⟩ = false ∧ w'.frozen? ⟨w.heap.size + 1 + 1, 1, none⟩ = false ∧ w.heap.size + 1 + 1 < w'.heap.size)
   (first
    | exact ⟨(below_drewN X2.out.1 _).drew, X2.out.2⟩
    | (refine Sres.keep hR (by assumption) ?_; first | assumption | exact (Below.refl _ _).alloc (Nat.le_refl _) _ | exact below_drewN (Below.refl _ _) _)
    | exact Sres.store hR (by assumption) _ _)
   (first
    | (go_at_call 127; (refine (HN1.out h3 A1 A2 c1 c2 _ (SA.out.below (below_draw2 (Below.refl _ _))) (SB.out.below (below_draw2 (Below.refl _ _)))).mono ?_); rintro e w' ⟨A4, c4, rfl, hs4, q5, q6, hf4, hbt⟩)
    | (go_at_call 122; (refine (HM.out A4 c4 _ hs4 q5 q6).mono ?_); rintro e w' ⟨A3, c3, rfl, hs3, k1, k2, hf3, hb3⟩))
  have B3 := HB2.out.trans (Below.mono ⟨hbt.os, hbt.tape, hbt.output, hbt.size, hbt.block⟩ hz)
  obtain ⟨-, -, -, -, hz0, B0⟩ := three_keep B3
  obtain ⟨-, -, q, -, -, B⟩ := three_keep (B3.trans (hb3.mono (by have := B3.size; simpa using this)))
  go_wp2_with fail
  refine bodyPost_ret (v := .agg #[.bool (s && !decide (v = 0)), .slice A3 (wl v) c3]) (by simp [results, Tryz.results78, go_sem, q]) rfl ?_
  exact fin_post B0 hz0 B (by omega) HSV.out rfl hs3 k1 k2 hf3
 ·have e2' := e2.symm
  subst e2'
  rw [← h5] at HN2
  rw [h2] at HL
  clear h5 e2 h2 HK HP HN1
  go_wp2_with fail
  refine (HL.out A1 A2 c1 c2 _ SA.out SB.out).mono ?_
  rintro e w' ⟨rfl, n1, rfl⟩
  go_wp2_with fail
  go_region_held3 (fun w' => Below w.heap.size w w' ∧ w'.cell? ⟨w.heap.size, 0, none⟩ = some (.bool s) ∧ w'.cell? ⟨w.heap.size, 1, none⟩ = some (.slice A n c) ∧ w'.cell? ⟨w.heap.size + 1, 0, none⟩ = some (.bool t) ∧ w'.cell? ⟨w.heap.size + 1, 1, none⟩ = some (.slice A' m c') ∧
  w'.cell? ⟨w.heap.size + 1 + 1, 0, none⟩ = some (cellAt w' ⟨w.heap.size + 1 + 1, 0, none⟩) ∧ w'.cell? ⟨w.heap.size + 1 + 1, 1, none⟩ = some (cellAt w' ⟨w.heap.size + 1 + 1, 1, none⟩) ∧ w'.frozen? ⟨w.heap.size + 1 + 1, 0, none⟩ = false ∧ w'.frozen? ⟨w.heap.size + 1 + 1, 1, none⟩ = false ∧ w.heap.size + 1 + 1 < w'.heap.size)
   (first
    | exact ⟨(below_drewN X2.out.1 _).drew, X2.out.2⟩
    | (refine Sres.keep hR (by assumption) ?_; first | assumption | exact (Below.refl _ _).alloc (Nat.le_refl _) _ | exact below_drewN (Below.refl _ _) _)
    | exact Sres.store hR (by assumption) _ _)
   (first
    | (go_at_call 127; (refine (HN2.out h3 A1 A2 c1 c2 _ (SA.out.below (below_draw2 (Below.refl _ _))) (SB.out.below (below_draw2 (Below.refl _ _)))).mono ?_); rintro e w' ⟨A4, c4, rfl, hs4, q5, q6, hf4, hbt⟩)
    | (go_at_call 122; (refine (HM.out A4 c4 _ hs4 q5 q6).mono ?_); rintro e w' ⟨A3, c3, rfl, hs3, k1, k2, hf3, hb3⟩))
  have B3 := HB2.out.trans (Below.mono ⟨hbt.os, hbt.tape, hbt.output, hbt.size, hbt.block⟩ hz)
  obtain ⟨-, -, -, -, hz0, B0⟩ := three_keep B3
  obtain ⟨-, -, q, -, -, B⟩ := three_keep (B3.trans (hb3.mono (by have := B3.size; simpa using this)))
  go_wp2_with fail
  refine bodyPost_ret (v := .agg #[.bool (t && !decide (v = 0)), .slice A3 (wl v) c3]) (by simp [results, Tryz.results78, go_sem, q]) rfl ?_
  exact fin_post B0 hz0 B (by omega) HSV.out rfl hs3 k1 k2 hf3
set_option maxRecDepth 100000 in
set_option maxHeartbeats 2000000 in
theorem rSub_any (s t : Bool) (A A' : Option Addr) (n m c c' : Nat) (x y : Int) (w : World) (hx : AI w s A n c x) (hy : AI w t A' m c' y) (hlen : n + m ≤ 400000) :
  Calls Tryz.prog 121 #[.agg #[.bool s, .slice A n c], .agg #[.bool t, .slice A' m c']] w (IntPost w (x - y)) := by
 have HN := lhd (fun w' h => rNeg_any t A' m c' y w' h (by omega))
 have hyl : wl (-y).natAbs ≤ m := by rw [Int.natAbs_neg]; exact hy.wl_le
 have hA := fun (A3 : Option Addr) (c3 : Nat) (w' : World) h h' => rAdd_any s (decide (-y < 0)) A A3 n (wl (-y).natAbs) c c3 x (-y) w' h h' (by omega)
 rw [← Int.sub_eq_add_neg] at hA
 have HA := lhd hA
 have HX := lhd hx; have HY := lhd hy
 clear hA hx hy hyl hlen
 unfold IntPost at HN
 generalize x - y = z at *
 generalize -y = y' at *
 go_enter Tryz.func121, Tryz.ntmps121
 go_wp2_with fail
 have hR : w.heap.size + 1 < w.heap.size + 1 + 1 := by omega
 go_region_held3 (fun w' => Below w.heap.size w w' ∧ w'.cell? ⟨w.heap.size, 0, none⟩ = some (.bool s) ∧ w'.cell? ⟨w.heap.size, 1, none⟩ = some (.slice A n c) ∧ w'.cell? ⟨w.heap.size + 1, 0, none⟩ = some (.bool t) ∧ w'.cell? ⟨w.heap.size + 1, 1, none⟩ = some (.slice A' m c') ∧
  w'.cell? ⟨w.heap.size + 1 + 1, 0, none⟩ = some (cellAt w' ⟨w.heap.size + 1 + 1, 0, none⟩) ∧ w'.cell? ⟨w.heap.size + 1 + 1, 1, none⟩ = some (cellAt w' ⟨w.heap.size + 1 + 1, 1, none⟩) ∧ w'.frozen? ⟨w.heap.size + 1 + 1, 0, none⟩ = false ∧ w'.frozen? ⟨w.heap.size + 1 + 1, 1, none⟩ = false ∧ w.heap.size + 1 + 1 < w'.heap.size)
  (first
   | (refine ⟨(((Below.refl _ _).alloc (Nat.le_refl _) _).alloc (by simp) _).alloc (by simp; omega) _ |>.drew, ?_⟩; simp [go_sem, cellAt])
   | (refine Sres.keep hR (by assumption) ?_; first | assumption | exact (Below.refl _ _).alloc (Nat.le_refl _) _ | exact below_drewN (Below.refl _ _) _)
   | exact Sres.store hR (by assumption) _ _)
  (first
   | (go_at_call 151; (refine (HN.out _ (in_ai (by assumption) HY.out)).mono ?_); rintro e w' ⟨A1, c1, rfl, hs1, q1, q2, hf1, hbx⟩)
   | (go_at_call 78; (refine (HA.out A1 c1 _ (in_ai (by assumption) HX.out) (AI.of_post hs1 q1 q2)).mono ?_); rintro e w' ⟨A3, c3, rfl, hs3, k1, k2, hf3, hb3⟩))
 obtain ⟨-, -, -, -, hz0, B0⟩ := three_keep (three_drew hbx)
 obtain ⟨-, -, q, -, -, B⟩ := three_keep (three_drew (hbx.trans (hb3.mono hbx.size)))
 go_wp2_with fail
 refine bodyPost_ret (v := .agg #[.bool (decide (z < 0)), .slice A3 (wl z.natAbs) c3]) (by simp [results, Tryz.results121, go_sem, q]) rfl ?_
 exact fin_int B0 hz0 B (by omega) rfl hs3 k1 k2 hf3
theorem hl_pos {n : Nat} (h : n ≠ 0) : 0 < hl n := Nat.pos_of_ne_zero fun e => h ((digs_nil HB2).1 e)
theorem sgn_cases (z : Int) : (z = 0 ∧ sgn z = 0) ∨ (z < 0 ∧ sgn z = -1) ∨ (0 < z ∧ sgn z = 1) := by
 unfold sgn
 by_cases h0 : z = 0
 ·exact .inl ⟨h0, if_pos h0⟩
 ·by_cases h1 : z < 0
  ·exact .inr (.inl ⟨h1, by rw [if_neg h0, if_pos h1]⟩)
  ·exact .inr (.inr ⟨by omega, by rw [if_neg h0, if_neg h1]⟩)
set_option maxRecDepth 100000 in
set_option maxHeartbeats 2000000 in
theorem rSign_any (s : Bool) (A : Option Addr) (n c : Nat) (x : Int) (w : World) (hx : AI w s A n c x) (hlen : n ≤ 400000) :
  Calls Tryz.prog 120 #[.agg #[.bool s, .slice A n c]] w fun e w' => e = .returned (.int .i64 (sgn x)) ∧ Below w.heap.size w w' := by
 have HD := lhd (fun w' h => rDigits_any s A n c x w' h (by omega))
 unfold HalfPost at HD
 have HX := lhd hx
 have key : (s = s ∧ (((hl x.natAbs : Nat) : Int) == 0) = true ∧ sgn x = 0) ∨ (s = true ∧ (((hl x.natAbs : Nat) : Int) == 0) = false ∧ sgn x = -1) ∨ (s = false ∧ (((hl x.natAbs : Nat) : Int) == 0) = false ∧ sgn x = 1) := by
  have hs := hx.eq_sval
  rcases sgn_cases x with ⟨h0, h2⟩ | ⟨h0, h2⟩ | ⟨h0, h2⟩
  ·exact .inl ⟨rfl, t_beq (by rw [h0]; rfl), h2⟩
  ·refine .inr (.inl ⟨?_, f_beq (by have := hl_pos (n := x.natAbs) (by omega); omega), h2⟩)
   cases s
   ·simp [sval] at hs; omega
   ·rfl
  ·refine .inr (.inr ⟨?_, f_beq (by have := hl_pos (n := x.natAbs) (by omega); omega), h2⟩)
   cases s
   ·rfl
   ·simp [sval] at hs; omega
 clear hx
 generalize sgn x = g at *
 generalize hl x.natAbs = l at *
 rcases key with ⟨-, h1, h2⟩ | ⟨h0, h1, h2⟩ | ⟨h0, h1, h2⟩
 all_goals
  subst h2
  try subst h0
  go_enter Tryz.func120, Tryz.ntmps120
  go_wp2_with fail
  refine (HD.out _ (HX.out.alloc _)).mono ?_
  rintro e w1 ⟨A1, c1, rfl, -, -, -, -, hb⟩
  rw [World.size_alloc] at hb
  obtain ⟨k, f, hz⟩ := slot_keep hb
  have k0 := k 0
  have hB := lhd (below_slot hb)
  clear hb HD HX k f
  go_wp2_with fail
  go_ret
  exact ⟨rfl, hB.out⟩
set_option maxRecDepth 100000 in
set_option maxHeartbeats 2000000 in
theorem rCmp_any (s t : Bool) (A A' : Option Addr) (n m c c' : Nat) (x y : Int) (w : World) (hx : AI w s A n c x) (hy : AI w t A' m c' y) (hlen : n + m ≤ 300000) :
  Calls Tryz.prog 75 #[.agg #[.bool s, .slice A n c], .agg #[.bool t, .slice A' m c']] w fun e w' => e = .returned (.int .i64 (sgn (x - y))) ∧ Below w.heap.size w w' := by
 have HS := lhd (fun w' h h' => rSub_any s t A A' n m c c' x y w' h h' (by omega))
 have hwl : wl (x - y).natAbs ≤ 400000 := by
  have h1 := hx.hl_le
  have h2 := hy.hl_le
  have h3 : (x - y).natAbs ≤ x.natAbs + y.natAbs := by omega
  have h4 := hl_le h3
  have h5 := hl_add x.natAbs y.natAbs
  have h6 := wl_half (x - y).natAbs
  omega
 have HX := lhd hx; have HY := lhd hy
 clear hx hy hlen
 unfold IntPost at HS
 generalize x - y = z at *
 have HG := lhd (fun (A1 : Option Addr) (c1 : Nat) (w' : World) h => rSign_any (decide (z < 0)) A1 (wl z.natAbs) c1 z w' h hwl)
 clear hwl
 go_enter Tryz.func75, Tryz.ntmps75
 go_wp2_with fail
 refine (HS.out _ (HX.out.alloc _ |>.alloc _) (HY.out.alloc _ |>.alloc _)).mono ?_
 rintro e w1 ⟨A1, c1, rfl, h1, h2, h3, -, hb⟩
 have hB := lhd (below_under2 hb)
 have hI := lhd (HG.out A1 c1 w1 (AI.of_post h1 h2 h3))
 clear hb HS HX HY h1 HG
 go_wp2_with fail
 refine hI.out.mono ?_
 rintro e w2 ⟨rfl, hb2⟩
 have hB2 := lhd (hB.out.trans (hb2.mono hB.out.size))
 clear hb2 hI
 go_wp2_with fail
 go_ret
 exact ⟨rfl, hB2.out⟩
def sgB (z : Int) : Bool := decide (z < 0)
def lnW (z : Int) : Nat := wl z.natAbs
def IC (W : World) (u v : Value) (z : Int) : Prop := ∃ A c, u = .bool (sgB z) ∧ v = .slice A (lnW z) c ∧ AI W (decide (z < 0)) A (wl z.natAbs) c z
theorem IC.keep {W W' : World} {u v : Value} {z : Int} (h : IC W u v z) (hb : Below W.heap.size W W') : IC W' u v z := by
 obtain ⟨A, c, h1, h2, h3⟩ := h
 exact ⟨A, c, h1, h2, h3.keep hb⟩
theorem IC.only {W W' : World} {u v : Value} {z : Int} {g : Nat} (h : IC W u v z) (ho : Only g W W') (hg : NoIntAt W g) : IC W' u v z := by
 obtain ⟨A, c, h1, h2, xs, k1, k2, k3⟩ := h
 refine ⟨A, c, h1, h2, xs, k1, fun hp => ?_, k3⟩
 obtain ⟨b, o, e, hb, hc⟩ := k2 hp
 refine ⟨b, o, e, by rw [ho.size]; exact hb, fun i hi => ?_⟩
 rw [← hc i hi]
 have hbg : b ≠ g := fun e => by
  subst e
  have := hc 0 hp
  exact hg _ _ _ this
 simp only [World.cell?, ho.block b hbg]
def ICs (W : World) : List (Value × Value × Int) → Prop
 | [] => True
 | x :: l => IC W x.1 x.2.1 x.2.2 ∧ ICs W l
theorem Firm.ics : ∀ l : List (Value × Value × Int), Firm (fun _ W => ICs W l)
 | [] => ⟨fun _ _ _ _ _ => trivial, fun _ _ _ _ _ _ _ => trivial⟩
 | _ :: l => ⟨fun v W W' h hb => ⟨h.1.keep hb, (Firm.ics l).below v W W' h.2 hb⟩, fun v W W' g h ho hg => ⟨h.1.only ho hg, (Firm.ics l).only v W W' g h.2 ho hg⟩⟩
theorem noint_list {z : Array Value} (h : (z.toList.all fun v => match v with | .int _ _ => false | _ => true) = true) : ∀ (i : Nat) (k : IntKind) (n : Int), z[i]? ≠ some (.int k n) := by
 intro i k n e
 have hm : Value.int k n ∈ z.toList := by rw [Array.mem_toList_iff]; exact Array.mem_of_getElem? e
 have := List.all_eq_true.1 h _ hm
 cases this
theorem NoIntAt.new (W : World) {z : Array Value} (T : TypeId) (h : ∀ (i : Nat) (k : IntKind) (n : Int), z[i]? ≠ some (.int k n)) {g : Nat} (hg : W.heap.size = g) : NoIntAt (W.alloc (.cells z T)) g := fun i k n e => by
 subst hg
 rw [cell_new_at] at e
 exact h i k n e
def VI (z : Int) : Value → World → Prop := fun v W => ∃ a b, v = .agg #[a, b] ∧ IC W a b z
theorem Firm.vi (z : Int) : Firm (VI z) :=
 ⟨fun _ _ _ ⟨A, c, e, h⟩ hb => ⟨A, c, e, h.keep hb⟩, fun _ _ _ _ ⟨A, c, e, h⟩ ho hg => ⟨A, c, e, h.only ho hg⟩⟩
def VR (n d : Int) : Value → World → Prop := fun v W => ∃ a b c e, v = .agg #[a, b, c, e] ∧ IC W a b n ∧ IC W c e d
theorem Firm.vr (n d : Int) : Firm (VR n d) :=
 ⟨fun _ _ _ ⟨A, c, A', c', e, h, k⟩ hb => ⟨A, c, A', c', e, h.keep hb, k.keep hb⟩, fun _ _ _ _ ⟨A, c, A', c', e, h, k⟩ ho hg => ⟨A, c, A', c', e, h.only ho hg, k.only ho hg⟩⟩
def VM (n0 d0 n1 d1 n2 d2 n3 d3 : Int) : Value → World → Prop := fun v W => ∃ c0 c1 c2 c3 c4 c5 c6 c7 c8 c9 ca cb cc cd ce cf, v = .agg #[c0, c1, c2, c3, c4, c5, c6, c7, c8, c9, ca, cb, cc, cd, ce, cf] ∧
 (IC W c0 c1 n0 ∧ IC W c2 c3 d0) ∧ (IC W c4 c5 n1 ∧ IC W c6 c7 d1) ∧ (IC W c8 c9 n2 ∧ IC W ca cb d2) ∧ (IC W cc cd n3 ∧ IC W ce cf d3)
theorem Firm.vm (n0 d0 n1 d1 n2 d2 n3 d3 : Int) : Firm (VM n0 d0 n1 d1 n2 d2 n3 d3) :=
  ⟨fun _ _ _ ⟨A0, c0, B0, e0, A1, c1, B1, e1, A2, c2, B2, e2, A3, c3, B3, e3, e, ⟨h0, k0⟩, ⟨h1, k1⟩, ⟨h2, k2⟩, ⟨h3, k3⟩⟩ hb => ⟨A0, c0, B0, e0, A1, c1, B1, e1, A2, c2, B2, e2, A3, c3, B3, e3, e, ⟨h0.keep hb, k0.keep hb⟩, ⟨h1.keep hb, k1.keep hb⟩, ⟨h2.keep hb, k2.keep hb⟩, ⟨h3.keep hb, k3.keep hb⟩⟩,
   fun _ _ _ _ ⟨A0, c0, B0, e0, A1, c1, B1, e1, A2, c2, B2, e2, A3, c3, B3, e3, e, ⟨h0, k0⟩, ⟨h1, k1⟩, ⟨h2, k2⟩, ⟨h3, k3⟩⟩ ho hg => ⟨A0, c0, B0, e0, A1, c1, B1, e1, A2, c2, B2, e2, A3, c3, B3, e3, e, ⟨h0.only ho hg, k0.only ho hg⟩, ⟨h1.only ho hg, k1.only ho hg⟩, ⟨h2.only ho hg, k2.only ho hg⟩, ⟨h3.only ho hg, k3.only ho hg⟩⟩⟩
def Wn (k : Nat) (z : Int) : Prop := z.natAbs < WB ^ k
theorem Wn.wl {k : Nat} {z : Int} (h : Wn k z) : wl z.natAbs ≤ k := digs_length_le WB2 h
theorem Wn.mono {j k : Nat} {z : Int} (h : Wn j z) (hjk : j ≤ k) : Wn k z := Nat.lt_of_lt_of_le h (Nat.pow_le_pow_right (by decide) hjk)
theorem Wn.add {k : Nat} {x y : Int} (hx : Wn k x) (hy : Wn k y) : Wn (k + 1) (x + y) := by
 have h1 : 2 * WB ^ k ≤ WB ^ (k + 1) := by rw [Nat.pow_succ, Nat.mul_comm]; exact Nat.mul_le_mul_left _ (by decide)
 unfold Wn at *; omega
theorem Wn.mul {j k : Nat} {x y : Int} (hx : Wn j x) (hy : Wn k y) : Wn (j + k) (x * y) := by
 unfold Wn at *
 rw [Int.natAbs_mul, Nat.pow_add]
 exact Nat.mul_lt_mul_of_le_of_lt (Nat.le_of_lt hx) hy (Nat.pow_pos (by decide))
theorem Wn.of {z : Int} (h : -4294967295 ≤ z ∧ z ≤ 4294967295) : Wn 1 z := by
 show z.natAbs < 4294967296 ^ 1
 rw [Nat.pow_one]; omega
theorem ic_post {w w' : World} {z : Int} {e : Ending} (h : IntPost w z e w') : PostW (VI z) w e w' := by
 obtain ⟨A, c, rfl, h1, h2, h3, -, h5⟩ := h
 exact ⟨_, rfl, ⟨_, _, rfl, A, c, rfl, rfl, AI.of_post h1 h2 h3⟩, h5⟩
theorem cOf (n : Int) (w : World) (hn : I64 n) : Calls Tryz.prog 72 #[.int .i64 n] w (PostW (VI n) w) := (Of_any n w hn).mono fun _ _ h => ic_post h
theorem dOf (n : Int) (w : World) (hn : I64 n) : Calls Tryz.prog 77 #[.int .i64 n] w (PostW (VI n) w) := (rOf_any n w hn).mono fun _ _ h => ic_post h
section
variable {u v u' v' : Value} {x y : Int} {w : World} {j k : Nat}
theorem cMul (hx : IC w u v x) (hy : IC w u' v' y) (h1 : Wn j x) (h2 : Wn k y) (h : j + k ≤ 400) : Calls Tryz.prog 70 #[.agg #[u, v], .agg #[u', v']] w (PostW (VI (x * y)) w) := by
 obtain ⟨A, c, rfl, rfl, g⟩ := hx
 obtain ⟨A', c', rfl, rfl, g'⟩ := hy
 have := h1.wl; have := h2.wl
 exact (Mul_any _ _ _ _ _ _ _ _ x y w g g' (by omega)).mono fun _ _ h => ic_post h
theorem cAdd (hx : IC w u v x) (hy : IC w u' v' y) (h1 : Wn j x) (h2 : Wn k y) (h : j + k ≤ 400) : Calls Tryz.prog 69 #[.agg #[u, v], .agg #[u', v']] w (PostW (VI (x + y)) w) := by
 obtain ⟨A, c, rfl, rfl, g⟩ := hx
 obtain ⟨A', c', rfl, rfl, g'⟩ := hy
 have := h1.wl; have := h2.wl
 exact (Add_any _ _ _ _ _ _ _ _ x y w g g' (by omega)).mono fun _ _ h => ic_post h
theorem cCmp (hx : IC w u v x) (hy : IC w u' v' y) (h1 : Wn j x) (h2 : Wn k y) (h : j + k ≤ 400) : Calls Tryz.prog 71 #[.agg #[u, v], .agg #[u', v']] w (PostW (VC (.int .i64 (sgn (x - y)))) w) := by
 obtain ⟨A, c, rfl, rfl, g⟩ := hx
 obtain ⟨A', c', rfl, rfl, g'⟩ := hy
 have := h1.wl; have := h2.wl
 exact (Cmp_any _ _ _ _ _ _ _ _ x y w g g' (by omega)).mono fun _ _ ⟨h, hb⟩ => ⟨_, h, rfl, hb⟩
theorem dMul (hx : IC w u v x) (hy : IC w u' v' y) (h1 : Wn j x) (h2 : Wn k y) (h : j + k ≤ 400) : Calls Tryz.prog 76 #[.agg #[u, v], .agg #[u', v']] w (PostW (VI (x * y)) w) := by
 obtain ⟨A, c, rfl, rfl, g⟩ := hx
 obtain ⟨A', c', rfl, rfl, g'⟩ := hy
 have := h1.wl; have := h2.wl
 exact (rMul_any _ _ _ _ _ _ _ _ x y w g g' (by omega)).mono fun _ _ h => ic_post h
theorem dAdd (hx : IC w u v x) (hy : IC w u' v' y) (h1 : Wn j x) (h2 : Wn k y) (h : j + k ≤ 400) : Calls Tryz.prog 78 #[.agg #[u, v], .agg #[u', v']] w (PostW (VI (x + y)) w) := by
 obtain ⟨A, c, rfl, rfl, g⟩ := hx
 obtain ⟨A', c', rfl, rfl, g'⟩ := hy
 have := h1.wl; have := h2.wl
 exact (rAdd_any _ _ _ _ _ _ _ _ x y w g g' (by omega)).mono fun _ _ h => ic_post h
theorem dCmp (hx : IC w u v x) (hy : IC w u' v' y) (h1 : Wn j x) (h2 : Wn k y) (h : j + k ≤ 400) : Calls Tryz.prog 75 #[.agg #[u, v], .agg #[u', v']] w (PostW (VC (.int .i64 (sgn (x - y)))) w) := by
 obtain ⟨A, c, rfl, rfl, g⟩ := hx
 obtain ⟨A', c', rfl, rfl, g'⟩ := hy
 have := h1.wl; have := h2.wl
 exact (rCmp_any _ _ _ _ _ _ _ _ x y w g g' (by omega)).mono fun _ _ ⟨h, hb⟩ => ⟨_, h, rfl, hb⟩
end
theorem sgn_eq {x y : Int} : (sgn (x - y) == 0) = decide (x = y) := by
 rcases sgn_cases (x - y) with ⟨h1, h2⟩ | ⟨h1, h2⟩ | ⟨h1, h2⟩ <;> rw [h2] <;> simp <;> omega
theorem Cells.set {W : World} {b : Nat} {vs : Array Value} (h : Cells W b vs) {k : Nat} (hk : k < vs.size) (u : Value) : Cells (W.setCell ⟨b, k, none⟩ u) b (vs.set k u) := by
 have hc : ∃ v, W.cell? ⟨b, k, none⟩ = some v := ⟨vs[k], by rw [h.2.1 k hk, Array.getElem?_eq_getElem hk]⟩
 refine ⟨by rw [(Only.setCell W b k u).size]; exact h.1, fun i hi => ?_, fun i => by simp [go_sem, h.2.2 i]⟩
 rw [Array.getElem?_set]
 by_cases hik : k = i
 ·subst hik
  rw [if_pos rfl]
  obtain ⟨v, hv⟩ := hc
  exact World.cell?_setCell_same' _ _ _ (by rw [hv]; rfl)
 ·rw [if_neg hik]
  rw [← h.2.1 i (by simpa using hi)]
  simp [go_sem]
theorem Cells.setL {W : World} {b : Nat} {vs vs' : Array Value} (h : Cells W b vs) (k : Nat) (u : Value) (hk : k < vs.size) (he : vs.toList.set k u = vs'.toList) : Cells (W.setCell ⟨b, k, none⟩ u) b vs' := by
 have e : vs.set k u hk = vs' := by
  apply Array.toList_inj.1
  rw [Array.toList_set]; exact he
 rw [← e]
 exact h.set hk u
end Go.Proofs.YtimdkjbmeogpoaaGreatDoor
end
