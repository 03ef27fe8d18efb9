/- The reference's integers: sum, difference, sign, comparison. -/
import Derived.Test.YtfjmhfmhijhpkaaGreatDoorRnl
namespace Go.Proofs.YtfjmhfmhijhpkaaGreatDoor
open Go.RowKit FF

theorem add_cases (s t : Bool) (a b : Nat) : ∃ (u : Bool) (v : Nat), sval s a + sval t b = sval u v ∧ v ≤ a + b ∧ ((s == t) = true ∧ u = s ∧ v = a + b ∨ (s == t) = false ∧ decide (a < b) = false ∧ b ≤ a ∧ u = s ∧ v = a - b ∨ (s == t) = false ∧ decide (a < b) = true ∧ a ≤ b ∧ u = t ∧ v = b - a) := by
  by_cases h : s = t
  · subst h
    refine ⟨s, a + b, ?_, Nat.le_refl _, .inl ⟨beq_self_eq_true s, rfl, rfl⟩⟩
    cases s <;> simp [sval] <;> omega
  · have hf : (s == t) = false := by simpa using h
    by_cases hle : b ≤ a
    · refine ⟨s, a - b, ?_, by omega, .inr (.inl ⟨hf, decide_eq_false (by omega), hle, rfl, rfl⟩)⟩
      cases s <;> cases t <;> simp at h <;> simp [sval] <;> omega
    · refine ⟨t, b - a, ?_, by omega, .inr (.inr ⟨hf, decide_eq_true (by omega), by omega, rfl, rfl⟩)⟩
      cases s <;> cases t <;> simp at h <;> simp [sval] <;> omega
theorem hl_add (a b : Nat) : hl (a + b) ≤ max (hl a) (hl b) + 1 := by
  have h1 := lt_pow_digs HB2 a
  have h2 := lt_pow_digs HB2 b
  change a < HB ^ hl a at h1
  change b < HB ^ hl b at h2
  refine digs_length_le HB2 ?_
  have h3 : HB ^ hl a ≤ HB ^ max (hl a) (hl b) := Nat.pow_le_pow_right (by decide) (by omega)
  have h4 : HB ^ hl b ≤ HB ^ max (hl a) (hl b) := Nat.pow_le_pow_right (by decide) (by omega)
  rw [Nat.pow_succ]
  have h5 : HB ^ max (hl a) (hl b) * 2 ≤ HB ^ max (hl a) (hl b) * HB := Nat.mul_le_mul_left _ HB2
  omega
theorem AI.eq_sval {w : World} {s : Bool} {A : Option Addr} {n c : Nat} {z : Int} (h : AI w s A n c z) : sval s z.natAbs = z := by
  obtain ⟨xs, -, -, -, -, -, rfl, -⟩ := h
  rw [sval_natAbs]

theorem below_draw1 {B : Nat} {a w : World} (h : Below B a w) : Below B a w.drew := h.drew
theorem below_draw2 {B n : Nat} {a w : World} (h : Below B a w) : Below B a (w.drewN n).drew := (below_drewN h n).drew

set_option maxRecDepth 100000 in
set_option maxHeartbeats 4000000 in
theorem rAdd_any (s t : Bool) (A A' : Option Addr) (n m c c' : Nat) (x y : Int) (w : World) (hx : AI w s A n c x) (hy : AI w t A' m c' y) (hlen : n + m ≤ 400000) :
    Calls Tryz.prog 131 #[.agg #[.bool s, .slice A n c], .agg #[.bool t, .slice A' m c']] w (IntPost w (x + y)) := by
  have HDx := Lib.hid (fun w' h => rDigits_any s A n c x w' h (by omega))
  have HDy := Lib.hid (fun w' h => rDigits_any t A' m c' y w' h (by omega))
  unfold HalfPost at HDx HDy
  have ex := hx.eq_sval
  have ey := hy.eq_sval
  have hla := hx.hl_le
  have hlb := hy.hl_le
  have HX := Lib.hid hx; have HY := Lib.hid hy
  obtain ⟨u, v, hsv, hvab, hcase⟩ := add_cases s t x.natAbs y.natAbs
  rw [ex, ey] at hsv
  generalize x.natAbs = a at *
  generalize y.natAbs = b at *
  have hvl : hl v ≤ 2 * n + 2 * m + 1 := Nat.le_trans (hl_le hvab) (Nat.le_trans (hl_add a b) (by omega))
  have HSV := Lib.hid (show sval u v = x + y from hsv.symm)
  generalize x + y = z at *
  have HL := Lib.hid (fun (A A' : Option Addr) (c c' : Nat) (w' : World) (h : Shows .i64 w' A (digs HB a)) (h' : Shows .i64 w' A' (digs HB b)) => rLess_any A A' a b c c' w' h h' (by omega))
  have HP := Lib.hid (fun (A A' : Option Addr) (c c' : Nat) (w' : World) (h : Shows .i64 w' A (digs HB a)) (h' : Shows .i64 w' A' (digs HB b)) => by
    have := rPlus_any A A' (digs HB a) (digs HB b) c c' w' h h' (dig_digs' HB2 a) (dig_digs' HB2 b) (show hl a ≤ 2000000 by omega) (show hl b ≤ 2000000 by omega)
    rw [val_digs' HB2, val_digs' HB2] at this; exact this)
  have HN1 := Lib.hid (fun (hle : b ≤ a) (A A' : Option Addr) (c c' : Nat) (w' : World) (h : Shows .i64 w' A (digs HB a)) (h' : Shows .i64 w' A' (digs HB b)) => by
    have := rMinus_any A A' (digs HB a) (digs HB b) c c' w' h h' (dig_digs' HB2 a) (dig_digs' HB2 b) (show hl a ≤ 2000000 by omega) (hl_le hle) (by rw [val_digs' HB2, val_digs' HB2]; exact hle)
    rw [val_digs' HB2, val_digs' HB2] at this; exact this)
  have HN2 := Lib.hid (fun (hle : a ≤ b) (A A' : Option Addr) (c c' : Nat) (w' : World) (h : Shows .i64 w' A (digs HB a)) (h' : Shows .i64 w' A' (digs HB b)) => by
    have := rMinus_any A' A (digs HB b) (digs HB a) c' c w' h' h (dig_digs' HB2 b) (dig_digs' HB2 a) (show hl b ≤ 2000000 by omega) (hl_le hle) (by rw [val_digs' HB2, val_digs' HB2]; exact hle)
    rw [val_digs' HB2, val_digs' HB2] at this; exact this)
  change Hid (∀ (A A' : Option Addr) (c c' : Nat) (w' : World), _ → _ → Calls _ _ #[.slice A (hl a) c, .slice A' (hl b) c'] w' _) at HP
  change Hid (_ → ∀ (A A' : Option Addr) (c c' : Nat) (w' : World), _ → _ → Calls _ _ #[.slice A (hl a) c, .slice A' (hl b) c'] w' _) at HN1
  change Hid (_ → ∀ (A A' : Option Addr) (c c' : Nat) (w' : World), _ → _ → Calls _ _ #[.slice A' (hl b) c', .slice A (hl a) c] w' _) at HN2
  unfold HalfPost at HP HN1 HN2
  have HM := Lib.hid (fun (A : Option Addr) (c : Nat) (w' : World) (h : Shows .i64 w' A (digs HB v)) (h1 : hl v ≤ c) (h2 : c ≤ maxLen) => by
    have := rMade_any u A (digs HB v) c w' h (dig_digs' HB2 v) h1 h2 (show hl v ≤ 3000000 by omega)
    rw [val_digs' HB2] at this; exact this)
  change Hid (∀ (A : Option Addr) (c : Nat) (w' : World), _ → _ → _ → Calls _ _ #[.bool u, .slice A (hl v) c] w' _) at HM
  have HK := Lib.hid hcase
  clear hx hy ex ey hsv hvab hcase hla hlb hvl hlen
  have hR : w.heap.size + 1 < w.heap.size + 1 + 1 := by omega
  go_enter Tryz.func131, Tryz.ntmps131
  go_wp2_with fail
  go_region_held3 (fun w' => Below w.heap.size w w' ∧ w'.cell? ⟨w.heap.size, 0, none⟩ = some (.bool s) ∧ w'.cell? ⟨w.heap.size, 1, none⟩ = some (.slice A n c) ∧ w'.cell? ⟨w.heap.size + 1, 0, none⟩ = some (.bool t) ∧ w'.cell? ⟨w.heap.size + 1, 1, none⟩ = some (.slice A' m c') ∧
    w'.cell? ⟨w.heap.size + 1 + 1, 0, none⟩ = some (cellAt w' ⟨w.heap.size + 1 + 1, 0, none⟩) ∧ w'.cell? ⟨w.heap.size + 1 + 1, 1, none⟩ = some (cellAt w' ⟨w.heap.size + 1 + 1, 1, none⟩) ∧ w'.frozen? ⟨w.heap.size + 1 + 1, 0, none⟩ = false ∧ w'.frozen? ⟨w.heap.size + 1 + 1, 1, none⟩ = false ∧ w.heap.size + 1 + 1 < w'.heap.size)
    (first
      | (refine ⟨(((Below.refl _ _).alloc (Nat.le_refl _) _).alloc (by simp) _).alloc (by simp; omega) _ |>.drew, ?_⟩; simp [go_sem, cellAt])
      | (refine Sres.keep hR (by assumption) ?_; first | assumption | exact (Below.refl _ _).alloc (Nat.le_refl _) _ | exact below_drewN (Below.refl _ _) _)
      | exact Sres.store hR (by assumption) _ _)
    (first
      | (go_at_call 92; (with_reducible refine (HDx.out _ (in_ai (by assumption) HX.out)).mono ?_); rintro e w' ⟨A1, c1, rfl, hs1, q1, q2, hf1, hbx⟩)
      | (go_at_call 92; (with_reducible refine (HDy.out _ (in_ai (by assumption) HY.out)).mono ?_); rintro e w' ⟨A2, c2, rfl, hs2, q3, q4, hf2, hby⟩))
  have B2 := three_drew (hbx.trans (hby.mono hbx.size))
  obtain ⟨k0, k1, k2, f2, hz, B⟩ := three_keep B2
  have X2 := Lib.hid (show Sres w (w.heap.size + 1 + 1) (.bool s) (.slice A n c) (.bool t) (.slice A' m c') w' from ⟨B, k0 0, k0 1, k1 0, k1 1, cellAt_of (k2 0), cellAt_of (k2 1), f2 0, f2 1, hz⟩)
  have HB2 := Lib.hid B2
  have SA := Lib.hid (hs1.below hby); have SB := Lib.hid hs2
  have q00 := k0 0; have q10 := k1 0
  clear B2 k0 k1 k2 f2 B hbx hby hs1 hs2 hf1 hf2 HDx HDy HX HY
  obtain ⟨w2, h2⟩ : ∃ w2, w2 = w' := ⟨_, rfl⟩
  subst h2
  rcases HK.out with ⟨h1, e2, h3⟩ | ⟨h1, h2, h3, e2, h5⟩ | ⟨h1, h2, h3, e2, h5⟩
  · have e2' := e2.symm
    subst e2'
    rw [← h3] at HP
    clear h3 e2 HK HN1 HN2 HL
    go_wp2_with fail
    go_region_held3 (fun w' => Below w.heap.size w w' ∧ w'.cell? ⟨w.heap.size, 0, none⟩ = some (.bool s) ∧ w'.cell? ⟨w.heap.size, 1, none⟩ = some (.slice A n c) ∧ w'.cell? ⟨w.heap.size + 1, 0, none⟩ = some (.bool t) ∧ w'.cell? ⟨w.heap.size + 1, 1, none⟩ = some (.slice A' m c') ∧
    w'.cell? ⟨w.heap.size + 1 + 1, 0, none⟩ = some (cellAt w' ⟨w.heap.size + 1 + 1, 0, none⟩) ∧ w'.cell? ⟨w.heap.size + 1 + 1, 1, none⟩ = some (cellAt w' ⟨w.heap.size + 1 + 1, 1, none⟩) ∧ w'.frozen? ⟨w.heap.size + 1 + 1, 0, none⟩ = false ∧ w'.frozen? ⟨w.heap.size + 1 + 1, 1, none⟩ = false ∧ w.heap.size + 1 + 1 < w'.heap.size)
      (first
        | exact ⟨X2.out.1.drew, X2.out.2⟩
        | (refine Sres.keep hR (by assumption) ?_; first | assumption | exact (Below.refl _ _).alloc (Nat.le_refl _) _ | exact below_drewN (Below.refl _ _) _)
        | exact Sres.store hR (by assumption) _ _)
      (first
        | (go_at_call 83; (refine (HP.out A1 A2 c1 c2 _ (SA.out.below (below_draw1 (Below.refl _ _))) (SB.out.below (below_draw1 (Below.refl _ _)))).mono ?_); rintro e w' ⟨A4, c4, rfl, hs4, q5, q6, hf4, hbt⟩)
        | (go_at_call 86; (refine (HM.out A4 c4 _ hs4 q5 q6).mono ?_); rintro e w' ⟨A3, c3, rfl, hs3, k1, k2, hf3, hb3⟩))
    have B3 := HB2.out.trans (Below.mono ⟨hbt.os, hbt.tape, hbt.output, hbt.size, hbt.block⟩ hz)
    obtain ⟨-, -, -, -, hz0, B0⟩ := three_keep B3
    obtain ⟨-, -, q, -, -, B⟩ := three_keep (B3.trans (hb3.mono (by have := B3.size; simpa using this)))
    go_wp2_with fail
    refine bodyPost_ret (v := .agg #[.bool (s && !decide (v = 0)), .slice A3 (wl v) c3]) (by simp [results, Tryz.results131, go_sem, q]) rfl ?_
    exact fin_post B0 hz0 B (by omega) HSV.out rfl hs3 k1 k2 hf3
  · have e2' := e2.symm
    subst e2'
    rw [← h5] at HN1
    rw [h2] at HL
    clear h5 e2 h2 HK HP HN2
    go_wp2_with fail
    refine (HL.out A1 A2 c1 c2 _ SA.out SB.out).mono ?_
    rintro e w' ⟨rfl, n1, rfl⟩
    go_wp2_with fail
    go_region_held3 (fun w' => Below w.heap.size w w' ∧ w'.cell? ⟨w.heap.size, 0, none⟩ = some (.bool s) ∧ w'.cell? ⟨w.heap.size, 1, none⟩ = some (.slice A n c) ∧ w'.cell? ⟨w.heap.size + 1, 0, none⟩ = some (.bool t) ∧ w'.cell? ⟨w.heap.size + 1, 1, none⟩ = some (.slice A' m c') ∧
    w'.cell? ⟨w.heap.size + 1 + 1, 0, none⟩ = some (cellAt w' ⟨w.heap.size + 1 + 1, 0, none⟩) ∧ w'.cell? ⟨w.heap.size + 1 + 1, 1, none⟩ = some (cellAt w' ⟨w.heap.size + 1 + 1, 1, none⟩) ∧ w'.frozen? ⟨w.heap.size + 1 + 1, 0, none⟩ = false ∧ w'.frozen? ⟨w.heap.size + 1 + 1, 1, none⟩ = false ∧ w.heap.size + 1 + 1 < w'.heap.size)
      (first
        | exact ⟨(below_drewN X2.out.1 _).drew, X2.out.2⟩
        | (refine Sres.keep hR (by assumption) ?_; first | assumption | exact (Below.refl _ _).alloc (Nat.le_refl _) _ | exact below_drewN (Below.refl _ _) _)
        | exact Sres.store hR (by assumption) _ _)
      (first
        | (go_at_call 160; (refine (HN1.out h3 A1 A2 c1 c2 _ (SA.out.below (below_draw2 (Below.refl _ _))) (SB.out.below (below_draw2 (Below.refl _ _)))).mono ?_); rintro e w' ⟨A4, c4, rfl, hs4, q5, q6, hf4, hbt⟩)
        | (go_at_call 86; (refine (HM.out A4 c4 _ hs4 q5 q6).mono ?_); rintro e w' ⟨A3, c3, rfl, hs3, k1, k2, hf3, hb3⟩))
    have B3 := HB2.out.trans (Below.mono ⟨hbt.os, hbt.tape, hbt.output, hbt.size, hbt.block⟩ hz)
    obtain ⟨-, -, -, -, hz0, B0⟩ := three_keep B3
    obtain ⟨-, -, q, -, -, B⟩ := three_keep (B3.trans (hb3.mono (by have := B3.size; simpa using this)))
    go_wp2_with fail
    refine bodyPost_ret (v := .agg #[.bool (s && !decide (v = 0)), .slice A3 (wl v) c3]) (by simp [results, Tryz.results131, go_sem, q]) rfl ?_
    exact fin_post B0 hz0 B (by omega) HSV.out rfl hs3 k1 k2 hf3
  · have e2' := e2.symm
    subst e2'
    rw [← h5] at HN2
    rw [h2] at HL
    clear h5 e2 h2 HK HP HN1
    go_wp2_with fail
    refine (HL.out A1 A2 c1 c2 _ SA.out SB.out).mono ?_
    rintro e w' ⟨rfl, n1, rfl⟩
    go_wp2_with fail
    go_region_held3 (fun w' => Below w.heap.size w w' ∧ w'.cell? ⟨w.heap.size, 0, none⟩ = some (.bool s) ∧ w'.cell? ⟨w.heap.size, 1, none⟩ = some (.slice A n c) ∧ w'.cell? ⟨w.heap.size + 1, 0, none⟩ = some (.bool t) ∧ w'.cell? ⟨w.heap.size + 1, 1, none⟩ = some (.slice A' m c') ∧
    w'.cell? ⟨w.heap.size + 1 + 1, 0, none⟩ = some (cellAt w' ⟨w.heap.size + 1 + 1, 0, none⟩) ∧ w'.cell? ⟨w.heap.size + 1 + 1, 1, none⟩ = some (cellAt w' ⟨w.heap.size + 1 + 1, 1, none⟩) ∧ w'.frozen? ⟨w.heap.size + 1 + 1, 0, none⟩ = false ∧ w'.frozen? ⟨w.heap.size + 1 + 1, 1, none⟩ = false ∧ w.heap.size + 1 + 1 < w'.heap.size)
      (first
        | exact ⟨(below_drewN X2.out.1 _).drew, X2.out.2⟩
        | (refine Sres.keep hR (by assumption) ?_; first | assumption | exact (Below.refl _ _).alloc (Nat.le_refl _) _ | exact below_drewN (Below.refl _ _) _)
        | exact Sres.store hR (by assumption) _ _)
      (first
        | (go_at_call 160; (refine (HN2.out h3 A1 A2 c1 c2 _ (SA.out.below (below_draw2 (Below.refl _ _))) (SB.out.below (below_draw2 (Below.refl _ _)))).mono ?_); rintro e w' ⟨A4, c4, rfl, hs4, q5, q6, hf4, hbt⟩)
        | (go_at_call 86; (refine (HM.out A4 c4 _ hs4 q5 q6).mono ?_); rintro e w' ⟨A3, c3, rfl, hs3, k1, k2, hf3, hb3⟩))
    have B3 := HB2.out.trans (Below.mono ⟨hbt.os, hbt.tape, hbt.output, hbt.size, hbt.block⟩ hz)
    obtain ⟨-, -, -, -, hz0, B0⟩ := three_keep B3
    obtain ⟨-, -, q, -, -, B⟩ := three_keep (B3.trans (hb3.mono (by have := B3.size; simpa using this)))
    go_wp2_with fail
    refine bodyPost_ret (v := .agg #[.bool (t && !decide (v = 0)), .slice A3 (wl v) c3]) (by simp [results, Tryz.results131, go_sem, q]) rfl ?_
    exact fin_post B0 hz0 B (by omega) HSV.out rfl hs3 k1 k2 hf3
end Go.Proofs.YtfjmhfmhijhpkaaGreatDoor
