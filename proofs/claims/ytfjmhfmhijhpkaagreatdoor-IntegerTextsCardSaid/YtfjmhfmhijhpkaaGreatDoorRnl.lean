/- The reference's integers: normal form, opposite, product, sum. -/
import Derived.Test.YtfjmhfmhijhpkaaGreatDoorRdv
import Derived.Test.YtfjmhfmhijhpkaaGreatDoorSml
namespace Go.Proofs.YtfjmhfmhijhpkaaGreatDoor
open Go.RowKit FF

theorem hl_two (v : Nat) : hl v ≤ 2 * wl v := by have := wl_half v; omega
theorem AI.wl_le {w : World} {s : Bool} {A : Option Addr} {n c : Nat} {z : Int} (h : AI w s A n c z) : wl z.natAbs ≤ n := by
  obtain ⟨xs, rfl, -, hd, -, -, -, h7⟩ := h
  rw [← h7]
  exact digs_length_le WB2 (val_lt hd)
theorem AI.hl_le {w : World} {s : Bool} {A : Option Addr} {n c : Nat} {z : Int} (h : AI w s A n c z) : hl z.natAbs ≤ 2 * n := by
  have := hl_two z.natAbs
  have := h.wl_le
  omega

set_option maxRecDepth 100000 in
set_option maxHeartbeats 2000000 in
theorem rNeg_any (s : Bool) (A : Option Addr) (n c : Nat) (x : Int) (w : World) (hx : AI w s A n c x) (hlen : n ≤ 400000) :
    Calls Tryz.prog 210 #[.agg #[.bool s, .slice A n c]] w (IntPost w (-x)) := by
  have HD := Lib.hid (fun w' h => rDigits_any s A n c x w' h (by omega))
  have hsx : sval (!s) x.natAbs = (-x) := by
    obtain ⟨xs, -, -, -, -, -, rfl, -⟩ := hx
    rw [sval_natAbs, neg_sval]
  have hv := hx.hl_le
  have HX := Lib.hid hx
  unfold HalfPost at HD
  generalize x.natAbs = v at *
  have HM := Lib.hid (fun (A : Option Addr) (c : Nat) (w' : World) (h : Shows .i64 w' A (digs HB v)) (h1 : hl v ≤ c) (h2 : c ≤ maxLen) => by
    have := rMade_any (!s) A (digs HB v) c w' h (dig_digs' HB2 v) h1 h2 (show hl v ≤ 3000000 by omega)
    rw [val_digs' HB2] at this; exact this)
  change Hid (∀ (A : Option Addr) (c : Nat) (w' : World), _ → _ → _ → Calls _ _ #[.bool (!s), .slice A (hl v) c] w' _) at HM
  have HSX := Lib.hid hsx
  clear hx hsx hv hlen
  go_enter Tryz.func210, Tryz.ntmps210
  go_wp2_with fail
  have hR : w.heap.size < w.heap.size + 1 := by omega
  go_region_held3 (fun w' => Below w.heap.size w w' ∧ w'.cell? ⟨w.heap.size, 0, none⟩ = some (.bool s) ∧ w'.cell? ⟨w.heap.size, 1, none⟩ = some (.slice A n c) ∧
    w'.cell? ⟨w.heap.size + 1, 0, none⟩ = some (cellAt w' ⟨w.heap.size + 1, 0, none⟩) ∧ w'.cell? ⟨w.heap.size + 1, 1, none⟩ = some (cellAt w' ⟨w.heap.size + 1, 1, none⟩) ∧ w'.frozen? ⟨w.heap.size + 1, 0, none⟩ = false ∧ w'.frozen? ⟨w.heap.size + 1, 1, none⟩ = false ∧ w.heap.size + 1 < w'.heap.size)
    (first
      | (refine ⟨(((Below.refl _ _).alloc (Nat.le_refl _) _).alloc (by simp) _) |>.drew, ?_⟩; simp [go_sem, cellAt])
      | (refine S1res.keep hR (by assumption) ?_; first | assumption | exact (Below.refl _ _).alloc (Nat.le_refl _) _ | exact below_drewN (Below.refl _ _) _)
      | exact S1res.store hR (by assumption) _ _)
    (first
      | (go_at_call 92; (with_reducible refine (HD.out _ (in_ai (by assumption) HX.out)).mono ?_); rintro e w' ⟨A1, c1, rfl, hs1, q1, q2, hf1, hbx⟩)
      | (go_at_call 86; (refine (HM.out A1 c1 _ hs1 q1 q2).mono ?_); rintro e w' ⟨A3, c3, rfl, hs3, k1, k2, hf3, hb3⟩))
  obtain ⟨-, -, -, hz0, B0⟩ := two_keep (two_drew hbx)
  obtain ⟨-, q, -, -, B⟩ := two_keep (two_drew (hbx.trans (hb3.mono hbx.size)))
  go_wp2_with fail
  refine bodyPost_ret (v := .agg #[.bool ((!s) && !decide (v = 0)), .slice A3 (wl v) c3]) (by simp [results, Tryz.results210, go_sem, q]) rfl ?_
  exact fin_post B0 hz0 B (by omega) HSX.out rfl hs3 k1 k2 hf3

set_option maxRecDepth 100000 in
set_option maxHeartbeats 2000000 in
theorem rMul_any (s t : Bool) (A A' : Option Addr) (n m c c' : Nat) (x y : Int) (w : World) (hx : AI w s A n c x) (hy : AI w t A' m c' y) (hlen : n + m ≤ 400000) :
    Calls Tryz.prog 130 #[.agg #[.bool s, .slice A n c], .agg #[.bool t, .slice A' m c']] w (IntPost w (x * y)) := by
  have HDx := Lib.hid (fun w' h => rDigits_any s A n c x w' h (by omega))
  have HDy := Lib.hid (fun w' h => rDigits_any t A' m c' y w' h (by omega))
  unfold HalfPost at HDx HDy
  have hsx : sval (s != t) (x.natAbs * y.natAbs) = x * y := by
    obtain ⟨xs, -, -, -, -, -, rfl, -⟩ := hx
    obtain ⟨ys, -, -, -, -, -, rfl, -⟩ := hy
    rw [sval_natAbs, sval_natAbs, mul_sval]
  have hla := hx.hl_le
  have hlb := hy.hl_le
  have HX := Lib.hid hx; have HY := Lib.hid hy
  generalize x.natAbs = a at *
  generalize y.natAbs = b at *
  generalize x * y = z at *
  have hab : hl (a * b) ≤ 2 * n + 2 * m := by
    refine Nat.le_trans (digs_length_le HB2 (k := hl a + hl b) ?_) (by omega)
    rw [Nat.pow_add]
    exact Nat.mul_lt_mul_of_lt_of_le (lt_pow_digs HB2 a) (Nat.le_of_lt (lt_pow_digs HB2 b)) (Nat.pow_pos (by decide))
  have HT := Lib.hid (fun (A A' : Option Addr) (c c' : Nat) (w' : World) (h : Shows .i64 w' A (digs HB a)) (h' : Shows .i64 w' A' (digs HB b)) => by
    have := rTimes_any A A' (digs HB a) (digs HB b) c c' w' h h' (dig_digs' HB2 a) (dig_digs' HB2 b) (show hl a ≤ 1000000 by omega) (show hl b ≤ 1000000 by omega)
    rw [val_digs' HB2, val_digs' HB2] at this; exact this)
  change Hid (∀ (A A' : Option Addr) (c c' : Nat) (w' : World), _ → _ → Calls _ _ #[.slice A (hl a) c, .slice A' (hl b) c'] w' _) at HT
  unfold HalfPost at HT
  generalize a * b = v at *
  have HM := Lib.hid (fun (A : Option Addr) (c : Nat) (w' : World) (h : Shows .i64 w' A (digs HB v)) (h1 : hl v ≤ c) (h2 : c ≤ maxLen) => by
    have := rMade_any (s != t) A (digs HB v) c w' h (dig_digs' HB2 v) h1 h2 (show hl v ≤ 3000000 by omega)
    rw [val_digs' HB2] at this; exact this)
  change Hid (∀ (A : Option Addr) (c : Nat) (w' : World), _ → _ → _ → Calls _ _ #[.bool (!(s == t)), .slice A (hl v) c] w' _) at HM
  have HSX := Lib.hid hsx
  clear hx hy hsx hla hlb hab hlen
  go_enter Tryz.func130, Tryz.ntmps130
  go_wp2_with fail
  have hR : w.heap.size + 1 < w.heap.size + 1 + 1 := by omega
  go_region_held3 (fun w' => Below w.heap.size w w' ∧ w'.cell? ⟨w.heap.size, 0, none⟩ = some (.bool s) ∧ w'.cell? ⟨w.heap.size, 1, none⟩ = some (.slice A n c) ∧ w'.cell? ⟨w.heap.size + 1, 0, none⟩ = some (.bool t) ∧ w'.cell? ⟨w.heap.size + 1, 1, none⟩ = some (.slice A' m c') ∧
    w'.cell? ⟨w.heap.size + 1 + 1, 0, none⟩ = some (cellAt w' ⟨w.heap.size + 1 + 1, 0, none⟩) ∧ w'.cell? ⟨w.heap.size + 1 + 1, 1, none⟩ = some (cellAt w' ⟨w.heap.size + 1 + 1, 1, none⟩) ∧ w'.frozen? ⟨w.heap.size + 1 + 1, 0, none⟩ = false ∧ w'.frozen? ⟨w.heap.size + 1 + 1, 1, none⟩ = false ∧ w.heap.size + 1 + 1 < w'.heap.size)
    (first
      | (refine ⟨(((Below.refl _ _).alloc (Nat.le_refl _) _).alloc (by simp) _).alloc (by simp; omega) _ |>.drew, ?_⟩; simp [go_sem, cellAt])
      | (refine Sres.keep hR (by assumption) ?_; first | assumption | exact (Below.refl _ _).alloc (Nat.le_refl _) _ | exact below_drewN (Below.refl _ _) _)
      | exact Sres.store hR (by assumption) _ _)
    (first
      | (go_at_call 92; (with_reducible refine (HDx.out _ (in_ai (by assumption) HX.out)).mono ?_); rintro e w' ⟨A1, c1, rfl, hs1, q1, q2, hf1, hbx⟩)
      | (go_at_call 92; (with_reducible refine (HDy.out _ (in_ai (by assumption) HY.out)).mono ?_); rintro e w' ⟨A2, c2, rfl, hs2, q3, q4, hf2, hby⟩)
      | (go_at_call 84; (refine (HT.out A1 A2 c1 c2 _ (hs1.below hby) hs2).mono ?_); rintro e w' ⟨A4, c4, rfl, hs4, q5, q6, hf4, hbt⟩)
      | (go_at_call 86; (refine (HM.out A4 c4 _ hs4 q5 q6).mono ?_); rintro e w' ⟨A3, c3, rfl, hs3, k1, k2, hf3, hb3⟩))
  have B2 := hbx.trans (hby.mono hbx.size)
  have B3 := B2.trans (hbt.mono B2.size)
  obtain ⟨-, -, -, -, hz0, B0⟩ := three_keep (three_drew B3)
  obtain ⟨-, -, q, -, -, B⟩ := three_keep (three_drew (B3.trans (hb3.mono B3.size)))
  go_wp2_with fail
  refine bodyPost_ret (v := .agg #[.bool (s != t && !decide (v = 0)), .slice A3 (wl v) c3]) (by simp [results, Tryz.results130, go_sem, q]) rfl ?_
  exact fin_post B0 hz0 B (by omega) HSX.out rfl hs3 k1 k2 hf3
end Go.Proofs.YtfjmhfmhijhpkaaGreatDoor
