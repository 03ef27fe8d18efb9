/- Integers of several words: difference, normal form, greatest common divisor, comparison, machine integers. -/
import Derived.Test.YtfjmhfmhijhpkaaGreatDoorRng
import Derived.Deep.LoopGhost
namespace Go.Proofs.YtfjmhfmhijhpkaaGreatDoor
open Go.RowKit FF

theorem neg_sval (s : Bool) (n : Nat) : sval (!s) n = -sval s n := by cases s <;> simp [sval]
theorem AI.neg {w : World} {s : Bool} {A : Option Addr} {n c : Nat} {z : Int} (h : AI w s A n c z) : AI w (!s) A n c (-z) := by
  obtain ⟨xs, h1, h2, h3, h4, h5, h6, h7⟩ := h
  exact ⟨xs, h1, h2, h3, h4, h5, by rw [neg_sval, h6], by rw [h7, Int.natAbs_neg]⟩
theorem in_ai {W w' : World} {Q : Prop} {s : Bool} {A : Option Addr} {n c : Nat} {z : Int} (h : Below W.heap.size W w' ∧ Q) (a : AI W s A n c z) : AI w' s A n c z := a.keep h.1
theorem fin_int {w w0 w1 : World} {R : Nat} {u0 u1 : Value} {z : Int} {A : Option Addr} {c : Nat} {e : Ending} (B0 : Below w.heap.size w w0) (hlt : R < w0.heap.size) (B : Below w.heap.size w w1) (hR : w.heap.size ≤ R)
    (he : e = .returned (.agg #[.bool (decide (z < 0)), .slice A (wl z.natAbs) c])) (h1 : Shows .u32 w1 A (digs WB z.natAbs)) (h2 : wl z.natAbs ≤ c) (h3 : c ≤ maxLen) (h4 : Fresh w0.heap.size A) : IntPost w z e ((w1.setCell ⟨R, 0, none⟩ u0).setCell ⟨R, 1, none⟩ u1) :=
  ⟨A, c, he, (h1.setCell h4 (p := ⟨R, 0, none⟩) hlt _).setCell h4 (p := ⟨R, 1, none⟩) hlt _, h2, h3, h4.mono B0.size, (B.setCell hR _).setCell hR _⟩

set_option maxHeartbeats 400000 in
theorem negative_any (s : Bool) (A : Option Addr) (n c : Nat) (w : World) :
    Calls Tryz.prog 209 #[.agg #[.bool s, .slice A n c]] w fun e w' => e = .returned (.agg #[.bool (!s), .slice A n c]) ∧ Below w.heap.size w w' := by
  go_enter Tryz.func209, Tryz.ntmps209
  go_wp2
  refine bodyPost_ret (v := .agg #[.bool (!s), .slice A n c]) (by simp [results, Tryz.results209, go_sem]) rfl ⟨rfl, ?_⟩
  go_grown

set_option maxRecDepth 100000 in
set_option maxHeartbeats 2000000 in
theorem Sub_any (s t : Bool) (A A' : Option Addr) (n m c c' : Nat) (x y : Int) (w : World) (hx : AI w s A n c x) (hy : AI w t A' m c' y) (hl : n + m ≤ 900000) :
    Calls Tryz.prog 180 #[.agg #[.bool s, .slice A n c], .agg #[.bool t, .slice A' m c']] w (IntPost w (x - y)) := by
  have HN := Lib.hid (negative_any t A' m c')
  have hA := fun (w' : World) h h' => Add_any s (!t) A A' n m c c' x (-y) w' h h' hl
  rw [← Int.sub_eq_add_neg] at hA
  have HA := Lib.hid hA
  have HX := Lib.hid hx; have HY := Lib.hid hy.neg
  clear hA hx hy hl
  generalize x - y = z at *
  go_enter Tryz.func180, Tryz.ntmps180
  go_wp2_with fail
  have hR : w.heap.size + 1 < w.heap.size + 1 + 1 := by omega
  go_region_held3 (fun w' => Below w.heap.size w w' ∧ w'.cell? ⟨w.heap.size, 0, none⟩ = some (.bool s) ∧ w'.cell? ⟨w.heap.size, 1, none⟩ = some (.slice A n c) ∧ w'.cell? ⟨w.heap.size + 1, 0, none⟩ = some (.bool t) ∧ w'.cell? ⟨w.heap.size + 1, 1, none⟩ = some (.slice A' m c') ∧
    w'.cell? ⟨w.heap.size + 1 + 1, 0, none⟩ = some (cellAt w' ⟨w.heap.size + 1 + 1, 0, none⟩) ∧ w'.cell? ⟨w.heap.size + 1 + 1, 1, none⟩ = some (cellAt w' ⟨w.heap.size + 1 + 1, 1, none⟩) ∧ w'.frozen? ⟨w.heap.size + 1 + 1, 0, none⟩ = false ∧ w'.frozen? ⟨w.heap.size + 1 + 1, 1, none⟩ = false ∧ w.heap.size + 1 + 1 < w'.heap.size)
    (first
      | (refine ⟨(((Below.refl _ _).alloc (Nat.le_refl _) _).alloc (by simp) _).alloc (by simp; omega) _ |>.drew, ?_⟩; simp [go_sem, cellAt])
      | (refine Sres.keep hR (by assumption) ?_; first | assumption | exact (Below.refl _ _).alloc (Nat.le_refl _) _ | exact below_drewN (Below.refl _ _) _)
      | exact Sres.store hR (by assumption) _ _)
    (first
      | (go_at_call 209; (with_reducible refine (HN.out _).mono ?_); rintro e w' ⟨rfl, hbx⟩)
      | (go_at_call 124; (refine (HA.out _ (in_ai (by assumption) HX.out) (in_ai (by assumption) HY.out)).mono ?_); rintro e w' ⟨A3, c3, rfl, hs3, k1, k2, hf3, hb3⟩))
  obtain ⟨-, -, -, -, hz0, B0⟩ := three_keep (three_drew hbx)
  obtain ⟨-, -, q, -, -, B⟩ := three_keep (three_drew (hbx.trans (hb3.mono hbx.size)))
  go_wp2_with fail
  refine bodyPost_ret (v := .agg #[.bool (decide (z < 0)), .slice A3 (wl z.natAbs) c3]) (by simp [results, Tryz.results180, go_sem, q]) rfl ?_
  exact fin_int B0 hz0 B (by omega) rfl hs3 k1 k2 hf3

/-- two variables that the call laid keep their cells while callees lay new blocks -/
theorem two_keep {w W : World} {c0 c1 : Array Value} {T0 T1 : TypeId} (hb : Below (w.heap.size + 1 + 1) ((w.alloc (.cells c0 T0)).alloc (.cells c1 T1)) W) :
    (∀ i, W.cell? ⟨w.heap.size, i, none⟩ = c0[i]?) ∧ (∀ i, W.cell? ⟨w.heap.size + 1, i, none⟩ = c1[i]?) ∧ (∀ i, W.frozen? ⟨w.heap.size + 1, i, none⟩ = false) ∧ w.heap.size + 1 < W.heap.size ∧ Below w.heap.size w W := by
  refine ⟨fun i => ?_, fun i => ?_, fun i => ?_, ?_, ?_⟩
  · rw [hb.cell (p := ⟨w.heap.size, i, none⟩) (by simp; omega)]; simp [go_sem]
  · rw [hb.cell (p := ⟨w.heap.size + 1, i, none⟩) (by simp)]; simp [go_sem]
  · rw [hb.frozen (p := ⟨w.heap.size + 1, i, none⟩) (by simp)]; simp [go_sem]
  · have := hb.size; simp at this; omega
  · exact ((((Below.refl _ _).alloc (Nat.le_refl _) _).alloc (by simp) _)).trans (hb.mono (by omega))
theorem two_drew {w W : World} {c0 c1 : Array Value} {T0 T1 : TypeId} (hb : Below ((w.alloc (.cells c0 T0)).alloc (.cells c1 T1)).drew.heap.size ((w.alloc (.cells c0 T0)).alloc (.cells c1 T1)).drew W) :
    Below (w.heap.size + 1 + 1) ((w.alloc (.cells c0 T0)).alloc (.cells c1 T1)) W := by
  have e : ((w.alloc (.cells c0 T0)).alloc (.cells c1 T1)).drew.heap.size = w.heap.size + 1 + 1 := by simp
  rw [e] at hb
  exact ⟨hb.os, hb.tape, hb.output, hb.size, hb.block⟩
abbrev S1res (w : World) (R : Nat) (x0 x1 : Value) (w' : World) : Prop :=
  Below w.heap.size w w' ∧ w'.cell? ⟨w.heap.size, 0, none⟩ = some x0 ∧ w'.cell? ⟨w.heap.size, 1, none⟩ = some x1 ∧
    w'.cell? ⟨R, 0, none⟩ = some (cellAt w' ⟨R, 0, none⟩) ∧ w'.cell? ⟨R, 1, none⟩ = some (cellAt w' ⟨R, 1, none⟩) ∧ w'.frozen? ⟨R, 0, none⟩ = false ∧ w'.frozen? ⟨R, 1, none⟩ = false ∧ R < w'.heap.size
theorem S1res.keep {w : World} {R : Nat} {x0 x1 : Value} {w0 w1 : World} (hR : w.heap.size < R) (h : S1res w R x0 x1 w0) (hb : Below w0.heap.size w0 w1) : S1res w R x0 x1 w1 := by
  obtain ⟨b, h1, h2, h5, h6, h7, h8, h9⟩ := h
  have k : ∀ p : Addr, p.block ≤ R → w1.cell? p = w0.cell? p := fun p hp => hb.cell (by omega)
  have f : ∀ p : Addr, p.block ≤ R → w1.frozen? p = w0.frozen? p := fun p hp => hb.frozen (by omega)
  refine ⟨b.trans (hb.mono b.size), by rw [k _ (by simp; omega)]; exact h1, by rw [k _ (by simp; omega)]; exact h2, ?_, ?_, by rw [f _ (by simp)]; exact h7, by rw [f _ (by simp)]; exact h8, Nat.lt_of_lt_of_le h9 hb.size⟩
  · exact cellAt_of (by rw [k _ (by simp)]; exact h5)
  · exact cellAt_of (by rw [k _ (by simp)]; exact h6)
theorem S1res.store {w : World} {R : Nat} {x0 x1 : Value} {w0 : World} (hR : w.heap.size < R) (h : S1res w R x0 x1 w0) (u0 u1 : Value) : S1res w R x0 x1 ((w0.setCell ⟨R, 0, none⟩ u0).setCell ⟨R, 1, none⟩ u1) := by
  obtain ⟨b, h1, h2, h5, h6, h7, h8, h9⟩ := h
  have k : ∀ p : Addr, p.block ≠ R → ((w0.setCell ⟨R, 0, none⟩ u0).setCell ⟨R, 1, none⟩ u1).cell? p = w0.cell? p := fun p hp => by
    rw [World.cell?_setCell_other _ _ _ _ (fun e => hp (by rw [← e])), World.cell?_setCell_other _ _ _ _ (fun e => hp (by rw [← e]))]
  refine ⟨(b.setCell (by simp; omega) _).setCell (by simp; omega) _, by rw [k _ (by simp; omega)]; exact h1, by rw [k _ (by simp; omega)]; exact h2, ?_, ?_, by simp [go_sem, h7], by simp [go_sem, h8], by simpa [World.setCell] using h9⟩
  · exact cellAt_of (v := u0) (by simp [go_sem, h5])
  · exact cellAt_of (v := u1) (by simp [go_sem, h6])

set_option maxRecDepth 100000 in
set_option maxHeartbeats 2000000 in
theorem Normal_any (s : Bool) (A : Option Addr) (n c : Nat) (x : Int) (w : World) (hx : AI w s A n c x) (hl : n ≤ 900000) :
    Calls Tryz.prog 30 #[.agg #[.bool s, .slice A n c]] w (IntPost w x) := by
  obtain ⟨xs, rfl, X, dx, hcx, hcx2, rfl, -⟩ := hx
  have HSx := Lib.hid (fun w' (h : Shows .u32 w' A xs) => size_any s A xs c w' h dx hcx hcx2)
  have HX := Lib.hid X
  have TX := Lib.hid (X.trim dx)
  have hla : wl (val WB xs) ≤ xs.length := digs_length_le WB2 (val_lt dx)
  generalize xs.length = n at *
  clear X dx hcx hcx2
  generalize val WB xs = v at *
  have hM := fun (w' : World) (h : Shows .u32 w' A (digs WB v)) => by
    have := made_any s A (digs WB v) (wl v) w' h (dig_digs' WB2 _) (Nat.le_refl _) (by unfold maxLen; omega) (by rw [val_digs' WB2]; omega)
    rw [val_digs' WB2] at this; exact this
  change ∀ w', _ → Calls _ _ #[.bool s, .slice A (wl v) (wl v)] w' _ at hM
  have HM := Lib.hid hM
  clear hM hla hl
  go_enter Tryz.func30, Tryz.ntmps30
  go_wp2_with fail
  have hR : w.heap.size < w.heap.size + 1 := by omega
  go_region_held3 (fun w' => Below w.heap.size w w' ∧ w'.cell? ⟨w.heap.size, 0, none⟩ = some (.bool s) ∧ w'.cell? ⟨w.heap.size, 1, none⟩ = some (.slice A n c) ∧
    w'.cell? ⟨w.heap.size + 1, 0, none⟩ = some (cellAt w' ⟨w.heap.size + 1, 0, none⟩) ∧ w'.cell? ⟨w.heap.size + 1, 1, none⟩ = some (cellAt w' ⟨w.heap.size + 1, 1, none⟩) ∧ w'.frozen? ⟨w.heap.size + 1, 0, none⟩ = false ∧ w'.frozen? ⟨w.heap.size + 1, 1, none⟩ = false ∧ w.heap.size + 1 < w'.heap.size)
    (first
      | (refine ⟨(((Below.refl _ _).alloc (Nat.le_refl _) _).alloc (by simp) _) |>.drew, ?_⟩; simp [go_sem, cellAt])
      | (refine S1res.keep hR (by assumption) ?_; first | assumption | exact (Below.refl _ _).alloc (Nat.le_refl _) _ | exact below_drewN (Below.refl _ _) _)
      | exact S1res.store hR (by assumption) _ _)
    (first
      | (go_at_call 87; (with_reducible refine (HSx.out _ (in_shows (by assumption) HX.out)).mono ?_); rintro e w' ⟨rfl, hbx⟩)
      | (go_at_call 82; (with_reducible refine (HM.out _ (in_shows (by assumption) TX.out)).mono ?_); rintro e w' ⟨A3, c3, rfl, hs3, k1, k2, hf3, hb3⟩))
  obtain ⟨-, -, -, hz0, B0⟩ := two_keep (two_drew hbx)
  obtain ⟨-, q, -, -, B⟩ := two_keep (two_drew (hbx.trans (hb3.mono hbx.size)))
  go_wp2_with fail
  refine bodyPost_ret (v := .agg #[.bool (s && !decide (v = 0)), .slice A3 (wl v) c3]) (by simp [results, Tryz.results30, go_sem, q]) rfl ?_
  exact fin_post B0 hz0 B (by omega) rfl rfl hs3 k1 k2 hf3
end Go.Proofs.YtfjmhfmhijhpkaaGreatDoor
