/- The law IntegerValues answers true at all integers. -/
import Derived.Test.YtmlkiddkgikdhaaRsm
namespace Go.Proofs.Ytmlkiddkgikdhaa
open Go.RowKit FF

/-- the four cells of two integers' variables, in one region -/
abbrev Sxy (w : World) (x0 x1 y0 y1 : Value) (w' : World) : Prop :=
  Below w.heap.size w w' ∧ w'.cell? ⟨w.heap.size, 0, none⟩ = some x0 ∧ w'.cell? ⟨w.heap.size, 1, none⟩ = some x1 ∧ w'.cell? ⟨w.heap.size + 1, 0, none⟩ = some y0 ∧ w'.cell? ⟨w.heap.size + 1, 1, none⟩ = some y1 ∧ w.heap.size + 1 < w'.heap.size
theorem Sxy.keep {w : World} {x0 x1 y0 y1 : Value} {w0 w1 : World} (h : Sxy w x0 x1 y0 y1 w0) (hb : Below w0.heap.size w0 w1) : Sxy w x0 x1 y0 y1 w1 := by
  obtain ⟨b, h1, h2, h3, h4, h9⟩ := h
  have k : ∀ p : Addr, p.block ≤ w.heap.size + 1 → w1.cell? p = w0.cell? p := fun p hp => hb.cell (by omega)
  exact ⟨b.trans (hb.mono b.size), by rw [k _ (by simp)]; exact h1, by rw [k _ (by simp)]; exact h2, by rw [k _ (by simp)]; exact h3, by rw [k _ (by simp)]; exact h4, Nat.lt_of_lt_of_le h9 hb.size⟩

set_option maxRecDepth 100000 in
set_option maxHeartbeats 4000000 in
theorem IntegerValues_law (s : Bool) (A : Option Addr) (xs : List Nat) (c : Nat) (t : Bool) (A' : Option Addr) (ys : List Nat) (c' : Nat) (k : Int) (w : World)
    (hx : Shows .u32 w A xs) (dx : Dig WB xs) (hcx : xs.length ≤ c) (hcx2 : c ≤ maxLen) (hy : Shows .u32 w A' ys) (dy : Dig WB ys) (hcy : ys.length ≤ c') (hcy2 : c' ≤ maxLen) (hk : I64 k) :
    Calls Try.prog 13 #[.agg #[.bool s, .slice A xs.length c], .agg #[.bool t, .slice A' ys.length c'], .int .i64 k] w fun e w' => e = .returned (.bool true) ∧ Below w.heap.size w w' := by
  have hA := Lib.hid awake_any
  have aX := AI.mk (s := s) hx dx hcx hcx2
  have aY := AI.mk (s := t) hy dy hcy hcy2
  clear hx dx hy dy
  unfold maxLen at hcx2 hcy2
  obtain ⟨x, hx⟩ : ∃ x, sval s (val WB xs) = x := ⟨_, rfl⟩
  obtain ⟨y, hy⟩ : ∃ y, sval t (val WB ys) = y := ⟨_, rfl⟩
  rw [hx] at aX
  rw [hy] at aY
  clear hx hy
  generalize xs.length = n at *
  generalize ys.length = m at *
  have HS := Lib.hid (fun (w' : World) (g c : Nat) h => short_law g [n, m] c w' (by simp) h)
  change Hid (∀ (w' : World) (g c : Nat), _ → Calls _ _ #[.slice (some ⟨g, 0, none⟩) 2 c] w' _) at HS
  have hcells : ∀ (W : World) (v0 v1 : Value) (T : TypeId), ∀ i, i < [n, m].length → ∃ A0 c0, (W.alloc (.cells #[v0, .slice A n c, v1, .slice A' m c'] T)).cell? ⟨W.heap.size, i * 2 + 1, none⟩ = some (.slice A0 ([n, m].getD i 0) c0) ∧ [n, m].getD i 0 ≤ 9223372036854775807 := by
    intro W v0 v1 T i hi
    match i, hi with
    | 0, _ => exact ⟨A, c, by rw [World.cell?_alloc_at _ _ _ _ rfl]; rfl, by show n ≤ _; omega⟩
    | 1, _ => exact ⟨A', c', by rw [World.cell?_alloc_at _ _ _ _ rfl]; rfl, by show m ≤ _; omega⟩
  have hsz := hcells ((w.alloc (.cells #[.bool s, .slice A n c] 51)).alloc (.cells #[.bool t, .slice A' m c'] 51)) (.bool s) (.bool t) 51
  rw [World.size_alloc, World.size_alloc] at hsz
  have HSh := Lib.hid (HS.out _ _ 2 hsz)
  clear hcells hsz HS
  by_cases hsh : shortB [n, m] = true
  · have hn6 : n ≤ 6 := shortB_get hsh (i := 0) (by simp)
    have hm6 : m ≤ 6 := shortB_get hsh (i := 1) (by simp)
    rw [hsh] at HSh
    clear hsh
    have HX := Lib.hid aX; have HY := Lib.hid aY
    have HSmx := Lib.hid (fun w' h => Small_any s A n c x w' h)
    have HRSmx := Lib.hid (fun w' h => rSmall_any s A n c x w' h (by omega))
    have HOf := Lib.hid (fun w' => Of_any k w' hk)
    have HROf := Lib.hid (fun w' => rOf_any k w' hk)
    have HSmk := Lib.hid (fun (A1 : Option Addr) (c1 : Nat) w' h => Small_any (decide (k < 0)) A1 (wl k.natAbs) c1 k w' h)
    have HNo := Lib.hid (fun w' h => Normal_any s A n c x w' h (by omega))
    have HRNo := Lib.hid (fun w' h => rNormal_any s A n c x w' h (by omega))
    have HCm := Lib.hid (fun w' h h' => Cmp_any s t A A' n m c c' x y w' h h' (by omega))
    have HRCm := Lib.hid (fun w' h h' => rCmp_any s t A A' n m c c' x y w' h h' (by omega))
    unfold IntPost at HNo HRNo
    have HSm := Lib.hid Same_int
    rw [show smallV k = k from if_pos hk, show smallB k = true from decide_eq_true hk] at HSmk
    clear aX aY
    generalize smallV x = sv at *
    generalize smallB x = sb at *
    generalize sgn (x - y) = g at *
    go_enter Try.func13, Try.ntmps13
    go_wp2_with fail
    refine HSh.out.mono ?_
    rintro e w' ⟨rfl, rfl⟩
    go_wp2_with fail
    obtain ⟨W0, hW0⟩ : ∃ W0, ((w.alloc (.cells #[.bool s, .slice A n c] 51)).alloc (.cells #[.bool t, .slice A' m c'] 51)).alloc (.cells #[.bool s, .slice A n c, .bool t, .slice A' m c'] 51) = W0 := ⟨_, rfl⟩
    have X0 := Lib.hid (show Sxy w (.bool s) (.slice A n c) (.bool t) (.slice A' m c') W0 by
      subst hW0
      refine ⟨((Below.refl _ _).alloc (Nat.le_refl _) _).alloc (by simp) _ |>.alloc (by simp; omega) _, ?_⟩
      simp [go_sem])
    rw [hW0]
    clear hW0
    refine (HSmx.out _ (in_ai X0.out HX.out)).mono ?_
    rintro e w1 ⟨rfl, b1⟩
    have X1 := Lib.hid (Sxy.keep X0.out b1)
    clear b1 X0
    obtain ⟨-, k0, k1, k2, k3, hz⟩ := X1.out
    go_wp2_with fail
    refine (HRSmx.out _ (in_ai X1.out HX.out)).mono ?_
    rintro e w2 ⟨rfl, b1⟩
    have X2 := Lib.hid (Sxy.keep X1.out b1)
    clear b1 X1 k0 k1 k2 k3 hz
    obtain ⟨-, k0, k1, k2, k3, hz⟩ := X2.out
    go_wp2_with fail
    refine (HOf.out _).mono ?_
    rintro e w3 ⟨A3, c3, rfl, s3, p3, q3, -, b1⟩
    have I3 := Lib.hid (AI.of_post s3 p3 q3)
    have X3 := Lib.hid (Sxy.keep X2.out b1)
    clear b1 X2 k0 k1 k2 k3 hz s3
    obtain ⟨-, k0, k1, k2, k3, hz⟩ := X3.out
    go_wp2_with fail
    refine (HSmk.out _ _ _ I3.out).mono ?_
    rintro e w4 ⟨rfl, b1⟩
    have X4 := Lib.hid (Sxy.keep X3.out b1)
    clear b1 X3 k0 k1 k2 k3 hz I3 p3 q3
    obtain ⟨-, k0, k1, k2, k3, hz⟩ := X4.out
    go_wp2_with fail
    go_region_held3 (fun w' => Below w.heap.size w w' ∧ w'.cell? ⟨w.heap.size, 0, none⟩ = some (.bool s) ∧ w'.cell? ⟨w.heap.size, 1, none⟩ = some (.slice A n c) ∧ w'.cell? ⟨w.heap.size + 1, 0, none⟩ = some (.bool t) ∧ w'.cell? ⟨w.heap.size + 1, 1, none⟩ = some (.slice A' m c') ∧ w.heap.size + 1 < w'.heap.size)
      (first
        | exact ⟨X4.out.1.drew, X4.out.2⟩
        | (refine Sxy.keep (by assumption) ?_; first | assumption | exact (Below.refl _ _).alloc (Nat.le_refl _) _ | exact below_drewN (Below.refl _ _) _))
      (first
        | (go_at_call 58; (with_reducible refine (HOf.out _).mono ?_); rintro e w' ⟨A1, c1, rfl, s1, p1, q1, -, b1⟩)
        | (go_at_call 61; (with_reducible refine (HROf.out _).mono ?_); rintro e w' ⟨A2, c2, rfl, s2, p2, q2, -, b2⟩)
        | (go_at_call 38; (with_reducible refine (HSm.out k A1 A2 c1 c2 _ (s1.below b2) s2 p1 q1).mono ?_); rintro e w' ⟨rfl, b3⟩)
        | (go_at_call 56; (with_reducible refine (HNo.out _ (in_ai (by assumption) HX.out)).mono ?_); rintro e w' ⟨A4, c4, rfl, s4, p4, q4, -, b4⟩)
        | (go_at_call 62; (with_reducible refine (HRNo.out _ (in_ai (by assumption) HX.out)).mono ?_); rintro e w' ⟨A5, c5, rfl, s5, p5, q5, -, b5⟩)
        | (go_at_call 38; (with_reducible refine (HSm.out x A4 A5 c4 c5 _ (s4.below b5) s5 p4 q4).mono ?_); rintro e w' ⟨rfl, b6⟩)
        | (go_at_call 57; (with_reducible refine (HCm.out _ (in_ai (by assumption) HX.out) (in_ai (by assumption) HY.out)).mono ?_); rintro e w' ⟨rfl, b7⟩)
        | (go_at_call 63; (with_reducible refine (HRCm.out _ (in_ai (by assumption) HX.out) (in_ai (by assumption) HY.out)).mono ?_); rintro e w' ⟨rfl, b8⟩)
        | (go_at_call 20; (with_reducible refine (hA.out _).mono ?_); rintro e w' ⟨rfl, b9⟩))
    have X5 := Lib.hid (by assumption : Sxy w (.bool s) (.slice A n c) (.bool t) (.slice A' m c') w')
    go_wp2_with fail
    go_ret
    exact ⟨rfl, X5.out.1⟩
  · have hsf : shortB [n, m] = false := by cases h : shortB [n, m] <;> simp_all
    rw [hsf] at HSh
    clear hsh hsf
    go_enter Try.func13, Try.ntmps13
    go_wp2_with fail
    refine HSh.out.mono ?_
    rintro e w' ⟨rfl, rfl⟩
    go_wp2_with fail
    refine (hA.out _).mono ?_
    rintro e W5 ⟨rfl, b24⟩
    have B7 := Lib.hid ((((Below.refl w.heap.size w).alloc (Nat.le_refl _) _).alloc (by simp) _).alloc (by simp; omega) _ |>.trans (b24.mono (by simp; omega)))
    clear b24
    go_wp2_with fail
    go_ret
    exact ⟨rfl, B7.out⟩
end Go.Proofs.Ytmlkiddkgikdhaa
