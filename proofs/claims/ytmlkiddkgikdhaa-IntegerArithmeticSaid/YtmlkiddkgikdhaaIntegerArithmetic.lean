/- The law IntegerArithmetic answers true at all integers. -/
import Derived.Test.YtmlkiddkgikdhaaSho
namespace Go.Proofs.Ytmlkiddkgikdhaa
open Go.RowKit FF

/-- the four cells of two integers' variables, in one region -/
abbrev Sxy (w : World) (x0 x1 y0 y1 : Value) (w' : World) : Prop :=
  Below w.heap.size w w' ∧ w'.cell? ⟨w.heap.size, 0, none⟩ = some x0 ∧ w'.cell? ⟨w.heap.size, 1, none⟩ = some x1 ∧ w'.cell? ⟨w.heap.size + 1, 0, none⟩ = some y0 ∧ w'.cell? ⟨w.heap.size + 1, 1, none⟩ = some y1 ∧ w.heap.size + 1 < w'.heap.size
theorem Sxy.keep {w : World} {x0 x1 y0 y1 : Value} {w0 w1 : World} (h : Sxy w x0 x1 y0 y1 w0) (hb : Below w0.heap.size w0 w1) : Sxy w x0 x1 y0 y1 w1 := by
  obtain ⟨b, h1, h2, h3, h4, h9⟩ := h
  have k : ∀ p : Addr, p.block ≤ w.heap.size + 1 → w1.cell? p = w0.cell? p := fun p hp => hb.cell (by omega)
  exact ⟨b.trans (hb.mono b.size), by rw [k _ (by simp)]; exact h1, by rw [k _ (by simp)]; exact h2, by rw [k _ (by simp)]; exact h3, by rw [k _ (by simp)]; exact h4, Nat.lt_of_lt_of_le h9 hb.size⟩

set_option maxRecDepth 100000 in
set_option maxHeartbeats 4000000 in
theorem IntegerArithmetic_law (s : Bool) (A : Option Addr) (xs : List Nat) (c : Nat) (t : Bool) (A' : Option Addr) (ys : List Nat) (c' : Nat) (w : World)
    (hx : Shows .u32 w A xs) (dx : Dig WB xs) (hcx : xs.length ≤ c) (hcx2 : c ≤ maxLen) (hy : Shows .u32 w A' ys) (dy : Dig WB ys) (hcy : ys.length ≤ c') (hcy2 : c' ≤ maxLen) :
    Calls Try.prog 9 #[.agg #[.bool s, .slice A xs.length c], .agg #[.bool t, .slice A' ys.length c']] w fun e w' => e = .returned (.bool true) ∧ Below w.heap.size w w' := by
  have hA := Lib.hid awake_any
  have aX := AI.mk (s := s) hx dx hcx hcx2
  have aY := AI.mk (s := t) hy dy hcy hcy2
  clear hx dx hy dy
  unfold maxLen at hcx2 hcy2
  obtain ⟨x, hx⟩ : ∃ x, sval s (val WB xs) = x := ⟨_, rfl⟩
  obtain ⟨y, hy⟩ : ∃ y, sval t (val WB ys) = y := ⟨_, rfl⟩
  rw [hx] at aX
  rw [hy] at aY
  clear hx hy
  generalize xs.length = n at *
  generalize ys.length = m at *
  have HS := Lib.hid (fun (w' : World) (g c : Nat) h => short_law g [n, m] c w' (by simp) h)
  change Hid (∀ (w' : World) (g c : Nat), _ → Calls _ _ #[.slice (some ⟨g, 0, none⟩) 2 c] w' _) at HS
  have hcells : ∀ (W : World) (v0 v1 : Value) (T : TypeId), ∀ i, i < [n, m].length → ∃ A0 c0, (W.alloc (.cells #[v0, .slice A n c, v1, .slice A' m c'] T)).cell? ⟨W.heap.size, i * 2 + 1, none⟩ = some (.slice A0 ([n, m].getD i 0) c0) ∧ [n, m].getD i 0 ≤ 9223372036854775807 := by
    intro W v0 v1 T i hi
    match i, hi with
    | 0, _ => exact ⟨A, c, by rw [World.cell?_alloc_at _ _ _ _ rfl]; rfl, by show n ≤ _; omega⟩
    | 1, _ => exact ⟨A', c', by rw [World.cell?_alloc_at _ _ _ _ rfl]; rfl, by show m ≤ _; omega⟩
  have hsz := hcells ((w.alloc (.cells #[.bool s, .slice A n c] 51)).alloc (.cells #[.bool t, .slice A' m c'] 51)) (.bool s) (.bool t) 51
  rw [World.size_alloc, World.size_alloc] at hsz
  have HSh := Lib.hid (HS.out _ _ 2 hsz)
  clear hcells hsz HS
  by_cases hsh : shortB [n, m] = true
  · have hn6 : n ≤ 6 := shortB_get hsh (i := 0) (by simp)
    have hm6 : m ≤ 6 := shortB_get hsh (i := 1) (by simp)
    rw [hsh] at HSh
    clear hsh
    have HX := Lib.hid aX; have HY := Lib.hid aY
    have HAdd := Lib.hid (fun w' h h' => Add_any s t A A' n m c c' x y w' h h' (by omega))
    have HRAdd := Lib.hid (fun w' h h' => rAdd_any s t A A' n m c c' x y w' h h' (by omega))
    have HSub := Lib.hid (fun w' h h' => Sub_any s t A A' n m c c' x y w' h h' (by omega))
    have HRSub := Lib.hid (fun w' h h' => rSub_any s t A A' n m c c' x y w' h h' (by omega))
    have HMul := Lib.hid (fun w' h h' => Mul_any s t A A' n m c c' x y w' h h' (by omega))
    have HRMul := Lib.hid (fun w' h h' => rMul_any s t A A' n m c c' x y w' h h' (by omega))
    have HGcd := Lib.hid (fun w' h h' => Gcd_any s t A A' n m c c' x y w' h h' (by omega))
    have HRGcd := Lib.hid (fun w' h h' => rGcd_any s t A A' n m c c' x y w' h h' (by omega))
    unfold IntPost at HAdd HRAdd HSub HRSub HMul HRMul HGcd HRGcd
    have HSm := Lib.hid Same_int
    clear aX aY
    have HDm := Lib.hid (fun w' h h' => DivMod_all s t A A' n m c c' x y w' h h' (by omega))
    have HRDm := Lib.hid (fun w' h h' => rDivMod_all s t A A' n m c c' x y w' h h' (by omega))
    unfold DMAll at HDm HRDm
    generalize x + y = z1 at *
    generalize x - y = z2 at *
    generalize x * y = z3 at *
    generalize ((Int.gcd x y : Nat) : Int) = z4 at *
    generalize x / y = z5 at *
    generalize remZ x y = z6 at *
    generalize errZ y = ez at *
    go_enter Try.func9, Try.ntmps9
    go_wp2_with fail
    refine HSh.out.mono ?_
    rintro e w' ⟨rfl, rfl⟩
    go_wp2_with fail
    go_region_held3 (fun w' => Below w.heap.size w w' ∧ w'.cell? ⟨w.heap.size, 0, none⟩ = some (.bool s) ∧ w'.cell? ⟨w.heap.size, 1, none⟩ = some (.slice A n c) ∧ w'.cell? ⟨w.heap.size + 1, 0, none⟩ = some (.bool t) ∧ w'.cell? ⟨w.heap.size + 1, 1, none⟩ = some (.slice A' m c') ∧ w.heap.size + 1 < w'.heap.size)
      (first
        | (refine ⟨(((Below.refl _ _).alloc (Nat.le_refl _) _).alloc (by simp) _).alloc (by simp; omega) _ |>.drew, ?_⟩; simp [go_sem])
        | (refine Sxy.keep (by assumption) ?_; first | assumption | exact (Below.refl _ _).alloc (Nat.le_refl _) _ | exact below_drewN (Below.refl _ _) _))
      (first
        | (go_at_call 39; (with_reducible refine (HAdd.out _ (in_ai (by assumption) HX.out) (in_ai (by assumption) HY.out)).mono ?_); rintro e w' ⟨A1, c1, rfl, s1, p1, q1, -, b1⟩)
        | (go_at_call 40; (with_reducible refine (HRAdd.out _ (in_ai (by assumption) HX.out) (in_ai (by assumption) HY.out)).mono ?_); rintro e w' ⟨A2, c2, rfl, s2, p2, q2, -, b2⟩)
        | (go_at_call 38; (with_reducible refine (HSm.out z1 A1 A2 c1 c2 _ (s1.below b2) s2 p1 q1).mono ?_); rintro e w' ⟨rfl, b3⟩)
        | (go_at_call 41; (with_reducible refine (HSub.out _ (in_ai (by assumption) HX.out) (in_ai (by assumption) HY.out)).mono ?_); rintro e w' ⟨A4, c4, rfl, s4, p4, q4, -, b4⟩)
        | (go_at_call 42; (with_reducible refine (HRSub.out _ (in_ai (by assumption) HX.out) (in_ai (by assumption) HY.out)).mono ?_); rintro e w' ⟨A5, c5, rfl, s5, p5, q5, -, b5⟩)
        | (go_at_call 38; (with_reducible refine (HSm.out z2 A4 A5 c4 c5 _ (s4.below b5) s5 p4 q4).mono ?_); rintro e w' ⟨rfl, b6⟩)
        | (go_at_call 43; (with_reducible refine (HMul.out _ (in_ai (by assumption) HX.out) (in_ai (by assumption) HY.out)).mono ?_); rintro e w' ⟨A7, c7, rfl, s7, p7, q7, -, b7⟩)
        | (go_at_call 44; (with_reducible refine (HRMul.out _ (in_ai (by assumption) HX.out) (in_ai (by assumption) HY.out)).mono ?_); rintro e w' ⟨A8, c8, rfl, s8, p8, q8, -, b8⟩)
        | (go_at_call 38; (with_reducible refine (HSm.out z3 A7 A8 c7 c8 _ (s7.below b8) s8 p7 q7).mono ?_); rintro e w' ⟨rfl, b9⟩)
        | (go_at_call 45; (with_reducible refine (HGcd.out _ (in_ai (by assumption) HX.out) (in_ai (by assumption) HY.out)).mono ?_); rintro e w' ⟨A10, c10, rfl, s10, p10, q10, -, b10⟩)
        | (go_at_call 46; (with_reducible refine (HRGcd.out _ (in_ai (by assumption) HX.out) (in_ai (by assumption) HY.out)).mono ?_); rintro e w' ⟨A11, c11, rfl, s11, p11, q11, -, b11⟩)
        | (go_at_call 38; (with_reducible refine (HSm.out z4 A10 A11 c10 c11 _ (s10.below b11) s11 p10 q10).mono ?_); rintro e w' ⟨rfl, b12⟩))
    have X2 := Lib.hid (by assumption : Sxy w (.bool s) (.slice A n c) (.bool t) (.slice A' m c') w')
    obtain ⟨W0, hW0⟩ : ∃ W0, W0 = w' := ⟨_, rfl⟩
    subst hW0
    clear HAdd HRAdd HSub HRSub HMul HRMul HGcd HRGcd b1 b2 b3 b4 b5 b6 b7 b8 b9 b10 b11 b12 s1 s2 s4 s5 s7 s8 s10 s11 p1 p2 p4 p5 p7 p8 p10 p11 q1 q2 q4 q5 q7 q8 q10 q11
    obtain ⟨-, k0, k1, k2, k3, hz⟩ := X2.out
    go_wp2_with fail
    refine (HDm.out _ (in_ai X2.out HX.out) (in_ai X2.out HY.out)).mono ?_
    rintro e W1 ⟨A20, c20, A21, c21, rfl, s5, s6, p5, q5, p6, q6, b20⟩
    have X3 := Lib.hid (Sxy.keep X2.out b20)
    have S5 := Lib.hid s5; have S6 := Lib.hid s6
    clear k0 k1 k2 k3 hz s5 s6 b20 X2
    obtain ⟨-, k0, k1, k2, k3, hz⟩ := X3.out
    have z0 : w.heap.size < W1.heap.size := by omega
    have z1' : w.heap.size < W1.heap.size + 1 := by omega
    have hX4 := Lib.hid ((in_ai X3.out HX.out).alloc (.cells #[.bool (decide (z5 < 0)), .slice A20 (wl z5.natAbs) c20] 51) |>.alloc (.cells #[.bool (decide (z6 < 0)), .slice A21 (wl z6.natAbs) c21] 51))
    have hY4 := Lib.hid ((in_ai X3.out HY.out).alloc (.cells #[.bool (decide (z5 < 0)), .slice A20 (wl z5.natAbs) c20] 51) |>.alloc (.cells #[.bool (decide (z6 < 0)), .slice A21 (wl z6.natAbs) c21] 51))
    go_wp2_with fail
    refine (HRDm.out _ hX4.out hY4.out).mono ?_
    rintro e W2 ⟨A22, c22, A23, c23, rfl, s7, s8, p7, q7, p8, q8, b21⟩
    have b21' : Below (W1.heap.size + 1 + 1) ((W1.alloc (.cells #[.bool (decide (z5 < 0)), .slice A20 (wl z5.natAbs) c20] 51)).alloc (.cells #[.bool (decide (z6 < 0)), .slice A21 (wl z6.natAbs) c21] 51)) W2 := by
      rw [World.size_alloc, World.size_alloc] at b21; exact b21
    obtain ⟨j0, j1, -, zz, BB⟩ := two_keep b21'
    have S5' := Lib.hid (S5.out.below BB); have S6' := Lib.hid (S6.out.below BB)
    have S7 := Lib.hid s7; have S8 := Lib.hid s8
    have B4 := Lib.hid (X3.out.1.trans (BB.mono X3.out.1.size))
    have j00 := j0 0; have j01 := j0 1; have j10 := j1 0; have j11 := j1 1
    clear j0 j1 BB b21 b21' s7 s8 hX4 hY4 HDm HRDm S5 S6 k0 k1 k2 k3 hz z0 z1' X3 HX HY
    have y0 : W1.heap.size < W2.heap.size := by omega
    have y1 : W1.heap.size < W2.heap.size + 1 := by omega
    have h5 := Lib.hid (HSm.out z5 A20 A22 c20 c22 _ ((S5'.out.alloc (.cells #[.bool (decide (z5 < 0)), .slice A22 (wl z5.natAbs) c22] 51)).alloc (.cells #[.bool (decide (z6 < 0)), .slice A23 (wl z6.natAbs) c23] 51)) ((S7.out.alloc (.cells #[.bool (decide (z5 < 0)), .slice A22 (wl z5.natAbs) c22] 51)).alloc (.cells #[.bool (decide (z6 < 0)), .slice A23 (wl z6.natAbs) c23] 51)) p5 q5)
    go_wp2_with fail
    refine h5.out.mono ?_
    rintro e W3 ⟨rfl, b22⟩
    have b22' : Below (W2.heap.size + 1 + 1) ((W2.alloc (.cells #[.bool (decide (z5 < 0)), .slice A22 (wl z5.natAbs) c22] 51)).alloc (.cells #[.bool (decide (z6 < 0)), .slice A23 (wl z6.natAbs) c23] 51)) W3 := by
      rw [World.size_alloc, World.size_alloc] at b22; exact b22
    obtain ⟨-, m1, -, zz3, BB⟩ := two_keep b22'
    have m10 := m1 0; have m11 := m1 1
    have l10 : W3.cell? ⟨W1.heap.size + 1, 0, none⟩ = some (.bool (decide (z6 < 0))) := by rw [BB.cell (p := ⟨W1.heap.size + 1, 0, none⟩) zz]; exact j10
    have l11 : W3.cell? ⟨W1.heap.size + 1, 1, none⟩ = some (.slice A21 (wl z6.natAbs) c21) := by rw [BB.cell (p := ⟨W1.heap.size + 1, 1, none⟩) zz]; exact j11
    have h6 := Lib.hid (HSm.out z6 A21 A23 c21 c23 _ (S6'.out.below BB) (S8.out.below BB) p6 q6)
    have B5 := Lib.hid (B4.out.trans (BB.mono B4.out.size))
    clear m1 b22 b22' BB j00 j01 j10 j11 h5 S5' S6' S7 S8 zz y0 y1 B4
    go_wp2_with fail
    refine h6.out.mono ?_
    rintro e W4 ⟨rfl, b23⟩
    have B6 := Lib.hid (B5.out.trans (b23.mono B5.out.size))
    clear b23 h6 B5 m10 m11 l10 l11
    go_wp2_with fail
    refine (hA.out _).mono ?_
    rintro e W5 ⟨rfl, b24⟩
    have B7 := Lib.hid (B6.out.trans (b24.mono B6.out.size))
    clear b24
    go_wp2_with fail
    go_ret
    exact ⟨rfl, B7.out⟩
  · have hsf : shortB [n, m] = false := by cases h : shortB [n, m] <;> simp_all
    rw [hsf] at HSh
    clear hsh hsf
    go_enter Try.func9, Try.ntmps9
    go_wp2_with fail
    refine HSh.out.mono ?_
    rintro e w' ⟨rfl, rfl⟩
    go_wp2_with fail
    refine (hA.out _).mono ?_
    rintro e W5 ⟨rfl, b24⟩
    have B7 := Lib.hid ((((Below.refl w.heap.size w).alloc (Nat.le_refl _) _).alloc (by simp) _).alloc (by simp; omega) _ |>.trans (b24.mono (by simp; omega)))
    clear b24
    go_wp2_with fail
    go_ret
    exact ⟨rfl, B7.out⟩
end Go.Proofs.Ytmlkiddkgikdhaa
