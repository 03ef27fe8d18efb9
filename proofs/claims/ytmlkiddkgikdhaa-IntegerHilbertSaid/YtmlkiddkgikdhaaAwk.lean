/- the verifier's examples of chapter 1: awake answers true. -/
import Derived.Test.YtmlkiddkgikdhaaAwk0
import Derived.Deep.RegionHeld3
import Derived.Deep.DrawnRows
namespace Go.Proofs.Ytmlkiddkgikdhaa
open Go.RowKit FF
attribute [local go_sem ↓] Go.wp_at_zero Go.wp_at_succ

theorem wl7 : wl 7 = 1 := by decide
theorem wl2 : wl 2 = 1 := by decide
theorem wl4 : wl 4 = 1 := by decide
theorem wl1 : wl 1 = 1 := by decide

theorem DivMod_ex (A A' : Option Addr) (c c' : Nat) (w : World) (hx : Shows .u32 w A (digs WB 7)) (hy : Shows .u32 w A' (digs WB 2)) (h1 : 1 ≤ c) (h2 : c ≤ maxLen) (h3 : 1 ≤ c') (h4 : c' ≤ maxLen) :
    Calls Try.prog 47 #[.agg #[.bool true, .slice A 1 c], .agg #[.bool false, .slice A' 1 c']] w fun e w' =>
      ∃ (A2 : Option Addr) (c2 : Nat) (A3 : Option Addr) (c3 : Nat), e = .returned (.tuple #[.agg #[.bool true, .slice A2 1 c2], .agg #[.bool false, .slice A3 1 c3], .int .i64 0]) ∧
        Shows .u32 w' A2 (digs WB 4) ∧ Shows .u32 w' A3 (digs WB 1) ∧ Below w.heap.size w w' := by
  have d7 : (digs WB 7).length = 1 := wl7
  have d2 : (digs WB 2).length = 1 := wl2
  have v7 : val WB (digs WB 7) = 7 := val_digs' WB2 7
  have v2 : val WB (digs WB 2) = 2 := val_digs' WB2 2
  have h := DivMod_any true false A A' (digs WB 7) (digs WB 2) c c' w hx (dig_digs' WB2 _) (by omega) h2 hy (dig_digs' WB2 _) (by omega) h4 (by rw [v7, wl7]; omega) (by rw [v2, wl2]; omega) (by rw [v2]; omega) (by rw [v2]; exact divKnown_one wl2)
  rw [d7, d2, v7, v2] at h
  refine h.mono ?_
  rintro e w' ⟨Q, R, A2, c2, A3, c3, hQ, hR, he, s2, s3, _, _, _, _, hb⟩
  have eQ : Q = -4 := by rw [hQ]; decide
  have eR : R = 1 := by rw [hR]; decide
  subst eQ; subst eR
  rw [show (-4 : Int).natAbs = 4 from rfl, wl4, show (1 : Int).natAbs = 1 from rfl, wl1] at he
  exact ⟨A2, c2, A3, c3, he, s2, s3, hb⟩

theorem Of_ex (n : Int) (m : Nat) (b : Bool) (w : World) (hn : I64 n) (hm : n.natAbs = m) (hb : decide (n < 0) = b) (hl : wl m = 1) :
    Calls Try.prog 58 #[.int .i64 n] w fun e w' => ∃ A' c', e = .returned (.agg #[.bool b, .slice A' 1 c']) ∧ Shows .u32 w' A' (digs WB m) ∧ 1 ≤ c' ∧ c' ≤ maxLen ∧ Below w.heap.size w w' := by
  refine (Of_any n w hn).mono ?_
  rintro e w' ⟨A', c', he, hs, h1, h2, _, h3⟩
  subst hm; subst hb
  rw [hl] at he h1
  exact ⟨A', c', he, hs, h1, h2, h3⟩
theorem rOf_ex (n : Int) (m : Nat) (b : Bool) (w : World) (hn : I64 n) (hm : n.natAbs = m) (hb : decide (n < 0) = b) (hl : wl m = 1) :
    Calls Try.prog 61 #[.int .i64 n] w fun e w' => ∃ A' c', e = .returned (.agg #[.bool b, .slice A' 1 c']) ∧ Shows .u32 w' A' (digs WB m) ∧ Below w.heap.size w w' := by
  refine (rOf_any n w hn).mono ?_
  rintro e w' ⟨A', c', he, hs, h1, h2, _, h3⟩
  subst hm; subst hb
  rw [hl] at he h1
  exact ⟨A', c', he, hs, h3⟩
theorem Same_ex (b : Bool) (m : Nat) (A A' : Option Addr) (c c' : Nat) (w : World) (hx : Shows .u32 w A (digs WB m)) (hy : Shows .u32 w A' (digs WB m)) (hl : wl m = 1) :
    Calls Try.prog 38 #[.agg #[.bool b, .slice A 1 c], .agg #[.bool b, .slice A' 1 c']] w fun e w' => e = .returned (.bool true) ∧ Below w.heap.size w w' := by
  have h := SameInt_any b b A A' (digs WB m) (digs WB m) c c' w hx hy (by have : (digs WB m).length = 1 := hl
                                                                          rw [this]; unfold maxLen; omega)
  have h1 : (digs WB m).length = 1 := hl
  rw [h1] at h
  refine h.mono ?_
  rintro e w' ⟨he, hb⟩
  exact ⟨by rw [he]; simp, hb⟩

theorem Ints_ex (A A' : Option Addr) (c c' : Nat) (w : World) (hx : ShowsI w A [10, 39]) (hy : ShowsI w A' [10, 39]) :
    Calls Try.prog 24 #[.slice A 2 c, .slice A' 2 c'] w (Ret w (.bool true)) := Ints_any A A' [10, 39] [10, 39] c c' w hx hy (by decide)

/-- two variables that the call laid keep their cells -/
theorem two_vars {w W : World} {o1 o2 : Array Value} {T1 T2 : TypeId} {n : Nat}
    (hb : Below ((((w.alloc (.cells o1 T1)).alloc (.cells o2 T2)).drewN n).heap.size) (((w.alloc (.cells o1 T1)).alloc (.cells o2 T2)).drewN n) W) :
    (∀ i, W.cell? ⟨w.heap.size, i, none⟩ = o1[i]?) ∧ (∀ i, W.cell? ⟨w.heap.size + 1, i, none⟩ = o2[i]?) ∧ Below w.heap.size w W ∧ w.heap.size + 1 < W.heap.size := by
  have hs : (((w.alloc (.cells o1 T1)).alloc (.cells o2 T2)).drewN n).heap.size = w.heap.size + 1 + 1 := by simp
  rw [hs] at hb
  refine ⟨fun i => ?_, fun i => ?_, ?_, ?_⟩
  · rw [hb.cell (p := ⟨w.heap.size, i, none⟩) (by simp; omega)]; simp [go_sem]
  · rw [hb.cell (p := ⟨w.heap.size + 1, i, none⟩) (by simp)]; simp [go_sem]
  · exact (below_drewN (((Below.refl _ _).alloc (Nat.le_refl _) _).alloc (by simp) _) n).trans (hb.mono (by omega))
  · have := hb.size; rw [hs] at this; omega

/-- what holds of the region's worlds -/
theorem aw_keep {W w0 w1 : World} {g : Nat} {x0 x1 y0 y1 : Option Value} (hg : g + 1 < W.heap.size)
    (h : Below W.heap.size W w0 ∧ w0.cell? ⟨g, 0, none⟩ = x0 ∧ w0.cell? ⟨g, 1, none⟩ = x1 ∧ w0.cell? ⟨g + 1, 0, none⟩ = y0 ∧ w0.cell? ⟨g + 1, 1, none⟩ = y1)
    (hb : Below w0.heap.size w0 w1) :
    Below W.heap.size W w1 ∧ w1.cell? ⟨g, 0, none⟩ = x0 ∧ w1.cell? ⟨g, 1, none⟩ = x1 ∧ w1.cell? ⟨g + 1, 0, none⟩ = y0 ∧ w1.cell? ⟨g + 1, 1, none⟩ = y1 := by
  obtain ⟨b, h1, h2, h3, h4⟩ := h
  have hz := b.size
  have k : ∀ p : Addr, p.block < W.heap.size → w1.cell? p = w0.cell? p := fun p hp => hb.cell (by omega)
  exact ⟨b.trans (hb.mono hz), by rw [k _ (by simp; omega)]; exact h1, by rw [k _ (by simp; omega)]; exact h2, by rw [k _ (by simp; omega)]; exact h3, by rw [k _ (by simp; omega)]; exact h4⟩
theorem aw_shows {W w' : World} {Q : Prop} {k : IntKind} {A : Option Addr} {xs : List Nat} (h : Below W.heap.size W w' ∧ Q) (s : Shows k W A xs) : Shows k w' A xs := s.below h.1
theorem aw_end {w W w' : World} {Q : Prop} (b : Below w.heap.size w W) (h : Below W.heap.size W w' ∧ Q) : Below w.heap.size w w' := b.trans (h.1.mono b.size)
theorem aw_showsI {W w' : World} {Q : Prop} {A : Option Addr} {xs : List Int} (h : Below W.heap.size W w' ∧ Q) (s : ShowsI W A xs) : ShowsI w' A xs := s.below h.1
theorem shows_list {w : World} {T : TypeId} : ShowsI (w.alloc (.cells #[.int .i64 10, .int .i64 39] T)) (some ⟨w.heap.size, 0, none⟩) [10, 39] :=
  ShowsI.new fun i hi => by match i, hi with | 0, _ => rfl | 1, _ => rfl

set_option maxHeartbeats 1000000 in
set_option maxRecDepth 100000 in
theorem awake_any (w : World) : Calls Try.prog 20 #[] w fun e w' => e = .returned (.bool true) ∧ Below w.heap.size w w' := by
  have hO7 := Lib.hid (fun w => Of_ex (-7) 7 true w ⟨by omega, by omega⟩ rfl rfl wl7)
  have hO2 := Lib.hid (fun w => Of_ex 2 2 false w ⟨by omega, by omega⟩ rfl rfl wl2)
  have hR4 := Lib.hid (fun w => rOf_ex (-4) 4 true w ⟨by omega, by omega⟩ rfl rfl wl4)
  have hR1 := Lib.hid (fun w => rOf_ex 1 1 false w ⟨by omega, by omega⟩ rfl rfl wl1)
  have hD := Lib.hid DivMod_ex
  have hB := Lib.hid (fun w => bez_ex ▸ Bezout_any 12 (-18) w ⟨by omega, by omega⟩ ⟨by omega, by omega⟩)
  have hH := Lib.hid (fun w => hil_ex.1 ▸ hil_ex.2 ▸ Hilbert_any (-1) (-1) 2 w)
  have hR := Lib.hid Roots_ex
  go_enter Try.func20, Try.ntmps20
  go_wp2_with fail
  refine (hO7.out _).mono ?_
  rintro e w1 ⟨A1, c1, rfl, s1, k1, k2, hb1⟩
  have S1 := Lib.hid s1; have B1 := Lib.hid hb1; clear s1 hb1
  go_wp2_with fail
  refine (hO2.out _).mono ?_
  rintro e w2 ⟨A2, c2, rfl, s2, k3, k4, hb2⟩
  have B2 := Lib.hid (B1.out.trans (hb2.mono B1.out.size)); have S1' := Lib.hid (S1.out.below hb2); have S2 := Lib.hid s2
  clear s2 hb2 B1 S1
  go_wp2_with fail
  refine (hD.out _ _ _ _ _ S1'.out S2.out k1 k2 k3 k4).mono ?_
  rintro e w3 ⟨A3, c3, A4, c4, rfl, s3, s4, hb3⟩
  have B3 := Lib.hid (B2.out.trans (hb3.mono B2.out.size)); have S3 := Lib.hid s3; have S4 := Lib.hid s4
  clear s3 s4 hb3 B2 S1' S2
  go_wp2_with fail
  refine (hB.out _).mono ?_
  rintro e w4 ⟨rfl, n1, rfl⟩
  go_wp2_with fail
  refine (hH.out _).mono ?_
  rintro e w4 ⟨rfl, n2, rfl⟩
  go_wp2_with fail
  refine (hR.out _).mono ?_
  rintro e w4 ⟨A5, c5, rfl, s5, k5, k6, _, hb5⟩
  clear hO7 hO2 hD hB hH hR k1 k2 k3 k4
  obtain ⟨x, y, z1, hz⟩ := two_vars hb5
  have x0 := x 0; have x1 := x 1; have y0 := y 0; have y1 := y 1
  have B5 := Lib.hid (B3.out.trans (z1.mono B3.out.size))
  have S5 := Lib.hid s5
  have S3' := Lib.hid (S3.out.below z1); have S4' := Lib.hid (S4.out.below z1)
  clear s5 hb5 z1 B3 S3 S4 x y
  have X := Lib.hid (show w4.cell? ⟨w3.heap.size, 0, none⟩ = some (.bool true) ∧ w4.cell? ⟨w3.heap.size, 1, none⟩ = some (.slice A3 1 c3) ∧ w4.cell? ⟨w3.heap.size + 1, 0, none⟩ = some (.bool false) ∧ w4.cell? ⟨w3.heap.size + 1, 1, none⟩ = some (.slice A4 1 c4) from ⟨x0, x1, y0, y1⟩)
  clear x0 x1 y0 y1
  go_wp2_with fail
  go_region_held3 (fun w' => Below w4.heap.size w4 w' ∧ w'.cell? ⟨w3.heap.size, 0, none⟩ = some (.bool true) ∧ w'.cell? ⟨w3.heap.size, 1, none⟩ = some (.slice A3 1 c3) ∧ w'.cell? ⟨w3.heap.size + 1, 0, none⟩ = some (.bool false) ∧ w'.cell? ⟨w3.heap.size + 1, 1, none⟩ = some (.slice A4 1 c4))
    (first
      | exact ⟨(Below.refl _ _).drew, X.out⟩
      | (refine aw_keep hz (by assumption) ?_; first | assumption | exact (Below.refl _ _).alloc (Nat.le_refl _) _ | exact below_drewN (Below.refl _ _) _))
    (first
      | (go_at_call 61; (with_reducible refine (hR4.out _).mono ?_); rintro e w' ⟨A', c', rfl, hs, hb⟩)
      | (go_at_call 61; (with_reducible refine (hR1.out _).mono ?_); rintro e w' ⟨A', c', rfl, hs, hb⟩)
      | (go_at_call 38; (with_reducible refine (Same_ex true 4 A3 _ c3 _ _ (aw_shows (by assumption) S3'.out) (by assumption) wl4).mono ?_); rintro e w' ⟨rfl, hb⟩)
      | (go_at_call 38; (with_reducible refine (Same_ex false 1 A4 _ c4 _ _ (aw_shows (by assumption) S4'.out) (by assumption) wl1).mono ?_); rintro e w' ⟨rfl, hb⟩)
      | (go_at_call 24; (with_reducible refine (Ints_ex A5 _ c5 _ _ (aw_showsI (by assumption) S5.out) shows_list).mono ?_); rintro e w' ⟨rfl, nq, rfl⟩))
  go_wp2_with fail
  go_ret
  exact ⟨rfl, aw_end B5.out (by assumption)⟩
end Go.Proofs.Ytmlkiddkgikdhaa
