/- Lowest terms in the reference. Products, conjugates, what fits in the reference. Fractions in lowest terms, valid fractions: in the program and in the reference. -/
import Derived.Test.YtimdkjbmeogpoaaGreatDoorTQf0
namespace Go.Proofs.YtimdkjbmeogpoaaGreatDoor
open Go.RowKit FF
set_option maxHeartbeats 4000000 in
set_option maxRecDepth 100000 in
theorem rNormal_any (q : Qt) (w : World) (hf : fitBound q) (he : q.d ≠ 0) :
    Calls Tryz.prog 14 #[qv q] w fun r w' => r = .returned (qv (nrm q)) ∧ Below w.heap.size w w' := by
  obtain ⟨a, b, c, d, e⟩ := q
  have hg := gs_ne (q := ⟨a, b, c, d, e⟩) he
  have hgq := gq_pos (q := ⟨a, b, c, d, e⟩) he
  have hgl : (gq ⟨a, b, c, d, e⟩ : Int) ≤ 4611686018427387904 := by
    have h1 := Int.le_of_dvd (show (0 : Int) < (e.natAbs : Int) by simp only at he; omega) (Int.dvd_natAbs.2 (gq_dvd ⟨a, b, c, d, e⟩).2.2.2.2)
    have h2 := hf.2.2.2.2
    simp only at h2
    omega
  have hgs : gs ⟨a, b, c, d, e⟩ = if e < 0 then -(gq ⟨a, b, c, d, e⟩ : Int) else gq ⟨a, b, c, d, e⟩ := rfl
  have hN : nrm ⟨a, b, c, d, e⟩ = ⟨a.tdiv (gs ⟨a, b, c, d, e⟩), b.tdiv (gs ⟨a, b, c, d, e⟩), c.tdiv (gs ⟨a, b, c, d, e⟩), d.tdiv (gs ⟨a, b, c, d, e⟩), e.tdiv (gs ⟨a, b, c, d, e⟩)⟩ := rfl
  have hG : (gq ⟨a, b, c, d, e⟩ : Int) = (Int.gcd ((Int.gcd (Int.gcd a b : Int) (Int.gcd c d : Int) : Nat) : Int) e : Nat) := rfl
  obtain ⟨⟨a1, a2⟩, ⟨b1, b2⟩, ⟨c1, c2⟩, ⟨d1, d2⟩, ⟨e1, e2⟩⟩ := hf
  simp only at a1 a2 b1 b2 c1 c2 d1 d2 e1 e2
  have gl : ∀ x y : Int, x.natAbs ≤ 4611686018427387904 → y.natAbs ≤ 4611686018427387904 → Int.gcd x y ≤ 4611686018427387904 := fun x y hx hy => by
    rcases Nat.eq_zero_or_pos x.natAbs with h | h
    · rw [show Int.gcd x y = y.natAbs by rw [Int.gcd, h, Nat.gcd_zero_left]]; exact hy
    · exact Nat.le_trans (Nat.gcd_le_left _ h) hx
  have g1 := gl a b (by omega) (by omega)
  have g2 := gl c d (by omega) (by omega)
  have g3 := gl (Int.gcd a b : Int) (Int.gcd c d : Int) (by simpa using g1) (by simpa using g2)
  have H1 := Lib.hid (fun w => bGcd_any a b w (by omega) (by omega))
  have H2 := Lib.hid (fun w => bGcd_any c d w (by omega) (by omega))
  have H3 := Lib.hid (fun w => bGcd_any (Int.gcd a b : Int) (Int.gcd c d : Int) w (by simpa using g1) (by simpa using g2))
  have H4 := Lib.hid (fun w => bGcd_any ((Int.gcd (Int.gcd a b : Int) (Int.gcd c d : Int) : Nat) : Int) e w (by simpa using g3) (by omega))
  rw [← hG] at H4
  obtain ⟨ta1, ta2⟩ := tdiv_le (a := a) (g := gs ⟨a, b, c, d, e⟩) (m := 4611686018427387904) ⟨a1, a2⟩
  obtain ⟨tb1, tb2⟩ := tdiv_le (a := b) (g := gs ⟨a, b, c, d, e⟩) (m := 4611686018427387904) ⟨b1, b2⟩
  obtain ⟨tc1, tc2⟩ := tdiv_le (a := c) (g := gs ⟨a, b, c, d, e⟩) (m := 4611686018427387904) ⟨c1, c2⟩
  obtain ⟨td1, td2⟩ := tdiv_le (a := d) (g := gs ⟨a, b, c, d, e⟩) (m := 4611686018427387904) ⟨d1, d2⟩
  obtain ⟨te1, te2⟩ := tdiv_le (a := e) (g := gs ⟨a, b, c, d, e⟩) (m := 4611686018427387904) ⟨e1, e2⟩
  clear gl g1 g2 g3 hG
  rw [hN]
  clear hN
  have hgp : (0 : Int) < gq ⟨a, b, c, d, e⟩ := by omega
  clear hgq
  generalize gs ⟨a, b, c, d, e⟩ = g at *
  generalize (gq ⟨a, b, c, d, e⟩ : Int) = G at *
  generalize ((Int.gcd (Int.gcd a b : Int) (Int.gcd c d : Int) : Nat) : Int) = G3 at *
  generalize (Int.gcd a b : Int) = G1 at *
  generalize (Int.gcd c d : Int) = G2 at *
  have ea := wrap_id _ ta1 ta2
  have eb := wrap_id _ tb1 tb2
  have ec := wrap_id _ tc1 tc2
  have ed := wrap_id _ td1 td2
  have ee := wrap_id _ te1 te2
  clear ta1 ta2 tb1 tb2 tc1 tc2 td1 td2 te1 te2 a1 a2 b1 b2 c1 c2 d1 d2 e1 e2
  unfold qv
  go_enter Tryz.func14, Tryz.ntmps14
  go_wp2_with fail
  go_quiet (first
    | (go_at_call 44; with_reducible refine Calls.quiet_of (H1.out _))
    | (go_at_call 44; with_reducible refine Calls.quiet_of (H2.out _))
    | (go_at_call 44; with_reducible refine Calls.quiet_of (H3.out _))
    | (go_at_call 44; with_reducible refine Calls.quiet_of (H4.out _)))
  clear H1 H2 H3 H4
  obtain ⟨W8, hW8⟩ : ∃ W8 : World, W8 = ((w.alloc (.cells #[.int .i64 a, .int .i64 b, .int .i64 c, .int .i64 d, .int .i64 e] 35)).alloc (.cells #[.int .i64 0, .int .i64 0, .int .i64 0, .int .i64 0, .int .i64 0] 35)) := ⟨_, rfl⟩
  rw [← hW8]
  have HG0 := show Reg w [(w.heap.size, #[.int .i64 a, .int .i64 b, .int .i64 c, .int .i64 d, .int .i64 e])] (w.heap.size + 1) 5 W8 from
    hW8 ▸ ((Reg.nil (vs := #[.int .i64 0, .int .i64 0, .int .i64 0, .int .i64 0, .int .i64 0]) (((Below.refl _ _).alloc (Nat.le_refl _) _).alloc (by simp) _) (by omega) (Cells.new _ _ _ (by simp))).cons ((Cells.new _ _ _ rfl).alloc _) (by omega))
  obtain ⟨W7, hW7⟩ : ∃ W7 : World, W7 = W8.drewN nq := ⟨_, rfl⟩
  rw [← hW7]
  have HG := Lib.hid (show Reg w [(w.heap.size, #[.int .i64 a, .int .i64 b, .int .i64 c, .int .i64 d, .int .i64 e])] (w.heap.size + 1) 5 W7 from hW7 ▸ HG0.keep (below_drewN (Below.refl _ _) _))
  obtain ⟨c0, c1, c2, c3, c4⟩ := HG.out.five (List.mem_cons_self ..)
  obtain ⟨z0, z1, z2, z3, z4, f0, f1, f2, f3, f4⟩ := HG.out.res5
  clear hW7 hW8 HG0
  rcases Int.lt_or_le e 0 with hl | hl
  · have hn1 : -4611686018427387904 ≤ -G := by omega
    have hn2 : -G ≤ 4611686018427387904 := by omega
    rw [if_pos hl] at hgs
    go_upto_region 4 with fail
    rw [← hgs]
    clear hgs hl
    have mk := fun w' (h : Reg w [(w.heap.size, #[.int .i64 a, .int .i64 b, .int .i64 c, .int .i64 d, .int .i64 e])] (w.heap.size + 1) 5 w') => And.intro h (And.intro (h.five (List.mem_cons_self ..)) h.res5)
    have MK := Lib.hid mk
    have HG2 := Lib.hid (mk _ (HG.out.keep (Below.refl _ _).drew))
    clear mk
    go_region_held3 (fun w' => Reg w [(w.heap.size, #[.int .i64 a, .int .i64 b, .int .i64 c, .int .i64 d, .int .i64 e])] (w.heap.size + 1) 5 w' ∧ (w'.cell? ⟨w.heap.size, 0, none⟩ = some (.int .i64 a) ∧ w'.cell? ⟨w.heap.size, 1, none⟩ = some (.int .i64 b) ∧ w'.cell? ⟨w.heap.size, 2, none⟩ = some (.int .i64 c) ∧ w'.cell? ⟨w.heap.size, 3, none⟩ = some (.int .i64 d) ∧ w'.cell? ⟨w.heap.size, 4, none⟩ = some (.int .i64 e)) ∧ Res5 (w.heap.size + 1) w')
      (first
        | exact HG2.out
        | exact MK.out _ (Reg.keep (And.left (by assumption)) (by assumption))
        | exact MK.out _ (Reg.set5 (And.left (by assumption)) _ _ _ _ _))
      (fail)
    obtain ⟨W9, e9, q0, q1, q2, q3, q4, B9⟩ := Reg.fin5 HG.out (.int .i64 (a.tdiv g)) (.int .i64 (b.tdiv g)) (.int .i64 (c.tdiv g)) (.int .i64 (d.tdiv g)) (.int .i64 (e.tdiv g))
    rw [e9]
    clear HG2 MK HG
    go_wp2_with fail
    refine bodyPost_ret (v := qv ⟨a.tdiv g, b.tdiv g, c.tdiv g, d.tdiv g, e.tdiv g⟩) (by simp [results, Tryz.results14, go_sem, q0, q1, q2, q3, q4, qv]) rfl ?_
    exact ⟨rfl, B9.drew⟩
  · rw [if_neg (by omega)] at hgs
    go_upto_region 4 with fail
    rw [← hgs]
    clear hgs hl
    have mk := fun w' (h : Reg w [(w.heap.size, #[.int .i64 a, .int .i64 b, .int .i64 c, .int .i64 d, .int .i64 e])] (w.heap.size + 1) 5 w') => And.intro h (And.intro (h.five (List.mem_cons_self ..)) h.res5)
    have MK := Lib.hid mk
    have HG2 := Lib.hid (mk _ (HG.out.keep (Below.refl _ _).drew))
    clear mk
    go_region_held3 (fun w' => Reg w [(w.heap.size, #[.int .i64 a, .int .i64 b, .int .i64 c, .int .i64 d, .int .i64 e])] (w.heap.size + 1) 5 w' ∧ (w'.cell? ⟨w.heap.size, 0, none⟩ = some (.int .i64 a) ∧ w'.cell? ⟨w.heap.size, 1, none⟩ = some (.int .i64 b) ∧ w'.cell? ⟨w.heap.size, 2, none⟩ = some (.int .i64 c) ∧ w'.cell? ⟨w.heap.size, 3, none⟩ = some (.int .i64 d) ∧ w'.cell? ⟨w.heap.size, 4, none⟩ = some (.int .i64 e)) ∧ Res5 (w.heap.size + 1) w')
      (first
        | exact HG2.out
        | exact MK.out _ (Reg.keep (And.left (by assumption)) (by assumption))
        | exact MK.out _ (Reg.set5 (And.left (by assumption)) _ _ _ _ _))
      (fail)
    obtain ⟨W9, e9, q0, q1, q2, q3, q4, B9⟩ := Reg.fin5 HG.out (.int .i64 (a.tdiv g)) (.int .i64 (b.tdiv g)) (.int .i64 (c.tdiv g)) (.int .i64 (d.tdiv g)) (.int .i64 (e.tdiv g))
    rw [e9]
    clear HG2 MK HG
    go_wp2_with fail
    refine bodyPost_ret (v := qv ⟨a.tdiv g, b.tdiv g, c.tdiv g, d.tdiv g, e.tdiv g⟩) (by simp [results, Tryz.results14, go_sem, q0, q1, q2, q3, q4, qv]) rfl ?_
    exact ⟨rfl, B9.drew⟩
end Go.Proofs.YtimdkjbmeogpoaaGreatDoor
namespace Go.Proofs.YtimdkjbmeogpoaaGreatDoor
open Go.RowKit FF
theorem Cells.set_ne {W : World} {b r : Nat} {vs : Array Value} (h : Cells W b vs) (hr : r ≠ b) (k : Nat) (v : Value) : Cells (W.setCell ⟨r, k, none⟩ v) b vs :=
  ⟨by simpa [World.setCell] using h.1, fun i hi => by rw [World.cell?_setCell_other _ _ _ _ (fun e => hr (by injection e with e)), h.2.1 i hi], fun i => by simp [go_sem, h.2.2 i]⟩
theorem store5 {w W : World} {r : Nat} {v0 v1 v2 v3 v4 : Value} (hB : Below w.heap.size w W) (hr : w.heap.size ≤ r) (hc : Cells W r #[v0, v1, v2, v3, v4]) (u0 u1 u2 u3 u4 : Value) :
    ∃ W9, (((((W.setCell ⟨r, 0, none⟩ u0).setCell ⟨r, 1, none⟩ u1).setCell ⟨r, 2, none⟩ u2).setCell ⟨r, 3, none⟩ u3).setCell ⟨r, 4, none⟩ u4) = W9 ∧ Below w.heap.size w W9 ∧ Cells W9 r #[u0, u1, u2, u3, u4] ∧
      (∀ b vs, r ≠ b → Cells W b vs → Cells W9 b vs) ∧ W9.heap.size = W.heap.size := by
  obtain ⟨h0, h1, h2, h3, h4⟩ := hc.five
  refine ⟨_, rfl, below_set5 hB hr _ _ _ _ _, ⟨by simpa [World.setCell] using hc.1, fun i hi => ?_, fun i => by simp [go_sem, hc.2.2 i]⟩, fun b vs hb h => ((((h.set_ne hb _ _).set_ne hb _ _).set_ne hb _ _).set_ne hb _ _).set_ne hb _ _, by simp [World.setCell]⟩
  match i, hi with
  | 0, _ => simp [go_sem, h0]
  | 1, _ => simp [go_sem, h1]
  | 2, _ => simp [go_sem, h2]
  | 3, _ => simp [go_sem, h3]
  | 4, _ => simp [go_sem, h4]
end Go.Proofs.YtimdkjbmeogpoaaGreatDoor
