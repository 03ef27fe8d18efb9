/- The reference's integers: normal form, opposite, product, sum. -/
import Derived.Test.YtimdkjbmeogpoaaGreatDoorURmi
import Derived.Test.YtimdkjbmeogpoaaGreatDoorURng
import Derived.Deep.LoopGhost
section
namespace Go.Proofs.YtimdkjbmeogpoaaGreatDoor
open Go.RowKit FF
def rowM (f : Nat → Nat) : Nat → Value := fun k => .int .i64 (f k : Nat)
theorem rowM_upd {w : World} {G T n p x : Nat} {f : Nat → Nat} (h : w.rowIs G T n (rowM f)) : (w.setCell ⟨G, p, none⟩ (.int .i64 (x : Nat))).rowIs G T n (rowM (upd f p x)) := by
 refine (h.set p (.int .i64 (x : Nat))).congr fun i _ => ?_
 unfold rowM upd
 split <;> rfl
theorem rowM_shows {w : World} {G T n : Nat} {f : Nat → Nat} (h : w.rowIs G T n (rowM f)) : Shows .i64 w (some ⟨G, 0, none⟩) (seg f 0 n) := by
 intro _
 refine ⟨G, 0, rfl, h.lt, fun i hi => ?_⟩
 rw [seg_length] at hi
 rw [seg_getD hi, Nat.zero_add]
 exact h.cell hi
theorem rowM_zero (n : Nat) (i : Nat) (_ : i < n) : Value.int .i64 0 = rowM (fun _ => 0) i := rfl
theorem int_make (N : Nat) (hl : N ≤ 1000000000) : ∀ W : World, (Instr.makeSlice 88 (.int .i64 (N : Int)) (.int .i64 (N : Int))).run Tryz.prog W =
  .ok (.slice (some ⟨W.heap.size, 0, none⟩) N N) (W.alloc (.cells (madeCells #[.int .i64 0] N) 3)) :=
 fun W => run_make_row' (P := Tryz.prog) 88 3 (.int .i64 0) 8 Tryz.underlying88 info_int rfl .i64 .i64 N (by omega) (by omega) W
set_option maxRecDepth 100000 in
set_option maxHeartbeats 4000000 in
theorem rTimes_any (A A' : Option Addr) (xs ys : List Nat) (c c' : Nat) (w : World) (hx : Shows .i64 w A xs) (hy : Shows .i64 w A' ys) (dx : Dig HB xs) (dy : Dig HB ys) (hxl : xs.length ≤ 1000000) (hyl : ys.length ≤ 1000000) :
  Calls Tryz.prog 123 #[.slice A xs.length c, .slice A' ys.length c'] w (HalfPost w (val HB xs * val HB ys)) := by
 obtain ⟨n, hn⟩ : ∃ n, xs.length = n := ⟨_, rfl⟩
 obtain ⟨m, hm⟩ : ∃ m, ys.length = m := ⟨_, rfl⟩
 obtain ⟨N, hN⟩ : ∃ N, N = n + m + 1 := ⟨_, rfl⟩
 have hmk := int_make N (by omega)
 have hNc : (N : Int) = (n : Int) + m + 1 := by omega
 rw [hNc] at hmk
 clear hNc
 have bx : Hid (∀ i, xs.getD i 0 < 65536) := lhd (fun i => dx.getD (show 0 < HB by decide) i)
 have by' : Hid (∀ i, ys.getD i 0 < 65536) := lhd (fun i => dy.getD (show 0 < HB by decide) i)
 have py := lhd (fun i (hi : m ≤ i) => (show ys.getD i 0 = 0 from getD_past (by omega)))
 have ty := lhd (fun i (hi : m ≤ i) => (show ys.take i = ys from List.take_of_length_le (by omega)))
 have HX := lhd hx; have HY := lhd hy
 have HDX := lhd dx; have HDY := lhd dy
 have Hn := lhd hn; have Hm := lhd hm; have HN := lhd hN
 rw [hn, hm]
 rw [hn] at hxl
 rw [hm] at hyl
 clear hx hy dx dy hn hm hN
 unfold HalfPost
 go_enter Tryz.func123, Tryz.ntmps123
 go_wp2
 go_loopw [6] (fun s6 wr => ∃ (i : Nat) (f : Nat → Nat), s6 = .int .i64 i ∧ i ≤ n ∧ (∀ k, f k < HB) ∧ (∀ k, i + m ≤ k → k < N → f k = 0) ∧ val HB (seg f 0 N) = val HB (xs.take i) * val HB ys ∧ wr.rowIs w.heap.size 3 N (rowM f) ∧ Below w.heap.size w wr) (fun s _ => n - (intOf s).toNat)
 case atStart => exact ⟨0, fun _ => 0, rfl, Nat.zero_le _, fun _ => show 0 < HB by decide, fun _ _ _ => rfl, by rw [val_seg_zero _ (fun _ _ => rfl)]; simp [val], (World.rowIs_made w _ N _).congr (rowM_zero N), (Below.refl _ _).alloc (Nat.le_refl _) _⟩
 case round =>
  obtain ⟨i, f, rfl, hi, hf, hz, hv, hr, hb⟩ := hrel
  by_cases hiN : i < n
  ·have bxi := bx.out i
   obtain ⟨x, hxi⟩ : ∃ x, xs.getD i 0 = x := ⟨_, rfl⟩
   have HXi := lhd hxi
   rw [hxi] at bxi
   have HV := lhd hv; have HR := lhd hr; have HB' := lhd hb; have HF := lhd hf; have HZ := lhd hz
   clear hv hr hb hf hz hxi hmk
   obtain ⟨W6, h6⟩ : ∃ W6 : World, W6 = wr := ⟨_, rfl⟩
   subst h6
   go_wp2
   go_loopw [7, 8] (fun s7 s8 wr2 => ∃ (k cy : Nat) (g : Nat → Nat), s7 = .int .i64 cy ∧ s8 = .int .i64 k ∧ k ≤ m + 1 ∧ (m < k → cy = 0) ∧ cy < 65536 ∧ (∀ t, g t < HB) ∧ (∀ t, i + max m k ≤ t → t < N → g t = 0) ∧ val HB (seg g 0 N) + HB ^ (i + k) * cy = val HB (seg f 0 N) + HB ^ i * (x * val HB (ys.take k)) ∧ wr2.rowIs w.heap.size 3 N (rowM g) ∧ Below w.heap.size w wr2) (fun _ s _ => m + 1 - (intOf s).toNat)
   case atStart => exact ⟨0, 0, f, rfl, rfl, Nat.zero_le _, fun _ => rfl, by decide, HF.out, fun t h1 h2 => HZ.out t (by omega) h2, by simp [val], HR.out, HB'.out⟩
   case round =>
    obtain ⟨k, cy, g, rfl, rfl, hk, hmk2, hcy, hg, hgz, hgv, hgr, hgb⟩ := hrel
    obtain ⟨b0, o0, rfl, hb0, hc0⟩ := HX.out.below hgb (by rw [Hn.out]; omega)
    have hx1 : wr.cell? ⟨b0, o0 + i, none⟩ = some (.int .i64 (x : Nat)) := by have := hc0 i (by rw [Hn.out]; exact hiN); rw [HXi.out] at this; exact this
    clear hc0
    by_cases hkm : k < m
    ·obtain ⟨b2, o2, rfl, hb2, hc2⟩ := HY.out.below hgb (by rw [Hm.out]; omega)
     have hy1 := hc2 k (by rw [Hm.out]; exact hkm)
     have byk := by'.out k
     have hp : i + k < N := by rw [HN.out]; omega
     have hgk : g (i + k) < 65536 := hg (i + k)
     have hcell : wr.cell? ⟨w.heap.size, i + k, none⟩ = some (.int .i64 (g (i + k) : Nat)) := hgr.cell hp
     have hfro := hgr.frozen (i + k)
     have hst := lhd (fun s hs => times_step (B := HB) (i := i) (k := k) (c := cy) (x := x) (ys := ys) hp hgv (s := s) hs)
     have hbd := times_bound (B := 65536) bxi byk hgk hcy
     have HG := lhd hg; have HGZ := lhd hgz; have HGR := lhd hgr; have HGB := lhd hgb
     clear hg hgz hgv hgr hgb hc2 hmk2
     generalize ys.getD k 0 = y at *
     generalize g (i + k) = z at *
     obtain ⟨P, hP⟩ : ∃ P, x * y = P := ⟨_, rfl⟩
     have hPc : (x : Int) * y = (P : Int) := by rw [← hP]; exact (Int.natCast_mul x y).symm
     rw [hP] at hbd hst
     clear hP
     have hkm' : (k : Int) < m := by omega
     have e1 : IntKind.i64.wrap ((i : Int) + k) = (i : Int) + k := IntWalk.i64_in _ (by omega)
     have e2 : (0 : Int) ≤ (i : Int) + k := by omega
     have e3 : ((i : Int) + k).toNat = i + k := by omega
     have e4 : IntKind.i64.wrap ((x : Int) * y) = (P : Int) := by rw [hPc]; exact IntWalk.i64_in _ (by omega)
     have e5 : IntKind.i64.wrap ((cy : Int) + z) = ((cy + z : Nat) : Int) := by rw [IntWalk.i64_in _ (by omega)]; omega
     have e6 : IntKind.i64.wrap (((cy + z : Nat) : Int) + P) = ((P + z + cy : Nat) : Int) := by rw [IntWalk.i64_in _ (by omega)]; omega
     have e7 : IntKind.i64.wrap ((cy : Int) + z + P) = ((P + z + cy : Nat) : Int) := by rw [IntWalk.i64_in _ (by omega)]; omega
     clear hPc
     go_wp2
     go_quiet (fail)
     go_wp2
     refine ⟨⟨k + 1, (P + z + cy) / 65536, upd g (i + k) ((P + z + cy) % 65536), ?_, by go_num, by omega, by omega, hbd.1, upd_lt HG.out (Nat.mod_lt _ (by decide)), fun t h1 h2 => ?_, ?_, ?_, ?_⟩, by simp [intOf]; omega⟩
     ·rfl
     ·rw [upd_ne (by omega)]; exact HGZ.out t (by omega) h2
     ·exact hst.out _ rfl
     ·exact rowM_upd HGR.out
     ·exact (below_drewN HGB.out _).setCell (Nat.le_refl _) _
    ·have d1 := decide_eq_false hkm
     by_cases hc : 0 < cy
     ·obtain rfl : k = m := by
       apply Nat.le_antisymm _ (by omega)
       apply Nat.le_of_not_lt
       intro h
       have := hmk2 h
       omega
      have hp : i + k < N := by rw [HN.out]; omega
      have hgk : g (i + k) = 0 := hgz _ (by omega) hp
      have hcell : wr.cell? ⟨w.heap.size, i + k, none⟩ = some (.int .i64 (g (i + k) : Nat)) := hgr.cell hp
      rw [hgk] at hcell
      have hfro := hgr.frozen (i + k)
      have hst := lhd (times_step (B := HB) (i := i) (k := k) (c := cy) (x := x) (ys := ys) hp hgv (s := cy) (by rw [py.out k (Nat.le_refl _), hgk]; omega))
      rw [show cy % HB = cy from Nat.mod_eq_of_lt hcy, show cy / HB = 0 from Nat.div_eq_of_lt hcy] at hst
      have HG := lhd hg; have HGZ := lhd hgz; have HGR := lhd hgr; have HGB := lhd hgb
      clear hg hgz hgv hgr hgb hmk2 hgk
      have hc' : (0 : Int) < cy := by omega
      have q1 : (cy : Int) % 65536 = (cy : Int) := by omega
      have q2 : (cy : Int) / 65536 = ((0 : Nat) : Int) := by omega
      go_wp2_with fail
      refine ⟨⟨k + 1, 0, upd g (i + k) cy, ?_, by go_num, by omega, fun _ => rfl, by decide, upd_lt HG.out hcy, fun t h1 h2 => ?_, hst.out, rowM_upd HGR.out, HGB.out.setCell (Nat.le_refl _) _⟩, by simp [intOf]⟩
      ·first | rfl | rw [q2]
      ·rw [upd_ne (by omega)]; exact HGZ.out t (by omega) h2
     ·obtain rfl : cy = 0 := by omega
      have hv2 : val HB (seg g 0 N) = val HB (xs.take (i + 1)) * val HB ys := by
       rw [Nat.mul_zero, Nat.add_zero, ty.out k (by omega), HV.out] at hgv
       rw [hgv, val_take_succ', HXi.out, Nat.add_mul, Nat.mul_assoc]
      have HV2 := lhd hv2
      have HG := lhd hg; have HGZ := lhd hgz; have HGR := lhd hgr; have HGB := lhd hgb
      clear hg hgz hgv hgr hgb hv2 hmk2
      go_wp2_with fail
      exact ⟨⟨i + 1, g, by go_num, by omega, HG.out, fun t h1 h2 => HGZ.out t (by omega) h2, HV2.out, HGR.out, HGB.out⟩, by simp [intOf]; omega⟩
  ·obtain rfl : i = n := by omega
   have hlt := val_lt HDX.out
   rw [List.take_of_length_le (by rw [Hn.out]; exact Nat.le_refl _)] at hv
   have hdd := dig_seg hf 0 N
   have sh := rowM_shows hr
   have T1 := rTrim_any (some ⟨w.heap.size, 0, none⟩) (seg f 0 N) N wr sh hdd (by rw [seg_length]; exact Nat.le_refl _) (by rw [HN.out]; unfold maxLen; omega) (by rw [seg_length, HN.out]; omega)
   rw [seg_length, hv] at T1
   have HT := lhd T1; have HB' := lhd hb
   have hwz := hb.size
   clear T1 hv hr hb hf hz hdd sh hmk hlt
   go_wp2_with fail
   refine HT.out.mono ?_
   rintro e w2 ⟨A3, c3, rfl, p1, p2, p3, p4, p5⟩
   have P1 := lhd p1; have P4 := lhd (p4.mono hwz); have P5 := lhd p5
   clear p1 p4 p5 HT
   go_wp2_with fail
   go_ret
   exact ⟨A3, c3, rfl, P1.out, p2, p3, P4.out, HB'.out.trans (P5.out.mono hwz)⟩
theorem hl_le {a b : Nat} (h : a ≤ b) : hl a ≤ hl b := digs_mono HB2 h
theorem neg_sval (s : Bool) (n : Nat) : sval (!s) n = -sval s n := by cases s <;> simp [sval]
theorem AI.neg {w : World} {s : Bool} {A : Option Addr} {n c : Nat} {z : Int} (h : AI w s A n c z) : AI w (!s) A n c (-z) := by
 obtain ⟨xs, h1, h2, h3, h4, h5, h6, h7⟩ := h
 exact ⟨xs, h1, h2, h3, h4, h5, by rw [neg_sval, h6], by rw [h7, Int.natAbs_neg]⟩
theorem in_ai {W w' : World} {Q : Prop} {s : Bool} {A : Option Addr} {n c : Nat} {z : Int} (h : Below W.heap.size W w' ∧ Q) (a : AI W s A n c z) : AI w' s A n c z := a.keep h.1
theorem fin_int {w w0 w1 : World} {R : Nat} {u0 u1 : Value} {z : Int} {A : Option Addr} {c : Nat} {e : Ending} (B0 : Below w.heap.size w w0) (hlt : R < w0.heap.size) (B : Below w.heap.size w w1) (hR : w.heap.size ≤ R)
  (he : e = .returned (.agg #[.bool (decide (z < 0)), .slice A (wl z.natAbs) c])) (h1 : Shows .u32 w1 A (digs WB z.natAbs)) (h2 : wl z.natAbs ≤ c) (h3 : c ≤ maxLen) (h4 : Fresh w0.heap.size A) : IntPost w z e ((w1.setCell ⟨R, 0, none⟩ u0).setCell ⟨R, 1, none⟩ u1) :=
 ⟨A, c, he, (h1.setCell h4 (p := ⟨R, 0, none⟩) hlt _).setCell h4 (p := ⟨R, 1, none⟩) hlt _, h2, h3, h4.mono B0.size, (B.setCell hR _).setCell hR _⟩
set_option maxHeartbeats 400000 in
theorem negative_any (s : Bool) (A : Option Addr) (n c : Nat) (w : World) :
  Calls Tryz.prog 150 #[.agg #[.bool s, .slice A n c]] w fun e w' => e = .returned (.agg #[.bool (!s), .slice A n c]) ∧ Below w.heap.size w w' := by
 go_enter Tryz.func150, Tryz.ntmps150
 go_wp2
 refine bodyPost_ret (v := .agg #[.bool (!s), .slice A n c]) (by simp [results, Tryz.results150, go_sem]) rfl ⟨rfl, ?_⟩
 go_grown
set_option maxRecDepth 100000 in
set_option maxHeartbeats 2000000 in
theorem Sub_any (s t : Bool) (A A' : Option Addr) (n m c c' : Nat) (x y : Int) (w : World) (hx : AI w s A n c x) (hy : AI w t A' m c' y) (hl : n + m ≤ 900000) :
  Calls Tryz.prog 118 #[.agg #[.bool s, .slice A n c], .agg #[.bool t, .slice A' m c']] w (IntPost w (x - y)) := by
 have HN := lhd (negative_any t A' m c')
 have hA := fun (w' : World) h h' => Add_any s (!t) A A' n m c c' x (-y) w' h h' hl
 rw [← Int.sub_eq_add_neg] at hA
 have HA := lhd hA
 have HX := lhd hx; have HY := lhd hy.neg
 clear hA hx hy hl
 generalize x - y = z at *
 go_enter Tryz.func118, Tryz.ntmps118
 go_wp2_with fail
 have hR : w.heap.size + 1 < w.heap.size + 1 + 1 := by omega
 go_region_held3 (fun w' => Below w.heap.size w w' ∧ w'.cell? ⟨w.heap.size, 0, none⟩ = some (.bool s) ∧ w'.cell? ⟨w.heap.size, 1, none⟩ = some (.slice A n c) ∧ w'.cell? ⟨w.heap.size + 1, 0, none⟩ = some (.bool t) ∧ w'.cell? ⟨w.heap.size + 1, 1, none⟩ = some (.slice A' m c') ∧
  w'.cell? ⟨w.heap.size + 1 + 1, 0, none⟩ = some (cellAt w' ⟨w.heap.size + 1 + 1, 0, none⟩) ∧ w'.cell? ⟨w.heap.size + 1 + 1, 1, none⟩ = some (cellAt w' ⟨w.heap.size + 1 + 1, 1, none⟩) ∧ w'.frozen? ⟨w.heap.size + 1 + 1, 0, none⟩ = false ∧ w'.frozen? ⟨w.heap.size + 1 + 1, 1, none⟩ = false ∧ w.heap.size + 1 + 1 < w'.heap.size)
  (first
   | (refine ⟨(((Below.refl _ _).alloc (Nat.le_refl _) _).alloc (by simp) _).alloc (by simp; omega) _ |>.drew, ?_⟩; simp [go_sem, cellAt])
   | (refine Sres.keep hR (by assumption) ?_; first | assumption | exact (Below.refl _ _).alloc (Nat.le_refl _) _ | exact below_drewN (Below.refl _ _) _)
   | exact Sres.store hR (by assumption) _ _)
  (first
   | (go_at_call 150; (with_reducible refine (HN.out _).mono ?_); rintro e w' ⟨rfl, hbx⟩)
   | (go_at_call 69; (refine (HA.out _ (in_ai (by assumption) HX.out) (in_ai (by assumption) HY.out)).mono ?_); rintro e w' ⟨A3, c3, rfl, hs3, k1, k2, hf3, hb3⟩))
 obtain ⟨-, -, -, -, hz0, B0⟩ := three_keep (three_drew hbx)
 obtain ⟨-, -, q, -, -, B⟩ := three_keep (three_drew (hbx.trans (hb3.mono hbx.size)))
 go_wp2_with fail
 refine bodyPost_ret (v := .agg #[.bool (decide (z < 0)), .slice A3 (wl z.natAbs) c3]) (by simp [results, Tryz.results118, go_sem, q]) rfl ?_
 exact fin_int B0 hz0 B (by omega) rfl hs3 k1 k2 hf3
theorem two_keep {w W : World} {c0 c1 : Array Value} {T0 T1 : TypeId} (hb : Below (w.heap.size + 1 + 1) ((w.alloc (.cells c0 T0)).alloc (.cells c1 T1)) W) :
  (∀ i, W.cell? ⟨w.heap.size, i, none⟩ = c0[i]?) ∧ (∀ i, W.cell? ⟨w.heap.size + 1, i, none⟩ = c1[i]?) ∧ (∀ i, W.frozen? ⟨w.heap.size + 1, i, none⟩ = false) ∧ w.heap.size + 1 < W.heap.size ∧ Below w.heap.size w W := by
 refine ⟨fun i => ?_, fun i => ?_, fun i => ?_, ?_, ?_⟩
 ·rw [hb.cell (p := ⟨w.heap.size, i, none⟩) (by simp; omega)]; simp [go_sem]
 ·rw [hb.cell (p := ⟨w.heap.size + 1, i, none⟩) (by simp)]; simp [go_sem]
 ·rw [hb.frozen (p := ⟨w.heap.size + 1, i, none⟩) (by simp)]; simp [go_sem]
 ·have := hb.size; simp at this; omega
 ·exact ((((Below.refl _ _).alloc (Nat.le_refl _) _).alloc (by simp) _)).trans (hb.mono (by omega))
theorem two_drew {w W : World} {c0 c1 : Array Value} {T0 T1 : TypeId} (hb : Below ((w.alloc (.cells c0 T0)).alloc (.cells c1 T1)).drew.heap.size ((w.alloc (.cells c0 T0)).alloc (.cells c1 T1)).drew W) :
  Below (w.heap.size + 1 + 1) ((w.alloc (.cells c0 T0)).alloc (.cells c1 T1)) W := by
 have e : ((w.alloc (.cells c0 T0)).alloc (.cells c1 T1)).drew.heap.size = w.heap.size + 1 + 1 := by simp
 rw [e] at hb
 exact ⟨hb.os, hb.tape, hb.output, hb.size, hb.block⟩
abbrev S1res (w : World) (R : Nat) (x0 x1 : Value) (w' : World) : Prop :=
 Below w.heap.size w w' ∧ w'.cell? ⟨w.heap.size, 0, none⟩ = some x0 ∧ w'.cell? ⟨w.heap.size, 1, none⟩ = some x1 ∧
  w'.cell? ⟨R, 0, none⟩ = some (cellAt w' ⟨R, 0, none⟩) ∧ w'.cell? ⟨R, 1, none⟩ = some (cellAt w' ⟨R, 1, none⟩) ∧ w'.frozen? ⟨R, 0, none⟩ = false ∧ w'.frozen? ⟨R, 1, none⟩ = false ∧ R < w'.heap.size
theorem S1res.keep {w : World} {R : Nat} {x0 x1 : Value} {w0 w1 : World} (hR : w.heap.size < R) (h : S1res w R x0 x1 w0) (hb : Below w0.heap.size w0 w1) : S1res w R x0 x1 w1 := by
 obtain ⟨b, h1, h2, h5, h6, h7, h8, h9⟩ := h
 have k : ∀ p : Addr, p.block ≤ R → w1.cell? p = w0.cell? p := fun p hp => hb.cell (by omega)
 have f : ∀ p : Addr, p.block ≤ R → w1.frozen? p = w0.frozen? p := fun p hp => hb.frozen (by omega)
 refine ⟨b.trans (hb.mono b.size), by rw [k _ (by simp; omega)]; exact h1, by rw [k _ (by simp; omega)]; exact h2, ?_, ?_, by rw [f _ (by simp)]; exact h7, by rw [f _ (by simp)]; exact h8, Nat.lt_of_lt_of_le h9 hb.size⟩
 ·exact cellAt_of (by rw [k _ (by simp)]; exact h5)
 ·exact cellAt_of (by rw [k _ (by simp)]; exact h6)
theorem S1res.store {w : World} {R : Nat} {x0 x1 : Value} {w0 : World} (hR : w.heap.size < R) (h : S1res w R x0 x1 w0) (u0 u1 : Value) : S1res w R x0 x1 ((w0.setCell ⟨R, 0, none⟩ u0).setCell ⟨R, 1, none⟩ u1) := by
 obtain ⟨b, h1, h2, h5, h6, h7, h8, h9⟩ := h
 have k : ∀ p : Addr, p.block ≠ R → ((w0.setCell ⟨R, 0, none⟩ u0).setCell ⟨R, 1, none⟩ u1).cell? p = w0.cell? p := fun p hp => by
  rw [World.cell?_setCell_other _ _ _ _ (fun e => hp (by rw [← e])), World.cell?_setCell_other _ _ _ _ (fun e => hp (by rw [← e]))]
 refine ⟨(b.setCell (by simp; omega) _).setCell (by simp; omega) _, by rw [k _ (by simp; omega)]; exact h1, by rw [k _ (by simp; omega)]; exact h2, ?_, ?_, by simp [go_sem, h7], by simp [go_sem, h8], by simpa [World.setCell] using h9⟩
 ·exact cellAt_of (v := u0) (by simp [go_sem, h5])
 ·exact cellAt_of (v := u1) (by simp [go_sem, h6])
def sgn (z : Int) : Int := if z = 0 then 0 else if z < 0 then -1 else 1
theorem below_under2 {w w1 : World} {o1 o2 : Obj} (h : Below ((w.alloc o1).alloc o2).heap.size ((w.alloc o1).alloc o2) w1) : Below w.heap.size w w1 :=
 (((Below.refl _ _).alloc (Nat.le_refl _) _).alloc (by simp) _).trans (h.mono (by simp; omega))
theorem wl_pos {n : Nat} (h : n ≠ 0) : 0 < wl n := Nat.pos_of_ne_zero fun e => h (wl_eq_zero.1 e)
set_option maxRecDepth 100000 in
set_option maxHeartbeats 2000000 in
theorem Cmp_any (s t : Bool) (A A' : Option Addr) (n m c c' : Nat) (x y : Int) (w : World) (hx : AI w s A n c x) (hy : AI w t A' m c' y) (hl : n + m ≤ 900000) :
  Calls Tryz.prog 71 #[.agg #[.bool s, .slice A n c], .agg #[.bool t, .slice A' m c']] w fun e w' => e = .returned (.int .i64 (sgn (x - y))) ∧ Below w.heap.size w w' := by
 have HS := lhd (fun w' h h' => Sub_any s t A A' n m c c' x y w' h h' hl)
 have HX := lhd hx; have HY := lhd hy
 clear hx hy hl
 generalize x - y = z at *
 have key : (z = 0 ∧ sgn z = 0) ∨ (z < 0 ∧ sgn z = -1) ∨ (0 < z ∧ sgn z = 1) := by
  unfold sgn
  by_cases h0 : z = 0
  ·exact .inl ⟨h0, if_pos h0⟩
  ·by_cases h1 : z < 0
   ·exact .inr (.inl ⟨h1, by rw [if_neg h0, if_pos h1]⟩)
   ·exact .inr (.inr ⟨by omega, by rw [if_neg h0, if_neg h1]⟩)
 unfold IntPost at HS
 have key2 : (decide (z < 0) = false ∧ (((wl z.natAbs : Nat) : Int) == 0) = true ∧ sgn z = 0) ∨ (decide (z < 0) = true ∧ (((wl z.natAbs : Nat) : Int) == 0) = false ∧ sgn z = -1) ∨ (decide (z < 0) = false ∧ (((wl z.natAbs : Nat) : Int) == 0) = false ∧ sgn z = 1) := by
  rcases key with ⟨h0, h2⟩ | ⟨h0, h2⟩ | ⟨h0, h2⟩
  ·exact .inl ⟨decide_eq_false (by omega), t_beq (by rw [h0]; rfl), h2⟩
  ·exact .inr (.inl ⟨decide_eq_true h0, f_beq (by have := wl_pos (n := z.natAbs) (by omega); omega), h2⟩)
  ·exact .inr (.inr ⟨decide_eq_false (by omega), f_beq (by have := wl_pos (n := z.natAbs) (by omega); omega), h2⟩)
 clear key
 generalize sgn z = g at *
 generalize decide (z < 0) = d at *
 rcases key2 with ⟨h0, h1, h2⟩ | ⟨h0, h1, h2⟩ | ⟨h0, h1, h2⟩
 all_goals
  subst h2
  subst h0
  go_enter Tryz.func71, Tryz.ntmps71
  go_wp2_with fail
  refine (HS.out _ (HX.out.alloc _ |>.alloc _) (HY.out.alloc _ |>.alloc _)).mono ?_
  rintro e w1 ⟨A1, c1, rfl, -, -, -, -, hb⟩
  have hB := lhd (below_under2 hb)
  clear hb HS HX HY
  generalize wl z.natAbs = l at *
  go_wp2_with fail
  go_ret
  exact ⟨rfl, hB.out.alloc hB.out.size _⟩
theorem hl_two (v : Nat) : hl v ≤ 2 * wl v := by have := wl_half v; omega
theorem AI.wl_le {w : World} {s : Bool} {A : Option Addr} {n c : Nat} {z : Int} (h : AI w s A n c z) : wl z.natAbs ≤ n := by
 obtain ⟨xs, rfl, -, hd, -, -, -, h7⟩ := h
 rw [← h7]
 exact digs_length_le WB2 (val_lt hd)
theorem AI.hl_le {w : World} {s : Bool} {A : Option Addr} {n c : Nat} {z : Int} (h : AI w s A n c z) : hl z.natAbs ≤ 2 * n := by
 have := hl_two z.natAbs
 have := h.wl_le
 omega
set_option maxRecDepth 100000 in
set_option maxHeartbeats 2000000 in
theorem rNeg_any (s : Bool) (A : Option Addr) (n c : Nat) (x : Int) (w : World) (hx : AI w s A n c x) (hlen : n ≤ 400000) :
  Calls Tryz.prog 151 #[.agg #[.bool s, .slice A n c]] w (IntPost w (-x)) := by
 have HD := lhd (fun w' h => rDigits_any s A n c x w' h (by omega))
 have hsx : sval (!s) x.natAbs = (-x) := by
  obtain ⟨xs, -, -, -, -, -, rfl, -⟩ := hx
  rw [sval_natAbs, neg_sval]
 have hv := hx.hl_le
 have HX := lhd hx
 unfold HalfPost at HD
 generalize x.natAbs = v at *
 have HM := lhd (fun (A : Option Addr) (c : Nat) (w' : World) (h : Shows .i64 w' A (digs HB v)) (h1 : hl v ≤ c) (h2 : c ≤ maxLen) => by
  have := rMade_any (!s) A (digs HB v) c w' h (dig_digs' HB2 v) h1 h2 (show hl v ≤ 3000000 by omega)
  rw [val_digs' HB2] at this; exact this)
 change Hid (∀ (A : Option Addr) (c : Nat) (w' : World), _ → _ → _ → Calls _ _ #[.bool (!s), .slice A (hl v) c] w' _) at HM
 have HSX := lhd hsx
 clear hx hsx hv hlen
 go_enter Tryz.func151, Tryz.ntmps151
 go_wp2_with fail
 have hR : w.heap.size < w.heap.size + 1 := by omega
 go_region_held3 (fun w' => Below w.heap.size w w' ∧ w'.cell? ⟨w.heap.size, 0, none⟩ = some (.bool s) ∧ w'.cell? ⟨w.heap.size, 1, none⟩ = some (.slice A n c) ∧
  w'.cell? ⟨w.heap.size + 1, 0, none⟩ = some (cellAt w' ⟨w.heap.size + 1, 0, none⟩) ∧ w'.cell? ⟨w.heap.size + 1, 1, none⟩ = some (cellAt w' ⟨w.heap.size + 1, 1, none⟩) ∧ w'.frozen? ⟨w.heap.size + 1, 0, none⟩ = false ∧ w'.frozen? ⟨w.heap.size + 1, 1, none⟩ = false ∧ w.heap.size + 1 < w'.heap.size)
  (first
   | (refine ⟨(((Below.refl _ _).alloc (Nat.le_refl _) _).alloc (by simp) _) |>.drew, ?_⟩; simp [go_sem, cellAt])
   | (refine S1res.keep hR (by assumption) ?_; first | assumption | exact (Below.refl _ _).alloc (Nat.le_refl _) _ | exact below_drewN (Below.refl _ _) _)
   | exact S1res.store hR (by assumption) _ _)
  (first
   | (go_at_call 124; (with_reducible refine (HD.out _ (in_ai (by assumption) HX.out)).mono ?_); rintro e w' ⟨A1, c1, rfl, hs1, q1, q2, hf1, hbx⟩)
   | (go_at_call 122; (refine (HM.out A1 c1 _ hs1 q1 q2).mono ?_); rintro e w' ⟨A3, c3, rfl, hs3, k1, k2, hf3, hb3⟩))
 obtain ⟨-, -, -, hz0, B0⟩ := two_keep (two_drew hbx)
 obtain ⟨-, q, -, -, B⟩ := two_keep (two_drew (hbx.trans (hb3.mono hbx.size)))
 go_wp2_with fail
 refine bodyPost_ret (v := .agg #[.bool ((!s) && !decide (v = 0)), .slice A3 (wl v) c3]) (by simp [results, Tryz.results151, go_sem, q]) rfl ?_
 exact fin_post B0 hz0 B (by omega) HSX.out rfl hs3 k1 k2 hf3
set_option maxRecDepth 100000 in
set_option maxHeartbeats 2000000 in
theorem rMul_any (s t : Bool) (A A' : Option Addr) (n m c c' : Nat) (x y : Int) (w : World) (hx : AI w s A n c x) (hy : AI w t A' m c' y) (hlen : n + m ≤ 400000) :
  Calls Tryz.prog 76 #[.agg #[.bool s, .slice A n c], .agg #[.bool t, .slice A' m c']] w (IntPost w (x * y)) := by
 have HDx := lhd (fun w' h => rDigits_any s A n c x w' h (by omega))
 have HDy := lhd (fun w' h => rDigits_any t A' m c' y w' h (by omega))
 unfold HalfPost at HDx HDy
 have hsx : sval (s != t) (x.natAbs * y.natAbs) = x * y := by
  obtain ⟨xs, -, -, -, -, -, rfl, -⟩ := hx
  obtain ⟨ys, -, -, -, -, -, rfl, -⟩ := hy
  rw [sval_natAbs, sval_natAbs, mul_sval]
 have hla := hx.hl_le
 have hlb := hy.hl_le
 have HX := lhd hx; have HY := lhd hy
 generalize x.natAbs = a at *
 generalize y.natAbs = b at *
 generalize x * y = z at *
 have hab : hl (a * b) ≤ 2 * n + 2 * m := by
  refine Nat.le_trans (digs_length_le HB2 (k := hl a + hl b) ?_) (by omega)
  rw [Nat.pow_add]
  exact Nat.mul_lt_mul_of_lt_of_le (lt_pow_digs HB2 a) (Nat.le_of_lt (lt_pow_digs HB2 b)) (Nat.pow_pos (by decide))
 have HT := lhd (fun (A A' : Option Addr) (c c' : Nat) (w' : World) (h : Shows .i64 w' A (digs HB a)) (h' : Shows .i64 w' A' (digs HB b)) => by
  have := rTimes_any A A' (digs HB a) (digs HB b) c c' w' h h' (dig_digs' HB2 a) (dig_digs' HB2 b) (show hl a ≤ 1000000 by omega) (show hl b ≤ 1000000 by omega)
  rw [val_digs' HB2, val_digs' HB2] at this; exact this)
 change Hid (∀ (A A' : Option Addr) (c c' : Nat) (w' : World), _ → _ → Calls _ _ #[.slice A (hl a) c, .slice A' (hl b) c'] w' _) at HT
 unfold HalfPost at HT
 generalize a * b = v at *
 have HM := lhd (fun (A : Option Addr) (c : Nat) (w' : World) (h : Shows .i64 w' A (digs HB v)) (h1 : hl v ≤ c) (h2 : c ≤ maxLen) => by
  have := rMade_any (s != t) A (digs HB v) c w' h (dig_digs' HB2 v) h1 h2 (show hl v ≤ 3000000 by omega)
  rw [val_digs' HB2] at this; exact this)
 change Hid (∀ (A : Option Addr) (c : Nat) (w' : World), _ → _ → _ → Calls _ _ #[.bool (!(s == t)), .slice A (hl v) c] w' _) at HM
 have HSX := lhd hsx
 clear hx hy hsx hla hlb hab hlen
 go_enter Tryz.func76, Tryz.ntmps76
 go_wp2_with fail
 have hR : w.heap.size + 1 < w.heap.size + 1 + 1 := by omega
 go_region_held3 (fun w' => Below w.heap.size w w' ∧ w'.cell? ⟨w.heap.size, 0, none⟩ = some (.bool s) ∧ w'.cell? ⟨w.heap.size, 1, none⟩ = some (.slice A n c) ∧ w'.cell? ⟨w.heap.size + 1, 0, none⟩ = some (.bool t) ∧ w'.cell? ⟨w.heap.size + 1, 1, none⟩ = some (.slice A' m c') ∧
  w'.cell? ⟨w.heap.size + 1 + 1, 0, none⟩ = some (cellAt w' ⟨w.heap.size + 1 + 1, 0, none⟩) ∧ w'.cell? ⟨w.heap.size + 1 + 1, 1, none⟩ = some (cellAt w' ⟨w.heap.size + 1 + 1, 1, none⟩) ∧ w'.frozen? ⟨w.heap.size + 1 + 1, 0, none⟩ = false ∧ w'.frozen? ⟨w.heap.size + 1 + 1, 1, none⟩ = false ∧ w.heap.size + 1 + 1 < w'.heap.size)
  (first
   | (refine ⟨(((Below.refl _ _).alloc (Nat.le_refl _) _).alloc (by simp) _).alloc (by simp; omega) _ |>.drew, ?_⟩; simp [go_sem, cellAt])
   | (refine Sres.keep hR (by assumption) ?_; first | assumption | exact (Below.refl _ _).alloc (Nat.le_refl _) _ | exact below_drewN (Below.refl _ _) _)
   | exact Sres.store hR (by assumption) _ _)
  (first
   | (go_at_call 124; (with_reducible refine (HDx.out _ (in_ai (by assumption) HX.out)).mono ?_); rintro e w' ⟨A1, c1, rfl, hs1, q1, q2, hf1, hbx⟩)
   | (go_at_call 124; (with_reducible refine (HDy.out _ (in_ai (by assumption) HY.out)).mono ?_); rintro e w' ⟨A2, c2, rfl, hs2, q3, q4, hf2, hby⟩)
   | (go_at_call 123; (refine (HT.out A1 A2 c1 c2 _ (hs1.below hby) hs2).mono ?_); rintro e w' ⟨A4, c4, rfl, hs4, q5, q6, hf4, hbt⟩)
   | (go_at_call 122; (refine (HM.out A4 c4 _ hs4 q5 q6).mono ?_); rintro e w' ⟨A3, c3, rfl, hs3, k1, k2, hf3, hb3⟩))
 have B2 := hbx.trans (hby.mono hbx.size)
 have B3 := B2.trans (hbt.mono B2.size)
 obtain ⟨-, -, -, -, hz0, B0⟩ := three_keep (three_drew B3)
 obtain ⟨-, -, q, -, -, B⟩ := three_keep (three_drew (B3.trans (hb3.mono B3.size)))
 go_wp2_with fail
 refine bodyPost_ret (v := .agg #[.bool (s != t && !decide (v = 0)), .slice A3 (wl v) c3]) (by simp [results, Tryz.results76, go_sem, q]) rfl ?_
 exact fin_post B0 hz0 B (by omega) HSX.out rfl hs3 k1 k2 hf3
end Go.Proofs.YtimdkjbmeogpoaaGreatDoor
end
