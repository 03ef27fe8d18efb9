/- The reference's digits: difference. -/
import Derived.Test.YtimdkjbmeogpoaaGreatDoorURdg
namespace Go.Proofs.YtimdkjbmeogpoaaGreatDoor
open Go.RowKit FF
set_option maxRecDepth 100000 in
set_option maxHeartbeats 4000000 in
theorem rMinus_any (A A' : Option Addr) (xs ys : List Nat) (c c' : Nat) (w : World) (hx : Shows .i64 w A xs) (hy : Shows .i64 w A' ys) (dx : Dig HB xs) (dy : Dig HB ys) (hxl : xs.length ≤ 2000000) (hyl : ys.length ≤ xs.length) (hle : val HB ys ≤ val HB xs) :
  Calls Tryz.prog 127 #[.slice A xs.length c, .slice A' ys.length c'] w (HalfPost w (val HB xs - val HB ys)) := by
 obtain ⟨i0, hi, hz0, hz1, hz2⟩ := info_parts info_int
 have HI := lhd hi; have HZ0 := lhd hz0; have HZ1 := lhd hz1; have HZ2 := lhd hz2
 clear hi hz0 hz1 hz2
 obtain ⟨n, hn⟩ : ∃ n, xs.length = n := ⟨_, rfl⟩
 obtain ⟨m, hm⟩ : ∃ m, ys.length = m := ⟨_, rfl⟩
 have HX := lhd hx; have HY := lhd hy
 have bx : Hid (∀ i, xs.getD i 0 < 65536) := lhd (fun i => dx.getD (show 0 < HB by decide) i)
 have by' : Hid (∀ i, ys.getD i 0 < 65536) := lhd (fun i => dy.getD (show 0 < HB by decide) i)
 have py := lhd (fun i (hi : m ≤ i) => (show ys.getD i 0 = 0 from getD_past (by omega)))
 have tx := lhd (show xs.take n = xs from List.take_of_length_le (by omega))
 have ty := lhd (show ys.take n = ys from List.take_of_length_le (by omega))
 have Hn := lhd hn; have Hm := lhd hm; have HLE := lhd hle
 rw [hn, hm]
 rw [hn] at hxl
 rw [hm, hn] at hyl
 clear hx hy dx dy hn hm hle
 unfold HalfPost
 go_enter Tryz.func127, Tryz.ntmps127
 go_wp2
 go_loopw [5, 6, 7] (fun s5 s6 s7 wr => ∃ (i cy : Nat) (ds : List Nat) (v : Value), v = s5 ∧ s6 = .int .i64 cy ∧ s7 = .int .i64 i ∧ i ≤ n ∧ cy ≤ 1 ∧ ds.length = i ∧ Dig HB ds ∧ val HB ds + val HB (ys.take i) = val HB (xs.take i) + HB ^ i * cy ∧
  wr.ownsRow w.heap.size 3 1 v i (cells .i64 ds) ∧ Below w.heap.size w wr) (fun _ _ s _ => n - (intOf s).toNat)
 case atStart => exact ⟨0, 0, [], _, rfl, rfl, rfl, Nat.zero_le _, Nat.zero_le _, rfl, fun x hx => absurd hx (by simp), by simp [val], ⟨by simp [cells], .inl ⟨rfl, rfl⟩⟩, Below.refl _ _⟩
 case round =>
  obtain ⟨i, cy, ds, v, rfl, rfl, rfl, hi, hcy, hdl, hdd, hv, hown, hB⟩ := hrel
  have bxi := bx.out i
  have byi := by'.out i
  have pyi := py.out i
  have hstep := lhd (fun c' d hh => minus_step (B := HB) (xs := xs) (ys := ys) (c := cy) (c' := c') (d := d) hdl hv hh)
  have HO := lhd hown; have HB' := lhd hB; have HD := lhd hdd; have HL := lhd hdl
  have hrow := lhd (own_row_ge hown)
  have hwz := hB.size
  have xW := HX.out.below hB
  have yW := HY.out.below hB
  have HV := lhd hv
  clear hv hown hB hdd hdl bx by' py
  obtain ⟨x, ex⟩ : ∃ x, xs.getD i 0 = x := ⟨_, rfl⟩
  obtain ⟨y, ey⟩ : ∃ y, ys.getD i 0 = y := ⟨_, rfl⟩
  rw [ex] at bxi hstep
  rw [ey] at byi pyi hstep
  by_cases hin : i < n
  ·obtain ⟨b1, o1, rfl, hb1, hc1⟩ := xW (by rw [Hn.out]; omega)
   have k1 := hc1 i (by rw [Hn.out]; exact hin)
   rw [ex] at k1
   clear hc1 ex HV
   by_cases him : i < m
   ·obtain ⟨b2, o2, rfl, hb2, hc2⟩ := yW (by rw [Hm.out]; omega)
    have k2 := hc2 i (by rw [Hm.out]; exact him)
    rw [ey] at k2
    clear hc2 pyi ey
    by_cases hneg : x < cy + y
    ·clear HLE
     have d3 : ((x : Int) - cy - y) < 0 := by omega
     have hst := lhd (hstep.out 1 (x + 65536 - y - cy) (by show x + 65536 * 1 = (x + 65536 - y - cy) + y + cy; omega))
     go_wp2_with (at_builtin; refine wpList_append_own _ rfl (.tmp 35) (.tmp 37) 88 rfl w.heap.size 3 i0 (.int .i64 0) 1 8 Tryz.underlying88 HI.out HZ0.out HZ1.out HZ2.out rfl (by decide) v i (cells .i64 ds) rfl (HO.out.alloc _) ⟨wr.heap.size, 0, none⟩ 1 1 [.int .i64 ((x : Int) - cy - y + 65536)] rfl rfl (fun j u hj => by match j, hj with | 0, hj => simp at hj; subst hj; simp [Addr.add, go_sem]) (fun u hu => by simp at hu; subst hu; rfl) (by unfold maxLen; omega) (by omega) (by simp; omega) ?_; intro v1 w1 hown1 hgrow1 _)
     have hO1 : w1.ownsRow w.heap.size 3 1 v1 (i + 1) (cells .i64 (ds ++ [(x + 65536 - y - cy)])) := by
      rw [← cells_snoc, show (((x + 65536 - y - cy) : Nat) : Int) = (x : Int) - cy - y + 65536 by omega]
      exact hown1
     have hB1 := (HB'.out.alloc (by omega) _).grown hgrow1 (by simp; omega) (fun k hk => hrow.out k hk)
     obtain ⟨A9, c9, rfl⟩ := own_form hown1
     have HO1 := lhd hO1; have HB1 := lhd hB1
     clear hO1 hB1 hown1 hgrow1
     go_wp2_with fail
     exact ⟨⟨i + 1, 1, ds ++ [(x + 65536 - y - cy)], _, rfl, rfl, by go_num, by omega, by omega, by simp [HL.out], dig_snoc HD.out (show (x + 65536 - y - cy) < 65536 by omega), hst.out, HO1.out, HB1.out⟩, by simp [intOf]; omega⟩
    ·clear HLE
     have d3 : ¬ ((x : Int) - cy - y) < 0 := by omega
     have hst := lhd (hstep.out 0 (x - y - cy) (by show x + 65536 * 0 = (x - y - cy) + y + cy; omega))
     go_wp2_with (at_builtin; refine wpList_append_own _ rfl (.tmp 35) (.tmp 37) 88 rfl w.heap.size 3 i0 (.int .i64 0) 1 8 Tryz.underlying88 HI.out HZ0.out HZ1.out HZ2.out rfl (by decide) v i (cells .i64 ds) rfl (HO.out.alloc _) ⟨wr.heap.size, 0, none⟩ 1 1 [.int .i64 ((x : Int) - cy - y)] rfl rfl (fun j u hj => by match j, hj with | 0, hj => simp at hj; subst hj; simp [Addr.add, go_sem]) (fun u hu => by simp at hu; subst hu; rfl) (by unfold maxLen; omega) (by omega) (by simp; omega) ?_; intro v1 w1 hown1 hgrow1 _)
     have hO1 : w1.ownsRow w.heap.size 3 1 v1 (i + 1) (cells .i64 (ds ++ [(x - y - cy)])) := by
      rw [← cells_snoc, show (((x - y - cy) : Nat) : Int) = (x : Int) - cy - y by omega]
      exact hown1
     have hB1 := (HB'.out.alloc (by omega) _).grown hgrow1 (by simp; omega) (fun k hk => hrow.out k hk)
     obtain ⟨A9, c9, rfl⟩ := own_form hown1
     have HO1 := lhd hO1; have HB1 := lhd hB1
     clear hO1 hB1 hown1 hgrow1
     go_wp2_with fail
     exact ⟨⟨i + 1, 0, ds ++ [(x - y - cy)], _, rfl, rfl, by go_num, by omega, by omega, by simp [HL.out], dig_snoc HD.out (show (x - y - cy) < 65536 by omega), hst.out, HO1.out, HB1.out⟩, by simp [intOf]; omega⟩
   ·have Y0 := lhd (pyi (by omega))
    clear pyi ey yW
    by_cases hneg : x < cy
    ·clear HLE
     have d3 : ((x : Int) - cy) < 0 := by have := Y0.out; omega
     have hst := lhd (hstep.out 1 (x + 65536 - y - cy) (by have := Y0.out; show x + 65536 * 1 = (x + 65536 - y - cy) + y + cy; omega))
     go_wp2_with (at_builtin; refine wpList_append_own _ rfl (.tmp 35) (.tmp 37) 88 rfl w.heap.size 3 i0 (.int .i64 0) 1 8 Tryz.underlying88 HI.out HZ0.out HZ1.out HZ2.out rfl (by decide) v i (cells .i64 ds) rfl (HO.out.alloc _) ⟨wr.heap.size, 0, none⟩ 1 1 [.int .i64 ((x : Int) - cy + 65536)] rfl rfl (fun j u hj => by match j, hj with | 0, hj => simp at hj; subst hj; simp [Addr.add, go_sem]) (fun u hu => by simp at hu; subst hu; rfl) (by unfold maxLen; omega) (by omega) (by simp; omega) ?_; intro v1 w1 hown1 hgrow1 _)
     have hO1 : w1.ownsRow w.heap.size 3 1 v1 (i + 1) (cells .i64 (ds ++ [(x + 65536 - y - cy)])) := by
      rw [← cells_snoc, show (((x + 65536 - y - cy) : Nat) : Int) = (x : Int) - cy + 65536 by have := Y0.out; omega]
      exact hown1
     have hB1 := (HB'.out.alloc (by omega) _).grown hgrow1 (by simp; omega) (fun k hk => hrow.out k hk)
     obtain ⟨A9, c9, rfl⟩ := own_form hown1
     have HO1 := lhd hO1; have HB1 := lhd hB1
     clear hO1 hB1 hown1 hgrow1
     go_wp2_with fail
     exact ⟨⟨i + 1, 1, ds ++ [(x + 65536 - y - cy)], _, rfl, rfl, by go_num, by omega, by omega, by simp [HL.out], dig_snoc HD.out (show (x + 65536 - y - cy) < 65536 by have := Y0.out; omega), hst.out, HO1.out, HB1.out⟩, by simp [intOf]; omega⟩
    ·clear HLE
     have d3 : ¬ ((x : Int) - cy) < 0 := by have := Y0.out; omega
     have hst := lhd (hstep.out 0 (x - y - cy) (by have := Y0.out; show x + 65536 * 0 = (x - y - cy) + y + cy; omega))
     go_wp2_with (at_builtin; refine wpList_append_own _ rfl (.tmp 35) (.tmp 37) 88 rfl w.heap.size 3 i0 (.int .i64 0) 1 8 Tryz.underlying88 HI.out HZ0.out HZ1.out HZ2.out rfl (by decide) v i (cells .i64 ds) rfl (HO.out.alloc _) ⟨wr.heap.size, 0, none⟩ 1 1 [.int .i64 ((x : Int) - cy)] rfl rfl (fun j u hj => by match j, hj with | 0, hj => simp at hj; subst hj; simp [Addr.add, go_sem]) (fun u hu => by simp at hu; subst hu; rfl) (by unfold maxLen; omega) (by omega) (by simp; omega) ?_; intro v1 w1 hown1 hgrow1 _)
     have hO1 : w1.ownsRow w.heap.size 3 1 v1 (i + 1) (cells .i64 (ds ++ [(x - y - cy)])) := by
      rw [← cells_snoc, show (((x - y - cy) : Nat) : Int) = (x : Int) - cy by have := Y0.out; omega]
      exact hown1
     have hB1 := (HB'.out.alloc (by omega) _).grown hgrow1 (by simp; omega) (fun k hk => hrow.out k hk)
     obtain ⟨A9, c9, rfl⟩ := own_form hown1
     have HO1 := lhd hO1; have HB1 := lhd hB1
     clear hO1 hB1 hown1 hgrow1
     go_wp2_with fail
     exact ⟨⟨i + 1, 0, ds ++ [(x - y - cy)], _, rfl, rfl, by go_num, by omega, by omega, by simp [HL.out], dig_snoc HD.out (show (x - y - cy) < 65536 by have := Y0.out; omega), hst.out, HO1.out, HB1.out⟩, by simp [intOf]; omega⟩
  ·obtain rfl : i = n := by omega
   have hE := lhd (show val HB ds = val HB xs - val HB ys by
    have h1 := HV.out
    rw [tx.out, ty.out] at h1
    have h2 := HLE.out
    have h3 := val_lt HD.out
    rw [HL.out] at h3
    rcases (show cy = 0 ∨ cy = 1 by omega) with rfl | rfl
    ·omega
    ·generalize HB ^ i = M at *; omega)
   have hown : wr.ownsRow w.heap.size 3 1 v ds.length (cells .i64 ds) := by rw [HL.out]; exact HO.out
   obtain ⟨A2, c2, rfl, s1, s2, s3, s4⟩ := own_shows hown
   have hT := rTrim_any A2 ds c2 wr s1 HD.out s2 s3 (by rw [HL.out]; omega)
   rw [hE.out, HL.out] at hT
   have HT := lhd hT
   rw [HL.out]
   clear hown s1 s2 s3 s4 hT hrow HO hE hstep HD ex ey pyi HV
   go_wp2_with fail
   refine HT.out.mono ?_
   rintro e w2 ⟨A3, c3, rfl, p1, p2, p3, p4, p5⟩
   have P1 := lhd p1; have P4 := lhd (p4.mono hwz); have P5 := lhd p5
   clear p1 p4 p5 HT
   go_wp2_with fail
   go_ret
   exact ⟨A3, c3, rfl, P1.out, p2, p3, P4.out, HB'.out.trans (P5.out.mono hwz)⟩
end Go.Proofs.YtimdkjbmeogpoaaGreatDoor
