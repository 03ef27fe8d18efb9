/- The reference's digits: sum. -/
import Derived.Test.YtimdkjbmeogpoaaGreatDoorVRdg
namespace Go.Proofs.YtimdkjbmeogpoaaGreatDoor
open Go.RowKit FF
set_option maxRecDepth 100000 in
set_option maxHeartbeats 4000000 in
theorem rPlus_any (A A' : Option Addr) (xs ys : List Nat) (c c' : Nat) (w : World) (hx : Shows .i64 w A xs) (hy : Shows .i64 w A' ys) (dx : Dig HB xs) (dy : Dig HB ys) (hxl : xs.length ≤ 2000000) (hyl : ys.length ≤ 2000000) :
    Calls Tryz.prog 125 #[.slice A xs.length c, .slice A' ys.length c'] w (HalfPost w (val HB xs + val HB ys)) := by
  obtain ⟨i0, hi, hz0, hz1, hz2⟩ := info_parts info_int
  have HI := Lib.hid hi; have HZ0 := Lib.hid hz0; have HZ1 := Lib.hid hz1; have HZ2 := Lib.hid hz2
  clear hi hz0 hz1 hz2
  obtain ⟨n, hn⟩ : ∃ n, xs.length = n := ⟨_, rfl⟩
  obtain ⟨m, hm⟩ : ∃ m, ys.length = m := ⟨_, rfl⟩
  have HX := Lib.hid hx; have HY := Lib.hid hy
  have bx : Hid (∀ i, xs.getD i 0 < 65536) := Lib.hid (fun i => dx.getD (show 0 < HB by decide) i)
  have by' : Hid (∀ i, ys.getD i 0 < 65536) := Lib.hid (fun i => dy.getD (show 0 < HB by decide) i)
  have px := Lib.hid (fun i (hi : n ≤ i) => (show xs.getD i 0 = 0 from getD_past (by omega)))
  have py := Lib.hid (fun i (hi : m ≤ i) => (show ys.getD i 0 = 0 from getD_past (by omega)))
  have tx := Lib.hid (fun i (hi : n ≤ i) => (show xs.take i = xs from List.take_of_length_le (by omega)))
  have ty := Lib.hid (fun i (hi : m ≤ i) => (show ys.take i = ys from List.take_of_length_le (by omega)))
  have Hn := Lib.hid hn; have Hm := Lib.hid hm
  rw [hn, hm]
  rw [hn] at hxl
  rw [hm] at hyl
  clear hx hy dx dy hn hm
  unfold HalfPost
  go_enter Tryz.func125, Tryz.ntmps125
  go_wp2
  go_loopw [5, 6, 7] (fun s5 s6 s7 wr => ∃ (i cy : Nat) (ds : List Nat) (v : Value), v = s5 ∧ s6 = .int .i64 cy ∧ s7 = .int .i64 i ∧ i ≤ max n m + 1 ∧ cy ≤ 1 ∧ ds.length = i ∧ Dig HB ds ∧ val HB ds + HB ^ i * cy = val HB (xs.take i) + val HB (ys.take i) ∧
    (max n m < i → cy = 0) ∧ wr.ownsRow w.heap.size 3 1 v i (cells .i64 ds) ∧ Below w.heap.size w wr) (fun _ _ s _ => max n m + 2 - (intOf s).toNat)
  case atStart => exact ⟨0, 0, [], _, rfl, rfl, rfl, Nat.zero_le _, Nat.zero_le _, rfl, fun x hx => absurd hx (by simp), by simp [val], fun _ => rfl, ⟨by simp [cells], .inl ⟨rfl, rfl⟩⟩, Below.refl _ _⟩
  case round =>
    obtain ⟨i, cy, ds, v, rfl, rfl, rfl, hi, hcy, hdl, hdd, hv, hmx, hown, hB⟩ := hrel
    have bxi := bx.out i
    have byi := by'.out i
    have pxi := px.out i
    have pyi := py.out i
    have hstep := Lib.hid (plus_step (B := HB) (c := cy) hdl hv (rfl : xs.getD i 0 + ys.getD i 0 + cy = _))
    have HO := Lib.hid hown; have HB' := Lib.hid hB; have HD := Lib.hid hdd; have HL := Lib.hid hdl
    have hrow := Lib.hid (own_row_ge hown)
    have hwz := hB.size
    have xW := HX.out.below hB
    have yW := HY.out.below hB
    have hend : Hid (n ≤ i → m ≤ i → cy = 0 → val HB ds = val HB xs + val HB ys) := Lib.hid (fun h1 h2 h3 => by rw [tx.out i h1, ty.out i h2, h3, Nat.mul_zero, Nat.add_zero] at hv; exact hv)
    clear hv hown hB hdd hdl bx by' px py tx ty
    obtain ⟨x, ex⟩ : ∃ x, xs.getD i 0 = x := ⟨_, rfl⟩
    obtain ⟨y, ey⟩ : ∃ y, ys.getD i 0 = y := ⟨_, rfl⟩
    rw [ex] at bxi pxi hstep
    rw [ey] at byi pyi hstep
    by_cases hin : i < n
    · obtain ⟨b1, o1, rfl, hb1, hc1⟩ := xW (by rw [Hn.out]; omega)
      have k1 := hc1 i (by rw [Hn.out]; exact hin)
      rw [ex] at k1
      clear hc1 pxi ex
      have d1 := decide_eq_true hin
      by_cases him : i < m
      · obtain ⟨b2, o2, rfl, hb2, hc2⟩ := yW (by rw [Hm.out]; omega)
        have k2 := hc2 i (by rw [Hm.out]; exact him)
        rw [ey] at k2
        clear hc2 pyi ey
        go_wp2_with (at_builtin; refine wpList_append_own _ rfl (.tmp 44) (.tmp 47) 88 rfl w.heap.size 3 i0 (.int .i64 0) 1 8 Tryz.underlying88 HI.out HZ0.out HZ1.out HZ2.out rfl (by decide) v i (cells .i64 ds) rfl (HO.out.alloc _) ⟨wr.heap.size, 0, none⟩ 1 1 [.int .i64 (((cy : Int) + x + y) % 65536)] rfl rfl (fun j u hj => by match j, hj with | 0, hj => simp at hj; subst hj; simp [Addr.add, go_sem]) (fun u hu => by simp at hu; subst hu; rfl) (by unfold maxLen; omega) (by omega) (by simp; omega) ?_; intro v1 w1 hown1 hgrow1 _)
        have hO1 : w1.ownsRow w.heap.size 3 1 v1 (i + 1) (cells .i64 (ds ++ [(x + y + cy) % 65536])) := by
          rw [← cells_snoc, show (((x + y + cy) % 65536 : Nat) : Int) = ((cy : Int) + x + y) % 65536 by omega]
          exact hown1
        have hB1 := (HB'.out.alloc (by omega) _).grown hgrow1 (by simp; omega) (fun k hk => hrow.out k hk)
        obtain ⟨A9, c9, rfl⟩ := own_form hown1
        have HO1 := Lib.hid hO1; have HB1 := Lib.hid hB1
        clear hO1 hB1 hown1 hgrow1
        go_wp2_with fail
        exact ⟨⟨i + 1, (x + y + cy) / 65536, ds ++ [(x + y + cy) % 65536], _, rfl, by rw [show ((cy : Int) + x + y) / 65536 = (((x + y + cy) / 65536 : Nat) : Int) by omega], by go_num, by omega, by omega, by simp [HL.out], dig_snoc HD.out (Nat.mod_lt _ (by decide)), hstep.out, fun h => absurd h (by omega), HO1.out, HB1.out⟩, by simp [intOf]; omega⟩
      · have Y0 := Lib.hid (pyi (by omega))
        have d2 := decide_eq_false him
        clear pyi ey yW
        go_wp2_with (at_builtin; refine wpList_append_own _ rfl (.tmp 44) (.tmp 47) 88 rfl w.heap.size 3 i0 (.int .i64 0) 1 8 Tryz.underlying88 HI.out HZ0.out HZ1.out HZ2.out rfl (by decide) v i (cells .i64 ds) rfl (HO.out.alloc _) ⟨wr.heap.size, 0, none⟩ 1 1 [.int .i64 (((cy : Int) + x) % 65536)] rfl rfl (fun j u hj => by match j, hj with | 0, hj => simp at hj; subst hj; simp [Addr.add, go_sem]) (fun u hu => by simp at hu; subst hu; rfl) (by unfold maxLen; omega) (by omega) (by simp; omega) ?_; intro v1 w1 hown1 hgrow1 _)
        have hO1 : w1.ownsRow w.heap.size 3 1 v1 (i + 1) (cells .i64 (ds ++ [(x + y + cy) % 65536])) := by
          rw [← cells_snoc, show (((x + y + cy) % 65536 : Nat) : Int) = ((cy : Int) + x) % 65536 by have := Y0.out; omega]
          exact hown1
        have hB1 := (HB'.out.alloc (by omega) _).grown hgrow1 (by simp; omega) (fun k hk => hrow.out k hk)
        obtain ⟨A9, c9, rfl⟩ := own_form hown1
        have HO1 := Lib.hid hO1; have HB1 := Lib.hid hB1
        clear hO1 hB1 hown1 hgrow1
        go_wp2_with fail
        exact ⟨⟨i + 1, (x + y + cy) / 65536, ds ++ [(x + y + cy) % 65536], _, rfl, by rw [show ((cy : Int) + x) / 65536 = (((x + y + cy) / 65536 : Nat) : Int) by have := Y0.out; omega], by go_num, by omega, by omega, by simp [HL.out], dig_snoc HD.out (Nat.mod_lt _ (by decide)), hstep.out, fun h => absurd h (by omega), HO1.out, HB1.out⟩, by simp [intOf]; omega⟩
    · have X0 := Lib.hid (pxi (by omega))
      have d1 := decide_eq_false hin
      clear pxi ex xW
      by_cases him : i < m
      · obtain ⟨b2, o2, rfl, hb2, hc2⟩ := yW (by rw [Hm.out]; omega)
        have k2 := hc2 i (by rw [Hm.out]; exact him)
        rw [ey] at k2
        have d2 := decide_eq_true him
        clear hc2 pyi ey
        go_wp2_with (at_builtin; refine wpList_append_own _ rfl (.tmp 44) (.tmp 47) 88 rfl w.heap.size 3 i0 (.int .i64 0) 1 8 Tryz.underlying88 HI.out HZ0.out HZ1.out HZ2.out rfl (by decide) v i (cells .i64 ds) rfl (HO.out.alloc _) ⟨wr.heap.size, 0, none⟩ 1 1 [.int .i64 (((cy : Int) + y) % 65536)] rfl rfl (fun j u hj => by match j, hj with | 0, hj => simp at hj; subst hj; simp [Addr.add, go_sem]) (fun u hu => by simp at hu; subst hu; rfl) (by unfold maxLen; omega) (by omega) (by simp; omega) ?_; intro v1 w1 hown1 hgrow1 _)
        have hO1 : w1.ownsRow w.heap.size 3 1 v1 (i + 1) (cells .i64 (ds ++ [(x + y + cy) % 65536])) := by
          rw [← cells_snoc, show (((x + y + cy) % 65536 : Nat) : Int) = ((cy : Int) + y) % 65536 by have := X0.out; omega]
          exact hown1
        have hB1 := (HB'.out.alloc (by omega) _).grown hgrow1 (by simp; omega) (fun k hk => hrow.out k hk)
        obtain ⟨A9, c9, rfl⟩ := own_form hown1
        have HO1 := Lib.hid hO1; have HB1 := Lib.hid hB1
        clear hO1 hB1 hown1 hgrow1
        go_wp2_with fail
        exact ⟨⟨i + 1, (x + y + cy) / 65536, ds ++ [(x + y + cy) % 65536], _, rfl, by rw [show ((cy : Int) + y) / 65536 = (((x + y + cy) / 65536 : Nat) : Int) by have := X0.out; omega], by go_num, by omega, by omega, by simp [HL.out], dig_snoc HD.out (Nat.mod_lt _ (by decide)), hstep.out, fun h => absurd h (by omega), HO1.out, HB1.out⟩, by simp [intOf]; omega⟩
      · have Y0 := Lib.hid (pyi (by omega))
        have d2 := decide_eq_false him
        clear pyi ey yW
        by_cases hc : 0 < cy
        · have him2 : i ≤ max n m := Nat.le_of_not_lt fun h => absurd (hmx h) (by omega)
          have hc' : (0 : Int) < cy := by omega
          go_wp2_with (at_builtin; refine wpList_append_own _ rfl (.tmp 44) (.tmp 47) 88 rfl w.heap.size 3 i0 (.int .i64 0) 1 8 Tryz.underlying88 HI.out HZ0.out HZ1.out HZ2.out rfl (by decide) v i (cells .i64 ds) rfl (HO.out.alloc _) ⟨wr.heap.size, 0, none⟩ 1 1 [.int .i64 (((cy : Int)) % 65536)] rfl rfl (fun j u hj => by match j, hj with | 0, hj => simp at hj; subst hj; simp [Addr.add, go_sem]) (fun u hu => by simp at hu; subst hu; rfl) (by unfold maxLen; omega) (by omega) (by simp; omega) ?_; intro v1 w1 hown1 hgrow1 _)
          have hO1 : w1.ownsRow w.heap.size 3 1 v1 (i + 1) (cells .i64 (ds ++ [(x + y + cy) % 65536])) := by
            rw [← cells_snoc, show (((x + y + cy) % 65536 : Nat) : Int) = ((cy : Int)) % 65536 by have := Y0.out; have := X0.out; omega]
            exact hown1
          have hB1 := (HB'.out.alloc (by omega) _).grown hgrow1 (by simp; omega) (fun k hk => hrow.out k hk)
          obtain ⟨A9, c9, rfl⟩ := own_form hown1
          have HO1 := Lib.hid hO1; have HB1 := Lib.hid hB1
          clear hO1 hB1 hown1 hgrow1
          go_wp2_with fail
          exact ⟨⟨i + 1, (x + y + cy) / 65536, ds ++ [(x + y + cy) % 65536], _, rfl, by rw [show ((cy : Int)) / 65536 = (((x + y + cy) / 65536 : Nat) : Int) by have := Y0.out; have := X0.out; omega], by go_num, by omega, by omega, by simp [HL.out], dig_snoc HD.out (Nat.mod_lt _ (by decide)), hstep.out, fun _ => by have := Y0.out; have := X0.out; omega, HO1.out, HB1.out⟩, by simp [intOf]; omega⟩
        · have hE := Lib.hid (hend.out (by omega) (by omega) (by omega))
          have hc' : ¬ (0 : Int) < cy := by omega
          have hown : wr.ownsRow w.heap.size 3 1 v ds.length (cells .i64 ds) := by rw [HL.out]; exact HO.out
          obtain ⟨A2, c2, rfl, s1, s2, s3, s4⟩ := own_shows hown
          have hT := rTrim_any A2 ds c2 wr s1 HD.out s2 s3 (by rw [HL.out]; omega)
          rw [hE.out, HL.out] at hT
          have HT := Lib.hid hT
          rw [HL.out]
          clear hown s1 s2 s3 s4 hT hrow HO hE hend hstep hmx HD
          go_wp2_with fail
          refine HT.out.mono ?_
          rintro e w2 ⟨A3, c3, rfl, p1, p2, p3, p4, p5⟩
          have P1 := Lib.hid p1; have P4 := Lib.hid (p4.mono hwz); have P5 := Lib.hid p5
          clear p1 p4 p5 HT
          go_wp2_with fail
          go_ret
          exact ⟨A3, c3, rfl, P1.out, p2, p3, P4.out, HB'.out.trans (P5.out.mono hwz)⟩
end Go.Proofs.YtimdkjbmeogpoaaGreatDoor
