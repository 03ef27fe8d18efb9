/- The reference's digits: sum. -/
import Derived.Test.YtimdkjbmeogpoaaGreatDoorURng
import Derived.Test.YtimdkjbmeogpoaaGreatDoorUROf
import Derived.Deep.AppendLies
section
namespace Go.Proofs.YtimdkjbmeogpoaaGreatDoor
open Go.RowKit FF
theorem cells_append2 (k : IntKind) (xs : List Nat) (a b : Nat) : cells k (xs ++ [a, b]) = cells k xs ++ [.int k a, .int k b] := by simp [cells]
def HalfPost (w : World) (v : Nat) (e : Ending) (w' : World) : Prop :=
 ∃ A' c', e = .returned (.slice A' (hl v) c') ∧ Shows .i64 w' A' (digs HB v) ∧ hl v ≤ c' ∧ c' ≤ maxLen ∧ Fresh w.heap.size A' ∧ Below w.heap.size w w'
set_option maxRecDepth 100000 in
set_option maxHeartbeats 2000000 in
theorem rDigits_any (s : Bool) (A : Option Addr) (n c : Nat) (x : Int) (w : World) (hx : AI w s A n c x) (hl : n ≤ 1000000) :
    Calls Tryz.prog 124 #[.agg #[.bool s, .slice A n c]] w (HalfPost w x.natAbs) := by
  obtain ⟨i0, hi, hz0, hz1, hz2⟩ := info_parts info_int
  have HI := lhd hi; have HZ0 := lhd hz0; have HZ1 := lhd hz1; have HZ2 := lhd hz2
  clear hi hz0 hz1 hz2
  obtain ⟨xs, hn, X, dx, hcx, hcx2, rfl, -⟩ := hx
  rw [sval_natAbs]
  have HX := lhd X
  have bx := lhd (fun i => dx.getD (show 0 < WB by decide) i)
  have HV := lhd (show val HB (halves xs) = val WB xs from halves_val xs)
  have HDg := lhd (show Dig HB (halves xs) from halves_dig dx)
  have HL := lhd (show (halves xs).length = 2 * n by rw [halves_length, hn])
  have HN := lhd hn
  have HTk := lhd (fun i (hi : i < n) => (take_snoc 0 (by rw [hn]; exact hi) : xs.take (i + 1) = xs.take i ++ [xs.getD i 0]))
  have HAll := lhd (show xs.take n = xs from List.take_of_length_le (by omega))
  unfold maxLen at hcx2
  clear X dx hn
  unfold HalfPost
  go_enter Tryz.func124, Tryz.ntmps124
  go_wp2
  go_loopw [3, 4] (fun s3 s4 wr => ∃ i : Nat, s4 = .int .i64 i ∧ i ≤ n ∧ wr.ownsRow (w.heap.size + 1) 3 1 s3 (2 * i) (cells .i64 (halves (xs.take i))) ∧ Below (w.heap.size + 1) (w.alloc (.cells #[.bool s, .slice A n c] 58)) wr) (fun _ s4 _ => n - (intOf s4).toNat)
  case atStart => exact ⟨0, rfl, Nat.zero_le _, ⟨by simp [halves, cells], .inl ⟨rfl, rfl⟩⟩, Below.refl _ _⟩
  case round =>
    obtain ⟨i, rfl, hin, hown, hB⟩ := hrel
    obtain ⟨k, f, hz⟩ := slot_keep hB
    have k1 := k 1
    have HO := lhd hown; have HB' := lhd hB
    have hrow := lhd (own_row_ge hown)
    by_cases hlt : i < n
    · have XW := HX.out.below (below_slot hB)
      obtain ⟨b1, o1, rfl, hb1, hc1⟩ := HX.out (by rw [HN.out]; omega)
      obtain ⟨b1', o1', e1, hb1', hc1'⟩ := XW (by rw [HN.out]; omega)
      injection e1 with e1; injection e1 with e2 e3
      subst e2; subst e3
      have hx1 := hc1' i (by rw [HN.out]; exact hlt)
      have bxi := bx.out i
      unfold WB at bxi
      have HT := lhd (HTk.out i hlt)
      clear XW hc1 hc1' hB hown k f bx HX HTk
      generalize xs.getD i 0 = x at *
      have f1 : IntKind.i64.wrap ((x : Int).tmod 65536) = ((x % 65536 : Nat) : Int) := by
        rw [Int.tmod_eq_emod_of_nonneg (by omega)]; simp only [IntKind.wrap, IntKind.bits, IntKind.signed]; simp; omega
      have f2 : IntKind.i64.wrap (IntKind.u32.wrap ((x : Int) / 65536)) = ((x / 65536 : Nat) : Int) := by
        simp only [IntKind.wrap, IntKind.bits, IntKind.signed]; simp; omega
      have HH := lhd (show halves (xs.take (i + 1)) = halves (xs.take i) ++ [x % 65536, x / 65536] by rw [HT.out, halves_snoc])
      generalize x % 65536 = a0 at *
      generalize x / 65536 = a1 at *
      have hi0 : (0 : Int) ≤ (i : Int) := Int.natCast_nonneg _
      have hi1 : (i : Int) < (n : Int) := by omega
      go_wp2_with fail
      go_region_held3 (fun w' => w'.cell? ⟨w.heap.size, 1, none⟩ = some (.slice (some ⟨b1, o1, none⟩) n c) ∧ w'.cell? ⟨b1, o1 + i, none⟩ = some (.int .u32 (x : Nat)))
        (first
          | go_keep
          | (go_split_ands
             refine ⟨?_, ?_⟩
             · (rw [hgrow.cell_far _ (by simp; omega) (fun e => by have := hrow.out _ e.symm; simp at this; omega)]; assumption)
             · (rw [hgrow.cell_far _ (by simp; omega) (fun e => by have := hrow.out _ e.symm; simp at this; omega)]; assumption)))
        ((refine step_append_lies _ (by rfl) _ _ _ (by rfl) (w.heap.size + 1) 3 i0 _ 1 8 Tryz.underlying88 HI.out HZ0.out HZ1.out HZ2.out rfl (by omega) _ (2 * i) _ (by rfl) ((HO.out.alloc _).drew)
            ⟨wr.heap.size, 0, none⟩ 2 2 [.int .i64 (a0 : Int), .int .i64 (a1 : Int)] (by rfl) (by rfl) (World.news_of_block (cs := #[.int .i64 (a0 : Int), .int .i64 (a1 : Int)]) (t := 3) (fr := (0, 0)) (heap_alloc_new wr _)) (by simp [Value.oneCell'])
            (by omega) (by unfold maxLen; omega) (by omega) (by simp; omega) (wr.heap.size + 1) (by simp) ?_; intro gg cap w1 hown1 hgrow hat hlt2))
      have hO1 : w1.ownsRow (w.heap.size + 1) 3 1 (.slice (some ⟨gg, 0, none⟩) (2 * i + 2) cap) (2 * (i + 1)) (cells .i64 (halves (xs.take (i + 1)))) := by
        rw [HH.out, cells_append2]
        exact hown1
      have hB1 : Below (w.heap.size + 1) (w.alloc (.cells #[.bool s, .slice (some ⟨b1, o1, none⟩) n c] 58)) w1 :=
        ((HB'.out.alloc (by omega) _).drew).grown hgrow (by simp; omega) (fun k hk => hrow.out k hk)
      have HO1 := lhd hO1; have HB1 := lhd hB1
      clear hO1 hB1 hown1 hgrow hat
      go_wp2_with fail
      exact ⟨⟨i + 1, by go_num, by omega, HO1.out, HB1.out⟩, by simp [intOf]; omega⟩
    · obtain rfl : i = n := by omega
      rw [HAll.out] at hown
      rw [← HL.out] at hown
      obtain ⟨A2, c2, rfl, s1, s2, s3, s4⟩ := own_shows hown
      have hT := rTrim_any A2 (halves xs) c2 wr s1 HDg.out s2 s3 (by rw [HL.out]; omega)
      rw [HV.out, HL.out] at hT
      have HT := lhd hT
      have HB2 := lhd (below_slot hB)
      have hzz : w.heap.size ≤ wr.heap.size := by omega
      rw [HL.out]
      clear hown s1 s2 s3 s4 hT HTk HAll bx hrow HO HB' hB k f HL
      go_wp2_with fail
      refine HT.out.mono ?_
      rintro e w2 ⟨A3, c3, rfl, p1, p2, p3, p4, p5⟩
      have P1 := lhd p1; have P4 := lhd (p4.mono hzz); have P5 := lhd p5
      clear p1 p4 p5 HT
      go_wp2_with fail
      go_ret
      exact ⟨A3, c3, rfl, P1.out, p2, p3, P4.out, HB2.out.trans (P5.out.mono hzz)⟩
theorem ltb_lt {a b : Nat} (h : a < b) : decide (a < b) = true := decide_eq_true h
theorem ltb_ge {a b : Nat} (h : b ≤ a) : decide (a < b) = false := decide_eq_false (by omega)
set_option maxHeartbeats 1000000 in
theorem rLess_any (A A' : Option Addr) (a b c c' : Nat) (w : World) (ha : Shows .i64 w A (digs HB a)) (hb : Shows .i64 w A' (digs HB b)) (hal : hl a ≤ 3000000) :
  Calls Tryz.prog 126 #[.slice A (hl a) c, .slice A' (hl b) c'] w (Ret w (.bool (decide (a < b)))) := by
 have h1 := lhd (fun h : hl a < hl b => ltb_lt (cmp_len HB2 h))
 have h2 := lhd (fun h : hl b < hl a => ltb_ge (Nat.le_of_lt (cmp_len HB2 h)))
 by_cases hne : hl a = hl b
 ·have hle : (digs HB a).length = (digs HB b).length := hne
  have hda := dig_digs' HB2 a
  have hdb := dig_digs' HB2 b
  have va := val_digs' HB2 a
  have vb := val_digs' HB2 b
  have f1 := lhd (fun (i : Nat) (hi : i < (digs HB a).length) (hd : (digs HB a).drop (i + 1) = (digs HB b).drop (i + 1)) (h : (digs HB a).getD i 0 < (digs HB b).getD i 0) =>
   ltb_lt (by have := cmp_top hda hle hi hd h; rwa [va, vb] at this))
  have f2 := lhd (fun (i : Nat) (hi : i < (digs HB a).length) (hd : (digs HB a).drop (i + 1) = (digs HB b).drop (i + 1)) (h : (digs HB b).getD i 0 < (digs HB a).getD i 0) =>
   ltb_ge (Nat.le_of_lt (by have := cmp_top hdb hle.symm (by omega) hd.symm h; rwa [va, vb] at this)))
  have f3 := lhd (fun (i : Nat) (hi : i < (digs HB a).length) (hd : (digs HB a).drop (i + 1) = (digs HB b).drop (i + 1)) (h : (digs HB a).getD i 0 = (digs HB b).getD i 0) => drop_step hle hi hd h)
  have f4 := lhd (fun (hd : (digs HB a).drop 0 = (digs HB b).drop 0) => ltb_ge (show b ≤ a by have := congrArg (val HB) hd; rw [List.drop_zero, List.drop_zero, va, vb] at this; omega))
  have g0 := lhd (show (digs HB a).drop (hl a) = (digs HB b).drop (hl a) from drop_len hle)
  have HA := lhd (show 0 < hl a → ∃ b o, A = some ⟨b, o, none⟩ ∧ b < w.heap.size ∧ ∀ i, i < hl a → w.cell? ⟨b, o + i, none⟩ = some (.int .i64 ((digs HB a).getD i 0 : Nat)) from ha)
  have HB := lhd (show 0 < hl b → ∃ b' o, A' = some ⟨b', o, none⟩ ∧ b' < w.heap.size ∧ ∀ i, i < hl b → w.cell? ⟨b', o + i, none⟩ = some (.int .i64 ((digs HB b).getD i 0 : Nat)) from hb)
  change Hid (∀ (i : Nat), i < hl a → _) at f1 f2 f3
  clear h1 h2 ha hb hle hda hdb va vb
  rw [← hne] at HB ⊢
  clear hne
  generalize decide (a < b) = B at *
  generalize hl a = n at *
  go_enter Tryz.func126, Tryz.ntmps126
  go_wp2
  go_loopw [5] (fun s wr => ∃ k : Nat, s = .int .i64 ((k : Int) - 1) ∧ k ≤ n ∧ (digs FF.HB a).drop k = (digs FF.HB b).drop k ∧ ∃ m, wr = w.drewN m) (fun s _ => (intOf s + 1).toNat)
  case atStart => exact ⟨n, rfl, Nat.le_refl _, g0.out, 0, rfl⟩
  case round =>
   clear g0
   obtain ⟨k, rfl, hk, hd, m, rfl⟩ := hrel
   have HD := lhd hd; clear hd
   by_cases h0 : 0 < k
   ·obtain ⟨j, rfl⟩ : ∃ j, k = j + 1 := ⟨k - 1, by omega⟩
    rw [show ((j + 1 : Nat) : Int) - 1 = (j : Int) by omega]
    obtain ⟨b1, o1, rfl, hb1, hc1⟩ := HA.out (by omega)
    obtain ⟨b2, o2, rfl, hb2, hc2⟩ := HB.out (by omega)
    have x1 := hc1 j (by omega)
    have x2 := hc2 j (by omega)
    have q1 := f1.out j (by omega) HD.out
    have q2 := f2.out j (by omega) HD.out
    have q3 := f3.out j (by omega) HD.out
    clear hc1 hc2 f1 f2 f3 f4 HA HB HD
    generalize (digs FF.HB a).getD j 0 = x at *
    generalize (digs FF.HB b).getD j 0 = y at *
    have hj : (j : Int) < n := by omega
    by_cases hxy : x = y
    ·have hQ := lhd (q3 hxy)
     clear q1 q2 q3
     subst hxy
     go_wp2
     go_quiet (fail)
     go_wp2
     exact ⟨⟨j, rfl, by omega, hQ.out, _, rfl⟩, by simp [intOf]⟩
    ·by_cases hlt : x < y
     ·have hQ := lhd (q1 hlt)
      clear q1 q2 q3
      have d1 : ((x : Int) != y) = true := bne_iff_ne.2 (by omega)
      have d2 : decide (x < y) = true := decide_eq_true hlt
      clear hxy hlt
      go_wp2
      go_quiet (fail)
      go_wp2
      go_quiet (fail)
      go_wp2
      go_ret
      exact Ret.eqqq _ _ _ (ret_bool hQ.out.symm)
     ·have hQ := lhd (q2 (by omega))
      clear q1 q2 q3
      have d1 : ((x : Int) != y) = true := bne_iff_ne.2 (by omega)
      have d2 : decide (x < y) = false := decide_eq_false hlt
      clear hxy hlt
      go_wp2
      go_quiet (fail)
      go_wp2
      go_quiet (fail)
      go_wp2
      go_ret
      exact Ret.eqqq _ _ _ (ret_bool hQ.out.symm)
   ·obtain rfl : k = 0 := by omega
    have hF := lhd (f4.out HD.out)
    clear f1 f2 f3 f4 HA HB HD
    go_wp2
    go_ret
    exact Ret.eq _ (ret_bool hF.out.symm)
 ·have d0 : (((hl a : Nat) : Int) != (hl b : Nat)) = true := bne_iff_ne.2 (by omega)
  clear ha hb
  by_cases hlt : hl a < hl b
  ·have hQ := lhd (h1.out hlt)
   have d2 : decide (hl a < hl b) = true := decide_eq_true hlt
   clear h1 h2 hlt hne
   generalize hl a = n at *
   generalize hl b = m at *
   go_enter Tryz.func126, Tryz.ntmps126
   go_wp2
   go_ret
   exact Ret.eq0 (ret_bool hQ.out.symm)
  ·have hQ := lhd (h2.out (by omega))
   have d2 : decide (hl a < hl b) = false := decide_eq_false hlt
   clear h1 h2 hlt hne
   generalize hl a = n at *
   generalize hl b = m at *
   go_enter Tryz.func126, Tryz.ntmps126
   go_wp2
   go_ret
   exact Ret.eq0 (ret_bool hQ.out.symm)
set_option maxRecDepth 100000 in
set_option maxHeartbeats 4000000 in
theorem rPlus_any (A A' : Option Addr) (xs ys : List Nat) (c c' : Nat) (w : World) (hx : Shows .i64 w A xs) (hy : Shows .i64 w A' ys) (dx : Dig HB xs) (dy : Dig HB ys) (hxl : xs.length ≤ 2000000) (hyl : ys.length ≤ 2000000) :
  Calls Tryz.prog 125 #[.slice A xs.length c, .slice A' ys.length c'] w (HalfPost w (val HB xs + val HB ys)) := by
 obtain ⟨i0, hi, hz0, hz1, hz2⟩ := info_parts info_int
 have HI := lhd hi; have HZ0 := lhd hz0; have HZ1 := lhd hz1; have HZ2 := lhd hz2
 clear hi hz0 hz1 hz2
 obtain ⟨n, hn⟩ : ∃ n, xs.length = n := ⟨_, rfl⟩
 obtain ⟨m, hm⟩ : ∃ m, ys.length = m := ⟨_, rfl⟩
 have HX := lhd hx; have HY := lhd hy
 have bx : Hid (∀ i, xs.getD i 0 < 65536) := lhd (fun i => dx.getD (show 0 < HB by decide) i)
 have by' : Hid (∀ i, ys.getD i 0 < 65536) := lhd (fun i => dy.getD (show 0 < HB by decide) i)
 have px := lhd (fun i (hi : n ≤ i) => (show xs.getD i 0 = 0 from getD_past (by omega)))
 have py := lhd (fun i (hi : m ≤ i) => (show ys.getD i 0 = 0 from getD_past (by omega)))
 have tx := lhd (fun i (hi : n ≤ i) => (show xs.take i = xs from List.take_of_length_le (by omega)))
 have ty := lhd (fun i (hi : m ≤ i) => (show ys.take i = ys from List.take_of_length_le (by omega)))
 have Hn := lhd hn; have Hm := lhd hm
 rw [hn, hm]
 rw [hn] at hxl
 rw [hm] at hyl
 clear hx hy dx dy hn hm
 unfold HalfPost
 go_enter Tryz.func125, Tryz.ntmps125
 go_wp2
 go_loopw [5, 6, 7] (fun s5 s6 s7 wr => ∃ (i cy : Nat) (ds : List Nat) (v : Value), v = s5 ∧ s6 = .int .i64 cy ∧ s7 = .int .i64 i ∧ i ≤ max n m + 1 ∧ cy ≤ 1 ∧ ds.length = i ∧ Dig HB ds ∧ val HB ds + HB ^ i * cy = val HB (xs.take i) + val HB (ys.take i) ∧
  (max n m < i → cy = 0) ∧ wr.ownsRow w.heap.size 3 1 v i (cells .i64 ds) ∧ Below w.heap.size w wr) (fun _ _ s _ => max n m + 2 - (intOf s).toNat)
 case atStart => exact ⟨0, 0, [], _, rfl, rfl, rfl, Nat.zero_le _, Nat.zero_le _, rfl, fun x hx => absurd hx (by simp), by simp [val], fun _ => rfl, ⟨by simp [cells], .inl ⟨rfl, rfl⟩⟩, Below.refl _ _⟩
 case round =>
  obtain ⟨i, cy, ds, v, rfl, rfl, rfl, hi, hcy, hdl, hdd, hv, hmx, hown, hB⟩ := hrel
  have bxi := bx.out i
  have byi := by'.out i
  have pxi := px.out i
  have pyi := py.out i
  have hstep := lhd (plus_step (B := HB) (c := cy) hdl hv (rfl : xs.getD i 0 + ys.getD i 0 + cy = _))
  have HO := lhd hown; have HB' := lhd hB; have HD := lhd hdd; have HL := lhd hdl
  have hrow := lhd (own_row_ge hown)
  have hwz := hB.size
  have xW := HX.out.below hB
  have yW := HY.out.below hB
  have hend : Hid (n ≤ i → m ≤ i → cy = 0 → val HB ds = val HB xs + val HB ys) := lhd (fun h1 h2 h3 => by rw [tx.out i h1, ty.out i h2, h3, Nat.mul_zero, Nat.add_zero] at hv; exact hv)
  clear hv hown hB hdd hdl bx by' px py tx ty
  obtain ⟨x, ex⟩ : ∃ x, xs.getD i 0 = x := ⟨_, rfl⟩
  obtain ⟨y, ey⟩ : ∃ y, ys.getD i 0 = y := ⟨_, rfl⟩
  rw [ex] at bxi pxi hstep
  rw [ey] at byi pyi hstep
  by_cases hin : i < n
  ·obtain ⟨b1, o1, rfl, hb1, hc1⟩ := xW (by rw [Hn.out]; omega)
   have k1 := hc1 i (by rw [Hn.out]; exact hin)
   rw [ex] at k1
   clear hc1 pxi ex
   have d1 := decide_eq_true hin
   by_cases him : i < m
   ·obtain ⟨b2, o2, rfl, hb2, hc2⟩ := yW (by rw [Hm.out]; omega)
    have k2 := hc2 i (by rw [Hm.out]; exact him)
    rw [ey] at k2
    clear hc2 pyi ey
    go_wp2_with (at_builtin; refine wpList_append_own _ rfl (.tmp 44) (.tmp 47) 88 rfl w.heap.size 3 i0 (.int .i64 0) 1 8 Tryz.underlying88 HI.out HZ0.out HZ1.out HZ2.out rfl (by decide) v i (cells .i64 ds) rfl (HO.out.alloc _) ⟨wr.heap.size, 0, none⟩ 1 1 [.int .i64 (((cy : Int) + x + y) % 65536)] rfl rfl (fun j u hj => by match j, hj with | 0, hj => simp at hj; subst hj; simp [Addr.add, go_sem]) (fun u hu => by simp at hu; subst hu; rfl) (by unfold maxLen; omega) (by omega) (by simp; omega) ?_; intro v1 w1 hown1 hgrow1 _)
    have hO1 : w1.ownsRow w.heap.size 3 1 v1 (i + 1) (cells .i64 (ds ++ [(x + y + cy) % 65536])) := by
     rw [← cells_snoc, show (((x + y + cy) % 65536 : Nat) : Int) = ((cy : Int) + x + y) % 65536 by omega]
     exact hown1
    have hB1 := (HB'.out.alloc (by omega) _).grown hgrow1 (by simp; omega) (fun k hk => hrow.out k hk)
    obtain ⟨A9, c9, rfl⟩ := own_form hown1
    have HO1 := lhd hO1; have HB1 := lhd hB1
    clear hO1 hB1 hown1 hgrow1
    go_wp2_with fail
    exact ⟨⟨i + 1, (x + y + cy) / 65536, ds ++ [(x + y + cy) % 65536], _, rfl, by rw [show ((cy : Int) + x + y) / 65536 = (((x + y + cy) / 65536 : Nat) : Int) by omega], by go_num, by omega, by omega, by simp [HL.out], dig_snoc HD.out (Nat.mod_lt _ (by decide)), hstep.out, fun h => absurd h (by omega), HO1.out, HB1.out⟩, by simp [intOf]; omega⟩
   ·have Y0 := lhd (pyi (by omega))
    have d2 := decide_eq_false him
    clear pyi ey yW
    go_wp2_with (at_builtin; refine wpList_append_own _ rfl (.tmp 44) (.tmp 47) 88 rfl w.heap.size 3 i0 (.int .i64 0) 1 8 Tryz.underlying88 HI.out HZ0.out HZ1.out HZ2.out rfl (by decide) v i (cells .i64 ds) rfl (HO.out.alloc _) ⟨wr.heap.size, 0, none⟩ 1 1 [.int .i64 (((cy : Int) + x) % 65536)] rfl rfl (fun j u hj => by match j, hj with | 0, hj => simp at hj; subst hj; simp [Addr.add, go_sem]) (fun u hu => by simp at hu; subst hu; rfl) (by unfold maxLen; omega) (by omega) (by simp; omega) ?_; intro v1 w1 hown1 hgrow1 _)
    have hO1 : w1.ownsRow w.heap.size 3 1 v1 (i + 1) (cells .i64 (ds ++ [(x + y + cy) % 65536])) := by
     rw [← cells_snoc, show (((x + y + cy) % 65536 : Nat) : Int) = ((cy : Int) + x) % 65536 by have := Y0.out; omega]
     exact hown1
    have hB1 := (HB'.out.alloc (by omega) _).grown hgrow1 (by simp; omega) (fun k hk => hrow.out k hk)
    obtain ⟨A9, c9, rfl⟩ := own_form hown1
    have HO1 := lhd hO1; have HB1 := lhd hB1
    clear hO1 hB1 hown1 hgrow1
    go_wp2_with fail
    exact ⟨⟨i + 1, (x + y + cy) / 65536, ds ++ [(x + y + cy) % 65536], _, rfl, by rw [show ((cy : Int) + x) / 65536 = (((x + y + cy) / 65536 : Nat) : Int) by have := Y0.out; omega], by go_num, by omega, by omega, by simp [HL.out], dig_snoc HD.out (Nat.mod_lt _ (by decide)), hstep.out, fun h => absurd h (by omega), HO1.out, HB1.out⟩, by simp [intOf]; omega⟩
  ·have X0 := lhd (pxi (by omega))
   have d1 := decide_eq_false hin
   clear pxi ex xW
   by_cases him : i < m
   ·obtain ⟨b2, o2, rfl, hb2, hc2⟩ := yW (by rw [Hm.out]; omega)
    have k2 := hc2 i (by rw [Hm.out]; exact him)
    rw [ey] at k2
    have d2 := decide_eq_true him
    clear hc2 pyi ey
    go_wp2_with (at_builtin; refine wpList_append_own _ rfl (.tmp 44) (.tmp 47) 88 rfl w.heap.size 3 i0 (.int .i64 0) 1 8 Tryz.underlying88 HI.out HZ0.out HZ1.out HZ2.out rfl (by decide) v i (cells .i64 ds) rfl (HO.out.alloc _) ⟨wr.heap.size, 0, none⟩ 1 1 [.int .i64 (((cy : Int) + y) % 65536)] rfl rfl (fun j u hj => by match j, hj with | 0, hj => simp at hj; subst hj; simp [Addr.add, go_sem]) (fun u hu => by simp at hu; subst hu; rfl) (by unfold maxLen; omega) (by omega) (by simp; omega) ?_; intro v1 w1 hown1 hgrow1 _)
    have hO1 : w1.ownsRow w.heap.size 3 1 v1 (i + 1) (cells .i64 (ds ++ [(x + y + cy) % 65536])) := by
     rw [← cells_snoc, show (((x + y + cy) % 65536 : Nat) : Int) = ((cy : Int) + y) % 65536 by have := X0.out; omega]
     exact hown1
    have hB1 := (HB'.out.alloc (by omega) _).grown hgrow1 (by simp; omega) (fun k hk => hrow.out k hk)
    obtain ⟨A9, c9, rfl⟩ := own_form hown1
    have HO1 := lhd hO1; have HB1 := lhd hB1
    clear hO1 hB1 hown1 hgrow1
    go_wp2_with fail
    exact ⟨⟨i + 1, (x + y + cy) / 65536, ds ++ [(x + y + cy) % 65536], _, rfl, by rw [show ((cy : Int) + y) / 65536 = (((x + y + cy) / 65536 : Nat) : Int) by have := X0.out; omega], by go_num, by omega, by omega, by simp [HL.out], dig_snoc HD.out (Nat.mod_lt _ (by decide)), hstep.out, fun h => absurd h (by omega), HO1.out, HB1.out⟩, by simp [intOf]; omega⟩
   ·have Y0 := lhd (pyi (by omega))
    have d2 := decide_eq_false him
    clear pyi ey yW
    by_cases hc : 0 < cy
    ·have him2 : i ≤ max n m := Nat.le_of_not_lt fun h => absurd (hmx h) (by omega)
     have hc' : (0 : Int) < cy := by omega
     go_wp2_with (at_builtin; refine wpList_append_own _ rfl (.tmp 44) (.tmp 47) 88 rfl w.heap.size 3 i0 (.int .i64 0) 1 8 Tryz.underlying88 HI.out HZ0.out HZ1.out HZ2.out rfl (by decide) v i (cells .i64 ds) rfl (HO.out.alloc _) ⟨wr.heap.size, 0, none⟩ 1 1 [.int .i64 (((cy : Int)) % 65536)] rfl rfl (fun j u hj => by match j, hj with | 0, hj => simp at hj; subst hj; simp [Addr.add, go_sem]) (fun u hu => by simp at hu; subst hu; rfl) (by unfold maxLen; omega) (by omega) (by simp; omega) ?_; intro v1 w1 hown1 hgrow1 _)
     have hO1 : w1.ownsRow w.heap.size 3 1 v1 (i + 1) (cells .i64 (ds ++ [(x + y + cy) % 65536])) := by
      rw [← cells_snoc, show (((x + y + cy) % 65536 : Nat) : Int) = ((cy : Int)) % 65536 by have := Y0.out; have := X0.out; omega]
      exact hown1
     have hB1 := (HB'.out.alloc (by omega) _).grown hgrow1 (by simp; omega) (fun k hk => hrow.out k hk)
     obtain ⟨A9, c9, rfl⟩ := own_form hown1
     have HO1 := lhd hO1; have HB1 := lhd hB1
     clear hO1 hB1 hown1 hgrow1
     go_wp2_with fail
     exact ⟨⟨i + 1, (x + y + cy) / 65536, ds ++ [(x + y + cy) % 65536], _, rfl, by rw [show ((cy : Int)) / 65536 = (((x + y + cy) / 65536 : Nat) : Int) by have := Y0.out; have := X0.out; omega], by go_num, by omega, by omega, by simp [HL.out], dig_snoc HD.out (Nat.mod_lt _ (by decide)), hstep.out, fun _ => by have := Y0.out; have := X0.out; omega, HO1.out, HB1.out⟩, by simp [intOf]; omega⟩
    ·have hE := lhd (hend.out (by omega) (by omega) (by omega))
     have hc' : ¬ (0 : Int) < cy := by omega
     have hown : wr.ownsRow w.heap.size 3 1 v ds.length (cells .i64 ds) := by rw [HL.out]; exact HO.out
     obtain ⟨A2, c2, rfl, s1, s2, s3, s4⟩ := own_shows hown
     have hT := rTrim_any A2 ds c2 wr s1 HD.out s2 s3 (by rw [HL.out]; omega)
     rw [hE.out, HL.out] at hT
     have HT := lhd hT
     rw [HL.out]
     clear hown s1 s2 s3 s4 hT hrow HO hE hend hstep hmx HD
     go_wp2_with fail
     refine HT.out.mono ?_
     rintro e w2 ⟨A3, c3, rfl, p1, p2, p3, p4, p5⟩
     have P1 := lhd p1; have P4 := lhd (p4.mono hwz); have P5 := lhd p5
     clear p1 p4 p5 HT
     go_wp2_with fail
     go_ret
     exact ⟨A3, c3, rfl, P1.out, p2, p3, P4.out, HB'.out.trans (P5.out.mono hwz)⟩
end Go.Proofs.YtimdkjbmeogpoaaGreatDoor
end
