/- Words: minus. Words: short. Words: divide by one word; DivMod out of divide. Words: DivMod where nothing is to be put right. Words: DivMod. -/
import Derived.Test.YtimdkjbmeogpoaaGreatDoorUWordA
import Derived.Laws.Bits64b
namespace Go.Proofs.YtimdkjbmeogpoaaGreatDoor
open Go.RowKit FF
theorem row_make (N : Nat) (hl : N ≤ 1000000000) : ∀ W : World, (Instr.makeSlice 157 (.int .i64 (N : Int)) (.int .i64 (N : Int))).run Tryz.prog W =
  .ok (.slice (some ⟨W.heap.size, 0, none⟩) N N) (W.alloc (.cells (madeCells #[.int .u32 0] N) 186)) :=
 fun W => run_make_row' (P := Tryz.prog) 157 186 (.int .u32 0) 4 Tryz.underlying157 info_u32 rfl .i64 .i64 N (by omega) (by omega) W
theorem sub_lo {x y cy : Nat} (hy : y < 4294967296) (hc : cy ≤ 1) (h : x < y + cy) :
  IntKind.u64.wrap (IntKind.u64.wrap ((x : Int) - y) - cy) % 4294967296 = ((x + 4294967296 - y - cy : Nat) : Int) := by
 simp only [IntKind.wrap, IntKind.bits, IntKind.signed]; simp; omega
theorem sub_hi {x y cy : Nat} (hy : y < 4294967296) (hc : cy ≤ 1) (h : x < y + cy) :
  IntKind.u64.wrap (IntKind.u64.wrap ((x : Int) - y) - cy) / 9223372036854775808 = ((1 : Nat) : Int) := by
 simp only [IntKind.wrap, IntKind.bits, IntKind.signed]; simp; omega
theorem int_eq {k : IntKind} {a b : Int} (h : a = b) : Value.int k a = Value.int k b := by rw [h]
set_option maxHeartbeats 1000000 in
theorem minus_any (A A' : Option Addr) (xs ys : List Nat) (c c' : Nat) (w : World) (hx : Shows .u32 w A xs) (hy : Shows .u32 w A' ys) (dx : Dig WB xs) (dy : Dig WB ys) (hxl : xs.length ≤ 1000000)
  (hyl : ys.length ≤ xs.length) (hle : val WB ys ≤ val WB xs) :
  Calls Tryz.prog 116 #[.slice A xs.length c, .slice A' ys.length c'] w fun e w' =>
   ∃ A2, e = .returned (.slice A2 (wl (val WB xs - val WB ys)) (wl (val WB xs - val WB ys))) ∧ Shows .u32 w' A2 (digs WB (val WB xs - val WB ys)) ∧ Fresh w.heap.size A2 ∧ Below w.heap.size w w' := by
 generalize hN : xs.length = N at *
 have hmk := row_make N (by omega)
 have haty := lhd (fun (i : Nat) (w' : World) (hi : i ≤ N) (h : Shows .u32 w' A' ys) => at_any A' ys c' i w' h (by omega) dy)
 have bx := lhd (fun i => dx.getD (show 0 < WB by decide) i)
 have by' := lhd (fun i => dy.getD (show 0 < WB by decide) i)
 have HX := lhd hx; have HY := lhd hy
 have fin1 := lhd (show xs.take N = xs from List.take_of_length_le (by omega))
 have fin2 := lhd (show ys.take N = ys from List.take_of_length_le (by omega))
 have hXN : Hid (xs.length = N) := lhd hN
 have HLE := lhd hle
 clear hx hy dx dy hN hle
 generalize hn2 : ys.length = n2 at *
 clear hn2
 go_enter Tryz.func116, Tryz.ntmps116
 go_wp2
 go_loopw [6, 7, 8, 14] (fun s6 _ _ s14 wr => ∃ (i cy : Nat) (ds : List Nat), s6 = .int .u64 cy ∧ s14 = .int .i64 i ∧ i ≤ N ∧ cy ≤ 1 ∧ ds.length = i ∧ Dig WB ds ∧ val WB ds + val WB (ys.take i) = val WB (xs.take i) + WB ^ i * cy ∧ wr.rowIs w.heap.size 186 N (rowF ds) ∧ Below w.heap.size w wr) (fun _ _ _ s _ => N - (intOf s).toNat)
 case atStart => exact ⟨0, 0, [], rfl, rfl, Nat.zero_le _, Nat.zero_le _, rfl, fun x hx => absurd hx (by simp), by simp [val], (World.rowIs_made w _ N _).congr (fun i _ => by rw [← rowF_nil]), (Below.refl _ _).alloc (Nat.le_refl _) _⟩
 case round =>
  obtain ⟨i, cy, ds, rfl, rfl, hi, hcy, hdl, hdd, hv, hr, hb⟩ := hrel
  by_cases hiN : i < N
  ·have sx := HX.out.below hb
   have sy := HY.out.below hb
   have bxi := bx.out i
   have byi := by'.out i
   have cyy := lhd (fun W (h : Shows .u32 W A' ys) => haty.out i W (by omega) h)
   have hstep := lhd (fun c' d hh => minus_step (B := WB) (xs := xs) (ys := ys) (c := cy) (c' := c') (d := d) hdl hv hh)
   unfold WB at bxi byi
   have hcell := hr.cell hiN
   have hfro := hr.frozen i
   have hGs : w.heap.size < wr.heap.size := hr.lt
   obtain ⟨b1, o1, rfl, hb1, hc1⟩ := sx (by rw [hXN.out]; omega)
   have hx1 := hc1 i (by rw [hXN.out]; exact hiN)
   have HR := lhd hr; have HB := lhd hb; have HD := lhd hdd; have HL := lhd hdl
   have SY := lhd sy
   clear hv hr hb hdd hdl sx sy haty bx by' fin1 fin2 hmk HLE hc1
   generalize xs.getD i 0 = x at *
   generalize ys.getD i 0 = y at *
   have hiN' : (i : Int) < N := by omega
   by_cases hc : y + cy ≤ x
   ·go_wp2_with fail
    go_quiet ((go_at_call 149; exact Calls.quiet_of (cyy.out _ (SY.out.drewN _))))
    go_wp2_with fail
    have hs := hstep.out 0 (x - y - cy) (by unfold WB; omega)
    refine ⟨⟨i + 1, 0, ds ++ [x - y - cy], int_eq (by omega), by go_num, by omega, by omega, by simp [HL.out], dig_snoc HD.out (by unfold WB; omega), hs, ?_, ?_⟩, by simp [intOf]; omega⟩
    ·have := rowIs_snoc (d := x - y - cy) (w := wr.drewN nq) (HR.out : (wr.drewN nq).rowIs w.heap.size 186 N (rowF ds))
     rw [HL.out] at this
     rw [show ((x : Int) - y - cy) = ((x - y - cy : Nat) : Int) by omega]
     exact this
    ·exact (below_drewN HB.out _).setCell (Nat.le_refl _) _
   ·go_wp2_with fail
    go_quiet ((go_at_call 149; exact Calls.quiet_of (cyy.out _ (SY.out.drewN _))))
    go_wp2_with fail
    have hs := hstep.out 1 (x + 4294967296 - y - cy) (by unfold WB; omega)
    refine ⟨⟨i + 1, 1, ds ++ [x + 4294967296 - y - cy], int_eq (sub_hi byi hcy (by omega)), by go_num, by omega, by omega, by simp [HL.out], dig_snoc HD.out (by unfold WB; omega), hs, ?_, ?_⟩, by simp [intOf]; omega⟩
    ·have := rowIs_snoc (d := x + 4294967296 - y - cy) (w := wr.drewN nq) (HR.out : (wr.drewN nq).rowIs w.heap.size 186 N (rowF ds))
     rw [HL.out] at this
     rw [sub_lo byi hcy (by omega)]
     exact this
    ·exact (below_drewN HB.out _).setCell (Nat.le_refl _) _
  ·obtain rfl : N = i := by omega
   rw [fin1.out, fin2.out] at hv
   have hz : cy = 0 := by
    apply Classical.byContradiction; intro hc
    have h1 := HLE.out
    have h2 : WB ^ N * 1 ≤ WB ^ N * cy := Nat.mul_le_mul_left _ (by omega)
    have h3 := val_lt hdd
    rw [hdl] at h3
    omega
   rw [hz, Nat.mul_zero, Nat.add_zero] at hv
   have hv2 : val WB ds = val WB xs - val WB ys := by omega
   have sh := rowIs_shows hr hdl
   have T1 := trimmed_any (some ⟨w.heap.size, 0, none⟩) ds N wr sh hdd (by omega) (by unfold maxLen; omega)
   have S1 := sh.trim hdd
   rw [hdl, hv2] at T1
   rw [hv2] at S1
   have HT := lhd T1; have HS := lhd S1; have HB := lhd hb
   clear T1 S1 hv hv2 hr hb hdd hdl sh haty bx by' fin1 fin2 hmk hz
   go_wp2_with fail
   refine HT.out.mono ?_
   rintro e w' ⟨rfl, rfl⟩
   go_wp2_with fail
   go_ret
   exact ⟨_, rfl, HS.out, Fresh.mk (Nat.le_refl _), HB.out⟩
end Go.Proofs.YtimdkjbmeogpoaaGreatDoor
namespace Go.Proofs.YtimdkjbmeogpoaaGreatDoor
open Go.RowKit FF
theorem sval_natAbs (s : Bool) (n : Nat) : (sval s n).natAbs = n := by unfold sval; split <;> omega
theorem sval_neg (s : Bool) (n : Nat) : (s && decide (n ≠ 0)) = decide (sval s n < 0) := by
 unfold sval
 cases s
 ·rw [Bool.false_and, if_neg (by decide)]; exact (decide_eq_false (by omega)).symm
 ·rw [Bool.true_and, if_pos rfl, decide_eq_decide]; omega
end Go.Proofs.YtimdkjbmeogpoaaGreatDoor
