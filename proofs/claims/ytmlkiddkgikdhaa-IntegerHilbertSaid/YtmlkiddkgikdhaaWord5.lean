/- Words: plus, minus. -/
import Derived.Test.YtmlkiddkgikdhaaWord4
import Derived.Deep.OwnRows
namespace Go.Proofs.Ytmlkiddkgikdhaa
open Go.RowKit FF

theorem below_drewN {B : Nat} {a w : World} (h : Below B a w) (n : Nat) : Below B a (w.drewN n) := ⟨h.os, h.tape, h.output, h.size, h.block⟩
/-- a new block of words, the first ones laid -/
def rowF (ds : List Nat) : Nat → Value := fun j => .int .u32 (ds.getD j 0 : Nat)
theorem rowF_nil : (fun _ : Nat => Value.int .u32 0) = rowF [] := by funext j; simp [rowF]
theorem rowIs_snoc {w : World} {G T n : Nat} {ds : List Nat} {d : Nat} (h : w.rowIs G T n (rowF ds)) : (w.setCell ⟨G, ds.length, none⟩ (.int .u32 (d : Nat))).rowIs G T n (rowF (ds ++ [d])) := by
  refine (h.set ds.length (.int .u32 (d : Nat))).congr fun i _ => ?_
  unfold rowF
  rw [getD_snoc]
  split <;> rfl
theorem rowIs_shows {w : World} {G T n : Nat} {ds : List Nat} (h : w.rowIs G T n (rowF ds)) (hl : ds.length = n) : Shows .u32 w (some ⟨G, 0, none⟩) ds := by
  intro _
  refine ⟨G, 0, rfl, h.lt, fun i hi => ?_⟩
  rw [Nat.zero_add]
  exact h.cell (by omega)

theorem plus_make (m N : Nat) (h : N = m + 1) (hl : N ≤ 1000000000) : ∀ W : World, (Instr.makeSlice 112 (.int .i64 ((m : Int) + 1)) (.int .i64 ((m : Int) + 1))).run Try.prog W =
    .ok (.slice (some ⟨W.heap.size, 0, none⟩) N N) (W.alloc (.cells (madeCells #[.int .u32 0] N) 111)) := by
  intro W
  have := run_make_row' (P := Try.prog) 112 111 (.int .u32 0) 4 Try.underlying112 info_u32 rfl .i64 .i64 N (by omega) (by omega) W
  rw [show (N : Int) = (m : Int) + 1 by omega] at this
  exact this

set_option maxHeartbeats 1000000 in
theorem plus_any (A A' : Option Addr) (xs ys : List Nat) (c c' : Nat) (w : World) (hx : Shows .u32 w A xs) (hy : Shows .u32 w A' ys) (dx : Dig WB xs) (dy : Dig WB ys) (hxl : xs.length ≤ 1000000) (hyl : ys.length ≤ 1000000) :
    Calls Try.prog 106 #[.slice A xs.length c, .slice A' ys.length c'] w fun e w' =>
      ∃ A2, e = .returned (.slice A2 (wl (val WB xs + val WB ys)) (wl (val WB xs + val WB ys))) ∧ Shows .u32 w' A2 (digs WB (val WB xs + val WB ys)) ∧ Fresh w.heap.size A2 ∧ Below w.heap.size w w' := by
  obtain ⟨N, hN⟩ : ∃ N, N = max xs.length ys.length + 1 := ⟨_, rfl⟩
  have hNl : N ≤ 1000001 := by omega
  have hatx := Lib.hid (fun (i : Nat) (w' : World) (hi : i ≤ N) (h : Shows .u32 w' A xs) => at_any A xs c i w' h (by omega) dx)
  have haty := Lib.hid (fun (i : Nat) (w' : World) (hi : i ≤ N) (h : Shows .u32 w' A' ys) => at_any A' ys c' i w' h (by omega) dy)
  have bx := Lib.hid (fun i => dx.getD (show 0 < WB by decide) i)
  have by' := Lib.hid (fun i => dy.getD (show 0 < WB by decide) i)
  have HX := Lib.hid hx; have HY := Lib.hid hy
  have fin1 := Lib.hid (show xs.take N = xs from List.take_of_length_le (by omega))
  have fin2 := Lib.hid (show ys.take N = ys from List.take_of_length_le (by omega))
  have lim := Lib.hid (show val WB xs + val WB ys < WB ^ N by
    have h1 := val_lt dx
    have h2 := val_lt dy
    have h3 : WB ^ xs.length ≤ WB ^ (N - 1) := Nat.pow_le_pow_right (by decide) (by omega)
    have h4 : WB ^ ys.length ≤ WB ^ (N - 1) := Nat.pow_le_pow_right (by decide) (by omega)
    have h5 : WB ^ N = WB ^ (N - 1) * WB := by rw [← Nat.pow_succ]; congr 1; omega
    have h6 : WB ^ (N - 1) * 2 ≤ WB ^ (N - 1) * WB := Nat.mul_le_mul_left _ WB2
    omega)
  clear hx hy dx dy
  have HN := Lib.hid hN; clear hN
  by_cases hlt : (xs.length : Int) < ys.length
  · have hmk := plus_make ys.length N (by have := HN.out; omega) (by omega)
    generalize hn1 : xs.length = n1 at *
    generalize hn2 : ys.length = n2 at *
    go_enter Try.func106, Try.ntmps106
    go_wp2
    go_loopw [6, 7, 8, 18] (fun s6 _ _ s18 wr => ∃ (i cy : Nat) (ds : List Nat), s6 = .int .u64 cy ∧ s18 = .int .i64 i ∧ i ≤ N ∧ cy ≤ 1 ∧ ds.length = i ∧ Dig WB ds ∧ val WB ds + WB ^ i * cy = val WB (xs.take i) + val WB (ys.take i) ∧ wr.rowIs w.heap.size 111 N (rowF ds) ∧ Below w.heap.size w wr) (fun _ _ _ s _ => N - (intOf s).toNat)
    case atStart => exact ⟨0, 0, [], rfl, rfl, Nat.zero_le _, Nat.zero_le _, rfl, fun x hx => absurd hx (by simp), by simp [val], (World.rowIs_made w _ N _).congr (fun i _ => by rw [← rowF_nil]), (Below.refl _ _).alloc (Nat.le_refl _) _⟩
    case round =>
      obtain ⟨i, cy, ds, rfl, rfl, hi, hcy, hdl, hdd, hv, hr, hb⟩ := hrel
      by_cases hiN : i < N
      · have sx := HX.out.below hb
        have sy := HY.out.below hb
        have bxi := bx.out i
        have byi := by'.out i
        have cx := Lib.hid (fun W (h : Shows .u32 W A xs) => hatx.out i W (by omega) h)
        have cyy := Lib.hid (fun W (h : Shows .u32 W A' ys) => haty.out i W (by omega) h)
        have hstep := Lib.hid (plus_step (B := WB) (c := cy) hdl hv (rfl : xs.getD i 0 + ys.getD i 0 + cy = _))
        unfold WB at bxi byi
        have hcell := hr.cell hiN
        have hfro := hr.frozen i
        have hGs : w.heap.size < wr.heap.size := hr.lt
        have HR := Lib.hid hr; have HB := Lib.hid hb; have HD := Lib.hid hdd; have HL := Lib.hid hdl
        have SX := Lib.hid sx; have SY := Lib.hid sy
        clear hv hr hb hdd hdl sx sy hatx haty bx by' fin1 fin2 lim hmk
        generalize xs.getD i 0 = x at *
        generalize ys.getD i 0 = y at *
        go_wp2_with fail
        refine (cx.out _ SX.out).mono ?_
        rintro e w' ⟨rfl, n3, rfl⟩
        go_wp2_with fail
        refine (cyy.out _ (SY.out.drewN _)).mono ?_
        rintro e w' ⟨rfl, n4, rfl⟩
        go_wp2_with fail
        refine ⟨⟨i + 1, (x + y + cy) / 4294967296, ds ++ [(x + y + cy) % 4294967296], rfl, by go_num, by omega, by omega, by simp [HL.out], dig_snoc HD.out (Nat.mod_lt _ (by decide)), hstep.out, ?_, ?_⟩, by simp [intOf]; omega⟩
        · have := rowIs_snoc (d := (x + y + cy) % 4294967296) (w := wr.drewN (n3 + n4)) (HR.out : (wr.drewN (n3 + n4)).rowIs w.heap.size 111 N (rowF ds))
          rw [HL.out] at this
          exact this
        · exact (below_drewN HB.out _).setCell (Nat.le_refl _) _
      · obtain rfl : N = i := by omega
        have hz : cy = 0 := by
          apply Classical.byContradiction; intro hc
          have h1 := lim.out
          have h2 : WB ^ N * 1 ≤ WB ^ N * cy := Nat.mul_le_mul_left _ (by omega)
          rw [fin1.out, fin2.out] at hv
          omega
        rw [fin1.out, fin2.out, hz, Nat.mul_zero, Nat.add_zero] at hv
        have sh := rowIs_shows hr hdl
        have T1 := trimmed_any (some ⟨w.heap.size, 0, none⟩) ds N wr sh hdd (by omega) (by unfold maxLen; omega)
        have S1 := sh.trim hdd
        rw [hdl, hv] at T1
        rw [hv] at S1
        have HT := Lib.hid T1; have HS := Lib.hid S1; have HB := Lib.hid hb
        clear T1 S1 hv hr hb hdd hdl sh hatx haty bx by' fin1 fin2 lim hmk hz
        go_wp2_with fail
        refine HT.out.mono ?_
        rintro e w' ⟨rfl, rfl⟩
        go_wp2_with fail
        go_ret
        exact ⟨_, rfl, HS.out, Fresh.mk (Nat.le_refl _), HB.out⟩
  · have hmk := plus_make xs.length N (by have := HN.out; omega) (by omega)
    generalize hn1 : xs.length = n1 at *
    generalize hn2 : ys.length = n2 at *
    go_enter Try.func106, Try.ntmps106
    go_wp2
    go_loopw [6, 7, 8, 18] (fun s6 _ _ s18 wr => ∃ (i cy : Nat) (ds : List Nat), s6 = .int .u64 cy ∧ s18 = .int .i64 i ∧ i ≤ N ∧ cy ≤ 1 ∧ ds.length = i ∧ Dig WB ds ∧ val WB ds + WB ^ i * cy = val WB (xs.take i) + val WB (ys.take i) ∧ wr.rowIs w.heap.size 111 N (rowF ds) ∧ Below w.heap.size w wr) (fun _ _ _ s _ => N - (intOf s).toNat)
    case atStart => exact ⟨0, 0, [], rfl, rfl, Nat.zero_le _, Nat.zero_le _, rfl, fun x hx => absurd hx (by simp), by simp [val], (World.rowIs_made w _ N _).congr (fun i _ => by rw [← rowF_nil]), (Below.refl _ _).alloc (Nat.le_refl _) _⟩
    case round =>
      obtain ⟨i, cy, ds, rfl, rfl, hi, hcy, hdl, hdd, hv, hr, hb⟩ := hrel
      by_cases hiN : i < N
      · have sx := HX.out.below hb
        have sy := HY.out.below hb
        have bxi := bx.out i
        have byi := by'.out i
        have cx := Lib.hid (fun W (h : Shows .u32 W A xs) => hatx.out i W (by omega) h)
        have cyy := Lib.hid (fun W (h : Shows .u32 W A' ys) => haty.out i W (by omega) h)
        have hstep := Lib.hid (plus_step (B := WB) (c := cy) hdl hv (rfl : xs.getD i 0 + ys.getD i 0 + cy = _))
        unfold WB at bxi byi
        have hcell := hr.cell hiN
        have hfro := hr.frozen i
        have hGs : w.heap.size < wr.heap.size := hr.lt
        have HR := Lib.hid hr; have HB := Lib.hid hb; have HD := Lib.hid hdd; have HL := Lib.hid hdl
        have SX := Lib.hid sx; have SY := Lib.hid sy
        clear hv hr hb hdd hdl sx sy hatx haty bx by' fin1 fin2 lim hmk
        generalize xs.getD i 0 = x at *
        generalize ys.getD i 0 = y at *
        go_wp2_with fail
        refine (cx.out _ SX.out).mono ?_
        rintro e w' ⟨rfl, n3, rfl⟩
        go_wp2_with fail
        refine (cyy.out _ (SY.out.drewN _)).mono ?_
        rintro e w' ⟨rfl, n4, rfl⟩
        go_wp2_with fail
        refine ⟨⟨i + 1, (x + y + cy) / 4294967296, ds ++ [(x + y + cy) % 4294967296], rfl, by go_num, by omega, by omega, by simp [HL.out], dig_snoc HD.out (Nat.mod_lt _ (by decide)), hstep.out, ?_, ?_⟩, by simp [intOf]; omega⟩
        · have := rowIs_snoc (d := (x + y + cy) % 4294967296) (w := wr.drewN (n3 + n4)) (HR.out : (wr.drewN (n3 + n4)).rowIs w.heap.size 111 N (rowF ds))
          rw [HL.out] at this
          exact this
        · exact (below_drewN HB.out _).setCell (Nat.le_refl _) _
      · obtain rfl : N = i := by omega
        have hz : cy = 0 := by
          apply Classical.byContradiction; intro hc
          have h1 := lim.out
          have h2 : WB ^ N * 1 ≤ WB ^ N * cy := Nat.mul_le_mul_left _ (by omega)
          rw [fin1.out, fin2.out] at hv
          omega
        rw [fin1.out, fin2.out, hz, Nat.mul_zero, Nat.add_zero] at hv
        have sh := rowIs_shows hr hdl
        have T1 := trimmed_any (some ⟨w.heap.size, 0, none⟩) ds N wr sh hdd (by omega) (by unfold maxLen; omega)
        have S1 := sh.trim hdd
        rw [hdl, hv] at T1
        rw [hv] at S1
        have HT := Lib.hid T1; have HS := Lib.hid S1; have HB := Lib.hid hb
        clear T1 S1 hv hr hb hdd hdl sh hatx haty bx by' fin1 fin2 lim hmk hz
        go_wp2_with fail
        refine HT.out.mono ?_
        rintro e w' ⟨rfl, rfl⟩
        go_wp2_with fail
        go_ret
        exact ⟨_, rfl, HS.out, Fresh.mk (Nat.le_refl _), HB.out⟩
end Go.Proofs.Ytmlkiddkgikdhaa
