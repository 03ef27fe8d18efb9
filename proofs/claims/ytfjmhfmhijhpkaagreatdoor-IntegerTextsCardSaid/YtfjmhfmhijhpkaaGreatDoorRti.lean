/- The reference's digits: product. -/
import Derived.Test.YtfjmhfmhijhpkaaGreatDoorRmi
namespace Go.Proofs.YtfjmhfmhijhpkaaGreatDoor
open Go.RowKit FF

/-- a block of machine integers -/
def rowM (f : Nat → Nat) : Nat → Value := fun k => .int .i64 (f k : Nat)
theorem rowM_upd {w : World} {G T n p x : Nat} {f : Nat → Nat} (h : w.rowIs G T n (rowM f)) : (w.setCell ⟨G, p, none⟩ (.int .i64 (x : Nat))).rowIs G T n (rowM (upd f p x)) := by
  refine (h.set p (.int .i64 (x : Nat))).congr fun i _ => ?_
  unfold rowM upd
  split <;> rfl
theorem rowM_shows {w : World} {G T n : Nat} {f : Nat → Nat} (h : w.rowIs G T n (rowM f)) : Shows .i64 w (some ⟨G, 0, none⟩) (seg f 0 n) := by
  intro _
  refine ⟨G, 0, rfl, h.lt, fun i hi => ?_⟩
  rw [seg_length] at hi
  rw [seg_getD hi, Nat.zero_add]
  exact h.cell hi
theorem rowM_zero (n : Nat) (i : Nat) (_ : i < n) : Value.int .i64 0 = rowM (fun _ => 0) i := rfl
theorem int_make (N : Nat) (hl : N ≤ 1000000000) : ∀ W : World, (Instr.makeSlice 76 (.int .i64 (N : Int)) (.int .i64 (N : Int))).run Tryz.prog W =
    .ok (.slice (some ⟨W.heap.size, 0, none⟩) N N) (W.alloc (.cells (madeCells #[.int .i64 0] N) 3)) :=
  fun W => run_make_row' (P := Tryz.prog) 76 3 (.int .i64 0) 8 Tryz.underlying76 info_int rfl .i64 .i64 N (by omega) (by omega) W

set_option maxRecDepth 100000 in
set_option maxHeartbeats 4000000 in
theorem rTimes_any (A A' : Option Addr) (xs ys : List Nat) (c c' : Nat) (w : World) (hx : Shows .i64 w A xs) (hy : Shows .i64 w A' ys) (dx : Dig HB xs) (dy : Dig HB ys) (hxl : xs.length ≤ 1000000) (hyl : ys.length ≤ 1000000) :
    Calls Tryz.prog 84 #[.slice A xs.length c, .slice A' ys.length c'] w (HalfPost w (val HB xs * val HB ys)) := by
  obtain ⟨n, hn⟩ : ∃ n, xs.length = n := ⟨_, rfl⟩
  obtain ⟨m, hm⟩ : ∃ m, ys.length = m := ⟨_, rfl⟩
  obtain ⟨N, hN⟩ : ∃ N, N = n + m + 1 := ⟨_, rfl⟩
  have hmk := int_make N (by omega)
  have hNc : (N : Int) = (n : Int) + m + 1 := by omega
  rw [hNc] at hmk
  clear hNc
  have bx : Hid (∀ i, xs.getD i 0 < 65536) := Lib.hid (fun i => dx.getD (show 0 < HB by decide) i)
  have by' : Hid (∀ i, ys.getD i 0 < 65536) := Lib.hid (fun i => dy.getD (show 0 < HB by decide) i)
  have py := Lib.hid (fun i (hi : m ≤ i) => (show ys.getD i 0 = 0 from getD_past (by omega)))
  have ty := Lib.hid (fun i (hi : m ≤ i) => (show ys.take i = ys from List.take_of_length_le (by omega)))
  have HX := Lib.hid hx; have HY := Lib.hid hy
  have HDX := Lib.hid dx; have HDY := Lib.hid dy
  have Hn := Lib.hid hn; have Hm := Lib.hid hm; have HN := Lib.hid hN
  rw [hn, hm]
  rw [hn] at hxl
  rw [hm] at hyl
  clear hx hy dx dy hn hm hN
  unfold HalfPost
  go_enter Tryz.func84, Tryz.ntmps84
  go_wp2
  go_loopw [6] (fun s6 wr => ∃ (i : Nat) (f : Nat → Nat), s6 = .int .i64 i ∧ i ≤ n ∧ (∀ k, f k < HB) ∧ (∀ k, i + m ≤ k → k < N → f k = 0) ∧ val HB (seg f 0 N) = val HB (xs.take i) * val HB ys ∧ wr.rowIs w.heap.size 3 N (rowM f) ∧ Below w.heap.size w wr) (fun s _ => n - (intOf s).toNat)
  case atStart => exact ⟨0, fun _ => 0, rfl, Nat.zero_le _, fun _ => show 0 < HB by decide, fun _ _ _ => rfl, by rw [val_seg_zero _ (fun _ _ => rfl)]; simp [val], (World.rowIs_made w _ N _).congr (rowM_zero N), (Below.refl _ _).alloc (Nat.le_refl _) _⟩
  case round =>
    obtain ⟨i, f, rfl, hi, hf, hz, hv, hr, hb⟩ := hrel
    by_cases hiN : i < n
    · have bxi := bx.out i
      obtain ⟨x, hxi⟩ : ∃ x, xs.getD i 0 = x := ⟨_, rfl⟩
      have HXi := Lib.hid hxi
      rw [hxi] at bxi
      have HV := Lib.hid hv; have HR := Lib.hid hr; have HB' := Lib.hid hb; have HF := Lib.hid hf; have HZ := Lib.hid hz
      clear hv hr hb hf hz hxi hmk
      obtain ⟨W6, h6⟩ : ∃ W6 : World, W6 = wr := ⟨_, rfl⟩
      subst h6
      go_wp2
      go_loopw [7, 8] (fun s7 s8 wr2 => ∃ (k cy : Nat) (g : Nat → Nat), s7 = .int .i64 cy ∧ s8 = .int .i64 k ∧ k ≤ m + 1 ∧ (m < k → cy = 0) ∧ cy < 65536 ∧ (∀ t, g t < HB) ∧ (∀ t, i + max m k ≤ t → t < N → g t = 0) ∧ val HB (seg g 0 N) + HB ^ (i + k) * cy = val HB (seg f 0 N) + HB ^ i * (x * val HB (ys.take k)) ∧ wr2.rowIs w.heap.size 3 N (rowM g) ∧ Below w.heap.size w wr2) (fun _ s _ => m + 1 - (intOf s).toNat)
      case atStart => exact ⟨0, 0, f, rfl, rfl, Nat.zero_le _, fun _ => rfl, by decide, HF.out, fun t h1 h2 => HZ.out t (by omega) h2, by simp [val], HR.out, HB'.out⟩
      case round =>
        obtain ⟨k, cy, g, rfl, rfl, hk, hmk2, hcy, hg, hgz, hgv, hgr, hgb⟩ := hrel
        obtain ⟨b0, o0, rfl, hb0, hc0⟩ := HX.out.below hgb (by rw [Hn.out]; omega)
        have hx1 : wr.cell? ⟨b0, o0 + i, none⟩ = some (.int .i64 (x : Nat)) := by have := hc0 i (by rw [Hn.out]; exact hiN); rw [HXi.out] at this; exact this
        clear hc0
        by_cases hkm : k < m
        · obtain ⟨b2, o2, rfl, hb2, hc2⟩ := HY.out.below hgb (by rw [Hm.out]; omega)
          have hy1 := hc2 k (by rw [Hm.out]; exact hkm)
          have byk := by'.out k
          have hp : i + k < N := by rw [HN.out]; omega
          have hgk : g (i + k) < 65536 := hg (i + k)
          have hcell : wr.cell? ⟨w.heap.size, i + k, none⟩ = some (.int .i64 (g (i + k) : Nat)) := hgr.cell hp
          have hfro := hgr.frozen (i + k)
          have hst := Lib.hid (fun s hs => times_step (B := HB) (i := i) (k := k) (c := cy) (x := x) (ys := ys) hp hgv (s := s) hs)
          have hbd := times_bound (B := 65536) bxi byk hgk hcy
          have HG := Lib.hid hg; have HGZ := Lib.hid hgz; have HGR := Lib.hid hgr; have HGB := Lib.hid hgb
          clear hg hgz hgv hgr hgb hc2 hmk2
          generalize ys.getD k 0 = y at *
          generalize g (i + k) = z at *
          obtain ⟨P, hP⟩ : ∃ P, x * y = P := ⟨_, rfl⟩
          have hPc : (x : Int) * y = (P : Int) := by rw [← hP]; exact (Int.natCast_mul x y).symm
          rw [hP] at hbd hst
          clear hP
          have hkm' : (k : Int) < m := by omega
          have e1 : IntKind.i64.wrap ((i : Int) + k) = (i : Int) + k := IntWalk.i64_in _ (by omega)
          have e2 : (0 : Int) ≤ (i : Int) + k := by omega
          have e3 : ((i : Int) + k).toNat = i + k := by omega
          have e4 : IntKind.i64.wrap ((x : Int) * y) = (P : Int) := by rw [hPc]; exact IntWalk.i64_in _ (by omega)
          have e5 : IntKind.i64.wrap ((cy : Int) + z) = ((cy + z : Nat) : Int) := by rw [IntWalk.i64_in _ (by omega)]; omega
          have e6 : IntKind.i64.wrap (((cy + z : Nat) : Int) + P) = ((P + z + cy : Nat) : Int) := by rw [IntWalk.i64_in _ (by omega)]; omega
          have e7 : IntKind.i64.wrap ((cy : Int) + z + P) = ((P + z + cy : Nat) : Int) := by rw [IntWalk.i64_in _ (by omega)]; omega
          clear hPc
          go_wp2
          go_quiet (fail)
          go_wp2
          refine ⟨⟨k + 1, (P + z + cy) / 65536, upd g (i + k) ((P + z + cy) % 65536), ?_, by go_num, by omega, by omega, hbd.1, upd_lt HG.out (Nat.mod_lt _ (by decide)), fun t h1 h2 => ?_, ?_, ?_, ?_⟩, by simp [intOf]; omega⟩
          · rfl
          · rw [upd_ne (by omega)]; exact HGZ.out t (by omega) h2
          · exact hst.out _ rfl
          · exact rowM_upd HGR.out
          · exact (below_drewN HGB.out _).setCell (Nat.le_refl _) _
        · have d1 := decide_eq_false hkm
          by_cases hc : 0 < cy
          · obtain rfl : k = m := by
              apply Nat.le_antisymm _ (by omega)
              apply Nat.le_of_not_lt
              intro h
              have := hmk2 h
              omega
            have hp : i + k < N := by rw [HN.out]; omega
            have hgk : g (i + k) = 0 := hgz _ (by omega) hp
            have hcell : wr.cell? ⟨w.heap.size, i + k, none⟩ = some (.int .i64 (g (i + k) : Nat)) := hgr.cell hp
            rw [hgk] at hcell
            have hfro := hgr.frozen (i + k)
            have hst := Lib.hid (times_step (B := HB) (i := i) (k := k) (c := cy) (x := x) (ys := ys) hp hgv (s := cy) (by rw [py.out k (Nat.le_refl _), hgk]; omega))
            rw [show cy % HB = cy from Nat.mod_eq_of_lt hcy, show cy / HB = 0 from Nat.div_eq_of_lt hcy] at hst
            have HG := Lib.hid hg; have HGZ := Lib.hid hgz; have HGR := Lib.hid hgr; have HGB := Lib.hid hgb
            clear hg hgz hgv hgr hgb hmk2 hgk
            have hc' : (0 : Int) < cy := by omega
            have q1 : (cy : Int) % 65536 = (cy : Int) := by omega
            have q2 : (cy : Int) / 65536 = ((0 : Nat) : Int) := by omega
            go_wp2_with fail
            refine ⟨⟨k + 1, 0, upd g (i + k) cy, ?_, by go_num, by omega, fun _ => rfl, by decide, upd_lt HG.out hcy, fun t h1 h2 => ?_, hst.out, rowM_upd HGR.out, HGB.out.setCell (Nat.le_refl _) _⟩, by simp [intOf]⟩
            · first | rfl | rw [q2]
            · rw [upd_ne (by omega)]; exact HGZ.out t (by omega) h2
          · obtain rfl : cy = 0 := by omega
            have hv2 : val HB (seg g 0 N) = val HB (xs.take (i + 1)) * val HB ys := by
              rw [Nat.mul_zero, Nat.add_zero, ty.out k (by omega), HV.out] at hgv
              rw [hgv, val_take_succ', HXi.out, Nat.add_mul, Nat.mul_assoc]
            have HV2 := Lib.hid hv2
            have HG := Lib.hid hg; have HGZ := Lib.hid hgz; have HGR := Lib.hid hgr; have HGB := Lib.hid hgb
            clear hg hgz hgv hgr hgb hv2 hmk2
            go_wp2_with fail
            exact ⟨⟨i + 1, g, by go_num, by omega, HG.out, fun t h1 h2 => HGZ.out t (by omega) h2, HV2.out, HGR.out, HGB.out⟩, by simp [intOf]; omega⟩
    · obtain rfl : i = n := by omega
      have hlt := val_lt HDX.out
      rw [List.take_of_length_le (by rw [Hn.out]; exact Nat.le_refl _)] at hv
      have hdd := dig_seg hf 0 N
      have sh := rowM_shows hr
      have T1 := rTrim_any (some ⟨w.heap.size, 0, none⟩) (seg f 0 N) N wr sh hdd (by rw [seg_length]; exact Nat.le_refl _) (by rw [HN.out]; unfold maxLen; omega) (by rw [seg_length, HN.out]; omega)
      rw [seg_length, hv] at T1
      have HT := Lib.hid T1; have HB' := Lib.hid hb
      have hwz := hb.size
      clear T1 hv hr hb hf hz hdd sh hmk hlt
      go_wp2_with fail
      refine HT.out.mono ?_
      rintro e w2 ⟨A3, c3, rfl, p1, p2, p3, p4, p5⟩
      have P1 := Lib.hid p1; have P4 := Lib.hid (p4.mono hwz); have P5 := Lib.hid p5
      clear p1 p4 p5 HT
      go_wp2_with fail
      go_ret
      exact ⟨A3, c3, rfl, P1.out, p2, p3, P4.out, HB'.out.trans (P5.out.mono hwz)⟩
end Go.Proofs.YtfjmhfmhijhpkaaGreatDoor
