/- Words: the product. -/
import Derived.Test.YtfjmhfmhijhpkaaGreatDoorWordB
import Derived.Test.YtfjmhfmhijhpkaaGreatDoorKn
namespace Go.Proofs.YtfjmhfmhijhpkaaGreatDoor
open Go.RowKit FF

/-- a block of words -/
def rowN (f : Nat → Nat) : Nat → Value := fun k => .int .u32 (f k : Nat)
theorem rowIs_upd {w : World} {G T n p x : Nat} {f : Nat → Nat} (h : w.rowIs G T n (rowN f)) : (w.setCell ⟨G, p, none⟩ (.int .u32 (x : Nat))).rowIs G T n (rowN (upd f p x)) := by
  refine (h.set p (.int .u32 (x : Nat))).congr fun i _ => ?_
  unfold rowN upd
  split <;> rfl
theorem rowN_shows {w : World} {G T n : Nat} {f : Nat → Nat} (h : w.rowIs G T n (rowN f)) : Shows .u32 w (some ⟨G, 0, none⟩) (seg f 0 n) := by
  intro _
  refine ⟨G, 0, rfl, h.lt, fun i hi => ?_⟩
  rw [seg_length] at hi
  rw [seg_getD hi, Nat.zero_add]
  exact h.cell hi
theorem rowN_zero (n : Nat) (i : Nat) (_ : i < n) : Value.int .u32 0 = rowN (fun _ => 0) i := rfl

set_option maxHeartbeats 2000000 in
theorem times_any (A A' : Option Addr) (xs ys : List Nat) (c c' : Nat) (w : World) (hx : Shows .u32 w A xs) (hy : Shows .u32 w A' ys) (dx : Dig WB xs) (dy : Dig WB ys) (hxl : xs.length ≤ 1000000) (hyl : ys.length ≤ 1000000) :
    Calls Tryz.prog 80 #[.slice A xs.length c, .slice A' ys.length c'] w fun e w' =>
      ∃ A2, e = .returned (.slice A2 (wl (val WB xs * val WB ys)) (wl (val WB xs * val WB ys))) ∧ Shows .u32 w' A2 (digs WB (val WB xs * val WB ys)) ∧ Fresh w.heap.size A2 ∧ Below w.heap.size w w' := by
  obtain ⟨n, hn⟩ : ∃ n, xs.length = n := ⟨_, rfl⟩
  obtain ⟨m, hm⟩ : ∃ m, ys.length = m := ⟨_, rfl⟩
  obtain ⟨N, hN⟩ : ∃ N, N = n + m := ⟨_, rfl⟩
  have hmk := row_make N (by omega)
  have hNc : (N : Int) = (n : Int) + m := by omega
  rw [hNc] at hmk
  clear hNc
  have bx := Lib.hid (fun i => dx.getD (show 0 < WB by decide) i)
  have by' := Lib.hid (fun i => dy.getD (show 0 < WB by decide) i)
  have HX := Lib.hid hx; have HY := Lib.hid hy
  have HDX := Lib.hid dx; have HDY := Lib.hid dy
  have Hn := Lib.hid hn; have Hm := Lib.hid hm; have HN := Lib.hid hN
  rw [hn, hm]
  rw [hn] at hxl
  rw [hm] at hyl
  clear hx hy dx dy hn hm hN
  go_enter Tryz.func80, Tryz.ntmps80
  go_wp2
  go_loopw [19] (fun s19 wr => ∃ (i : Nat) (f : Nat → Nat), s19 = .int .i64 i ∧ i ≤ n ∧ (∀ k, f k < WB) ∧ (∀ k, i + m ≤ k → k < N → f k = 0) ∧ val WB (seg f 0 N) = val WB (xs.take i) * val WB ys ∧ wr.rowIs w.heap.size 134 N (rowN f) ∧ Below w.heap.size w wr) (fun s _ => n - (intOf s).toNat)
  case atStart => exact ⟨0, fun _ => 0, rfl, Nat.zero_le _, fun _ => show 0 < WB by decide, fun _ _ _ => rfl, by rw [val_seg_zero _ (fun _ _ => rfl)]; simp [val], (World.rowIs_made w _ N _).congr (rowN_zero N), (Below.refl _ _).alloc (Nat.le_refl _) _⟩
  case round =>
    obtain ⟨i, f, rfl, hi, hf, hz, hv, hr, hb⟩ := hrel
    by_cases hiN : i < n
    · obtain ⟨b1, o1, rfl, hb1, hc1⟩ := HX.out.below hb (by rw [Hn.out]; omega)
      have hx1 := hc1 i (by rw [Hn.out]; exact hiN)
      have bxi := bx.out i
      unfold WB at bxi
      have HV := Lib.hid hv; have HR := Lib.hid hr; have HB := Lib.hid hb; have HF := Lib.hid hf; have HZ := Lib.hid hz
      have HXi0 : xs.getD i 0 = xs.getD i 0 := rfl
      clear hv hr hb hf hz hc1
      obtain ⟨x, hxi⟩ : ∃ x, xs.getD i 0 = x := ⟨_, rfl⟩
      have HXi := Lib.hid hxi
      rw [hxi] at hx1 bxi
      clear hxi HXi0
      obtain ⟨W6, h6⟩ : ∃ W6 : World, W6 = wr := ⟨_, rfl⟩
      subst h6
      go_wp2
      go_loopw [8, 26] (fun s8 s26 wr2 => ∃ (k cy : Nat) (g : Nat → Nat), s8 = .int .u64 cy ∧ s26 = .int .i64 k ∧ k ≤ m ∧ cy < 4294967296 ∧ (∀ t, g t < WB) ∧ (∀ t, i + m ≤ t → t < N → g t = 0) ∧ val WB (seg g 0 N) + WB ^ (i + k) * cy = val WB (seg f 0 N) + WB ^ i * (x * val WB (ys.take k)) ∧ wr2.rowIs w.heap.size 134 N (rowN g) ∧ Below w.heap.size w wr2) (fun _ s _ => m - (intOf s).toNat)
      case atStart => exact ⟨0, 0, f, rfl, rfl, Nat.zero_le _, by decide, HF.out, HZ.out, by simp [val], HR.out, HB.out⟩
      case round =>
        obtain ⟨k, cy, g, rfl, rfl, hk, hcy, hg, hgz, hgv, hgr, hgb⟩ := hrel
        by_cases hkm : k < m
        · obtain ⟨b2, o2, rfl, hb2, hc2⟩ := HY.out.below hgb (by rw [Hm.out]; omega)
          have hy1 := hc2 k (by rw [Hm.out]; exact hkm)
          have byk := by'.out k
          unfold WB at byk
          have hp : i + k < N := by rw [HN.out]; omega
          have hgk := hg (i + k)
          unfold WB at hgk
          have hcell : wr.cell? ⟨w.heap.size, i + k, none⟩ = some (.int .u32 (g (i + k) : Nat)) := hgr.cell hp
          have hfro := hgr.frozen (i + k)
          have hst := Lib.hid (fun s hs => times_step (B := WB) (i := i) (k := k) (c := cy) (x := x) (ys := ys) hp hgv (s := s) hs)
          have hbd := times_bound (B := 4294967296) bxi byk hgk hcy
          have HG := Lib.hid hg; have HGZ := Lib.hid hgz; have HGR := Lib.hid hgr; have HGB := Lib.hid hgb
          clear hg hgz hgv hgr hgb hc2
          generalize ys.getD k 0 = y at *
          generalize g (i + k) = z at *
          obtain ⟨P, hP⟩ : ∃ P, x * y = P := ⟨_, rfl⟩
          have hPc : (x : Int) * y = (P : Int) := by rw [← hP]; exact (Int.natCast_mul x y).symm
          have HP := Lib.hid hP
          rw [hP] at hbd hst
          clear hP
          have e1 : IntKind.i64.wrap ((i : Int) + k) = (i : Int) + k := IntWalk.i64_in _ (by omega)
          have e2 : (0 : Int) ≤ (i : Int) + k := by omega
          have e3 : ((i : Int) + k).toNat = i + k := by omega
          have e4 : IntKind.u64.wrap ((x : Int) * y) = (P : Int) := by rw [hPc]; simp only [IntKind.wrap, IntKind.bits, IntKind.signed]; simp; omega
          have e5 : IntKind.u64.wrap ((P : Int) + z) = ((P + z : Nat) : Int) := by simp only [IntKind.wrap, IntKind.bits, IntKind.signed]; simp; omega
          have e6 : IntKind.u64.wrap (((P + z : Nat) : Int) + cy) = ((P + z + cy : Nat) : Int) := by simp only [IntKind.wrap, IntKind.bits, IntKind.signed]; simp; omega
          clear hPc
          go_wp2
          go_quiet (fail)
          go_wp2
          refine ⟨⟨k + 1, (P + z + cy) / 4294967296, upd g (i + k) ((P + z + cy) % 4294967296), ?_, by go_num, by omega, hbd.1, upd_lt HG.out (Nat.mod_lt _ (by decide)), fun t h1 h2 => ?_, ?_, ?_, ?_⟩, by simp [intOf]; omega⟩
          · rfl
          · rw [upd_ne (by omega)]; exact HGZ.out t h1 h2
          · exact hst.out _ rfl
          · exact rowIs_upd HGR.out
          · exact (below_drewN HGB.out _).setCell (Nat.le_refl _) _
        · obtain rfl : k = m := by omega
          have hp : i + k < N := by rw [HN.out]; omega
          have hcell : wr.cell? ⟨w.heap.size, i + k, none⟩ = some (.int .u32 (g (i + k) : Nat)) := hgr.cell hp
          have hfro := hgr.frozen (i + k)
          have hrow := times_row (B := WB) hp Hm.out (hgz _ (Nat.le_refl _) hp) hgv
          have htk : val WB (xs.take (i + 1)) * val WB ys = val WB (xs.take i) * val WB ys + WB ^ i * (x * val WB ys) := by
            rw [val_take_succ', HXi.out, Nat.add_mul, Nat.mul_assoc]
          rw [HV.out, ← htk] at hrow
          have HROW := Lib.hid hrow
          have HG := Lib.hid hg; have HGZ := Lib.hid hgz; have HGR := Lib.hid hgr; have HGB := Lib.hid hgb
          clear hg hgz hgv hgr hgb hrow htk
          have e0 : (cy : Int) % 4294967296 = (cy : Int) := by omega
          go_wp2
          refine ⟨⟨i + 1, upd g (i + k) cy, by go_num, by omega, upd_lt HG.out (show cy < WB from hcy), fun t h1 h2 => ?_, HROW.out, ?_, HGB.out.setCell (Nat.le_refl _) _⟩, by simp [intOf]; omega⟩
          · rw [upd_ne (by omega)]; exact HGZ.out t (by omega) h2
          · exact rowIs_upd HGR.out
    · obtain rfl : i = n := by omega
      have hlt := val_lt HDX.out
      rw [List.take_of_length_le (by rw [Hn.out]; exact Nat.le_refl _)] at hv
      have hdd := dig_seg hf 0 N
      have sh := rowN_shows hr
      have T1 := trimmed_any (some ⟨w.heap.size, 0, none⟩) (seg f 0 N) N wr sh hdd (by rw [seg_length]; exact Nat.le_refl _) (by rw [HN.out]; unfold maxLen; omega)
      have S1 := sh.trim hdd
      rw [seg_length, hv] at T1
      rw [hv] at S1
      have HT := Lib.hid T1; have HS := Lib.hid S1; have HB := Lib.hid hb
      clear T1 S1 hv hr hb hf hz hdd sh hmk hlt
      go_wp2_with fail
      refine HT.out.mono ?_
      rintro e w' ⟨rfl, rfl⟩
      go_wp2_with fail
      go_ret
      exact ⟨_, rfl, HS.out, Fresh.mk (Nat.le_refl _), HB.out⟩
end Go.Proofs.YtfjmhfmhijhpkaaGreatDoor
