/- Of of the reference -/
import Derived.Test.YtmlkiddkgikdhaaRMade
namespace Go.Proofs.Ytmlkiddkgikdhaa
open Go.RowKit FF

theorem pow_three {k q n : Nat} (h : HB ^ k * q ≤ n) (hq : 0 < q) (hn : n ≤ 9223372036854775808) : k ≤ 3 := by
  apply Classical.byContradiction; intro hc
  have h1 : HB ^ 4 ≤ HB ^ k := Nat.pow_le_pow_right (by decide) (by omega)
  have h2 : HB ^ k * 1 ≤ HB ^ k * q := Nat.mul_le_mul_left _ hq
  have h3 : HB ^ 4 = 18446744073709551616 := by decide
  omega
/-- the loop's relation -/
def ofRel (w : World) (N : Nat) (m : Nat) (ds : List Nat) (v : Value) (wr : World) : Prop :=
  ds.length ≤ 4 ∧ N = val HB ds + HB ^ ds.length * m ∧ Dig HB ds ∧ wr.cell? ⟨w.heap.size, 0, none⟩ = some (.bool false) ∧ wr.cell? ⟨w.heap.size, 1, none⟩ = some (.slice none 0 0) ∧ wr.frozen? ⟨w.heap.size, 0, none⟩ = false ∧ wr.frozen? ⟨w.heap.size, 1, none⟩ = false ∧
    wr.ownsRow (w.heap.size + 1) 3 1 v ds.length (cells .i64 ds) ∧ Below w.heap.size w wr ∧ w.heap.size < wr.heap.size
theorem ofRel.start (w : World) (N : Nat) {T : TypeId} : ofRel w N N [] (.slice none 0 0) (w.alloc (.cells #[.bool false, .slice none 0 0] T)) := by
  refine ⟨by simp, by simp [val], fun x hx => absurd hx (by simp), ?_, ?_, ?_, ?_, World.ownsRow_nil _ _ _ _, (Below.refl _ _).alloc (Nat.le_refl _) _, by simp⟩
  · rw [World.cell?_alloc_at _ _ _ _ rfl]; rfl
  · rw [World.cell?_alloc_at _ _ _ _ rfl]; rfl
  · exact World.frozen?_alloc_at _ _ _ _ rfl
  · exact World.frozen?_alloc_at _ _ _ _ rfl
theorem ofRel.step {w : World} {N m : Nat} {ds : List Nat} {v v' : Value} {wr w2 : World} {o : Obj} (h : ofRel w N m ds v wr) (hl3 : ds.length ≤ 3)
    (hown : w2.ownsRow (w.heap.size + 1) 3 1 v' (ds.length + 1) (cells .i64 ds ++ [.int .i64 (m % 65536 : Nat)])) (hg : (wr.alloc o).grownBy w2 v.ownBlock) :
    ofRel w N (m / 65536) (ds ++ [m % 65536]) v' w2 := by
  obtain ⟨_, h1, h1b, h2, h3, h4, h4b, h5, h6, h7⟩ := h
  have hrow := own_row_ge h5
  obtain ⟨a1, b1⟩ := grown_keep hg (a := ⟨w.heap.size, 0, none⟩) (by simp; omega) (fun k hk => by have := hrow k hk; simp; omega)
  obtain ⟨a2, b2⟩ := grown_keep hg (a := ⟨w.heap.size, 1, none⟩) (by simp; omega) (fun k hk => by have := hrow k hk; simp; omega)
  rw [World.cell?_alloc_lt _ _ _ (by simpa using h7)] at a1 a2
  rw [World.frozen?_alloc_past _ _ _ h7] at b1 b2
  refine ⟨by simp; omega, ?_, dig_snoc h1b (Nat.mod_lt _ (by decide)), a1.trans h2, a2.trans h3, b1.trans h4, b2.trans h4b, ?_, ((h6.alloc (by omega) o).grown hg (by simp; omega) (fun k hk => by have := hrow k hk; omega)), ?_⟩
  · rw [h1, val_append, List.length_append, List.length_singleton, Nat.pow_succ, Nat.add_assoc]
    have : m = m % 65536 + 65536 * (m / 65536) := (Nat.mod_add_div m 65536).symm
    simp only [val, Nat.mul_zero, Nat.add_zero]
    conv => lhs; rw [this, Nat.mul_add]
    rw [Nat.mul_assoc]; rfl
  · rw [List.length_append, List.length_singleton, ← cells_snoc]; exact hown
  · have := hg.size; simp at this ⊢; omega

set_option maxHeartbeats 2000000 in
set_option maxRecDepth 100000 in
/-- Of of the reference -/
theorem rOf_any (n : Int) (w : World) (hn : I64 n) :
    Calls Try.prog 61 #[.int .i64 n] w fun e w' => ∃ A' c', e = .returned (.agg #[.bool (decide (n < 0)), .slice A' (wl n.natAbs) c']) ∧ Shows .u32 w' A' (digs WB n.natAbs) ∧ wl n.natAbs ≤ c' ∧ c' ≤ maxLen ∧ Fresh w.heap.size A' ∧ Below w.heap.size w w' := by
  obtain ⟨i0, hi, hz0, hz1, hz2⟩ := info_parts info_int
  have HI := Lib.hid hi; have HZ0 := Lib.hid hz0; have HZ1 := Lib.hid hz1; have HZ2 := Lib.hid hz2
  clear hi hz0 hz1 hz2
  obtain ⟨n1, n2⟩ := hn
  by_cases hneg : n < 0
  · obtain ⟨N, rfl⟩ : ∃ N : Nat, n = -(N : Int) := ⟨n.natAbs, by omega⟩
    have hnb : Hid ((decide (0 < N) && decide (N ≠ 0)) = true) := Lib.hid (by simp; omega)
    rw [show (-(N : Int)).natAbs = N by omega]
    have hd := decide_eq_true hneg
    rw [hd]
    clear hd
    go_enter Try.func61, Try.ntmps61
    go_wp2_with fail
    go_loopw [0, 3, 5] (fun s0 s3 _ wr => ∃ (m : Nat) (ds : List Nat), s0 = .int .i64 (-(m : Int)) ∧ ofRel w N m ds s3 wr) (fun s _ _ _ => (intOf s).natAbs)
    case atStart => exact ⟨N, [], rfl, ofRel.start _ _⟩
    case round =>
      obtain ⟨m, ds, rfl, hR⟩ := hrel
      have HR := Lib.hid hR
      obtain ⟨r0, r1, r1b, r2, r3, r4, r4b, r5, r6, r7⟩ := hR
      have HO := Lib.hid r5
      by_cases hm : m = 0
      · subst hm
        obtain ⟨A2, c2, rfl, q1, q2, q3, q4⟩ := own_shows r5
        rw [Nat.mul_zero, Nat.add_zero] at r1
        have hmd := rMade_any (decide (0 < N)) A2 ds c2 wr q1 r1b q2 q3 (by omega)
        rw [← r1, hnb.out] at hmd
        have HM := Lib.hid hmd; have HB := Lib.hid r6
        clear r5 r1 r1b q1 q4 hmd HO r6 HR
        go_wp2_with fail
        refine HM.out.mono ?_
        rintro e w3 ⟨A3, c3, rfl, t1, t2, t3, t4, t5⟩
        have k1 : w3.cell? ⟨w.heap.size, 0, none⟩ = some (.bool false) := (t5.cell (by simpa using r7)).trans r2
        have k2 : w3.cell? ⟨w.heap.size, 1, none⟩ = some (.slice none 0 0) := (t5.cell (by simpa using r7)).trans r3
        have k3 : w3.frozen? ⟨w.heap.size, 0, none⟩ = false := (t5.frozen (by simpa using r7)).trans r4
        have k4 : w3.frozen? ⟨w.heap.size, 1, none⟩ = false := (t5.frozen (by simpa using r7)).trans r4b
        have HT1 := Lib.hid t1; have HT4 := Lib.hid (t4.mono (show w.heap.size + 1 ≤ wr.heap.size by omega)); have HT5 := Lib.hid (HB.out.trans (t5.mono (by omega)))
        clear t1 t4 t5
        go_wp2_with fail
        refine bodyPost_ret (v := .agg #[.bool true, .slice A3 (wl N) c3]) (by simp [results, Try.results61, go_sem, k1, k2]) rfl ?_
        refine ⟨A3, c3, rfl, ?_, t2, t3, HT4.out.mono (by omega), ?_⟩
        · exact (HT1.out.setCell HT4.out (by simp) _).setCell HT4.out (by simp) _
        · exact (HT5.out.setCell (Nat.le_refl _) _).setCell (Nat.le_refl _) _
      · have d0 : (-(m : Int) != 0) = true := by rw [bne_iff_ne]; omega
        have hk := pow_three (k := ds.length) (q := m) (n := N) (by omega) (by omega) (by omega)
        have hmN : m ≤ N := by
          have : 1 * m ≤ HB ^ ds.length * m := Nat.mul_le_mul_right _ (Nat.pow_pos (by decide))
          omega
        have ht : (-(m : Int)).tmod 65536 = -((m % 65536 : Nat) : Int) := by rw [Int.neg_tmod]; rfl
        have hq : (-(m : Int)).tdiv 65536 = -((m / 65536 : Nat) : Int) := by rw [Int.neg_tdiv]; rfl
        by_cases hr0 : m % 65536 = 0
        · have HR1 := Lib.hid (fun v' w2 h1 h2 => ofRel.step (v' := v') (w2 := w2) (o := .cells #[.int .i64 ((m % 65536 : Nat) : Int)] 3) HR.out hk h1 h2)
          have hml : m % 65536 < 65536 := Nat.mod_lt _ (by decide)
          have hmd : m / 65536 < m := Nat.div_lt_self (by omega) (by decide)
          clear r1 r1b r5 r6 HR
          generalize hm1 : m % 65536 = r at *
          generalize hm2 : m / 65536 = q at *
          clear hm1 hm2
          subst hr0
          rw [show ((0 : Nat) : Int) = 0 from rfl] at HR1
          go_wp2_with (at_builtin; refine wpList_append_own _ rfl (.tmp 16) (.tmp 18) 30 rfl (w.heap.size + 1) 3 i0 (.int .i64 0) 1 8 Try.underlying30 HI.out HZ0.out HZ1.out HZ2.out rfl (by decide) _ ds.length (cells .i64 ds) rfl (HO.out.alloc _) ⟨wr.heap.size, 0, none⟩ 1 1 [.int .i64 0] rfl rfl (fun j u hj => by match j, hj with | 0, hj => simp at hj; subst hj; simp [Addr.add, go_sem]) (fun u hu => by simp at hu; subst hu; rfl) (by unfold maxLen; omega) (by omega) (by simp; omega) ?_; intro v' w2 hown2 hgrow2 _; have HR2 := Lib.hid (HR1.out v' w2 hown2 hgrow2); clear hown2 hgrow2)
          exact ⟨⟨q, _, rfl, HR2.out⟩, by simp [intOf]; omega⟩
        · have HR1 := Lib.hid (fun v' w2 h1 h2 => ofRel.step (v' := v') (w2 := w2) (o := .cells #[.int .i64 ((m % 65536 : Nat) : Int)] 3) HR.out hk h1 h2)
          have hml : m % 65536 < 65536 := Nat.mod_lt _ (by decide)
          have hmd : m / 65536 < m := Nat.div_lt_self (by omega) (by decide)
          clear r1 r1b r5 r6 HR
          generalize hm1 : m % 65536 = r at *
          generalize hm2 : m / 65536 = q at *
          clear hm1 hm2
          go_wp2_with (at_builtin; refine wpList_append_own _ rfl (.tmp 16) (.tmp 18) 30 rfl (w.heap.size + 1) 3 i0 (.int .i64 0) 1 8 Try.underlying30 HI.out HZ0.out HZ1.out HZ2.out rfl (by decide) _ ds.length (cells .i64 ds) rfl (HO.out.alloc _) ⟨wr.heap.size, 0, none⟩ 1 1 [.int .i64 (r : Int)] rfl rfl (fun j u hj => by match j, hj with | 0, hj => simp at hj; subst hj; simp [Addr.add, go_sem]) (fun u hu => by simp at hu; subst hu; rfl) (by unfold maxLen; omega) (by omega) (by simp; omega) ?_; intro v' w2 hown2 hgrow2 _; have HR2 := Lib.hid (HR1.out v' w2 hown2 hgrow2); clear hown2 hgrow2)
          exact ⟨⟨q, _, rfl, HR2.out⟩, by simp [intOf]; omega⟩
  · obtain ⟨N, rfl⟩ : ∃ N : Nat, n = (N : Int) := ⟨n.natAbs, by omega⟩
    have hnb : Hid ((false && decide (N ≠ 0)) = false) := Lib.hid (by simp)
    rw [show (N : Int).natAbs = N by omega]
    have hd := decide_eq_false hneg
    rw [hd]
    clear hd
    go_enter Try.func61, Try.ntmps61
    go_wp2_with fail
    go_loopw [0, 3, 5] (fun s0 s3 _ wr => ∃ (m : Nat) (ds : List Nat), s0 = .int .i64 ((m : Int)) ∧ ofRel w N m ds s3 wr) (fun s _ _ _ => (intOf s).natAbs)
    case atStart => exact ⟨N, [], rfl, ofRel.start _ _⟩
    case round =>
      obtain ⟨m, ds, rfl, hR⟩ := hrel
      have HR := Lib.hid hR
      obtain ⟨r0, r1, r1b, r2, r3, r4, r4b, r5, r6, r7⟩ := hR
      have HO := Lib.hid r5
      by_cases hm : m = 0
      · subst hm
        obtain ⟨A2, c2, rfl, q1, q2, q3, q4⟩ := own_shows r5
        rw [Nat.mul_zero, Nat.add_zero] at r1
        have hmd := rMade_any false A2 ds c2 wr q1 r1b q2 q3 (by omega)
        rw [← r1, hnb.out] at hmd
        have HM := Lib.hid hmd; have HB := Lib.hid r6
        clear r5 r1 r1b q1 q4 hmd HO r6 HR
        go_wp2_with fail
        refine HM.out.mono ?_
        rintro e w3 ⟨A3, c3, rfl, t1, t2, t3, t4, t5⟩
        have k1 : w3.cell? ⟨w.heap.size, 0, none⟩ = some (.bool false) := (t5.cell (by simpa using r7)).trans r2
        have k2 : w3.cell? ⟨w.heap.size, 1, none⟩ = some (.slice none 0 0) := (t5.cell (by simpa using r7)).trans r3
        have k3 : w3.frozen? ⟨w.heap.size, 0, none⟩ = false := (t5.frozen (by simpa using r7)).trans r4
        have k4 : w3.frozen? ⟨w.heap.size, 1, none⟩ = false := (t5.frozen (by simpa using r7)).trans r4b
        have HT1 := Lib.hid t1; have HT4 := Lib.hid (t4.mono (show w.heap.size + 1 ≤ wr.heap.size by omega)); have HT5 := Lib.hid (HB.out.trans (t5.mono (by omega)))
        clear t1 t4 t5
        go_wp2_with fail
        refine bodyPost_ret (v := .agg #[.bool false, .slice A3 (wl N) c3]) (by simp [results, Try.results61, go_sem, k1, k2]) rfl ?_
        refine ⟨A3, c3, rfl, ?_, t2, t3, HT4.out.mono (by omega), ?_⟩
        · exact (HT1.out.setCell HT4.out (by simp) _).setCell HT4.out (by simp) _
        · exact (HT5.out.setCell (Nat.le_refl _) _).setCell (Nat.le_refl _) _
      · have d0 : ((m : Int) != 0) = true := by rw [bne_iff_ne]; omega
        have hk := pow_three (k := ds.length) (q := m) (n := N) (by omega) (by omega) (by omega)
        have hmN : m ≤ N := by
          have : 1 * m ≤ HB ^ ds.length * m := Nat.mul_le_mul_right _ (Nat.pow_pos (by decide))
          omega
        have ht : (m : Int).tmod 65536 = ((m % 65536 : Nat) : Int) := rfl
        have hq : (m : Int).tdiv 65536 = ((m / 65536 : Nat) : Int) := rfl
        have HR1 := Lib.hid (fun v' w2 h1 h2 => ofRel.step (v' := v') (w2 := w2) (o := .cells #[.int .i64 ((m % 65536 : Nat) : Int)] 3) HR.out hk h1 h2)
        have hml : m % 65536 < 65536 := Nat.mod_lt _ (by decide)
        have hmd : m / 65536 < m := Nat.div_lt_self (by omega) (by decide)
        clear r1 r1b r5 r6 HR
        generalize hm1 : m % 65536 = r at *
        generalize hm2 : m / 65536 = q at *
        clear hm1 hm2
        go_wp2_with (at_builtin; refine wpList_append_own _ rfl (.tmp 16) (.tmp 18) 30 rfl (w.heap.size + 1) 3 i0 (.int .i64 0) 1 8 Try.underlying30 HI.out HZ0.out HZ1.out HZ2.out rfl (by decide) _ ds.length (cells .i64 ds) rfl (HO.out.alloc _) ⟨wr.heap.size, 0, none⟩ 1 1 [.int .i64 (r : Int)] rfl rfl (fun j u hj => by match j, hj with | 0, hj => simp at hj; subst hj; simp [Addr.add, go_sem]) (fun u hu => by simp at hu; subst hu; rfl) (by unfold maxLen; omega) (by omega) (by simp; omega) ?_; intro v' w2 hown2 hgrow2 _; have HR2 := Lib.hid (HR1.out v' w2 hown2 hgrow2); clear hown2 hgrow2)
        exact ⟨⟨q, _, rfl, HR2.out⟩, by simp [intOf]; omega⟩
end Go.Proofs.Ytmlkiddkgikdhaa
