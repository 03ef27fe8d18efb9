/- Words of integers: Of. -/
import Derived.Test.YtmlkiddkgikdhaaWord2
namespace Go.Proofs.Ytmlkiddkgikdhaa
open Go.RowKit FF

/-- a variable that the call laid keeps its cells while callees lay new blocks -/
theorem slot_keep {w w1 : World} {cs : Array Value} {T : TypeId} (hb : Below (w.heap.size + 1) (w.alloc (.cells cs T)) w1) :
    (∀ i, w1.cell? ⟨w.heap.size, i, none⟩ = cs[i]?) ∧ (∀ i, w1.frozen? ⟨w.heap.size, i, none⟩ = false) ∧ w.heap.size < w1.heap.size := by
  refine ⟨fun i => ?_, fun i => ?_, ?_⟩
  · rw [hb.cell (p := ⟨w.heap.size, i, none⟩) (Nat.lt_succ_self _)]; exact World.cell?_alloc_at (w := w) cs T w.heap.size i rfl
  · rw [hb.frozen (p := ⟨w.heap.size, i, none⟩) (Nat.lt_succ_self _)]; simp
  · have := hb.size; rw [World.size_alloc] at this; omega
theorem below_slot {w w1 : World} {o : Obj} (hb : Below (w.heap.size + 1) (w.alloc o) w1) : Below w.heap.size w w1 :=
  ((Below.refl _ _).alloc (Nat.le_refl _) _).trans (hb.mono (Nat.le_succ _))

theorem wl_u64 {n : Nat} (h : n < 18446744073709551616) : wl n ≤ 2 := digs_length_le WB2 (by unfold WB; omega)

set_option maxHeartbeats 1000000 in
theorem Of_any (n : Int) (w : World) (hn : I64 n) :
    Calls Try.prog 58 #[.int .i64 n] w fun e w' =>
      ∃ A' c', e = .returned (.agg #[.bool (decide (n < 0)), .slice A' (wl n.natAbs) c']) ∧ Shows .u32 w' A' (digs WB n.natAbs) ∧ wl n.natAbs ≤ c' ∧ c' ≤ maxLen ∧ Fresh w.heap.size A' ∧ Below w.heap.size w w' := by
  obtain ⟨h1, h2⟩ := hn
  have hO := Lib.hid (fun w => of_any n.natAbs w (by omega))
  have hl : wl n.natAbs ≤ 2 := wl_u64 (by omega)
  have HL := Lib.hid hl
  have hM0 := fun (b : Bool) (A : Option Addr) (w : World) (h : Shows .u32 w A (digs WB n.natAbs)) => by
    have := made_any b A (digs WB n.natAbs) (wl n.natAbs) w h (dig_digs' WB2 _) (Nat.le_refl _) (by unfold maxLen; omega) (by rw [val_digs' WB2]; omega)
    rw [val_digs' WB2] at this; exact this
  clear hl
  by_cases h0 : n < 0
  · have hd : decide (n < 0) = true := decide_eq_true h0
    have hb : (true && decide (n.natAbs ≠ 0)) = decide (n < 0) := by rw [hd]; simp; omega
    have hM1 := hM0 true
    rw [hb] at hM1
    have hM := Lib.hid hM1
    clear hM0 hM1 hd hb
    generalize decide (n < 0) = dn at *
    generalize hm : n.natAbs = m at *
    obtain rfl : -(m : Int) = n := by omega
    have e1 : IntKind.u64.wrap (-(IntKind.u64.wrap (-(m : Int)))) = (m : Int) := by
      simp only [IntKind.wrap, IntKind.bits, IntKind.signed]; simp; omega
    clear hm
    go_enter Try.func58, Try.ntmps58
    go_wp2_with fail
    refine (hO.out _).mono ?_
    rintro e w1 ⟨A, rfl, hs, hf1, hb1⟩
    rw [World.size_alloc] at hb1
    have HS := Lib.hid hs; have HB1 := Lib.hid hb1; clear hs hb1 hf1
    go_wp2_with fail
    refine (hM.out _ _ HS.out).mono ?_
    rintro e w2 ⟨A', c', rfl, hs2, hc1, hc2, hf2, hb2⟩
    have hz1 : w.heap.size + 1 ≤ w1.heap.size := by have := HB1.out.size; rw [World.size_alloc] at this; exact this
    have hb3 : Below (w.heap.size + 1) (w.alloc (.cells #[.bool false, .slice none 0 0] 51)) w2 := HB1.out.trans (hb2.mono hz1)
    obtain ⟨k1, k2, k3⟩ := slot_keep hb3
    have HF2 := Lib.hid (hf2.mono hz1)
    have HS2 := Lib.hid ((hs2.setCell (hf2.mono hz1) (p := ⟨w.heap.size, 0, none⟩) (Nat.lt_succ_self _) (.bool dn)).setCell (hf2.mono hz1) (p := ⟨w.heap.size, 1, none⟩) (Nat.lt_succ_self _) (.slice A' (wl m) c'))
    have HB3 := Lib.hid (((below_slot hb3).setCell (p := ⟨w.heap.size, 0, none⟩) (Nat.le_refl _) (.bool dn)).setCell (p := ⟨w.heap.size, 1, none⟩) (Nat.le_refl _) (.slice A' (wl m) c'))
    clear hs2 hb2 hb3 HS HB1 hf2
    go_wp2_with fail
    refine bodyPost_ret (v := .agg #[.bool dn, .slice A' (wl m) c']) (by simp [results, Try.results58, go_sem, k1]) rfl ?_
    exact ⟨A', c', rfl, HS2.out, hc1, hc2, HF2.out.mono (Nat.le_succ _), HB3.out⟩
  · have hd : decide (n < 0) = false := decide_eq_false h0
    have hb : (false && decide (n.natAbs ≠ 0)) = decide (n < 0) := by rw [hd]; simp
    have hM1 := hM0 false
    rw [hb] at hM1
    have hM := Lib.hid hM1
    clear hM0 hM1 hd hb
    generalize decide (n < 0) = dn at *
    generalize hm : n.natAbs = m at *
    obtain rfl : (m : Int) = n := by omega
    clear hm
    go_enter Try.func58, Try.ntmps58
    go_wp2_with fail
    refine (hO.out _).mono ?_
    rintro e w1 ⟨A, rfl, hs, hf1, hb1⟩
    rw [World.size_alloc] at hb1
    have HS := Lib.hid hs; have HB1 := Lib.hid hb1; clear hs hb1 hf1
    go_wp2_with fail
    refine (hM.out _ _ HS.out).mono ?_
    rintro e w2 ⟨A', c', rfl, hs2, hc1, hc2, hf2, hb2⟩
    have hz1 : w.heap.size + 1 ≤ w1.heap.size := by have := HB1.out.size; rw [World.size_alloc] at this; exact this
    have hb3 : Below (w.heap.size + 1) (w.alloc (.cells #[.bool false, .slice none 0 0] 51)) w2 := HB1.out.trans (hb2.mono hz1)
    obtain ⟨k1, k2, k3⟩ := slot_keep hb3
    have HF2 := Lib.hid (hf2.mono hz1)
    have HS2 := Lib.hid ((hs2.setCell (hf2.mono hz1) (p := ⟨w.heap.size, 0, none⟩) (Nat.lt_succ_self _) (.bool dn)).setCell (hf2.mono hz1) (p := ⟨w.heap.size, 1, none⟩) (Nat.lt_succ_self _) (.slice A' (wl m) c'))
    have HB3 := Lib.hid (((below_slot hb3).setCell (p := ⟨w.heap.size, 0, none⟩) (Nat.le_refl _) (.bool dn)).setCell (p := ⟨w.heap.size, 1, none⟩) (Nat.le_refl _) (.slice A' (wl m) c'))
    clear hs2 hb2 hb3 HS HB1 hf2
    go_wp2_with fail
    refine bodyPost_ret (v := .agg #[.bool dn, .slice A' (wl m) c']) (by simp [results, Try.results58, go_sem, k1]) rfl ?_
    exact ⟨A', c', rfl, HS2.out, hc1, hc2, HF2.out.mono (Nat.le_succ _), HB3.out⟩
end Go.Proofs.Ytmlkiddkgikdhaa
