/- The reference's digits: which are less; sum, difference. -/
import Derived.Test.YtfjmhfmhijhpkaaGreatDoorRdg
namespace Go.Proofs.YtfjmhfmhijhpkaaGreatDoor
open Go.RowKit FF

theorem ltb_lt {a b : Nat} (h : a < b) : decide (a < b) = true := decide_eq_true h
theorem ltb_ge {a b : Nat} (h : b ≤ a) : decide (a < b) = false := decide_eq_false (by omega)

set_option maxHeartbeats 1000000 in
theorem rLess_any (A A' : Option Addr) (a b c c' : Nat) (w : World) (ha : Shows .i64 w A (digs HB a)) (hb : Shows .i64 w A' (digs HB b)) (hal : hl a ≤ 3000000) :
    Calls Tryz.prog 159 #[.slice A (hl a) c, .slice A' (hl b) c'] w (Ret w (.bool (decide (a < b)))) := by
  have h1 := Lib.hid (fun h : hl a < hl b => ltb_lt (cmp_len HB2 h))
  have h2 := Lib.hid (fun h : hl b < hl a => ltb_ge (Nat.le_of_lt (cmp_len HB2 h)))
  by_cases hne : hl a = hl b
  · have hle : (digs HB a).length = (digs HB b).length := hne
    have hda := dig_digs' HB2 a
    have hdb := dig_digs' HB2 b
    have va := val_digs' HB2 a
    have vb := val_digs' HB2 b
    have f1 := Lib.hid (fun (i : Nat) (hi : i < (digs HB a).length) (hd : (digs HB a).drop (i + 1) = (digs HB b).drop (i + 1)) (h : (digs HB a).getD i 0 < (digs HB b).getD i 0) =>
      ltb_lt (by have := cmp_top hda hle hi hd h; rwa [va, vb] at this))
    have f2 := Lib.hid (fun (i : Nat) (hi : i < (digs HB a).length) (hd : (digs HB a).drop (i + 1) = (digs HB b).drop (i + 1)) (h : (digs HB b).getD i 0 < (digs HB a).getD i 0) =>
      ltb_ge (Nat.le_of_lt (by have := cmp_top hdb hle.symm (by omega) hd.symm h; rwa [va, vb] at this)))
    have f3 := Lib.hid (fun (i : Nat) (hi : i < (digs HB a).length) (hd : (digs HB a).drop (i + 1) = (digs HB b).drop (i + 1)) (h : (digs HB a).getD i 0 = (digs HB b).getD i 0) => drop_step hle hi hd h)
    have f4 := Lib.hid (fun (hd : (digs HB a).drop 0 = (digs HB b).drop 0) => ltb_ge (show b ≤ a by have := congrArg (val HB) hd; rw [List.drop_zero, List.drop_zero, va, vb] at this; omega))
    have g0 := Lib.hid (show (digs HB a).drop (hl a) = (digs HB b).drop (hl a) from drop_len hle)
    have HA := Lib.hid (show 0 < hl a → ∃ b o, A = some ⟨b, o, none⟩ ∧ b < w.heap.size ∧ ∀ i, i < hl a → w.cell? ⟨b, o + i, none⟩ = some (.int .i64 ((digs HB a).getD i 0 : Nat)) from ha)
    have HB := Lib.hid (show 0 < hl b → ∃ b' o, A' = some ⟨b', o, none⟩ ∧ b' < w.heap.size ∧ ∀ i, i < hl b → w.cell? ⟨b', o + i, none⟩ = some (.int .i64 ((digs HB b).getD i 0 : Nat)) from hb)
    change Hid (∀ (i : Nat), i < hl a → _) at f1 f2 f3
    clear h1 h2 ha hb hle hda hdb va vb
    rw [← hne] at HB ⊢
    clear hne
    generalize decide (a < b) = B at *
    generalize hl a = n at *
    go_enter Tryz.func159, Tryz.ntmps159
    go_wp2
    go_loopw [5] (fun s wr => ∃ k : Nat, s = .int .i64 ((k : Int) - 1) ∧ k ≤ n ∧ (digs FF.HB a).drop k = (digs FF.HB b).drop k ∧ ∃ m, wr = w.drewN m) (fun s _ => (intOf s + 1).toNat)
    case atStart => exact ⟨n, rfl, Nat.le_refl _, g0.out, 0, rfl⟩
    case round =>
      clear g0
      obtain ⟨k, rfl, hk, hd, m, rfl⟩ := hrel
      have HD := Lib.hid hd; clear hd
      by_cases h0 : 0 < k
      · obtain ⟨j, rfl⟩ : ∃ j, k = j + 1 := ⟨k - 1, by omega⟩
        rw [show ((j + 1 : Nat) : Int) - 1 = (j : Int) by omega]
        obtain ⟨b1, o1, rfl, hb1, hc1⟩ := HA.out (by omega)
        obtain ⟨b2, o2, rfl, hb2, hc2⟩ := HB.out (by omega)
        have x1 := hc1 j (by omega)
        have x2 := hc2 j (by omega)
        have q1 := f1.out j (by omega) HD.out
        have q2 := f2.out j (by omega) HD.out
        have q3 := f3.out j (by omega) HD.out
        clear hc1 hc2 f1 f2 f3 f4 HA HB HD
        generalize (digs FF.HB a).getD j 0 = x at *
        generalize (digs FF.HB b).getD j 0 = y at *
        have hj : (j : Int) < n := by omega
        by_cases hxy : x = y
        · have hQ := Lib.hid (q3 hxy)
          clear q1 q2 q3
          subst hxy
          go_wp2
          go_quiet (fail)
          go_wp2
          exact ⟨⟨j, rfl, by omega, hQ.out, _, rfl⟩, by simp [intOf]⟩
        · by_cases hlt : x < y
          · have hQ := Lib.hid (q1 hlt)
            clear q1 q2 q3
            have d1 : ((x : Int) != y) = true := bne_iff_ne.2 (by omega)
            have d2 : decide (x < y) = true := decide_eq_true hlt
            clear hxy hlt
            go_wp2
            go_quiet (fail)
            go_wp2
            go_quiet (fail)
            go_wp2
            go_ret
            exact Ret.eqqq _ _ _ (ret_bool hQ.out.symm)
          · have hQ := Lib.hid (q2 (by omega))
            clear q1 q2 q3
            have d1 : ((x : Int) != y) = true := bne_iff_ne.2 (by omega)
            have d2 : decide (x < y) = false := decide_eq_false hlt
            clear hxy hlt
            go_wp2
            go_quiet (fail)
            go_wp2
            go_quiet (fail)
            go_wp2
            go_ret
            exact Ret.eqqq _ _ _ (ret_bool hQ.out.symm)
      · obtain rfl : k = 0 := by omega
        have hF := Lib.hid (f4.out HD.out)
        clear f1 f2 f3 f4 HA HB HD
        go_wp2
        go_ret
        exact Ret.eq _ (ret_bool hF.out.symm)
  · have d0 : (((hl a : Nat) : Int) != (hl b : Nat)) = true := bne_iff_ne.2 (by omega)
    clear ha hb
    by_cases hlt : hl a < hl b
    · have hQ := Lib.hid (h1.out hlt)
      have d2 : decide (hl a < hl b) = true := decide_eq_true hlt
      clear h1 h2 hlt hne
      generalize hl a = n at *
      generalize hl b = m at *
      go_enter Tryz.func159, Tryz.ntmps159
      go_wp2
      go_ret
      exact Ret.eq0 (ret_bool hQ.out.symm)
    · have hQ := Lib.hid (h2.out (by omega))
      have d2 : decide (hl a < hl b) = false := decide_eq_false hlt
      clear h1 h2 hlt hne
      generalize hl a = n at *
      generalize hl b = m at *
      go_enter Tryz.func159, Tryz.ntmps159
      go_wp2
      go_ret
      exact Ret.eq0 (ret_bool hQ.out.symm)
end Go.Proofs.YtfjmhfmhijhpkaaGreatDoor
