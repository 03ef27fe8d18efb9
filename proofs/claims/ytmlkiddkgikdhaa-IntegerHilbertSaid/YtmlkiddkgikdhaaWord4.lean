/- Words: compare. -/
import Derived.Test.YtmlkiddkgikdhaaWord3
namespace Go.Proofs.Ytmlkiddkgikdhaa
open Go.RowKit FF

set_option maxHeartbeats 1000000 in
theorem compare_any (A A' : Option Addr) (a b c c' : Nat) (w : World) (ha : Shows .u32 w A (digs WB a)) (hb : Shows .u32 w A' (digs WB b)) (hal : wl a ≤ 1000000) :
    Calls Try.prog 107 #[.slice A (wl a) c, .slice A' (wl b) c'] w (Ret w (.int .i64 (cmpN a b))) := by
  have h1 := Lib.hid (fun h : wl a < wl b => cmpN_lt (cmp_len WB2 h))
  have h2 := Lib.hid (fun h : wl b < wl a => cmpN_gt (cmp_len WB2 h))
  by_cases hne : wl a = wl b
  · have hl : (digs WB a).length = (digs WB b).length := hne
    have hda := dig_digs' WB2 a
    have hdb := dig_digs' WB2 b
    have va := val_digs' WB2 a
    have vb := val_digs' WB2 b
    have f1 := Lib.hid (fun (i : Nat) (hi : i < (digs WB a).length) (hd : (digs WB a).drop (i + 1) = (digs WB b).drop (i + 1)) (h : (digs WB a).getD i 0 < (digs WB b).getD i 0) =>
      cmpN_lt (by have := cmp_top hda hl hi hd h; rwa [va, vb] at this))
    have f2 := Lib.hid (fun (i : Nat) (hi : i < (digs WB a).length) (hd : (digs WB a).drop (i + 1) = (digs WB b).drop (i + 1)) (h : (digs WB b).getD i 0 < (digs WB a).getD i 0) =>
      cmpN_gt (by have := cmp_top hdb hl.symm (by omega) hd.symm h; rwa [va, vb] at this))
    have f3 := Lib.hid (fun (i : Nat) (hi : i < (digs WB a).length) (hd : (digs WB a).drop (i + 1) = (digs WB b).drop (i + 1)) (h : (digs WB a).getD i 0 = (digs WB b).getD i 0) => drop_step hl hi hd h)
    have f4 := Lib.hid (fun (hd : (digs WB a).drop 0 = (digs WB b).drop 0) => cmpN_eq (show a = b by have := congrArg (val WB) hd; rw [List.drop_zero, List.drop_zero, va, vb] at this; exact this))
    have g0 := Lib.hid (show (digs WB a).drop (wl a) = (digs WB b).drop (wl a) from drop_len hl)
    have HA := Lib.hid (show 0 < wl a → ∃ b o, A = some ⟨b, o, none⟩ ∧ b < w.heap.size ∧ ∀ i, i < wl a → w.cell? ⟨b, o + i, none⟩ = some (.int .u32 ((digs WB a).getD i 0 : Nat)) from ha)
    have HB := Lib.hid (show 0 < wl b → ∃ b' o, A' = some ⟨b', o, none⟩ ∧ b' < w.heap.size ∧ ∀ i, i < wl b → w.cell? ⟨b', o + i, none⟩ = some (.int .u32 ((digs WB b).getD i 0 : Nat)) from hb)
    change Hid (∀ (i : Nat), i < wl a → _) at f1 f2 f3
    clear h1 h2 ha hb hl hda hdb va vb
    rw [← hne] at HB ⊢
    clear hne
    generalize wl a = n at *
    go_enter Try.func107, Try.ntmps107
    go_wp2
    go_loopw [5] (fun s wr => ∃ k : Nat, s = .int .i64 ((k : Int) - 1) ∧ k ≤ n ∧ (digs WB a).drop k = (digs WB b).drop k ∧ ∃ m, wr = w.drewN m) (fun s _ => (intOf s + 1).toNat)
    case atStart => exact ⟨n, rfl, Nat.le_refl _, g0.out, 0, rfl⟩
    case round =>
      clear g0
      obtain ⟨k, rfl, hk, hd, m, rfl⟩ := hrel
      have HD := Lib.hid hd; clear hd
      by_cases h0 : 0 < k
      · obtain ⟨j, rfl⟩ : ∃ j, k = j + 1 := ⟨k - 1, by omega⟩
        rw [show ((j + 1 : Nat) : Int) - 1 = (j : Int) by omega]
        obtain ⟨b1, o1, rfl, hb1, hc1⟩ := HA.out (by omega)
        obtain ⟨b2, o2, rfl, hb2, hc2⟩ := HB.out (by omega)
        have x1 := hc1 j (by omega)
        have x2 := hc2 j (by omega)
        have q1 := f1.out j (by omega) HD.out
        have q2 := f2.out j (by omega) HD.out
        have q3 := f3.out j (by omega) HD.out
        clear hc1 hc2 f1 f2 f3 f4 HA HB HD
        generalize (digs WB a).getD j 0 = x at *
        generalize (digs WB b).getD j 0 = y at *
        have hj : (j : Int) < n := by omega
        by_cases hxy : x = y
        · have hQ := Lib.hid (q3 hxy)
          clear q1 q2 q3
          subst hxy
          go_wp2
          go_quiet (fail)
          go_wp2
          exact ⟨⟨j, rfl, by omega, hQ.out, _, rfl⟩, by simp [intOf]⟩
        · by_cases hlt : x < y
          · have hQ := Lib.hid (q1 hlt)
            clear q1 q2 q3
            have d1 : ((x : Int) != y) = true := bne_iff_ne.2 (by omega)
            have hlt' : (x : Int) < y := by omega
            clear hxy
            go_wp2
            go_quiet (fail)
            go_wp2
            go_quiet (fail)
            go_wp2
            go_ret
            exact Ret.eqqq _ _ _ (ret_int hQ.out.symm)
          · have hQ := Lib.hid (q2 (by omega))
            clear q1 q2 q3
            have d1 : ((x : Int) != y) = true := bne_iff_ne.2 (by omega)
            have hlt' : ¬ (x : Int) < y := by omega
            clear hxy
            go_wp2
            go_quiet (fail)
            go_wp2
            go_quiet (fail)
            go_wp2
            go_ret
            exact Ret.eqqq _ _ _ (ret_int hQ.out.symm)
      · obtain rfl : k = 0 := by omega
        have hF := Lib.hid (f4.out HD.out)
        clear f1 f2 f3 f4 HA HB HD
        go_wp2
        go_ret
        exact Ret.eq _ (ret_int hF.out.symm)
  · have d0 : (((wl a : Nat) : Int) != (wl b : Nat)) = true := bne_iff_ne.2 (by omega)
    clear ha hb
    by_cases hlt : wl a < wl b
    · have hQ := Lib.hid (h1.out hlt)
      clear h1 h2
      generalize wl a = n at *
      generalize wl b = m at *
      go_enter Try.func107, Try.ntmps107
      go_wp2
      go_ret
      exact Ret.eq0 (ret_int hQ.out.symm)
    · have hQ := Lib.hid (h2.out (by omega))
      clear h1 h2
      generalize wl a = n at *
      generalize wl b = m at *
      go_enter Try.func107, Try.ntmps107
      go_wp2
      go_ret
      exact Ret.eq0 (ret_int hQ.out.symm)
end Go.Proofs.Ytmlkiddkgikdhaa
