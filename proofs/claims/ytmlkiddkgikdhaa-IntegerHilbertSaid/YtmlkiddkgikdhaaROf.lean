/- The reference's integers: trim, made, Of. -/
import Derived.Test.YtmlkiddkgikdhaaOwn
namespace Go.Proofs.Ytmlkiddkgikdhaa
open Go.RowKit FF

theorem WB_half : WB = HB * HB := rfl

set_option maxHeartbeats 1000000 in
set_option maxRecDepth 100000 in
/-- trim -/
theorem rTrim_any (A : Option Addr) (xs : List Nat) (c : Nat) (w : World) (h : Shows .i64 w A xs) (hd : Dig HB xs) (hc : xs.length ≤ c) (_hc2 : c ≤ maxLen) (hxl : xs.length ≤ 3000000) :
    Calls Try.prog 140 #[.slice A xs.length c] w fun e w' => ∃ A' c', e = .returned (.slice A' (hl (val HB xs)) c') ∧ Shows .i64 w' A' (digs HB (val HB xs)) ∧ hl (val HB xs) ≤ c' ∧ c' ≤ maxLen ∧ Fresh w.heap.size A' ∧ Below w.heap.size w w' := by

  obtain ⟨i0, hi, hz0, hz1, hz2⟩ := info_parts info_int
  have HI := Lib.hid hi; have HZ0 := Lib.hid hz0; have HZ1 := Lib.hid hz1; have HZ2 := Lib.hid hz2
  clear hi hz0 hz1 hz2
  have hlen := Lib.hid (fun (j : Nat) (hj : j ≤ xs.length) => (by rw [List.length_take]; omega : (xs.take j).length = j))
  have HS := Lib.hid h
  have HA := Lib.hid h
  have hrel0 := Lib.hid (show val HB (xs.take xs.length) = val HB xs by rw [List.take_of_length_le (Nat.le_refl _)])
  have hfin := Lib.hid (fun (j : Nat) (hj : j ≤ xs.length) (hv : val HB (xs.take j) = val HB xs) (hl : 0 < j → xs.getD (j - 1) 0 ≠ 0) =>
    (take_trim HB2 hd hj hv hl : xs.take j = digs HB (val HB xs)))
  have hstep := Lib.hid (fun (j : Nat) (hj : j < xs.length) (h0 : xs.getD j 0 = 0) (hv : val HB (xs.take (j + 1)) = val HB xs) => val_take_zero (B := HB) hj h0 hv)
  clear h hd
  go_enter Try.func140, Try.ntmps140
  go_wp2
  unfold Shows at HA
  generalize xs.length = n at *
  go_loop [3] (fun t => ∃ k : Nat, t = .int .i64 k ∧ k ≤ n ∧ val HB (xs.take k) = val HB xs) (fun t => (intOf t).toNat)
  case atStart => exact ⟨n, rfl, Nat.le_refl _, hrel0.out⟩
  case round =>
    obtain ⟨k, rfl, hk, hv⟩ := hrel
    have HV := Lib.hid hv; clear hv
    by_cases h0 : 0 < k
    · obtain ⟨j, rfl⟩ : ∃ j, k = j + 1 := ⟨k - 1, by omega⟩
      obtain ⟨b, o, rfl, hb, hcell⟩ := HA.out (by omega)
      have hx := hcell j (by omega)
      have hS := Lib.hid (fun h0 => hstep.out j (by omega) h0 HV.out)
      have hF := Lib.hid (fun h0 => hfin.out (j + 1) hk HV.out (fun _ => h0))
      clear hcell hrel0 hfin hstep
      rw [Nat.add_sub_cancel] at hF
      generalize xs.getD j 0 = x at *
      have e1 : ((j + 1 : Nat) : Int) = (j : Int) + 1 := by omega
      rw [e1]
      by_cases c0 : x = 0
      · have hS2 := Lib.hid (hS.out c0)
        clear hF hS HA
        subst c0
        go_wp2
        exact ⟨⟨j, rfl, by omega, hS2.out⟩, by simp [intOf]⟩
      · have d0 : ((x : Int) == 0) = false := f_beq (by omega)
        have hF2 := Lib.hid (hF.out c0)
        have hLn := hlen.out (j + 1) hk
        have hTk : Shows .i64 (w.alloc (.cells #[] 3)) (some ⟨b, o, none⟩) (xs.take (j + 1)) := (HS.out.take (j + 1)).alloc _
        have hown := World.ownsRow_made (base := w.heap.size) (size := 1) (e := 3) w #[] 0 (Nat.le_refl _) (by simp [maxLen]) rfl
        rw [hF2.out] at hTk hLn
        have HTk := Lib.hid hTk; have Hown := Lib.hid hown; have HLn := Lib.hid hLn
        clear hF hS c0 hb HA HV hTk hown hLn hlen HS
        go_wp2_with (at_builtin; refine wpList_append_own _ rfl (.tmp 18) (.tmp 21) 30 rfl w.heap.size 3 i0 (.int .i64 0) 1 8 Try.underlying30 HI.out HZ0.out HZ1.out HZ2.out rfl (by decide) _ 0 [] rfl Hown.out ⟨b, o, none⟩ (j + 1) c (cells .i64 (digs HB (val HB xs))) rfl (by rw [cells_length, HLn.out, Nat.mul_one]) (cells_of_shows HTk.out) (cells_one _ _) (by unfold maxLen; omega) (by omega) (by simp) ?_; intro v' w1 hown1 hgrow1 _)
        rw [Nat.zero_add, List.nil_append, ← HLn.out] at hown1
        obtain ⟨A', c', rfl, s1, s2, s3, s4⟩ := own_shows hown1
        have hbl := ((Below.refl w.heap.size w).alloc (Nat.le_refl _) _).grown hgrow1 (by simp) (fun k hk => own_row_ge Hown.out k hk)
        clear hown1 hgrow1
        go_wp2
        go_ret
        exact ⟨A', c', rfl, s1, s2, s3, s4, hbl⟩
    · obtain rfl : k = 0 := by omega
      have hF := Lib.hid (hfin.out 0 (by omega) HV.out (fun h => absurd h (by omega)))
      clear hfin hstep HA
      rw [List.take_zero] at hF
      have hz : hl (val HB xs) = 0 := by unfold hl; rw [← hF.out]; rfl
      have HZ := Lib.hid hz
      clear hz
      go_wp2_with (at_builtin; refine wpList_append_nothing _ rfl (.tmp 18) (.tmp 21) 30 rfl 3 i0 Try.underlying30 HI.out (some ⟨w.heap.size, 0, none⟩) A 0 0 c rfl rfl (Nat.le_refl _) ?_)
      go_ret
      exact ⟨some ⟨w.heap.size, 0, none⟩, 0, by rw [HZ.out]; rfl, by rw [← hF.out]; exact Shows.nil, by rw [HZ.out]; exact Nat.le_refl _, by simp [maxLen], Fresh.mk (Nat.le_refl _), (Below.refl w.heap.size w).alloc (Nat.le_refl _) _⟩
end Go.Proofs.Ytmlkiddkgikdhaa
