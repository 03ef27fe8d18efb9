/- The reference's machine integer. -/
import Derived.Test.YtmlkiddkgikdhaaSho
import Derived.Deep.RegionWith
namespace Go.Proofs.Ytmlkiddkgikdhaa
open Go.RowKit FF

/-- x's variable and another one that the call laid -/
abbrev Sxl (w : World) (X : Nat) (x0 x1 l0 l1 : Value) (w' : World) : Prop :=
  Below w.heap.size w w' ∧ w'.cell? ⟨X, 0, none⟩ = some x0 ∧ w'.cell? ⟨X, 1, none⟩ = some x1 ∧ w'.cell? ⟨w.heap.size, 0, none⟩ = some l0 ∧ w'.cell? ⟨w.heap.size, 1, none⟩ = some l1 ∧ w.heap.size < w'.heap.size
theorem Sxl.keep {w : World} {X : Nat} {x0 x1 l0 l1 : Value} {w0 w1 : World} (hX : X < w.heap.size) (h : Sxl w X x0 x1 l0 l1 w0) (hb : Below w0.heap.size w0 w1) : Sxl w X x0 x1 l0 l1 w1 := by
  obtain ⟨b, h1, h2, h3, h4, h9⟩ := h
  have k : ∀ p : Addr, p.block ≤ w.heap.size → w1.cell? p = w0.cell? p := fun p hp => hb.cell (by omega)
  exact ⟨b.trans (hb.mono b.size), by rw [k _ (by simp; omega)]; exact h1, by rw [k _ (by simp; omega)]; exact h2, by rw [k _ (by simp)]; exact h3, by rw [k _ (by simp)]; exact h4, Nat.lt_of_lt_of_le h9 hb.size⟩
theorem in_base {w w1 W : World} {Q : Prop} (h : Below w1.heap.size w1 W ∧ Q) (b : Below w.heap.size w w1) : Below w.heap.size w W := b.trans (h.1.mono b.size)
theorem sgn_neg {z : Int} (h : z < 0) : sgn z = -1 := by rcases sgn_cases z with h' | h' | h' <;> omega
theorem sgn_pos {z : Int} (h : 0 < z) : sgn z = 1 := by rcases sgn_cases z with h' | h' | h' <;> omega
theorem sgn_nonneg {z : Int} (h : 0 ≤ z) : 0 ≤ sgn z := by rcases sgn_cases z with h' | h' | h' <;> omega
theorem sgn_nonpos {z : Int} (h : z ≤ 0) : sgn z ≤ 0 := by rcases sgn_cases z with h' | h' | h' <;> omega
theorem val_drop_step {B : Nat} {xs : List Nat} {i : Nat} (h : i < xs.length) : val B (xs.drop i) = val B (xs.drop (i + 1)) * B + xs.getD i 0 := by
  rw [List.drop_eq_getElem_cons h]
  simp only [val]
  rw [List.getD_eq_getElem?_getD, List.getElem?_eq_getElem h, Nat.mul_comm]
  show _ + _ = _ + xs[i]
  omega
theorem val_drop_le {B : Nat} (xs : List Nat) (i : Nat) (hB : 0 < B) : val B (xs.drop i) ≤ val B xs := by
  rw [val_split B xs i]
  have : 1 * val B (xs.drop i) ≤ B ^ (min i xs.length) * val B (xs.drop i) := Nat.mul_le_mul_right _ (Nat.pow_pos hB)
  omega

set_option maxRecDepth 100000 in
set_option maxHeartbeats 4000000 in
theorem rSmall_any (s : Bool) (A : Option Addr) (n c : Nat) (x : Int) (w : World) (hx : AI w s A n c x) (hlen : n ≤ 100000) :
    Calls Try.prog 60 #[.agg #[.bool s, .slice A n c]] w fun e w' => e = .returned (.tuple #[.int .i64 (smallV x), .bool (smallB x)]) ∧ Below w.heap.size w w' := by
  have ex := hx.eq_sval
  have HX := Lib.hid hx
  have HD := Lib.hid (fun w' h => rDigits_any s A n c x w' h (by omega))
  unfold HalfPost at HD
  have hla := hx.hl_le
  obtain ⟨L, hL⟩ : ∃ L : Int, -9223372036854775808 = L := ⟨_, rfl⟩
  obtain ⟨M, hM⟩ : ∃ M : Int, 9223372036854775807 = M := ⟨_, rfl⟩
  have hwL : wl L.natAbs ≤ 2 := by rw [← hL]; exact wl_u64 (by decide)
  have hwM : wl M.natAbs ≤ 2 := by rw [← hM]; exact wl_u64 (by decide)
  have key : Hid ((x < L ∧ sgn (x - L) = -1 ∧ smallV x = 0 ∧ smallB x = false) ∨ ((sgn (x - L) = 0 ∨ sgn (x - L) = 1) ∧ sgn (x - M) = 1 ∧ smallV x = 0 ∧ smallB x = false) ∨ ((sgn (x - L) = 0 ∨ sgn (x - L) = 1) ∧ (sgn (x - M) = 0 ∨ sgn (x - M) = -1) ∧ smallV x = x ∧ smallB x = true ∧ L ≤ x ∧ x ≤ M)) := by
    subst hL; subst hM
    unfold smallV smallB
    have c1 := sgn_cases (x - -9223372036854775808)
    have c2 := sgn_cases (x - 9223372036854775807)
    by_cases h1 : x < -9223372036854775808
    · exact .inl ⟨h1, sgn_neg (by omega), if_neg (by omega), decide_eq_false (by omega)⟩
    · by_cases h2 : 9223372036854775807 < x
      · exact .inr (.inl ⟨by omega, sgn_pos (by omega), if_neg (by omega), decide_eq_false (by omega)⟩)
      · exact .inr (.inr ⟨by omega, by omega, if_pos (by omega), decide_eq_true (by omega), by omega, by omega⟩)
  have hO1 : ∀ w' : World, Calls Try.prog 61 #[.int .i64 (-9223372036854775808)] w' (fun e w2 => ∃ A' c', e = .returned (.agg #[.bool (decide (L < 0)), .slice A' (wl L.natAbs) c']) ∧ AI w2 (decide (L < 0)) A' (wl L.natAbs) c' L ∧ Below w'.heap.size w' w2) := fun w' => by subst hL; exact (rOf_any (-9223372036854775808) w' ⟨by omega, by omega⟩).mono fun _ _ ⟨A', c', h1, h2, h3, h4, _, h5⟩ => ⟨A', c', h1, AI.of_post h2 h3 h4, h5⟩
  have hO2 : ∀ w' : World, Calls Try.prog 61 #[.int .i64 9223372036854775807] w' (fun e w2 => ∃ A' c', e = .returned (.agg #[.bool (decide (M < 0)), .slice A' (wl M.natAbs) c']) ∧ AI w2 (decide (M < 0)) A' (wl M.natAbs) c' M ∧ Below w'.heap.size w' w2) := fun w' => by subst hM; exact (rOf_any 9223372036854775807 w' ⟨by omega, by omega⟩).mono fun _ _ ⟨A', c', h1, h2, h3, h4, _, h5⟩ => ⟨A', c', h1, AI.of_post h2 h3 h4, h5⟩
  have HO1 := Lib.hid hO1; have HO2 := Lib.hid hO2
  have HC1 := Lib.hid (fun (A1 : Option Addr) (c1 : Nat) (w' : World) h h' => rCmp_any s (decide (L < 0)) A A1 n (wl L.natAbs) c c1 x L w' h h' (by omega))
  have HC2 := Lib.hid (fun (A1 : Option Addr) (c1 : Nat) (w' : World) h h' => rCmp_any s (decide (M < 0)) A A1 n (wl M.natAbs) c c1 x M w' h h' (by omega))
  have HL := Lib.hid hL; have HM := Lib.hid hM
  clear hO1 hO2 hwL hwM hx
  generalize sgn (x - L) = g1 at *
  generalize sgn (x - M) = g2 at *
  generalize smallV x = sv at *
  generalize smallB x = sb at *
  have dL : decide (L < 0) = true := by rw [← HL.out]; rfl
  have dM : decide (M < 0) = false := by rw [← HM.out]; rfl
  rw [dL] at HO1 HC1
  rw [dM] at HO2 HC2
  clear hL hM dL dM
  generalize wl L.natAbs = nl at *
  generalize wl M.natAbs = nm at *
  rcases key.out with ⟨-, h2, h3, h4⟩ | ⟨h1, h2, h3, h4⟩ | ⟨h1, h2, h3, h4, h5, h6⟩
  · subst h2
    rw [h3, h4]
    clear h3 h4 key
    go_enter Try.func60, Try.ntmps60
    go_wp2_with fail
    refine (HO1.out _).mono ?_
    rintro e w1 ⟨A1, c1, rfl, s1, b1⟩
    rw [World.size_alloc] at b1
    obtain ⟨k, f, hz⟩ := slot_keep b1
    have X1 := Lib.hid (show Sxl w1 w.heap.size (.bool s) (.slice A n c) (.bool true) (.slice A1 nl c1) (w1.alloc (.cells #[.bool true, .slice A1 nl c1] 51)) from
      ⟨(Below.refl _ _).alloc (Nat.le_refl _) _, by rw [World.cell?_alloc_lt _ _ _ hz]; exact k 0, by rw [World.cell?_alloc_lt _ _ _ hz]; exact k 1, by rw [World.cell?_alloc_at _ _ _ _ rfl]; rfl, by rw [World.cell?_alloc_at _ _ _ _ rfl]; rfl, by simp⟩)
    have I1 := Lib.hid s1; have IX := Lib.hid (HX.out.keep (below_slot b1)); have BW := Lib.hid (below_slot b1)
    clear k f s1 b1
    obtain ⟨W2, hW2⟩ : ∃ W2, w1.alloc (.cells #[.bool true, .slice A1 nl c1] 51) = W2 := ⟨_, rfl⟩
    rw [hW2] at X1
    obtain ⟨-, c0, c1', c2', c3', -⟩ := X1.out
    have hC := Lib.hid (fun n => HC1.out A1 c1 (W2.drewN n) (in_ai ⟨below_drewN X1.out.1 n, X1.out.2⟩ IX.out) (in_ai ⟨below_drewN X1.out.1 n, X1.out.2⟩ I1.out))
    go_wp2_with fail
    try rw [hW2]
    clear hW2
    go_region_with (go_at_call 63; (refine (hC.out _).mono ?_); rintro e w' ⟨rfl, b2⟩)
    all_goals
      have b2' : Below W2.heap.size W2 w' := ⟨b2.os, b2.tape, b2.output, b2.size, b2.block⟩
      have BS := Lib.hid (BW.out.trans ((X1.out.1.trans (b2'.mono X1.out.1.size)).mono BW.out.size))
      clear b2 b2'
      go_wp2_with fail
      go_ret2
      exact ⟨rfl, BS.out⟩
  · rcases h1 with h1 | h1
    all_goals
      subst h1
      subst h2
      rw [h3, h4]
      clear h3 h4 key
      go_enter Try.func60, Try.ntmps60
      go_wp2_with fail
      refine (HO1.out _).mono ?_
      rintro e w1 ⟨A1, c1, rfl, s1, b1⟩
      rw [World.size_alloc] at b1
      obtain ⟨k, f, hz⟩ := slot_keep b1
      have X1 := Lib.hid (show Sxl w1 w.heap.size (.bool s) (.slice A n c) (.bool true) (.slice A1 nl c1) (w1.alloc (.cells #[.bool true, .slice A1 nl c1] 51)) from
        ⟨(Below.refl _ _).alloc (Nat.le_refl _) _, by rw [World.cell?_alloc_lt _ _ _ hz]; exact k 0, by rw [World.cell?_alloc_lt _ _ _ hz]; exact k 1, by rw [World.cell?_alloc_at _ _ _ _ rfl]; rfl, by rw [World.cell?_alloc_at _ _ _ _ rfl]; rfl, by simp⟩)
      have I1 := Lib.hid s1; have IX := Lib.hid (HX.out.keep (below_slot b1)); have BW := Lib.hid (below_slot b1)
      clear k f s1 b1
      go_wp2_with fail
      go_region_held3 (fun w' => Below w1.heap.size w1 w' ∧ w'.cell? ⟨w.heap.size, 0, none⟩ = some (.bool s) ∧ w'.cell? ⟨w.heap.size, 1, none⟩ = some (.slice A n c) ∧ w'.cell? ⟨w1.heap.size, 0, none⟩ = some (.bool true) ∧ w'.cell? ⟨w1.heap.size, 1, none⟩ = some (.slice A1 nl c1) ∧ w1.heap.size < w'.heap.size)
        (first
          | exact ⟨X1.out.1.drew, X1.out.2⟩
          | (refine Sxl.keep hz (by assumption) ?_; first | assumption | exact (Below.refl _ _).alloc (Nat.le_refl _) _ | exact below_drewN (Below.refl _ _) _))
        (first
        | (go_at_call 63; (with_reducible refine (HC1.out A1 c1 _ (in_ai (by assumption) IX.out) (in_ai (by assumption) I1.out)).mono ?_); rintro e w' ⟨rfl, b2⟩)
        | (go_at_call 61; (with_reducible refine (HO2.out _).mono ?_); rintro e w' ⟨A2, c2, rfl, i2, b3⟩)
        | (go_at_call 63; (with_reducible refine (HC2.out A2 c2 _ (in_ai (by assumption) IX.out) i2).mono ?_); rintro e w' ⟨rfl, b4⟩))
      have BS := Lib.hid (in_base (by assumption) BW.out)
      go_wp2_with fail
      go_ret2
      exact ⟨rfl, BS.out⟩
  · rcases h1 with h1 | h1 <;> rcases h2 with h2 | h2
    all_goals
      subst h1
      subst h2
      rw [h3, h4]
      clear h3 h4 key
      go_enter Try.func60, Try.ntmps60
      go_wp2_with fail
      refine (HO1.out _).mono ?_
      rintro e w1 ⟨A1, c1, rfl, s1, b1⟩
      rw [World.size_alloc] at b1
      obtain ⟨k, f, hz⟩ := slot_keep b1
      have X1 := Lib.hid (show Sxl w1 w.heap.size (.bool s) (.slice A n c) (.bool true) (.slice A1 nl c1) (w1.alloc (.cells #[.bool true, .slice A1 nl c1] 51)) from
        ⟨(Below.refl _ _).alloc (Nat.le_refl _) _, by rw [World.cell?_alloc_lt _ _ _ hz]; exact k 0, by rw [World.cell?_alloc_lt _ _ _ hz]; exact k 1, by rw [World.cell?_alloc_at _ _ _ _ rfl]; rfl, by rw [World.cell?_alloc_at _ _ _ _ rfl]; rfl, by simp⟩)
      have I1 := Lib.hid s1; have IX := Lib.hid (HX.out.keep (below_slot b1)); have BW := Lib.hid (below_slot b1)
      clear k f s1 b1
      go_wp2_with fail
      go_region_held3 (fun w' => Below w1.heap.size w1 w' ∧ w'.cell? ⟨w.heap.size, 0, none⟩ = some (.bool s) ∧ w'.cell? ⟨w.heap.size, 1, none⟩ = some (.slice A n c) ∧ w'.cell? ⟨w1.heap.size, 0, none⟩ = some (.bool true) ∧ w'.cell? ⟨w1.heap.size, 1, none⟩ = some (.slice A1 nl c1) ∧ w1.heap.size < w'.heap.size)
        (first
          | exact ⟨X1.out.1.drew, X1.out.2⟩
          | (refine Sxl.keep hz (by assumption) ?_; first | assumption | exact (Below.refl _ _).alloc (Nat.le_refl _) _ | exact below_drewN (Below.refl _ _) _))
        (first
        | (go_at_call 63; (with_reducible refine (HC1.out A1 c1 _ (in_ai (by assumption) IX.out) (in_ai (by assumption) I1.out)).mono ?_); rintro e w' ⟨rfl, b2⟩)
        | (go_at_call 61; (with_reducible refine (HO2.out _).mono ?_); rintro e w' ⟨A2, c2, rfl, i2, b3⟩)
        | (go_at_call 63; (with_reducible refine (HC2.out A2 c2 _ (in_ai (by assumption) IX.out) i2).mono ?_); rintro e w' ⟨rfl, b4⟩))
      have BS := Lib.hid (in_base (by assumption) BW.out)
      have IX2 := Lib.hid (in_ai (by assumption) IX.out)
      have hlx : 0 < hl x.natAbs ∨ hl x.natAbs = 0 := by omega
      have HDD := HD.out _ IX2.out
      have HDC := Lib.hid HDD
      have hk0 : w'.cell? ⟨w.heap.size, 0, none⟩ = some (.bool s) := (by assumption : Sxl w1 w.heap.size (.bool s) (.slice A n c) (.bool true) (.slice A1 nl c1) w').2.1
      have hwz : w.heap.size < w'.heap.size := by have := (by assumption : Sxl w1 w.heap.size (.bool s) (.slice A n c) (.bool true) (.slice A1 nl c1) w').1.size; omega
      go_wp2_with fail
      refine HDC.out.mono ?_
      rintro e w3 ⟨A3, c3, rfl, s3, p3, q3, -, b5⟩
      have B3 := Lib.hid (BS.out.trans (b5.mono (by omega)))
      have S3 := Lib.hid s3
      have hk3 : w3.cell? ⟨w.heap.size, 0, none⟩ = some (.bool s) := by rw [b5.cell (p := ⟨w.heap.size, 0, none⟩) hwz]; exact hk0
      have hwz3 : w.heap.size < w3.heap.size := Nat.lt_of_lt_of_le hwz b5.size
      clear s3 b5 HDC HDD hk0 hwz BS IX2 IX I1 X1
      have EX := Lib.hid ex
      have H5 := Lib.hid h5; have H6 := Lib.hid h6
      have HV := Lib.hid (val_digs' HB2 x.natAbs)
      have HLA := Lib.hid hla
      clear hlx ex h5 h6 hla
      generalize x.natAbs = v at *
      obtain ⟨l, hll⟩ : ∃ l, hl v = l := ⟨_, rfl⟩
      rw [hll] at p3 ⊢
      have HLl := Lib.hid (show (digs HB v).length = l from hll)
      have HVB := Lib.hid (show v ≤ 9223372036854775808 ∧ (s = false → v ≤ 9223372036854775807) by
        have e1 := EX.out
        have e2 := H5.out
        have e3 := H6.out
        rw [← HL.out] at e2
        rw [← HM.out] at e3
        cases s <;> simp [sval] at e1 <;> refine ⟨?_, fun hs => ?_⟩ <;> first | contradiction | omega)
      have hst := Lib.hid (show val HB ((digs HB v).drop l) = 0 by rw [← HLl.out, List.drop_length]; rfl)
      have hlen2 : l ≤ 200000 := by
        have := HLA.out
        rw [hll] at this
        omega
      clear hll HLA
      go_wp2_with fail
      go_loop [6, 7] (fun s6 s7 => ∃ k : Nat, s7 = .int .i64 ((k : Int) - 1) ∧ k ≤ l ∧ s6 = .int .i64 (sval s (val HB ((digs HB v).drop k)))) (fun _ s => (intOf s + 1).toNat)
      case atStart => exact ⟨l, rfl, Nat.le_refl _, by rw [hst.out]; cases s <;> rfl⟩
      case round =>
        clear hst
        obtain ⟨k, rfl, hk, rfl⟩ := hrel
        by_cases h0 : 0 < k
        · obtain ⟨i, rfl⟩ : ∃ i, k = i + 1 := ⟨k - 1, by omega⟩
          rw [show ((i + 1 : Nat) : Int) - 1 = (i : Int) by omega]
          obtain ⟨b6, o6, rfl, hb6, hc6⟩ := S3.out (by rw [HLl.out]; omega)
          have hx1 := hc6 i (by rw [HLl.out]; omega)
          have hst := val_drop_step (B := HB) (xs := digs HB v) (i := i) (by rw [HLl.out]; omega)
          have hle := val_drop_le (B := HB) (digs HB v) i (by decide)
          rw [HV.out] at hle
          generalize val HB ((digs HB v).drop (i + 1)) = D1 at *
          obtain ⟨D0, hD0⟩ : ∃ D0, val HB ((digs HB v).drop i) = D0 := ⟨_, rfl⟩
          rw [hD0] at hst hle
          have HD0 := Lib.hid hD0
          clear hc6 hD0
          generalize (digs HB v).getD i 0 = d at *
          have hst' : D0 = D1 * 65536 + d := hst
          have hvb := HVB.out
          cases s
          · obtain ⟨N, hN⟩ : ∃ N : Int, sval false D1 = N := ⟨_, rfl⟩
            obtain ⟨Q, hQ⟩ : ∃ Q : Int, sval false D0 = Q := ⟨_, rfl⟩
            have hN' : (D1 : Int) = N := hN
            have hQ' : (D0 : Int) = Q := hQ
            have e1 : IntKind.i64.wrap (N * 65536) = N * 65536 := IntWalk.i64_in _ (by have := hvb.2 rfl; omega)
            have e2 : IntKind.i64.wrap (N * 65536 + d) = Q := by rw [IntWalk.i64_in _ (by have := hvb.2 rfl; omega)]; omega
            have HQ := Lib.hid hQ
            rw [hN]
            clear hvb hst hst' hle hN hN' hQ hQ' HVB
            go_wp2_with fail
            exact ⟨⟨i, rfl, by omega, by rw [HD0.out, HQ.out]⟩, by simp [intOf]⟩
          · obtain ⟨N, hN⟩ : ∃ N : Int, sval true D1 = N := ⟨_, rfl⟩
            obtain ⟨Q, hQ⟩ : ∃ Q : Int, sval true D0 = Q := ⟨_, rfl⟩
            have hN' : -(D1 : Int) = N := hN
            have hQ' : -(D0 : Int) = Q := hQ
            have e1 : IntKind.i64.wrap (N * 65536) = N * 65536 := IntWalk.i64_in _ (by omega)
            have e2 : IntKind.i64.wrap (N * 65536 - d) = Q := by rw [IntWalk.i64_in _ (by omega)]; omega
            have HQ := Lib.hid hQ
            rw [hN]
            clear hvb hst hst' hle hN hN' hQ hQ' HVB
            go_wp2_with fail
            exact ⟨⟨i, rfl, by omega, by rw [HD0.out, HQ.out]⟩, by simp [intOf]⟩
        · obtain rfl : k = 0 := by omega
          rw [List.drop_zero, HV.out, EX.out]
          go_wp2_with fail
          go_ret2
          exact ⟨rfl, B3.out⟩
end Go.Proofs.Ytmlkiddkgikdhaa
