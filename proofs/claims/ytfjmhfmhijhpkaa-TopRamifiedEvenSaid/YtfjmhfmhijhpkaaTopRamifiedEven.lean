/- The law TopRamifiedEven answers true at all inputs. -/
import Derived.Test.YtfjmhfmhijhpkaaDiv
import Derived.Test.YtfjmhfmhijhpkaaRfy
import Derived.Test.YtfjmhfmhijhpkaaNms
namespace Go.Proofs.Ytfjmhfmhijhpkaa
open Go.RowKit FF

theorem hil_inf {a b : Int} (h : aE a b = 0) : hilV a b 0 = (if defB a b = true then -1 else 1) ∧ hilE a b 0 = 0 := by
  obtain ⟨ha, hb, a9, b9⟩ := aE_zero.1 h
  have hE : hilE a b 0 = 0 := by
    unfold hilE
    rw [if_neg (by omega), if_neg (by simp [inB]; omega), if_neg (by omega)]
  refine ⟨?_, hE⟩
  unfold hilV
  rw [if_pos hE, hil_real]; rfl
theorem hil_at {a b p : Int} (h : aE a b = 0) (hp : isPB p = true) : hilV a b p = Hil a b p ∧ hilE a b p = 0 := by
  obtain ⟨ha, hb, a9, b9⟩ := aE_zero.1 h
  have hE : hilE a b p = 0 := by
    unfold hilE
    rw [if_neg (by omega), if_neg (by simp [inB]; omega), if_neg (by rw [hp]; simp)]
  exact ⟨hilV_prime h hp, hE⟩
theorem nm_null {a b : Int} {q : Qt} (h : nmQ a b q = 0) : nmN a b q = 0 := by
  unfold nmN; rw [h]; unfold lowN; simp

theorem mem_ram {a b p : Int} (h2 : 2 ≤ p) (h1 : p ≤ 1000) (hp : isPB p = true) (h : p ≤ 2 ∨ a.tmod p = 0 ∨ b.tmod p = 0) : decide (p ∈ ramL a b 999) = (Hil a b p == -1) := by
  rw [Bool.eq_iff_iff, decide_eq_true_iff, beq_iff_eq, ramL_mem]
  refine ⟨fun g => g.2.2, fun g => ⟨⟨h2, by omega⟩, (ramB_iff h2).2 ⟨isPB_iff.1 hp, ?_⟩, g⟩⟩
  rcases h with h | h | h
  · exact .inl (by omega)
  · exact .inr (.inl (Int.dvd_of_tmod_eq_zero h))
  · exact .inr (.inr (Int.dvd_of_tmod_eq_zero h))
theorem ram_mod {a b : Int} {M N : Nat} (hE : aE a b = 0) (hM : M = N + (if defB a b = true then 1 else 0)) (hN : (ramL a b 999).length = N) : M % 2 = 0 := by
  have := ram_even hE
  rw [hN] at this
  rw [hM]; exact this
theorem sp_13 {a b : Int} {M N : Nat} (hE : aE a b = 0) (hM : M = N + (if defB a b = true then 1 else 0)) (hN : (ramL a b 999).length = N) (h : 0 < M) : spE a b = 13 := by
  have := ram_mod hE hM hN
  unfold spE
  rw [if_pos hE, if_neg]
  intro hl
  rw [hl] at hN
  simp only [List.length_nil] at hN
  split at hM <;> omega
theorem sp_0 {a b : Int} {N : Nat} (hE : aE a b = 0) (hM : 0 = N + (if defB a b = true then 1 else 0)) (hN : (ramL a b 999).length = N) : spE a b = 0 := by
  refine spE_zero.2 ⟨hE, List.eq_nil_of_length_eq_zero ?_⟩
  omega

set_option maxHeartbeats 4000000 in
set_option maxRecDepth 100000 in
theorem TopRamifiedEven_law (a b : Int) (w : World) :
    Calls Try.prog 5 #[.agg #[.int .i64 a, .int .i64 b]] w fun e w' => e = .returned (.bool true) ∧ Below w.heap.size w w' := by
  have HR := Lib.hid ramifies_any
  have hC := fun w => rCheck_any a b w
  by_cases hE : aE a b = 0
  rotate_left
  · generalize aE a b = E at *
    have HC := Lib.hid hC
    have d2 : (E != 0) = true := bne_iff_ne.2 hE
    clear hC hE
    go_enter Try.func5, Try.ntmps5
    go_upto_region 1 with fail
    obtain ⟨W0, hW0⟩ : ∃ W0 : World, W0 = (w.alloc (.cells #[.int .i64 a, .int .i64 b] 23)) := ⟨_, rfl⟩
    rw [← hW0]
    have HB0 := Lib.hid (show Bx w [(w.heap.size, #[.int .i64 a, .int .i64 b])] W0 by rw [hW0]; simpa using ((Bx.nil (Below.refl w.heap.size w)).new #[.int .i64 a, .int .i64 b] 23))
    clear hW0
    go_wp2_with fail
    refine (HR.out _).mono ?_
    rintro e1 w1 ⟨rfl, hbb⟩
    have HB1 := Lib.hid (HB0.out.keep hbb)
    clear hbb HB0
    obtain ⟨c0_0, c0_1⟩ := HB1.out.two (List.mem_cons_self ..)
    go_wp2_with fail
    refine (HC.out _).mono ?_
    rintro e2 w2 ⟨rfl, hbb⟩
    have HB2 := Lib.hid (HB1.out.keep hbb)
    clear c0_0 c0_1
    clear hbb HB1
    go_wp2_with fail
    go_ret
    exact ⟨rfl, HB2.out.below⟩

  have hRm := fun w => Ramified_good a b w hE
  have hHi := fun w => Hilbert_any a b 0 w
  rw [(hil_inf hE).1, (hil_inf hE).2] at hHi
  rw [hE] at hC
  have HE0 := Lib.hid hE; have HC := Lib.hid hC; have HRm := Lib.hid hRm; have HHi := Lib.hid hHi
  have HPr := Lib.hid (fun p w => isPrime_any p w)
  have HD := Lib.hid (fun w => Divisor_any a b w)
  unfold DivPost at HD
  obtain ⟨SV, hHV⟩ : ∃ SV : Int, (if defB a b = true then -1 else 1) = SV := ⟨_, rfl⟩
  rw [hHV] at HHi
  clear hE hC hRm hHi
  go_enter Try.func5, Try.ntmps5
  go_upto_region 1 with fail
  obtain ⟨W0, hW0⟩ : ∃ W0 : World, W0 = (w.alloc (.cells #[.int .i64 a, .int .i64 b] 23)) := ⟨_, rfl⟩
  rw [← hW0]
  have HB0 := Lib.hid (show Bx w [(w.heap.size, #[.int .i64 a, .int .i64 b])] W0 by rw [hW0]; simpa using ((Bx.nil (Below.refl w.heap.size w)).new #[.int .i64 a, .int .i64 b] 23))
  clear hW0
  go_wp2_with fail
  refine (HR.out _).mono ?_
  rintro e1 w1 ⟨rfl, hbb⟩
  have HB1 := Lib.hid (HB0.out.keep hbb)
  clear hbb HB0
  obtain ⟨c0_0, c0_1⟩ := HB1.out.two (List.mem_cons_self ..)
  go_wp2_with fail
  refine (HC.out _).mono ?_
  rintro e2 w2 ⟨rfl, hbb⟩
  have HB2 := Lib.hid (HB1.out.keep hbb)
  clear c0_0 c0_1
  clear hbb HB1
  obtain ⟨c0_0, c0_1⟩ := HB2.out.two (List.mem_cons_self ..)
  go_wp2_with fail
  refine (HRm.out _).mono ?_
  rintro e3 w3 ⟨A, c, rfl, hs, -, -, hbb⟩
  have HB3 := Lib.hid (HB2.out.keep hbb)
  clear c0_0 c0_1
  clear hbb HB2
  have HS := Lib.hid hs; clear hs
  obtain ⟨c0_0, c0_1⟩ := HB3.out.two (List.mem_cons_self ..)
  go_wp2_with fail
  refine (HHi.out _).mono ?_
  rintro e4 w4 ⟨rfl, n4, rfl⟩
  obtain ⟨W4, hW4⟩ : ∃ W4 : World, W4 = w3.drewN n4 := ⟨_, rfl⟩
  rw [← hW4]
  have HB4 := Lib.hid (show Bx w [(w.heap.size, #[.int .i64 a, .int .i64 b])] W4 from hW4 ▸ HB3.out.drewN n4)
  have HS4 := Lib.hid (show ShowsI W4 A (ramL a b 999) from hW4 ▸ HS.out.below (below_drewN (Below.refl _ _) n4))
  clear c0_0 c0_1
  clear hW4 HS HB3
  have HL := Lib.hid (show (ramL a b 999).length ≤ 999 from ramL_len a b 999)
  obtain ⟨N, hN⟩ : ∃ N : Nat, (ramL a b 999).length = N := ⟨_, rfl⟩
  have HN := Lib.hid hN; rw [hN] at HL ⊢; have hN9 := HL.out
  clear hN
  obtain ⟨M, hM⟩ : ∃ M : Nat, M = N + (if defB a b = true then 1 else 0) := ⟨_, rfl⟩
  have HM := Lib.hid hM
  have hloop : ∀ (FB : Bool), FB = defB a b → True := fun _ _ => trivial
  clear hloop
  clear HHi HRm HC
  cases hF : defB a b
  · rw [hF] at hM
    simp only [Bool.false_eq_true, if_false, Nat.add_zero] at hM
    obtain rfl := hM
    rw [hF] at hHV
    simp only [Bool.false_eq_true, if_false] at hHV
    subst hHV
    go_wp2_with fail
    go_loopw [9] (fun s9 wr => ∃ (k : Nat) (p : Int), s9 = .int .i64 p ∧ p = (k : Int) + 2 ∧ k ≤ 999 ∧ ∃ m, wr = W4.drewN m) (fun s9 _ => 1001 - (intOf s9).toNat)
    case atStart => exact ⟨0, 2, rfl, rfl, by omega, 0, rfl⟩
    case round =>
      obtain ⟨k, p, rfl, hp, hk, m, rfl⟩ := hrel
      have HP := Lib.hid hp
      have hp2 : 2 ≤ p := by omega
      have hp9 : p ≤ 1001 := by omega
      clear hp
      have HPp := Lib.hid (fun w => HPr.out p w)
      by_cases hk9 : k < 999
      · have hp1 : p ≤ 1000 := by have := HP.out; omega
        have HPn := Lib.hid (show p + 1 = ((k + 1 : Nat) : Int) + 2 by rw [HP.out]; omega)
        have hZ : ∀ wx : World, (∃ m, wx = W4.drewN m) → (∃ m, wx = W4.drewN m) := fun _ h => h
        clear hZ
        have hC := (HB4.out.drewN m)
        obtain ⟨c0, c1⟩ := hC.two (List.mem_cons_self ..)
        clear hC
        have HMm := Lib.hid (fun h => mem_ram (a := a) (b := b) (p := p) hp2 hp1 h)
        have HHp := Lib.hid (fun w (h : isPB p = true) => (hil_at HE0.out h).1 ▸ (hil_at HE0.out h).2 ▸ Hilbert_any a b p w)
        cases hpb : isPB p
        · rw [hpb] at HPp
          clear HHp hpb HMm
          go_wp2_with fail
          refine (HPp.out _).mono ?_
          rintro e w2 ⟨rfl, n1, rfl⟩
          go_wp2_with fail
          exact ⟨⟨k + 1, p + 1, rfl, HPn.out, by omega, _, rfl⟩, by simp [intOf]; omega⟩
        rw [hpb] at HPp
        have HHq := Lib.hid (fun w => HHp.out w hpb)
        have HV := Lib.hid (hil_cases (a := a) (b := b) (p := p) (aE_zero.1 HE0.out).1 (aE_zero.1 HE0.out).2.1 (.inr (isPB_iff.1 hpb).1))
        have HMq := Lib.hid (HMm.out hpb)
        clear HHp hpb HMm
        have HHas := Lib.hid (fun (W : World) (hx : ShowsI W A (ramL a b 999)) => (HN.out ▸ bHas_any A (ramL a b 999) c p W hx (by rw [HN.out]; unfold maxLen; omega) : Calls Try.prog 28 #[.slice A M c, .int .i64 p] W (Ret W (.bool (decide (p ∈ ramL a b 999))))))
        generalize Hil a b p = V at *
        generalize decide (p ∈ ramL a b 999) = MB at *
        obtain ⟨x, hx⟩ : ∃ x, a.tmod p = x := ⟨_, rfl⟩
        obtain ⟨y, hy⟩ : ∃ y, b.tmod p = y := ⟨_, rfl⟩
        have HX := Lib.hid hx; have HY := Lib.hid hy
        by_cases h2 : p ≤ 2
        · have dd : decide (2 < p) = false := decide_eq_false (by omega)
          have HMr := Lib.hid (HMq.out (.inl h2))
          clear HMq hx hy HX HY
          rcases HV.out with hV | hV
          · subst hV
            obtain rfl : MB = false := by rw [HMr.out]; rfl
            clear HV HMr
            go_wp2_with fail
            refine (HPp.out _).mono ?_
            rintro e w2 ⟨rfl, n1, rfl⟩
            have hC := (HB4.out.drewN (m + n1))
            obtain ⟨c0, c1⟩ := hC.two (List.mem_cons_self ..)
            clear hC
            go_wp2_with fail
            refine (HHq.out _).mono ?_
            rintro e w3 ⟨rfl, n2, rfl⟩
            go_wp2_with fail
            refine (HHas.out _ (HS4.out.below ((below_drewN (Below.refl _ _) _)))).mono ?_
            rintro e w4 ⟨rfl, n3, rfl⟩
            go_wp2_with fail
            exact ⟨⟨k + 1, p + 1, rfl, HPn.out, by omega, _, rfl⟩, by simp [intOf]; omega⟩
          · subst hV
            obtain rfl : MB = true := by rw [HMr.out]; rfl
            clear HV HMr
            go_wp2_with fail
            refine (HPp.out _).mono ?_
            rintro e w2 ⟨rfl, n1, rfl⟩
            have hC := (HB4.out.drewN (m + n1))
            obtain ⟨c0, c1⟩ := hC.two (List.mem_cons_self ..)
            clear hC
            go_wp2_with fail
            refine (HHq.out _).mono ?_
            rintro e w3 ⟨rfl, n2, rfl⟩
            go_wp2_with fail
            refine (HHas.out _ (HS4.out.below ((below_drewN (Below.refl _ _) _)))).mono ?_
            rintro e w4 ⟨rfl, n3, rfl⟩
            go_wp2_with fail
            exact ⟨⟨k + 1, p + 1, rfl, HPn.out, by omega, _, rfl⟩, by simp [intOf]; omega⟩
        have dd : decide (2 < p) = true := decide_eq_true (by omega)
        by_cases hx0 : x = 0
        · subst hx0
          have HMr := Lib.hid (HMq.out (.inr (.inl HX.out)))
          clear HMq HX HY
          rcases HV.out with hV | hV
          · subst hV
            obtain rfl : MB = false := by rw [HMr.out]; rfl
            clear HV HMr
            go_wp2_with fail
            refine (HPp.out _).mono ?_
            rintro e w2 ⟨rfl, n1, rfl⟩
            have hC := (HB4.out.drewN (m + n1))
            obtain ⟨c0, c1⟩ := hC.two (List.mem_cons_self ..)
            clear hC
            go_wp2_with fail
            refine (HHq.out _).mono ?_
            rintro e w3 ⟨rfl, n2, rfl⟩
            go_wp2_with fail
            refine (HHas.out _ (HS4.out.below ((below_drewN (Below.refl _ _) _)))).mono ?_
            rintro e w4 ⟨rfl, n3, rfl⟩
            go_wp2_with fail
            exact ⟨⟨k + 1, p + 1, rfl, HPn.out, by omega, _, rfl⟩, by simp [intOf]; omega⟩
          · subst hV
            obtain rfl : MB = true := by rw [HMr.out]; rfl
            clear HV HMr
            go_wp2_with fail
            refine (HPp.out _).mono ?_
            rintro e w2 ⟨rfl, n1, rfl⟩
            have hC := (HB4.out.drewN (m + n1))
            obtain ⟨c0, c1⟩ := hC.two (List.mem_cons_self ..)
            clear hC
            go_wp2_with fail
            refine (HHq.out _).mono ?_
            rintro e w3 ⟨rfl, n2, rfl⟩
            go_wp2_with fail
            refine (HHas.out _ (HS4.out.below ((below_drewN (Below.refl _ _) _)))).mono ?_
            rintro e w4 ⟨rfl, n3, rfl⟩
            go_wp2_with fail
            exact ⟨⟨k + 1, p + 1, rfl, HPn.out, by omega, _, rfl⟩, by simp [intOf]; omega⟩
        have dx : (x == 0) = false := f_beq hx0
        have dx2 : (x != 0) = true := bne_iff_ne.2 hx0
        by_cases hy0 : y = 0
        · subst hy0
          have HMr := Lib.hid (HMq.out (.inr (.inr HY.out)))
          clear HMq HX HY
          rcases HV.out with hV | hV
          · subst hV
            obtain rfl : MB = false := by rw [HMr.out]; rfl
            clear HV HMr
            go_wp2_with fail
            refine (HPp.out _).mono ?_
            rintro e w2 ⟨rfl, n1, rfl⟩
            have hC := (HB4.out.drewN (m + n1))
            obtain ⟨c0, c1⟩ := hC.two (List.mem_cons_self ..)
            clear hC
            go_wp2_with fail
            refine (HHq.out _).mono ?_
            rintro e w3 ⟨rfl, n2, rfl⟩
            go_wp2_with fail
            refine (HHas.out _ (HS4.out.below ((below_drewN (Below.refl _ _) _)))).mono ?_
            rintro e w4 ⟨rfl, n3, rfl⟩
            go_wp2_with fail
            exact ⟨⟨k + 1, p + 1, rfl, HPn.out, by omega, _, rfl⟩, by simp [intOf]; omega⟩
          · subst hV
            obtain rfl : MB = true := by rw [HMr.out]; rfl
            clear HV HMr
            go_wp2_with fail
            refine (HPp.out _).mono ?_
            rintro e w2 ⟨rfl, n1, rfl⟩
            have hC := (HB4.out.drewN (m + n1))
            obtain ⟨c0, c1⟩ := hC.two (List.mem_cons_self ..)
            clear hC
            go_wp2_with fail
            refine (HHq.out _).mono ?_
            rintro e w3 ⟨rfl, n2, rfl⟩
            go_wp2_with fail
            refine (HHas.out _ (HS4.out.below ((below_drewN (Below.refl _ _) _)))).mono ?_
            rintro e w4 ⟨rfl, n3, rfl⟩
            go_wp2_with fail
            exact ⟨⟨k + 1, p + 1, rfl, HPn.out, by omega, _, rfl⟩, by simp [intOf]; omega⟩
        have dy : (y == 0) = false := f_beq hy0
        have dy2 : (y != 0) = true := bne_iff_ne.2 hy0
        clear HMq HHq HHas HV hx0 hy0
        go_wp2_with fail
        refine (HPp.out _).mono ?_
        rintro e w2 ⟨rfl, n1, rfl⟩
        have hC := (HB4.out.drewN (m + n1))
        obtain ⟨c0, c1⟩ := hC.two (List.mem_cons_self ..)
        clear hC
        go_wp2_with fail
        exact ⟨⟨k + 1, p + 1, rfl, HPn.out, by omega, _, rfl⟩, by simp [intOf]; omega⟩
      obtain rfl : p = 1001 := by have := HP.out; omega
      obtain ⟨c0, c1⟩ := (HB4.out.drewN m).two (List.mem_cons_self ..)
      have HB5 := Lib.hid (HB4.out.drewN m)
      clear HPp HP hk hk9 hp2 hp9 HS4 HB4
      go_wp2_with fail
      refine (HD.out _).mono ?_
      rintro e w6 ⟨q, rfl, hq1, hq2, hbb⟩
      have HQ := Lib.hid (And.intro hq1 hq2)
      have HB6 := Lib.hid (HB5.out.keep hbb)
      clear hbb HB5 hq1 hq2 c0 c1
      obtain ⟨q0, q1, q2, q3, q4⟩ := q
      simp only [qv] at HQ ⊢
      go_upto_region 20 with fail
      obtain ⟨V1, hV1⟩ : ∃ V1 : World, V1 = w6.alloc (.cells #[.int .i64 q0, .int .i64 q1, .int .i64 q2, .int .i64 q3, .int .i64 q4] 25) := ⟨_, rfl⟩
      rw [← hV1]
      have HV1 := Lib.hid (show Bx w [(w6.heap.size, #[.int .i64 q0, .int .i64 q1, .int .i64 q2, .int .i64 q3, .int .i64 q4]), (w.heap.size, #[.int .i64 a, .int .i64 b])] V1 from hV1 ▸ HB6.out.new _ _)
      have hlt1 := HB6.out.lt (List.mem_cons_self ..)
      clear hV1 HB6
      generalize w6.heap.size = g6 at *
      by_cases hM0 : 0 < M
      · have hE13 := Lib.hid (sp_13 HE0.out HM.out HN.out hM0)
        have hev := ram_mod HE0.out HM.out HN.out
        have dM : decide (0 < M) = true := decide_eq_true hM0
        have dM2 : decide ((0 : Int) < (M : Int)) = true := decide_eq_true (by omega)
        have hev2 : (M : Int) % 2 = 0 := by omega
        rw [hE13.out]
        go_wp2_with fail
        go_ret
        exact ⟨rfl, HV1.out.below⟩
      · obtain rfl : M = 0 := by omega
        have hz := sp_0 HE0.out HM.out HN.out
        rw [hz] at HQ ⊢
        have HNq := Lib.hid (fun w => qNorm_good a b q0 q1 q2 q3 q4 w (HQ.out.1 rfl).1 HE0.out)
        rw [nm_null (HQ.out.1 rfl).2.1] at HNq
        simp only [qv, fvv] at HNq
        obtain ⟨c0, c1⟩ := HV1.out.two (List.mem_cons_of_mem _ (List.mem_cons_self ..))
        obtain ⟨d0, d1, d2, d3, d4⟩ := HV1.out.five (List.mem_cons_self ..)
        clear hz
        go_wp2_with fail
        refine (HNq.out _).mono ?_
        rintro e w7 ⟨rfl, hbb⟩
        have HB7 := Lib.hid (HV1.out.keep hbb)
        clear hbb c0 c1 d0 d1 d2 d3 d4 HV1
        go_wp2_with fail
        go_ret
        exact ⟨rfl, HB7.out.below.alloc HB7.out.below.size _⟩
  · rw [hF] at hM
    simp only [if_true] at hM
    have hM1 : (N : Int) + 1 = (M : Int) := by omega
    clear hM
    rw [hF] at hHV
    simp only [if_true] at hHV
    subst hHV
    go_wp2_with fail
    go_loopw [9] (fun s9 wr => ∃ (k : Nat) (p : Int), s9 = .int .i64 p ∧ p = (k : Int) + 2 ∧ k ≤ 999 ∧ ∃ m, wr = W4.drewN m) (fun s9 _ => 1001 - (intOf s9).toNat)
    case atStart => exact ⟨0, 2, rfl, rfl, by omega, 0, rfl⟩
    case round =>
      obtain ⟨k, p, rfl, hp, hk, m, rfl⟩ := hrel
      have HP := Lib.hid hp
      have hp2 : 2 ≤ p := by omega
      have hp9 : p ≤ 1001 := by omega
      clear hp
      have HPp := Lib.hid (fun w => HPr.out p w)
      by_cases hk9 : k < 999
      · have hp1 : p ≤ 1000 := by have := HP.out; omega
        have HPn := Lib.hid (show p + 1 = ((k + 1 : Nat) : Int) + 2 by rw [HP.out]; omega)
        have hZ : ∀ wx : World, (∃ m, wx = W4.drewN m) → (∃ m, wx = W4.drewN m) := fun _ h => h
        clear hZ
        have hC := (HB4.out.drewN m)
        obtain ⟨c0, c1⟩ := hC.two (List.mem_cons_self ..)
        clear hC
        have HMm := Lib.hid (fun h => mem_ram (a := a) (b := b) (p := p) hp2 hp1 h)
        have HHp := Lib.hid (fun w (h : isPB p = true) => (hil_at HE0.out h).1 ▸ (hil_at HE0.out h).2 ▸ Hilbert_any a b p w)
        cases hpb : isPB p
        · rw [hpb] at HPp
          clear HHp hpb HMm
          go_wp2_with fail
          refine (HPp.out _).mono ?_
          rintro e w2 ⟨rfl, n1, rfl⟩
          go_wp2_with fail
          exact ⟨⟨k + 1, p + 1, rfl, HPn.out, by omega, _, rfl⟩, by simp [intOf]; omega⟩
        rw [hpb] at HPp
        have HHq := Lib.hid (fun w => HHp.out w hpb)
        have HV := Lib.hid (hil_cases (a := a) (b := b) (p := p) (aE_zero.1 HE0.out).1 (aE_zero.1 HE0.out).2.1 (.inr (isPB_iff.1 hpb).1))
        have HMq := Lib.hid (HMm.out hpb)
        clear HHp hpb HMm
        have HHas := Lib.hid (fun (W : World) (hx : ShowsI W A (ramL a b 999)) => (HN.out ▸ bHas_any A (ramL a b 999) c p W hx (by rw [HN.out]; unfold maxLen; omega) : Calls Try.prog 28 #[.slice A N c, .int .i64 p] W (Ret W (.bool (decide (p ∈ ramL a b 999))))))
        generalize Hil a b p = V at *
        generalize decide (p ∈ ramL a b 999) = MB at *
        obtain ⟨x, hx⟩ : ∃ x, a.tmod p = x := ⟨_, rfl⟩
        obtain ⟨y, hy⟩ : ∃ y, b.tmod p = y := ⟨_, rfl⟩
        have HX := Lib.hid hx; have HY := Lib.hid hy
        by_cases h2 : p ≤ 2
        · have dd : decide (2 < p) = false := decide_eq_false (by omega)
          have HMr := Lib.hid (HMq.out (.inl h2))
          clear HMq hx hy HX HY
          rcases HV.out with hV | hV
          · subst hV
            obtain rfl : MB = false := by rw [HMr.out]; rfl
            clear HV HMr
            go_wp2_with fail
            refine (HPp.out _).mono ?_
            rintro e w2 ⟨rfl, n1, rfl⟩
            have hC := (HB4.out.drewN (m + n1))
            obtain ⟨c0, c1⟩ := hC.two (List.mem_cons_self ..)
            clear hC
            go_wp2_with fail
            refine (HHq.out _).mono ?_
            rintro e w3 ⟨rfl, n2, rfl⟩
            go_wp2_with fail
            refine (HHas.out _ (HS4.out.below ((below_drewN (Below.refl _ _) _)))).mono ?_
            rintro e w4 ⟨rfl, n3, rfl⟩
            go_wp2_with fail
            exact ⟨⟨k + 1, p + 1, rfl, HPn.out, by omega, _, rfl⟩, by simp [intOf]; omega⟩
          · subst hV
            obtain rfl : MB = true := by rw [HMr.out]; rfl
            clear HV HMr
            go_wp2_with fail
            refine (HPp.out _).mono ?_
            rintro e w2 ⟨rfl, n1, rfl⟩
            have hC := (HB4.out.drewN (m + n1))
            obtain ⟨c0, c1⟩ := hC.two (List.mem_cons_self ..)
            clear hC
            go_wp2_with fail
            refine (HHq.out _).mono ?_
            rintro e w3 ⟨rfl, n2, rfl⟩
            go_wp2_with fail
            refine (HHas.out _ (HS4.out.below ((below_drewN (Below.refl _ _) _)))).mono ?_
            rintro e w4 ⟨rfl, n3, rfl⟩
            go_wp2_with fail
            exact ⟨⟨k + 1, p + 1, rfl, HPn.out, by omega, _, rfl⟩, by simp [intOf]; omega⟩
        have dd : decide (2 < p) = true := decide_eq_true (by omega)
        by_cases hx0 : x = 0
        · subst hx0
          have HMr := Lib.hid (HMq.out (.inr (.inl HX.out)))
          clear HMq HX HY
          rcases HV.out with hV | hV
          · subst hV
            obtain rfl : MB = false := by rw [HMr.out]; rfl
            clear HV HMr
            go_wp2_with fail
            refine (HPp.out _).mono ?_
            rintro e w2 ⟨rfl, n1, rfl⟩
            have hC := (HB4.out.drewN (m + n1))
            obtain ⟨c0, c1⟩ := hC.two (List.mem_cons_self ..)
            clear hC
            go_wp2_with fail
            refine (HHq.out _).mono ?_
            rintro e w3 ⟨rfl, n2, rfl⟩
            go_wp2_with fail
            refine (HHas.out _ (HS4.out.below ((below_drewN (Below.refl _ _) _)))).mono ?_
            rintro e w4 ⟨rfl, n3, rfl⟩
            go_wp2_with fail
            exact ⟨⟨k + 1, p + 1, rfl, HPn.out, by omega, _, rfl⟩, by simp [intOf]; omega⟩
          · subst hV
            obtain rfl : MB = true := by rw [HMr.out]; rfl
            clear HV HMr
            go_wp2_with fail
            refine (HPp.out _).mono ?_
            rintro e w2 ⟨rfl, n1, rfl⟩
            have hC := (HB4.out.drewN (m + n1))
            obtain ⟨c0, c1⟩ := hC.two (List.mem_cons_self ..)
            clear hC
            go_wp2_with fail
            refine (HHq.out _).mono ?_
            rintro e w3 ⟨rfl, n2, rfl⟩
            go_wp2_with fail
            refine (HHas.out _ (HS4.out.below ((below_drewN (Below.refl _ _) _)))).mono ?_
            rintro e w4 ⟨rfl, n3, rfl⟩
            go_wp2_with fail
            exact ⟨⟨k + 1, p + 1, rfl, HPn.out, by omega, _, rfl⟩, by simp [intOf]; omega⟩
        have dx : (x == 0) = false := f_beq hx0
        have dx2 : (x != 0) = true := bne_iff_ne.2 hx0
        by_cases hy0 : y = 0
        · subst hy0
          have HMr := Lib.hid (HMq.out (.inr (.inr HY.out)))
          clear HMq HX HY
          rcases HV.out with hV | hV
          · subst hV
            obtain rfl : MB = false := by rw [HMr.out]; rfl
            clear HV HMr
            go_wp2_with fail
            refine (HPp.out _).mono ?_
            rintro e w2 ⟨rfl, n1, rfl⟩
            have hC := (HB4.out.drewN (m + n1))
            obtain ⟨c0, c1⟩ := hC.two (List.mem_cons_self ..)
            clear hC
            go_wp2_with fail
            refine (HHq.out _).mono ?_
            rintro e w3 ⟨rfl, n2, rfl⟩
            go_wp2_with fail
            refine (HHas.out _ (HS4.out.below ((below_drewN (Below.refl _ _) _)))).mono ?_
            rintro e w4 ⟨rfl, n3, rfl⟩
            go_wp2_with fail
            exact ⟨⟨k + 1, p + 1, rfl, HPn.out, by omega, _, rfl⟩, by simp [intOf]; omega⟩
          · subst hV
            obtain rfl : MB = true := by rw [HMr.out]; rfl
            clear HV HMr
            go_wp2_with fail
            refine (HPp.out _).mono ?_
            rintro e w2 ⟨rfl, n1, rfl⟩
            have hC := (HB4.out.drewN (m + n1))
            obtain ⟨c0, c1⟩ := hC.two (List.mem_cons_self ..)
            clear hC
            go_wp2_with fail
            refine (HHq.out _).mono ?_
            rintro e w3 ⟨rfl, n2, rfl⟩
            go_wp2_with fail
            refine (HHas.out _ (HS4.out.below ((below_drewN (Below.refl _ _) _)))).mono ?_
            rintro e w4 ⟨rfl, n3, rfl⟩
            go_wp2_with fail
            exact ⟨⟨k + 1, p + 1, rfl, HPn.out, by omega, _, rfl⟩, by simp [intOf]; omega⟩
        have dy : (y == 0) = false := f_beq hy0
        have dy2 : (y != 0) = true := bne_iff_ne.2 hy0
        clear HMq HHq HHas HV hx0 hy0
        go_wp2_with fail
        refine (HPp.out _).mono ?_
        rintro e w2 ⟨rfl, n1, rfl⟩
        have hC := (HB4.out.drewN (m + n1))
        obtain ⟨c0, c1⟩ := hC.two (List.mem_cons_self ..)
        clear hC
        go_wp2_with fail
        exact ⟨⟨k + 1, p + 1, rfl, HPn.out, by omega, _, rfl⟩, by simp [intOf]; omega⟩
      obtain rfl : p = 1001 := by have := HP.out; omega
      obtain ⟨c0, c1⟩ := (HB4.out.drewN m).two (List.mem_cons_self ..)
      have HB5 := Lib.hid (HB4.out.drewN m)
      clear HPp HP hk hk9 hp2 hp9 HS4 HB4
      go_wp2_with fail
      refine (HD.out _).mono ?_
      rintro e w6 ⟨q, rfl, hq1, hq2, hbb⟩
      have HQ := Lib.hid (And.intro hq1 hq2)
      have HB6 := Lib.hid (HB5.out.keep hbb)
      clear hbb HB5 hq1 hq2 c0 c1
      obtain ⟨q0, q1, q2, q3, q4⟩ := q
      simp only [qv] at HQ ⊢
      go_upto_region 20 with fail
      obtain ⟨V1, hV1⟩ : ∃ V1 : World, V1 = w6.alloc (.cells #[.int .i64 q0, .int .i64 q1, .int .i64 q2, .int .i64 q3, .int .i64 q4] 25) := ⟨_, rfl⟩
      rw [← hV1]
      have HV1 := Lib.hid (show Bx w [(w6.heap.size, #[.int .i64 q0, .int .i64 q1, .int .i64 q2, .int .i64 q3, .int .i64 q4]), (w.heap.size, #[.int .i64 a, .int .i64 b])] V1 from hV1 ▸ HB6.out.new _ _)
      have hlt1 := HB6.out.lt (List.mem_cons_self ..)
      clear hV1 HB6
      generalize w6.heap.size = g6 at *
      by_cases hM0 : 0 < M
      · have hE13 := Lib.hid (sp_13 HE0.out HM.out HN.out hM0)
        have hev := ram_mod HE0.out HM.out HN.out
        have dM : decide (0 < M) = true := decide_eq_true hM0
        have dM2 : decide ((0 : Int) < (M : Int)) = true := decide_eq_true (by omega)
        have hev2 : (M : Int) % 2 = 0 := by omega
        rw [hE13.out]
        go_wp2_with fail
        go_ret
        exact ⟨rfl, HV1.out.below⟩
      · exfalso; omega


end Go.Proofs.Ytfjmhfmhijhpkaa
