/- The law IntegerChinese answers true at all lists. -/
import Derived.Test.YtmlkiddkgikdhaaRChn
import Derived.Test.YtmlkiddkgikdhaaAwk
import Derived.Test.YtmlkiddkgikdhaaVb
import Derived.Test.YtmlkiddkgikdhaaIntegerHilbert
namespace Go.Proofs.Ytmlkiddkgikdhaa
open Go.RowKit FF
attribute [local go_sem ↓] Go.wp_at_zero Go.wp_at_succ

theorem ShowsP.below {w w' : World} {A : Option Addr} {l : List (Int × Int)} (h : ShowsP w A l) (hb : Below w.heap.size w w') : ShowsP w' A l := by
  intro hl
  obtain ⟨b, o, e, hlt, hc⟩ := h hl
  exact ⟨b, o, e, Nat.lt_of_lt_of_le hlt hb.size, fun i hi => ⟨(hb.cell (p := ⟨b, o + i * 2, none⟩) hlt).trans (hc i hi).1, (hb.cell (p := ⟨b, o + i * 2 + 1, none⟩) hlt).trans (hc i hi).2⟩⟩
theorem chinGo_spec : ∀ (l pre : List (Int × Int)) (R M : Int), ChinRel pre R M → M ≤ 1000000000 → (∀ x ∈ pre, 1 ≤ x.2) → (∀ x ∈ l, 1 ≤ x.2 ∧ x.2 ≤ 1000000000) →
    (∀ x ∈ pre, ∀ y ∈ l, agreeB y x = true) → l.Pairwise (fun x y => agreeB y x = true) → (chinGo l R M).2.2 = 0 → ChinRel (pre ++ l) (chinGo l R M).1 (chinGo l R M).2.1
  | [], pre, R, M, h, _, _, _, _, _, _ => by rw [List.append_nil]; exact h
  | x :: l, pre, R, M, h, h9, hp, hl, hc, hpw, h0 => by
    unfold chinGo at h0 ⊢
    by_cases hb : 1000000000 < chinM M x.2
    · rw [if_pos hb] at h0; exact absurd h0 (by decide)
    · rw [if_neg hb] at h0 ⊢
      have hx := hl x (by simp)
      have hs := h.step hp hx.1 (fun y hy => by
        have := hc y hy x (by simp)
        have h1 : x.1 % (Int.gcd x.2 y.2 : Int) = y.1 % (Int.gcd x.2 y.2 : Int) := beq_t this
        rw [Int.gcd_comm]; exact Cg.of_emod h1.symm)
      have := chinGo_spec l (pre ++ [x]) _ _ hs (by omega) (fun y hy => by
          rw [List.mem_append, List.mem_singleton] at hy
          rcases hy with hy | rfl
          · exact hp y hy
          · exact hx.1) (fun y hy => hl y (List.mem_cons_of_mem _ hy)) (fun y hy z hz => by
          rw [List.mem_append, List.mem_singleton] at hy
          rcases hy with hy | rfl
          · exact hc y hy z (List.mem_cons_of_mem _ hz)
          · exact (List.pairwise_cons.1 hpw).1 z hz) (List.pairwise_cons.1 hpw).2 h0
      rwa [List.append_assoc] at this
theorem chinGo_le : ∀ (l : List (Int × Int)) (R M : Int), M ≤ 1000000000 → (chinGo l R M).2.1 ≤ 1000000000
  | [], _, _, h => h
  | x :: l, R, M, h => by
    unfold chinGo
    by_cases hb : 1000000000 < chinM M x.2
    · rw [if_pos hb]; show (0 : Int) ≤ 1000000000; omega
    · rw [if_neg hb]; exact chinGo_le l _ _ (by omega)
theorem chinAll_le (l : List (Int × Int)) : (chinAll l).2.1 ≤ 1000000000 := by
  unfold chinAll
  split
  · show (0 : Int) ≤ 1000000000; omega
  split
  · show (0 : Int) ≤ 1000000000; omega
  split
  · show (0 : Int) ≤ 1000000000; omega
  · exact chinGo_le l 0 1 (by omega)
theorem chinAll_spec {l : List (Int × Int)} (h : (chinAll l).2.2 = 0) : l.length ≤ 20 ∧ (∀ i, i < l.length → 1 ≤ (l.getD i (0, 0)).2 ∧ (l.getD i (0, 0)).2 ≤ 1000000000 ∧ (chinAll l).2.1 % (l.getD i (0, 0)).2 = 0 ∧
    (chinAll l).1 % (l.getD i (0, 0)).2 = (l.getD i (0, 0)).1 % (l.getD i (0, 0)).2) ∧ 0 ≤ (chinAll l).1 ∧ (chinAll l).1 < (chinAll l).2.1 := by
  unfold chinAll at h ⊢
  by_cases c1 : 20 < l.length
  · rw [if_pos c1] at h; exact absurd h (by decide)
  rw [if_neg c1] at h ⊢
  by_cases c2 : (l.all fun x => modB x.2) = false
  · rw [if_pos c2] at h; exact absurd h (by decide)
  rw [if_neg c2] at h ⊢
  by_cases c3 : pairsB l = false
  · rw [if_pos c3] at h; exact absurd h (by decide)
  rw [if_neg c3] at h ⊢
  have hm : ∀ x ∈ l, 1 ≤ x.2 ∧ x.2 ≤ 1000000000 := fun x hx => by
    have : (l.all fun x => modB x.2) = true := by simpa using c2
    exact modB_true.1 (List.all_eq_true.1 this x hx)
  have hpw : l.Pairwise (fun x y => agreeB y x = true) := by
    have hp : pairsB l = true := by simpa using c3
    unfold pairsB at hp
    rw [List.pairwise_iff_getElem]
    intro k i hk hi hki
    have h1 := List.all_eq_true.1 (List.all_eq_true.1 hp i (List.mem_range.2 hi)) k (List.mem_range.2 hki)
    rwa [List.getD_eq_getElem?_getD, List.getElem?_eq_getElem hi, List.getD_eq_getElem?_getD, List.getElem?_eq_getElem hk] at h1
  have hR := chinGo_spec l [] 0 1 ChinRel.start (by omega) (fun x hx => by cases hx) hm (fun x hx => by cases hx) hpw h
  rw [List.nil_append] at hR
  refine ⟨by omega, fun i hi => ?_, hR.r0, hR.rm⟩
  have hx : l.getD i (0, 0) ∈ l := by rw [List.getD_eq_getElem?_getD, List.getElem?_eq_getElem hi]; exact List.getElem_mem _
  obtain ⟨h1, h2⟩ := hR.all _ hx
  exact ⟨(hm _ hx).1, (hm _ hx).2, Int.emod_eq_zero_of_dvd h1, h2.emod_eq⟩
theorem IntegerChinese_law (A : Option Addr) (l : List (Int × Int)) (c : Nat) (w : World) (hs : ShowsP w A l) (hlc : l.length ≤ c) (_hcm : c ≤ maxLen) (hr : ∀ i, i < l.length → I64 (l.getD i (0, 0)).1) :
    Calls Try.prog 11 #[.slice A l.length c] w fun e w' => e = .returned (.bool true) ∧ Below w.heap.size w w' := by
  have hA := Lib.hid awake_any
  by_cases h25 : 25 < l.length
  · generalize l.length = N at *
    go_enter Try.func11, Try.ntmps11
    go_wp2_with fail
    refine (hA.out _).mono ?_
    rintro e w' ⟨rfl, hb⟩
    go_wp2_with fail
    go_ret
    exact ⟨rfl, hb⟩
  · have hC := Lib.hid (fun w (hs : ShowsP w A l) => Chinese_any A l c w hs (by omega) hlc hr)
    have hC2 := Lib.hid (fun w (hs : ShowsP w A l) => rChinese_any A l c w hs (by omega) hlc hr)
    have HS := Lib.hid hs
    have HI := Lib.hid hr
    have HSp := Lib.hid (fun h => chinAll_spec (l := l) h)
    have M9 := chinAll_le l
    have hM := Lib.hid (fun (b m : Int) (w : World) (hb : I64 b) (h1 : 1 ≤ m) (h2 : m ≤ 1000000000) => bMod_any b m w hb (by omega) ⟨by omega, by omega⟩)
    have d1 := bne_self' (chinAll l).1
    have d2 := bne_self' (chinAll l).2.1
    have d3 := bne_self' (chinAll l).2.2
    have hN0 : ∃ N : Nat, l.length = N := ⟨_, rfl⟩
    obtain ⟨N, hN⟩ := hN0
    have HN := Lib.hid hN
    rw [hN] at h25 hlc hC hC2 HSp ⊢
    clear hN hs hr
    generalize (chinAll l).1 = R at *
    generalize (chinAll l).2.1 = M at *
    generalize (chinAll l).2.2 = E at *
    go_enter Try.func11, Try.ntmps11
    go_wp2_with fail
    refine (hC.out _ HS.out).mono ?_
    rintro e w1 ⟨rfl, hb1⟩
    go_wp2_with fail
    obtain ⟨W2, hW2⟩ : ∃ W2 : World, W2 = w1.alloc (.cells #[.int .i64 R, .int .i64 M] 61) := ⟨_, rfl⟩
    have T2 := Lib.hid (show Two w1 R M W2 from hW2 ▸ Two.start _ _ _ _)
    rw [← hW2]
    have HB1 := Lib.hid hb1
    have hs2 := Lib.hid (HS.out.below (hb1.trans ((T2.out.bel).mono hb1.size)))
    clear hW2 hb1
    refine (hC2.out _ hs2.out).mono ?_
    rintro e w3 ⟨rfl, hb3⟩
    have T3 := Lib.hid (T2.out.next hb3)
    obtain ⟨-, t1, t2, t3, t4, t5⟩ := T2.out.next hb3
    clear hb3
    go_wp2_with fail
    obtain ⟨W4, hW4⟩ : ∃ W4 : World, W4 = w3.alloc (.cells #[.int .i64 R, .int .i64 M] 61) := ⟨_, rfl⟩
    have B4 := Lib.hid (show Below w.heap.size w W4 from hW4 ▸ (HB1.out.trans ((T3.out.bel).mono HB1.out.size)).alloc (HB1.out.trans ((T3.out.bel).mono HB1.out.size)).size _)
    obtain ⟨-, r1, r2, -, -, -⟩ := (show Two w1 R M W4 from hW4 ▸ T3.out.next ((Below.refl _ _).alloc (Nat.le_refl _) _))
    rw [← hW4]
    clear hW4 t1 t2 t3 t4 t5 hC hC2 hs2 T2 T3 HB1
    go_loopw [7] (fun s7 wr => ∃ i : Nat, s7 = .int .i64 i ∧ i ≤ N ∧ ∃ n, wr = W4.drewN n) (fun s7 _ => N - (intOf s7).toNat)
    case atStart => exact ⟨0, rfl, Nat.zero_le _, 0, rfl⟩
    case round =>
      obtain ⟨i, rfl, hi, n, rfl⟩ := hrel
      by_cases hlt : i < N
      · have hlt' : (i : Int) < N := by omega
        by_cases hE : E = 0
        · obtain ⟨b, o, rfl, hb, hc1, hc2⟩ := HS.out.at HN.out hlt
          have hk1 := (B4.out.cell (p := ⟨b, o + i * 2, none⟩) hb).trans hc1
          have hk2 := (B4.out.cell (p := ⟨b, o + i * 2 + 1, none⟩) hb).trans hc2
          obtain ⟨-, s2, R0, RM⟩ := HSp.out hE
          obtain ⟨m1, m2, m3, m4⟩ := s2 i hlt
          have hr1 := HI.out i (by rw [HN.out]; exact hlt)
          subst hE
          generalize l.getD i (0, 0) = x at *
          have hMr := Lib.hid (fun w => hM.out R x.2 w ⟨by omega, by omega⟩ m1 m2)
          have hMx := Lib.hid (fun w => m4 ▸ hM.out x.1 x.2 w hr1 m1 m2)
          have e1 := bne_self' (R % x.2)
          have e2 : (M % x.2 != 0) = false := by rw [m3]; rfl
          clear hc1 hc2 s2 m4
          generalize R % x.2 = v at *
          go_wp2_with fail
          go_big_quiet ((go_at_call 32; first | with_reducible exact quiet_off (hMr.out _) | exact quiet_off (hMx.out _)))
          go_wp2_with fail
          exact ⟨⟨i + 1, by go_num, by omega, _, rfl⟩, by simp [intOf]; omega⟩
        · have d4 := f_beq hE
          clear hE
          go_wp2_with fail
          refine (hA.out _).mono ?_
          rintro e w' ⟨rfl, hb⟩
          go_wp2_with fail
          go_ret
          exact ⟨rfl, B4.out.trans ((below_draws hb).mono B4.out.size)⟩
      · obtain rfl : N = i := by omega
        go_wp2_with fail
        refine (hA.out _).mono ?_
        rintro e w' ⟨rfl, hb⟩
        go_wp2_with fail
        go_ret
        exact ⟨rfl, B4.out.trans ((below_draws hb).mono B4.out.size)⟩
end Go.Proofs.Ytmlkiddkgikdhaa
