/- Ramified places, discriminants, definite algebras: the program's three answers and the reference. -/
import Derived.Test.YtfjmhfmhijhpkaaGreatDoorRam0
namespace Go.Proofs.YtfjmhfmhijhpkaaGreatDoor
open Go.RowKit FF

/-- a list of numbers that a call made -/
def RamPost (w : World) (L : List Int) (e : Ending) (w' : World) : Prop :=
  ∃ A c, e = .returned (.slice A L.length c) ∧ ShowsI w' A L ∧ L.length ≤ c ∧ c ≤ maxLen ∧ Below w.heap.size w w'
theorem hilV_prime {a b p : Int} (h : aE a b = 0) (hp : isPB p = true) : hilV a b p = Hil a b p := by
  obtain ⟨ha, hb, ha1, hb1⟩ := aE_zero.1 h
  have hE : hilE a b p = 0 := by
    unfold hilE
    rw [if_neg (by omega), if_neg (by
      have i1 : inB a = true := inB_iff.2 ⟨by omega, by omega⟩
      have i2 : inB b = true := inB_iff.2 ⟨by omega, by omega⟩
      rw [i1, i2]; simp), if_neg (by rw [hp]; simp)]
  unfold hilV
  rw [if_pos hE]
theorem ramL_step0 {a b p : Int} {k : Nat} (hp : p = (k : Int) + 2) (h : ramB a b p = false ∨ Hil a b p ≠ -1) : ramL a b (k + 1) = ramL a b k := by
  subst hp
  rw [ramL_succ, if_neg, List.append_nil]
  rcases h with h | h
  · rw [h]; simp
  · rw [f_beq h]; simp
theorem ramL_step1 {a b p : Int} {k : Nat} (hp : p = (k : Int) + 2) (h : ramB a b p = true) (h2 : Hil a b p = -1) : ramL a b (k + 1) = ramL a b k ++ [p] := by
  subst hp
  rw [ramL_succ, if_pos]
  rw [h, t_beq h2]; rfl
theorem ramL_len (a b : Int) (n : Nat) : (ramL a b n).length ≤ n := by
  unfold ramL
  refine Nat.le_trans (List.length_filter_le ..) ?_
  rw [List.length_map, List.length_range]; exact Nat.le_refl _

set_option maxHeartbeats 4000000 in
set_option maxRecDepth 100000 in
theorem rRamified_any (a b : Int) (w : World) (hE : aE a b = 0) :
    Calls Tryz.prog 48 #[.agg #[.int .i64 a, .int .i64 b]] w (RamPost w (ramL a b 999)) := by
  have HH := Lib.hid (fun p w (hp : isPB p = true) => (hilV_prime hE hp ▸ rHilbert_any a b p w))
  have HPr := Lib.hid (fun p w => rIsPrime_any p w)
  obtain ⟨i0, hi, hz0, hz1, hz2⟩ := info_parts info_int
  have HI := Lib.hid hi; have HZ0 := Lib.hid hz0; have HZ1 := Lib.hid hz1; have HZ2 := Lib.hid hz2
  clear hi hz0 hz1 hz2 hE
  unfold RamPost
  go_enter Tryz.func48, Tryz.ntmps48
  go_wp2_with fail
  obtain ⟨W1, hW1⟩ : ∃ W1 : World, W1 = w.alloc (.cells #[.int .i64 a, .int .i64 b] 23) := ⟨_, rfl⟩
  rw [← hW1]
  have HC := Lib.hid (show Cells W1 w.heap.size #[.int .i64 a, .int .i64 b] by rw [hW1]; exact Cells.new w _ _ rfl)
  have HB1 := Lib.hid (show Below w.heap.size w W1 by rw [hW1]; exact (Below.refl _ _).alloc (Nat.le_refl _) _)
  clear hW1
  go_loopw [3, 4, 5, 6] (fun s3 s4 _ _ wx => ∃ (k : Nat) (p : Int), s4 = .int .i64 p ∧ p = (k : Int) + 2 ∧ k ≤ 999 ∧ Got W1 3 1 s3 (ramL a b k).length (ramL a b k) wx) (fun _ s4 _ _ _ => 1001 - (intOf s4).toNat)
  case atStart => exact ⟨0, 2, rfl, rfl, by omega, Got.start (Below.refl _ _)⟩
  case round =>
    obtain ⟨k, p, rfl, hp, hk, hG⟩ := hrel
    have HG := Lib.hid hG
    have HP := Lib.hid hp
    obtain ⟨A3, c3, e3, hs3, hc5, hc6, -⟩ := hG.shows
    obtain rfl := e3
    unfold maxLen at hc6
    have hp2 : 2 ≤ p := by omega
    have hp9 : p ≤ 1001 := by omega
    have hln := ramL_len a b k
    have HS3 := Lib.hid hs3
    have HkP : 1001 - p.toNat + 0 = 999 - k := by omega
    clear hp hG hs3
    by_cases hk9 : k < 999
    · have hp1 : p ≤ 1000 := by have := HP.out; omega
      have H0 := Lib.hid (fun h => ramL_step0 (a := a) (b := b) HP.out h)
      have H1 := Lib.hid (fun h1 h2 => ramL_step1 (a := a) (b := b) HP.out h1 h2)
      have HPn := Lib.hid (show p + 1 = ((k + 1 : Nat) : Int) + 2 by rw [HP.out]; omega)
      have HPp := Lib.hid (fun w => HPr.out p w)
      have HHp := Lib.hid (fun w h => HH.out p w h)
      have hC := HC.out.keep HG.out.below
      obtain ⟨c0, c1⟩ := hC.two
      have hR : ramB a b p = (isPB p && (decide (p ≤ 2) || a.tmod p == 0 || b.tmod p == 0)) := rfl
      have HR := Lib.hid hR
      clear hC hR HPr HH
      generalize ramB a b p = RB at *
      generalize Hil a b p = V at *
      generalize hilE a b p = HE at *
      have hx : -1000 ≤ a.tmod p ∨ a.tmod p ≤ 0 := by omega
      clear hx
      obtain ⟨x, hx⟩ : ∃ x, a.tmod p = x := ⟨_, rfl⟩
      obtain ⟨y, hy⟩ : ∃ y, b.tmod p = y := ⟨_, rfl⟩
      rw [hx, hy] at HR
      cases hpb : isPB p
      · have HZ := Lib.hid (H0.out (.inl (by rw [HR.out, hpb]; rfl)))
        rw [hpb] at HPp
        clear HHp hx hy hpb H1 H0 HR
        go_wp2_with fail
        refine (HPp.out _).mono ?_
        rintro e w2 ⟨rfl, n1, rfl⟩
        go_wp2_with fail
        exact ⟨⟨k + 1, p + 1, rfl, HPn.out, by omega, by rw [HZ.out]; exact HG.out.drewN n1⟩, by simp [intOf]; omega⟩
      rw [hpb] at HPp
      have HHq := Lib.hid (fun w => HHp.out w hpb)
      rw [hpb] at HR
      clear HHp hpb

      by_cases h2 : p ≤ 2
      · have dd : decide (2 < p) = false := decide_eq_false (by omega)
        rw [decide_eq_true h2] at HR
        clear hx hy h2
        by_cases hV : V = -1
        · have HZ := Lib.hid (H1.out (by rw [HR.out]; rfl) hV)
          subst hV
          clear H0 H1 HR
          go_wp2_with fail
          refine (HPp.out _).mono ?_
          rintro e w2 ⟨rfl, n1, rfl⟩
          go_wp2_with fail
          refine (HHq.out _).mono ?_
          rintro e w2 ⟨rfl, n2, rfl⟩
          go_wp2_with (at_builtin; refine wpList_append_got2 rfl (.tmp 43) (.tmp 45) 76 rfl 3 i0 _ 1 8 Tryz.underlying76 HI.out HZ0.out HZ1.out HZ2.out rfl (by decide) _ (ramL a b k).length (ramL a b k) rfl (HG.out.drewN (n1 + n2)) _ _ [p] rfl rfl 1 rfl (by omega) (by unfold maxLen; omega) ?_; intro v' w4 hg2 hg3; have HG2 := Lib.hid hg2; clear hg2 hg3)
          exact ⟨⟨k + 1, p + 1, rfl, HPn.out, by omega, by rw [HZ.out, List.length_append]; exact HG2.out⟩, by simp [intOf]; omega⟩
        · have HZ := Lib.hid (H0.out (.inr hV))
          have dV : (V == -1) = false := f_beq hV
          clear H0 H1 HR hV
          go_wp2_with fail
          refine (HPp.out _).mono ?_
          rintro e w2 ⟨rfl, n1, rfl⟩
          go_wp2_with fail
          refine (HHq.out _).mono ?_
          rintro e w2 ⟨rfl, n2, rfl⟩
          go_wp2_with fail
          exact ⟨⟨k + 1, p + 1, rfl, HPn.out, by omega, by rw [HZ.out]; exact HG.out.drewN (n1 + n2)⟩, by simp [intOf]; omega⟩
      have dd : decide (2 < p) = true := decide_eq_true (by omega)
      rw [decide_eq_false h2] at HR
      by_cases hx0 : x = 0
      · have d1 : (x == 0) = true := t_beq hx0
        rw [d1] at HR
        subst hx0
        clear hy h2
        by_cases hV : V = -1
        · have HZ := Lib.hid (H1.out (by rw [HR.out]; rfl) hV)
          subst hV
          clear H0 H1 HR
          go_wp2_with fail
          refine (HPp.out _).mono ?_
          rintro e w2 ⟨rfl, n1, rfl⟩
          go_wp2_with fail
          refine (HHq.out _).mono ?_
          rintro e w2 ⟨rfl, n2, rfl⟩
          go_wp2_with (at_builtin; refine wpList_append_got2 rfl (.tmp 43) (.tmp 45) 76 rfl 3 i0 _ 1 8 Tryz.underlying76 HI.out HZ0.out HZ1.out HZ2.out rfl (by decide) _ (ramL a b k).length (ramL a b k) rfl (HG.out.drewN (n1 + n2)) _ _ [p] rfl rfl 1 rfl (by omega) (by unfold maxLen; omega) ?_; intro v' w4 hg2 hg3; have HG2 := Lib.hid hg2; clear hg2 hg3)
          exact ⟨⟨k + 1, p + 1, rfl, HPn.out, by omega, by rw [HZ.out, List.length_append]; exact HG2.out⟩, by simp [intOf]; omega⟩
        · have HZ := Lib.hid (H0.out (.inr hV))
          have dV : (V == -1) = false := f_beq hV
          clear H0 H1 HR hV
          go_wp2_with fail
          refine (HPp.out _).mono ?_
          rintro e w2 ⟨rfl, n1, rfl⟩
          go_wp2_with fail
          refine (HHq.out _).mono ?_
          rintro e w2 ⟨rfl, n2, rfl⟩
          go_wp2_with fail
          exact ⟨⟨k + 1, p + 1, rfl, HPn.out, by omega, by rw [HZ.out]; exact HG.out.drewN (n1 + n2)⟩, by simp [intOf]; omega⟩
      have d1 : (x == 0) = false := f_beq hx0
      have d1' : (x != 0) = true := bne_iff_ne.2 hx0
      rw [d1] at HR
      by_cases hy0 : y = 0
      · have d2 : (y == 0) = true := t_beq hy0
        rw [d2] at HR
        subst hy0
        clear h2 hx0
        by_cases hV : V = -1
        · have HZ := Lib.hid (H1.out (by rw [HR.out]; rfl) hV)
          subst hV
          clear H0 H1 HR
          go_wp2_with fail
          refine (HPp.out _).mono ?_
          rintro e w2 ⟨rfl, n1, rfl⟩
          go_wp2_with fail
          refine (HHq.out _).mono ?_
          rintro e w2 ⟨rfl, n2, rfl⟩
          go_wp2_with (at_builtin; refine wpList_append_got2 rfl (.tmp 43) (.tmp 45) 76 rfl 3 i0 _ 1 8 Tryz.underlying76 HI.out HZ0.out HZ1.out HZ2.out rfl (by decide) _ (ramL a b k).length (ramL a b k) rfl (HG.out.drewN (n1 + n2)) _ _ [p] rfl rfl 1 rfl (by omega) (by unfold maxLen; omega) ?_; intro v' w4 hg2 hg3; have HG2 := Lib.hid hg2; clear hg2 hg3)
          exact ⟨⟨k + 1, p + 1, rfl, HPn.out, by omega, by rw [HZ.out, List.length_append]; exact HG2.out⟩, by simp [intOf]; omega⟩
        · have HZ := Lib.hid (H0.out (.inr hV))
          have dV : (V == -1) = false := f_beq hV
          clear H0 H1 HR hV
          go_wp2_with fail
          refine (HPp.out _).mono ?_
          rintro e w2 ⟨rfl, n1, rfl⟩
          go_wp2_with fail
          refine (HHq.out _).mono ?_
          rintro e w2 ⟨rfl, n2, rfl⟩
          go_wp2_with fail
          exact ⟨⟨k + 1, p + 1, rfl, HPn.out, by omega, by rw [HZ.out]; exact HG.out.drewN (n1 + n2)⟩, by simp [intOf]; omega⟩
      have d2 : (y == 0) = false := f_beq hy0
      have d2' : (y != 0) = true := bne_iff_ne.2 hy0
      rw [d2] at HR
      have HZ := Lib.hid (H0.out (.inl (by rw [HR.out]; rfl)))
      clear H0 H1 HR HHq h2 hx0 hy0
      go_wp2_with fail
      refine (HPp.out _).mono ?_
      rintro e w2 ⟨rfl, n1, rfl⟩
      go_wp2_with fail
      exact ⟨⟨k + 1, p + 1, rfl, HPn.out, by omega, by rw [HZ.out]; exact HG.out.drewN n1⟩, by simp [intOf]; omega⟩
    · obtain rfl : k = 999 := by omega
      have hp1 : ¬ p ≤ 1000 := by have := HP.out; omega
      clear HH HPr HP
      go_wp2_with fail
      go_ret
      exact ⟨_, _, rfl, HS3.out, hc5, by unfold maxLen; omega, HB1.out.trans (HG.out.below.mono HB1.out.size)⟩

/-- both numbers below 0 -/
def defB (a b : Int) : Bool := decide (a < 0) && decide (b < 0)
theorem rDefinite_any (a b : Int) (w : World) :
    Calls Tryz.prog 46 #[.agg #[.int .i64 a, .int .i64 b]] w fun r w' => r = .returned (.bool (defB a b)) ∧ Below w.heap.size w w' := by
  have HF := Lib.hid (show defB a b = (decide (a < 0) && decide (b < 0)) from rfl)
  generalize defB a b = F at *
  by_cases ha : a < 0
  · by_cases hb : b < 0
    · have HQ := Lib.hid (show F = true by rw [HF.out]; simp [ha, hb])
      clear HF
      go_enter Tryz.func46, Tryz.ntmps46
      go_wp2_with fail
      go_ret
      exact ⟨ret_bool HQ.out.symm, (Below.refl _ _).alloc (Nat.le_refl _) _⟩
    · have HQ := Lib.hid (show F = false by rw [HF.out]; simp [hb])
      clear HF
      go_enter Tryz.func46, Tryz.ntmps46
      go_wp2_with fail
      go_ret
      exact ⟨ret_bool HQ.out.symm, (Below.refl _ _).alloc (Nat.le_refl _) _⟩
  · have HQ := Lib.hid (show F = false by rw [HF.out]; simp [ha])
    clear HF
    go_enter Tryz.func46, Tryz.ntmps46
    go_wp2_with fail
    go_ret
    exact ⟨ret_bool HQ.out.symm, (Below.refl _ _).alloc (Nat.le_refl _) _⟩


set_option maxHeartbeats 2000000 in
theorem Ramified_good (a b : Int) (w : World) (hE : aE a b = 0) :
    Calls Tryz.prog 38 #[.agg #[.int .i64 a, .int .i64 b]] w fun e w' => ∃ A c, e = .returned (.tuple #[.slice A (ramL a b 999).length c, .bool (defB a b), .int .i64 0]) ∧ ShowsI w' A (ramL a b 999) ∧ (ramL a b 999).length ≤ c ∧ c ≤ maxLen ∧ Below w.heap.size w w' := by
  have HC := Lib.hid (fun w => (hE ▸ qCheck_any a b w : Calls Tryz.prog 49 #[.agg #[.int .i64 a, .int .i64 b]] w fun e w' => e = .returned (.int .i64 0) ∧ Below w.heap.size w w'))
  have HR := Lib.hid (fun w => ramified_any a b w hE)
  have HF := Lib.hid (show defB a b = (decide (a < 0) && decide (b < 0)) from rfl)
  generalize defB a b = F at *
  generalize ramL a b 999 = L at *
  clear hE
  by_cases ha : a < 0
  · by_cases hb : b < 0
    · have da : decide (a < 0) = true := decide_eq_true ha
      have db : decide (b < 0) = true := decide_eq_true hb
      have HQ := Lib.hid (show F = true by rw [HF.out]; simp [ha, hb])
      clear HF
      go_enter Tryz.func38, Tryz.ntmps38
      go_wp2_with fail
      refine (HC.out _).mono ?_
      rintro e1 w1 ⟨rfl, hb1⟩
      have HB1 := Lib.hid (show Bx w [(w.heap.size, #[.int .i64 a, .int .i64 b])] w1 from ((Bx.nil (Below.refl w.heap.size w)).new _ _).keep hb1)
      clear hb1 HC
      have MK := Lib.hid (fun w' (h : Bx w [(w.heap.size, #[.int .i64 a, .int .i64 b])] w') => And.intro h (h.two (List.mem_cons_self ..)))
      have HG2 := Lib.hid (MK.out _ (HB1.out.keep (Below.refl _ _).drew))
      go_upto_region 4 with fail
      go_region_held3 (fun w' => Bx w [(w.heap.size, #[.int .i64 a, .int .i64 b])] w' ∧ (w'.cell? ⟨w.heap.size, 0, none⟩ = some (.int .i64 a) ∧ w'.cell? ⟨w.heap.size, 1, none⟩ = some (.int .i64 b)))
        (first
          | assumption
          | exact HG2.out
          | exact MK.out _ (Bx.keep (And.left (by assumption)) (by assumption)))
        (first
          | (go_at_call 110; (with_reducible refine (HR.out _).mono ?_); rintro e w' ⟨A, c, rfl, hs, hlc, hcm, hb⟩))
      have hR : Bx w [(w.heap.size, #[.int .i64 a, .int .i64 b])] w' := by repeat (first | exact HG2.out.1 | refine Bx.keep ?_ (by assumption))
      have HS := Lib.hid hs
      clear hs
      go_wp2_with fail
      go_ret3
      exact ⟨A, c, by rw [HQ.out]; rfl, HS.out, hlc, hcm, hR.below⟩
    · have da : decide (a < 0) = true := decide_eq_true ha
      have db : decide (b < 0) = false := decide_eq_false hb
      have HQ := Lib.hid (show F = false by rw [HF.out]; simp [hb])
      clear HF
      go_enter Tryz.func38, Tryz.ntmps38
      go_wp2_with fail
      refine (HC.out _).mono ?_
      rintro e1 w1 ⟨rfl, hb1⟩
      have HB1 := Lib.hid (show Bx w [(w.heap.size, #[.int .i64 a, .int .i64 b])] w1 from ((Bx.nil (Below.refl w.heap.size w)).new _ _).keep hb1)
      clear hb1 HC
      have MK := Lib.hid (fun w' (h : Bx w [(w.heap.size, #[.int .i64 a, .int .i64 b])] w') => And.intro h (h.two (List.mem_cons_self ..)))
      have HG2 := Lib.hid (MK.out _ (HB1.out.keep (Below.refl _ _).drew))
      go_upto_region 4 with fail
      go_region_held3 (fun w' => Bx w [(w.heap.size, #[.int .i64 a, .int .i64 b])] w' ∧ (w'.cell? ⟨w.heap.size, 0, none⟩ = some (.int .i64 a) ∧ w'.cell? ⟨w.heap.size, 1, none⟩ = some (.int .i64 b)))
        (first
          | assumption
          | exact HG2.out
          | exact MK.out _ (Bx.keep (And.left (by assumption)) (by assumption)))
        (first
          | (go_at_call 110; (with_reducible refine (HR.out _).mono ?_); rintro e w' ⟨A, c, rfl, hs, hlc, hcm, hb⟩))
      have hR : Bx w [(w.heap.size, #[.int .i64 a, .int .i64 b])] w' := by repeat (first | exact HG2.out.1 | refine Bx.keep ?_ (by assumption))
      have HS := Lib.hid hs
      clear hs
      go_wp2_with fail
      go_ret3
      exact ⟨A, c, by rw [HQ.out]; rfl, HS.out, hlc, hcm, hR.below⟩
  · have da : decide (a < 0) = false := decide_eq_false ha
    have HQ := Lib.hid (show F = false by rw [HF.out]; simp [ha])
    clear HF
    go_enter Tryz.func38, Tryz.ntmps38
    go_wp2_with fail
    refine (HC.out _).mono ?_
    rintro e1 w1 ⟨rfl, hb1⟩
    have HB1 := Lib.hid (show Bx w [(w.heap.size, #[.int .i64 a, .int .i64 b])] w1 from ((Bx.nil (Below.refl w.heap.size w)).new _ _).keep hb1)
    clear hb1 HC
    obtain ⟨c0, c1⟩ := HB1.out.two (List.mem_cons_self ..)
    go_upto_region 4 with fail
    first
      | go_region_with (go_at_call 110; refine (HR.out _).mono ?_; rintro e w' ⟨A, c, rfl, hs, hlc, hcm, hb⟩; have HB2 := Lib.hid ((HB1.out.keep (Below.refl _ _).drew).keep hb); have HS := Lib.hid hs; obtain ⟨k0, k1⟩ := HB2.out.two (List.mem_cons_self ..); clear hs hb)
      | fail
    all_goals
      go_wp2_with fail
      go_ret3
      exact ⟨A, c, by rw [HQ.out]; rfl, HS.out, hlc, hcm, HB2.out.below⟩
theorem Ramified_bad (a b : Int) (w : World) (hE : aE a b ≠ 0) :
    Calls Tryz.prog 38 #[.agg #[.int .i64 a, .int .i64 b]] w fun e w' => e = .returned (.tuple #[.slice none 0 0, .bool false, .int .i64 (aE a b)]) ∧ Below w.heap.size w w' := by
  have HC := Lib.hid (fun w => qCheck_any a b w)
  have d1 : (aE a b == 0) = false := f_beq hE
  clear hE
  generalize aE a b = E at *
  go_enter Tryz.func38, Tryz.ntmps38
  go_wp2_with fail
  refine (HC.out _).mono ?_
  rintro e1 w1 ⟨rfl, hb1⟩
  have HB1 := Lib.hid (((Below.refl w.heap.size w).alloc (Nat.le_refl _) _).trans (hb1.mono (by simp)))
  clear hb1 HC
  go_wp2_with fail
  go_ret3
  exact ⟨rfl, HB1.out⟩
end Go.Proofs.YtfjmhfmhijhpkaaGreatDoor
