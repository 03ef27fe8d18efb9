/- The reference's integer square root, bit by bit. -/
import Derived.Test.YtmlkiddkgikdhaaRot
import Derived.Test.YtmlkiddkgikdhaaRbd
namespace Go.Proofs.Ytmlkiddkgikdhaa
open Go.RowKit FF

/-- what holds at the head of the outer loop -/
def RBit (a : Nat) (W0 : World) (B0 U : Nat) (s : Value) (wr : World) : Prop :=
  ∃ (A : Option Addr) (c R : Nat), s = .slice A (hl R) c ∧ R * R ≤ a ∧ a < (R + U) * (R + U) ∧ hl R ≤ c ∧ c ≤ maxLen ∧ Shows .i64 wr A (digs HB R) ∧ Below B0 W0 wr
theorem pow16 (i : Nat) : 2 ^ 16 * HB ^ i = HB ^ (i + 1) := by rw [Nat.pow_succ, Nat.mul_comm]; rfl
theorem root_first {a k : Nat} (h : hl a ≤ 2 * k) : a < (0 + HB ^ k) * (0 + HB ^ k) := by
  have h1 := lt_pow_digs HB2 a
  change a < HB ^ hl a at h1
  rw [Nat.zero_add, ← Nat.pow_add]
  exact Nat.lt_of_lt_of_le h1 (Nat.pow_le_pow_right (by decide) (by omega))
theorem cells_zeros (i : Nat) : (madeCells #[Value.int .i64 0] i).toList = cells .i64 (List.replicate i 0) := by
  rw [toList_madeCells_one]; simp [cells]

theorem hl_add_le {a b k : Nat} (ha : hl a ≤ k) (hb : b < HB ^ k) : hl (a + b) ≤ k + 1 := by
  have h1 := lt_pow_digs HB2 a
  change a < HB ^ hl a at h1
  refine digs_length_le HB2 (k := k + 1) ?_
  have h3 : HB ^ hl a ≤ HB ^ k := Nat.pow_le_pow_right (by decide) ha
  rw [Nat.pow_succ]
  have h5 : HB ^ k * 2 ≤ HB ^ k * HB := Nat.mul_le_mul_left _ HB2
  omega
theorem bit_lt {bit i k : Nat} (h : bit < HB) (hk : i + 1 ≤ k) : bit * HB ^ i < HB ^ k := by
  have h1 : bit * HB ^ i < HB * HB ^ i := (Nat.mul_lt_mul_right (Nat.pow_pos (by decide))).2 h
  rw [Nat.mul_comm HB, ← Nat.pow_succ] at h1
  exact Nat.lt_of_lt_of_le h1 (Nat.pow_le_pow_right (by decide) hk)

set_option maxRecDepth 100000 in
set_option maxHeartbeats 2000000 in
theorem rRoot_any (s : Bool) (A : Option Addr) (n c : Nat) (x : Int) (w : World) (hx : AI w s A n c x) (hlen : n ≤ 400000) :
    Calls Try.prog 65 #[.agg #[.bool s, .slice A n c]] w (RootPost w x) := by
  unfold RootPost
  have HSg := Lib.hid (fun w' h => rSign_any s A n c x w' h hlen)
  have HDg := Lib.hid (fun w' h => rDigits_any s A n c x w' h (by omega))
  unfold HalfPost at HDg
  have HX := Lib.hid hx
  have hxl := hx.hl_le
  have hk := sgn_cases x
  clear hx
  by_cases hneg : x < 0
  · have hs : sgn x = -1 := by omega
    rw [hs] at HSg
    rw [show errR x = 2 from if_pos hneg, show x.toNat = 0 by omega, sqN_zero, wl_zero]
    clear hk hs
    go_enter Try.func65, Try.ntmps65
    go_wp2_with fail
    refine (HSg.out _ (HX.out.alloc _ |>.alloc _)).mono ?_
    rintro e w1 ⟨rfl, hb⟩
    rw [World.size_alloc, World.size_alloc] at hb
    obtain ⟨k0, k1, f1, hz1, B⟩ := two_keep hb
    have q0 := k0 0; have q1 := k1 0; have q2 := k1 1; have f10 := f1 0; have f11 := f1 1
    have HB := Lib.hid B
    clear hb k0 k1 f1 B HDg
    go_wp2_with fail
    refine bodyPost_ret (v := .tuple #[.agg #[.bool false, .slice none 0 0], .int .i64 2]) (by simp [results, Try.results65, go_sem, q1, q2]) rfl ?_
    exact ⟨none, 0, rfl, Shows.nil, Nat.zero_le _, by simp [maxLen], (HB.out.setCell (p := ⟨w.heap.size + 1, 0, none⟩) (by simp) _).setCell (p := ⟨w.heap.size + 1, 1, none⟩) (by simp) _⟩
  · have hs : 0 ≤ sgn x ∧ sgn x ≤ 1 := by omega
    rw [show errR x = 0 from if_neg hneg]
    obtain ⟨a, ha⟩ : ∃ a, x.natAbs = a := ⟨_, rfl⟩
    rw [ha] at HDg hxl
    rw [show x.toNat = a by omega]
    have hng : ¬ sgn x < 0 := by omega
    generalize sgn x = g at *
    clear hk ha hs hneg
    go_enter Try.func65, Try.ntmps65
    go_wp2_with fail
    refine (HSg.out _ (HX.out.alloc _ |>.alloc _)).mono ?_
    rintro e w1 ⟨rfl, hb⟩
    rw [World.size_alloc, World.size_alloc] at hb
    obtain ⟨k0, k1, f1, hz1, B⟩ := two_keep hb
    have q0 := k0 0; have q00 := k0 1; have q1 := k1 0; have q2 := k1 1
    have HB := Lib.hid B; have Hb := Lib.hid hb
    clear hb k0 k1 f1 B
    go_wp2_with fail
    refine (HDg.out _ (HX.out.keep HB.out)).mono ?_
    rintro e w2 ⟨A1, c1, rfl, s1, r1, r2, -, b1⟩
    have HD := Lib.hid s1
    have hzz : w.heap.size + 1 + 1 ≤ w1.heap.size := hz1
    have Hb2 := Lib.hid (Hb.out.trans (b1.mono hzz))
    have hz2 : w.heap.size + 1 + 1 ≤ w2.heap.size := by have := b1.size; omega
    clear s1 b1 HSg HDg q0 q00 q1 q2 Hb HB hzz
    go_wp2_with fail
    obtain ⟨i0, hi, hz0, hz1', hz2'⟩ := info_parts info_int
    have HI := Lib.hid hi; have HZ0 := Lib.hid hz0; have HZ1 := Lib.hid hz1'; have HZ2 := Lib.hid hz2'
    clear hi hz0 hz1' hz2'
    have hla : hl a ≤ 800000 := by omega
    have HRt := Lib.hid (root_first (a := a) (k := hl a / 2 + 2) (by omega))
    generalize hna : hl a = na at *
    have HNA := Lib.hid hna
    clear hna
    go_loopw [5, 6] (fun s5 s6 wr => ∃ k : Nat, s6 = .int .i64 ((k : Int) - 1) ∧ k ≤ na / 2 + 2 ∧ RBit a w2 w2.heap.size (HB ^ k) s5 wr) (fun _ s _ => (intOf s + 1).toNat)
    case atStart => exact ⟨na / 2 + 2, by go_num, Nat.le_refl _, none, 0, 0, rfl, by omega, HRt.out, Nat.zero_le _, by simp [maxLen], Shows.nil, Below.refl _ _⟩
    case round =>
      clear HRt
      obtain ⟨k, rfl, hk, hB⟩ := hrel
      by_cases h0 : 0 < k
      · obtain ⟨i, rfl⟩ : ∃ i, k = i + 1 := ⟨k - 1, by omega⟩
        rw [show ((i + 1 : Nat) : Int) - 1 = (i : Int) by omega]
        have HBt := Lib.hid hB
        have hmk := int_make i (by omega)
        clear hB h0
        go_wp2_with fail
        obtain ⟨W5, h5⟩ : ∃ W5 : World, W5 = wr := ⟨_, rfl⟩
        subst h5
        go_loopw [5, 7] (fun s5 s7 wr => ∃ j : Nat, s7 = .int .i64 ((2 ^ j / 2 : Nat) : Int) ∧ j ≤ 16 ∧ RBit a w2 w2.heap.size (2 ^ j * HB ^ i) s5 wr) (fun _ s _ => (intOf s).toNat)
        case atStart => exact ⟨16, rfl, Nat.le_refl _, by rw [pow16]; exact HBt.out⟩
        case round =>
          clear HBt
          obtain ⟨j, rfl, hj, hB⟩ := hrel
          obtain ⟨A3, c3, R, rfl, h1, h2, h3, h4, h5, h6⟩ := hB
          have HS3 := Lib.hid h5; have HB3 := Lib.hid h6; have H1 := Lib.hid h1
          clear h1 h5 h6
          match j, hj, h2 with
          | 0, hj, h2 =>
            have H2 := Lib.hid (show a < (R + HB ^ i) * (R + HB ^ i) by rw [Nat.pow_zero, Nat.one_mul] at h2; exact h2)
            rw [show ((2 ^ 0 / 2 : Nat) : Int) = 0 from rfl]
            clear h2
            go_wp2_with fail
            exact ⟨⟨i, rfl, by omega, A3, c3, R, rfl, H1.out, H2.out, h3, h4, HS3.out, HB3.out⟩, by simp [intOf]⟩
          | j + 1, hj, h2 =>
            rw [show 2 ^ (j + 1) / 2 = 2 ^ j by rw [Nat.pow_succ]; omega]
            have hjb : 2 ^ j ≤ 2 ^ 15 := Nat.pow_le_pow_right (by decide) (by omega)
            have hjp : 0 < 2 ^ j := Nat.pow_pos (by decide)
            rw [show 2 ^ (j + 1) * HB ^ i = 2 * (2 ^ j * HB ^ i) by rw [Nat.pow_succ, Nat.mul_comm (2 ^ j) 2, Nat.mul_assoc]] at h2
            have H2 := Lib.hid h2
            have HJ := Lib.hid (show (2 ^ j / 2 : Nat) = 2 ^ j / 2 ∧ j ≤ 16 from ⟨rfl, by omega⟩)
            clear h2
            have hRl : hl R ≤ na := by
              rw [← HNA.out]
              refine hl_le ?_
              by_cases hR0 : R = 0
              · omega
              · exact Nat.le_trans (Nat.le_mul_of_pos_left R (by omega)) H1.out
            generalize hbt : 2 ^ j = bit at *
            have HBT := Lib.hid hbt
            clear hbt
            have hO := (World.ownsRow_lit (base := wr.heap.size) (size := 1) (e := 3) wr (madeCells #[.int .i64 0] i) i (Nat.le_refl _) (by unfold maxLen; omega) (by rw [size_madeCells, Nat.mul_one])).alloc (.cells #[.int .i64 (bit : Int)] 3)
            rw [cells_zeros] at hO
            have HO := Lib.hid hO
            clear hO
            go_wp2_with (at_builtin; refine wpList_append_own _ rfl (.tmp 29) (.tmp 31) 30 rfl wr.heap.size 3 i0 (.int .i64 0) 1 8 Try.underlying30 HI.out HZ0.out HZ1.out HZ2.out rfl (by decide) (.slice (some ⟨wr.heap.size, 0, none⟩) i i) i (cells .i64 (List.replicate i 0)) rfl HO.out ⟨wr.heap.size + 1, 0, none⟩ 1 1 [.int .i64 (bit : Int)] rfl rfl (fun j u hj => by match j, hj with | 0, hj => simp at hj; subst hj; simp [Addr.add, go_sem]) (fun u hu => by simp at hu; subst hu; rfl) (by unfold maxLen; omega) (by omega) (by simp; omega) ?_; intro v5 w5 hown5 hgrow5 _)
            have hg : ((wr.alloc (.cells (madeCells #[.int .i64 0] i) 3)).alloc (.cells #[.int .i64 (bit : Int)] 3)).grownBy w5 (some wr.heap.size) := hgrow5
            have hb5 : Below wr.heap.size wr w5 := ((((Below.refl _ _).alloc (Nat.le_refl _) _).alloc (by simp) _).grown hg (by simp; omega) (fun k hk => by injection hk with hk; omega))
            have ho : w5.ownsRow wr.heap.size 3 1 v5 (List.replicate i 0 ++ [bit]).length (cells .i64 (List.replicate i 0 ++ [bit])) := by
              rw [List.length_append, List.length_replicate, ← cells_snoc]; exact hown5
            obtain ⟨A4, c4, rfl, s4, t1, t2, t3⟩ := own_shows ho
            have hbH : bit < HB := by have : HB = 65536 := rfl; omega
            have hP := rPlus_any A3 A4 (digs HB R) (List.replicate i 0 ++ [bit]) c3 c4 w5 (HS3.out.below hb5) s4 (dig_digs' HB2 R) (dig_zeros hbH) (show hl R ≤ 2000000 by omega) (by rw [List.length_append, List.length_replicate]; simp; omega)
            rw [val_digs' HB2, val_zeros] at hP
            rw [show (digs HB R).length = hl R from rfl] at hP
            have HP := Lib.hid hP
            have hVl : hl (R + bit * HB ^ i) ≤ na + 2 + 1 := hl_add_le (by omega) (bit_lt hbH (by omega))
            have HB5 := Lib.hid (below_then HB3.out hb5)
            have HS5 := Lib.hid (HS3.out.below hb5)
            clear hown5 hgrow5 hg hb5 ho s4 hP HO HS3 HB3
            unfold HalfPost at HP
            obtain ⟨N, hN⟩ : ∃ N, R + bit * HB ^ i = N := ⟨_, rfl⟩
            rw [hN] at HP hVl
            have HN := Lib.hid hN
            clear hN
            refine HP.out.mono ?_
            rintro e w6 ⟨A5, c5, rfl, s5, m1, m2, -, b5⟩
            have hT := rTimes_any A5 A5 (digs HB N) (digs HB N) c5 c5 w6 s5 s5 (dig_digs' HB2 N) (dig_digs' HB2 N) (show hl N ≤ 1000000 by omega) (show hl N ≤ 1000000 by omega)
            rw [val_digs' HB2] at hT
            rw [show (digs HB N).length = hl N from rfl] at hT
            unfold HalfPost at hT
            have HT := Lib.hid hT
            have HS6 := Lib.hid (HS5.out.below b5); have HN6 := Lib.hid s5; have HB6 := Lib.hid (below_then HB5.out b5)
            clear hT s5 b5 HP HS5 HB5
            go_wp2_with fail
            refine HT.out.mono ?_
            rintro e w7 ⟨A6, c6, rfl, s6, -, -, -, b6⟩
            have HS7 := Lib.hid (HS6.out.below b6); have HN7 := Lib.hid (HN6.out.below b6); have HB7 := Lib.hid (below_then HB6.out b6)
            have hL := rLess_any A1 A6 a (N * N) c1 c6 w7 (HD.out.below HB7.out) s6 (by rw [HNA.out]; omega)
            rw [HNA.out] at hL
            have HL := Lib.hid hL
            clear hL s6 b6 HT HS6 HN6 HB6
            by_cases hlt : a < N * N
            · rw [decide_eq_true hlt] at HL
              have HLT := Lib.hid hlt
              clear hlt
              go_wp2_with fail
              refine HL.out.mono ?_
              rintro e w8 ⟨rfl, n8, rfl⟩
              clear HL
              go_wp2_with fail
              refine ⟨⟨j, by rw [HBT.out, Int.natCast_ediv]; rfl, HJ.out.2, A3, c3, R, rfl, H1.out, ?_, h3, h4, HS7.out.drewN n8, below_drewN HB7.out n8⟩, by simp [intOf]; omega⟩
              rw [HBT.out, HN.out]; exact HLT.out
            · rw [decide_eq_false hlt] at HL
              have HLT := Lib.hid (show N * N ≤ a by omega)
              clear hlt
              go_wp2_with fail
              refine HL.out.mono ?_
              rintro e w8 ⟨rfl, n8, rfl⟩
              clear HL
              go_wp2_with fail
              refine ⟨⟨j, by rw [HBT.out, Int.natCast_ediv]; rfl, HJ.out.2, A5, c5, N, rfl, HLT.out, ?_, m1, m2, HN7.out.drewN n8, below_drewN HB7.out n8⟩, by simp [intOf]; omega⟩
              rw [HBT.out, ← HN.out, show R + bit * HB ^ i + bit * HB ^ i = R + 2 * (bit * HB ^ i) by omega]; exact H2.out
      · obtain rfl : k = 0 := by omega
        rw [Nat.pow_zero] at hB
        rw [show ((0 : Nat) : Int) - 1 = -1 from rfl]
        obtain ⟨A3, c3, R, rfl, h1, h2, h3, h4, h5, h6⟩ := hB
        have HE := Lib.hid (sqN_of h1 h2)
        have HS3 := Lib.hid h5; have HB3 := Lib.hid h6
        clear h1 h2 h5 h6
        have hM := rMade_any false A3 (digs HB R) c3 wr HS3.out (dig_digs' HB2 R) h3 h4 (by
          change hl R ≤ 3000000
          have h := sqN_self_le a
          rw [← HE.out] at h
          have := hl_le h
          rw [HNA.out] at this
          omega)
        rw [val_digs' HB2] at hM
        change Calls _ _ #[.bool false, .slice A3 (hl R) c3] wr _ at hM
        have HM := Lib.hid hM
        clear hM
        go_wp2_with fail
        refine HM.out.mono ?_
        rintro e w7 ⟨A7, c7, rfl, s7, m1, m2, f7, b7⟩
        obtain ⟨-, y1, y2, -, B⟩ := two_keep ((Hb2.out.trans (HB3.out.mono hz2)).trans (b7.mono (by have := HB3.out.size; omega)))
        have r1' := y1 0; have r2' := y1 1; have g10 := y2 0; have g11 := y2 1
        have S7 := Lib.hid (s7.setCell f7 (p := ⟨w.heap.size + 1, 0, none⟩) (by have := HB3.out.size; simp; omega) (.bool false))
        have S8 := Lib.hid (S7.out.setCell f7 (p := ⟨w.heap.size + 1, 1, none⟩) (by have := HB3.out.size; simp; omega) (.slice A7 (wl R) c7))
        have BE := Lib.hid ((B.setCell (p := ⟨w.heap.size + 1, 0, none⟩) (by simp) (.bool false)).setCell (p := ⟨w.heap.size + 1, 1, none⟩) (by simp) (.slice A7 (wl R) c7))
        clear s7 b7 y1 y2 B S7 HM f7
        go_wp2_with fail
        refine bodyPost_ret (v := .tuple #[.agg #[.bool false, .slice A7 (wl R) c7], .int .i64 0]) (by simp [results, Try.results65, go_sem, r1', r2']) rfl ?_
        rw [← HE.out]
        exact ⟨A7, c7, rfl, S8.out, m1, m2, BE.out⟩
end Go.Proofs.Ytmlkiddkgikdhaa
