/- Integers: the integer square root. The reference's integer square root, bit by bit. -/
import Derived.Test.YtmlkiddkgikdhaaSho
import Derived.Test.YtmlkiddkgikdhaaSqh
import Derived.Test.YtmlkiddkgikdhaaRbd
namespace Go.Proofs.Ytmlkiddkgikdhaa
open Go.RowKit FF

/-- the error of a root -/
def errR (x : Int) : Int := if x < 0 then 2 else 0
/-- what Root leaves -/
def RootPost (w : World) (x : Int) (e : Ending) (w' : World) : Prop :=
  ∃ A c, e = .returned (.tuple #[.agg #[.bool false, .slice A (wl (sqN x.toNat)) c], .int .i64 (errR x)]) ∧ Shows .u32 w' A (digs WB (sqN x.toNat)) ∧ wl (sqN x.toNat) ≤ c ∧ c ≤ maxLen ∧ Below w.heap.size w w'
theorem sqN_zero : sqN 0 = 0 := rfl

/-- what holds at the head of Root's loop -/
def RootRel (a L : Nat) (W0 : World) (B0 : Nat) (gk : Nat) (s : Value) (wr : World) : Prop :=
  ∃ (A : Option Addr) (c : Nat), s = .slice A (wl gk) c ∧ 0 < gk ∧ a < (gk + 1) * (gk + 1) ∧ wl gk ≤ c ∧ c ≤ maxLen ∧ wl gk ≤ L ∧ Shows .u32 wr A (digs WB gk) ∧ Below B0 W0 wr
theorem row_one {w : World} {G T k : Nat} (h : w.rowIs G T (k + 1) (fun _ => .int .u32 0)) : Shows .u32 (w.setCell ⟨G, k, none⟩ (.int .u32 1)) (some ⟨G, 0, none⟩) (digs WB (WB ^ k)) := by
  rw [digs_pow WB2]
  have h2 := h.set k (.int .u32 1)
  intro _
  refine ⟨G, 0, rfl, h2.lt, fun i hi => ?_⟩
  have hi' : i < k + 1 := by simpa using hi
  rw [Nat.zero_add, h2.cell hi']
  by_cases e : i = k
  · subst e; simp
  · simp [e, List.getElem?_append, show i < k by omega]

theorem wl_one_pow (k : Nat) : wl (WB ^ k) = k + 1 := by
  unfold wl
  rw [digs_pow WB2]; simp
theorem wl_add_le {a b k : Nat} (ha : wl a ≤ k) (hb : wl b ≤ k) : wl (a + b) ≤ k + 1 := by
  have h1 := lt_pow_digs WB2 a
  have h2 := lt_pow_digs WB2 b
  change a < WB ^ wl a at h1
  change b < WB ^ wl b at h2
  refine digs_length_le WB2 (k := k + 1) ?_
  have h3 : WB ^ wl a ≤ WB ^ k := Nat.pow_le_pow_right (by decide) ha
  have h4 : WB ^ wl b ≤ WB ^ k := Nat.pow_le_pow_right (by decide) hb
  rw [Nat.pow_succ]
  have h5 : WB ^ k * 2 ≤ WB ^ k * WB := Nat.mul_le_mul_left _ WB2
  omega

set_option maxRecDepth 100000 in
set_option maxHeartbeats 2000000 in
theorem Root_any (s : Bool) (A : Option Addr) (n c : Nat) (x : Int) (w : World) (hx : AI w s A n c x) (hl : n ≤ 400000) :
    Calls Try.prog 64 #[.agg #[.bool s, .slice A n c]] w (RootPost w x) := by
  unfold RootPost
  obtain ⟨xs, rfl, X, dx, hcx, hcx2, rfl, -⟩ := hx
  have HSx := Lib.hid (fun w' (h : Shows .u32 w' A xs) => size_any s A xs c w' h dx hcx hcx2)
  have HX := Lib.hid X
  have TX := Lib.hid (X.trim dx)
  have hla : wl (val WB xs) ≤ xs.length := digs_length_le WB2 (val_lt dx)
  generalize xs.length = n at *
  clear X dx hcx hcx2
  generalize val WB xs = a at *
  by_cases h0 : a = 0
  · subst h0
    have hz : sval s 0 = 0 := by cases s <;> rfl
    rw [hz, show errR 0 = 0 from rfl, show sqN (0 : Int).toNat = 0 from rfl, wl_zero]
    rw [wl_zero] at HSx
    go_enter Try.func64, Try.ntmps64
    go_wp2_with fail
    refine (HSx.out _ (HX.out.alloc _ |>.alloc _)).mono ?_
    rintro e w1 ⟨rfl, hb⟩
    rw [World.size_alloc, World.size_alloc] at hb
    obtain ⟨k0, k1, f1, hz1, B⟩ := two_keep hb
    have q0 := k0 0; have q1 := k1 0; have q2 := k1 1; have f10 := f1 0; have f11 := f1 1
    have HB := Lib.hid B
    clear hb k0 k1 f1 B
    go_wp2_with fail
    refine bodyPost_ret (v := .tuple #[.agg #[.bool false, .slice none 0 0], .int .i64 0]) (by simp [results, Try.results64, go_sem, q1, q2]) rfl ?_
    exact ⟨none, 0, rfl, Shows.nil, Nat.zero_le _, by simp [maxLen], (HB.out.setCell (p := ⟨w.heap.size + 1, 0, none⟩) (by simp) _).setCell (p := ⟨w.heap.size + 1, 1, none⟩) (by simp) _⟩
  · have hpos : 0 < a := by omega
    have hwl := wl_pos h0
    have hne : (((wl a : Nat) : Int) == 0) = false := f_beq (by omega)
    cases s
    · have hz : sval false a = (a : Int) := rfl
      rw [hz, show errR (a : Int) = 0 from if_neg (by omega), show (a : Int).toNat = a from Int.toNat_natCast a]
      have HLT := Lib.hid (newton_start (show 0 < WB by decide) (lt_pow_digs WB2 a))
      change Hid (a < (WB ^ (wl a / 2 + 1) + 1) * (WB ^ (wl a / 2 + 1) + 1)) at HLT
      obtain ⟨na, hna⟩ : ∃ na, wl a = na := ⟨_, rfl⟩
      have HNA := Lib.hid hna
      rw [hna] at HSx HLT hla hwl hne
      have hmk : ∀ W : World, (Instr.makeSlice 112 (.int .i64 ((na : Int) / 2 + 2)) (.int .i64 ((na : Int) / 2 + 2))).run Try.prog W = .ok (.slice (some ⟨W.heap.size, 0, none⟩) (na / 2 + 2) (na / 2 + 2)) (W.alloc (.cells (madeCells #[.int .u32 0] (na / 2 + 2)) 111)) := fun W => by
        have := row_make (na / 2 + 2) (by omega) W
        rw [show ((na / 2 + 2 : Nat) : Int) = (na : Int) / 2 + 2 by omega] at this
        exact this
      clear hna h0 hz
      go_enter Try.func64, Try.ntmps64
      go_wp2_with fail
      refine (HSx.out _ (HX.out.alloc _ |>.alloc _)).mono ?_
      rintro e w1 ⟨rfl, hb⟩
      rw [World.size_alloc, World.size_alloc] at hb
      obtain ⟨k0, k1, f1, hz1, B⟩ := two_keep hb
      have q0 := k0 0; have q1 := k1 0; have q2 := k1 1; have f10 := f1 0; have f11 := f1 1
      have HB := Lib.hid B; have Hb := Lib.hid hb
      clear hb k0 k1 f1 B
      have hN : na / 2 + 2 ≤ 300000 := by omega
      have hNc : ((na / 2 + 2 : Nat) : Int) = (na : Int) / 2 + 2 := by omega
      have hrow := World.rowIs_made w1 (.int .u32 0) (na / 2 + 2) 111
      have hc1 := hrow.cell (show na / 2 + 1 < na / 2 + 2 by omega)
      have hf1 := hrow.frozen (na / 2 + 1)
      have hr1 := row_one hrow
      have hb1 := (((Below.refl w1.heap.size w1).alloc (Nat.le_refl _) (.cells (madeCells #[.int .u32 0] (na / 2 + 2)) 111)).setCell (p := ⟨w1.heap.size, na / 2 + 1, none⟩) (Nat.le_refl _) (.int .u32 1))
      rw [World.setCell_alloc_new] at hr1 hb1
      have HR := Lib.hid hr1; have HB1 := Lib.hid hb1
      clear hrow hr1 hb1
      have HW := Lib.hid (wl_one_pow (na / 2 + 1))
      have HDv := Lib.hid (fun (b : Nat) (h : 0 < b) => divKnown h)
      have HA1 := Lib.hid (TX.out.below HB.out)
      have hpw : 0 < WB ^ (na / 2 + 1) := Nat.pow_pos (by decide)
      have HPW := Lib.hid hpw
      clear hpw
      go_wp2_with fail
      clear hmk hc1 hf1 HSx
      go_loopg [5] (WB ^ (na / 2 + 1)) (fun gk s5 wr => RootRel a (na + 2) w1 w1.heap.size gk s5 wr)
      case atStart => exact ⟨_, na / 2 + 2, by rw [HW.out], HPW.out, HLT.out, by rw [HW.out]; omega, by unfold maxLen; omega, by rw [HW.out]; omega, HR.out, HB1.out⟩
      case round =>
        clear HR HLT HPW HW HB1 hNc hN
        obtain ⟨A1, c1, rfl, h0, hlt, k1, k2, k3, s1, hB⟩ := hrel
        have H1 := Lib.hid s1; have HBw := Lib.hid hB; have HLT := Lib.hid hlt
        have HA2 := Lib.hid (HA1.out.below hB)
        clear s1 hB hlt
        have hD := HDv.out gk h0 A A1 a na c1 wr HA2.out H1.out (by rw [HNA.out]; omega) (by rw [HNA.out]; omega) (by unfold maxLen; omega)
        rw [HNA.out] at hD
        have HD := Lib.hid hD
        clear hD
        go_wp2_with fail
        refine HD.out.mono ?_
        rintro e w3 ⟨A3, c3, A4, c4, rfl, p1, p2, p3, p4, p5, p6, p7⟩
        have P5 := Lib.hid p5; have P7 := Lib.hid p7
        have H2 := Lib.hid (H1.out.below p7)
        clear p5 p6 p7 HD
        have HNx := Lib.hid (newton_above (a := a) (r := gk) h0)
        have HSt := Lib.hid (newton_stop (a := a) (r := gk))
        have hq : wl (a / gk) ≤ na := by rw [← HNA.out]; exact digs_mono WB2 (Nat.div_le_self _ _)
        generalize a / gk = q at *
        have HP := Lib.hid (plus_any A1 A3 (digs WB gk) (digs WB q) c1 c3 w3 H2.out P5.out (dig_digs' WB2 gk) (dig_digs' WB2 q) (show wl gk ≤ 1000000 by omega) (show wl q ≤ 1000000 by omega))
        rw [val_digs' WB2, val_digs' WB2] at HP
        change Hid (Calls _ _ #[.slice A1 (wl gk) c1, .slice A3 (wl q) c3] w3 _) at HP
        have hsl : wl (gk + q) ≤ na + 3 := wl_add_le (by omega) (by omega)
        go_wp2_with fail
        refine HP.out.mono ?_
        rintro e w4 ⟨A5, rfl, s5, -, b5⟩
        have hS := short_any A5 (digs WB (gk + q)) 2 (wl (gk + q)) w4 s5 (dig_digs' WB2 _) (show wl (gk + q) ≤ 1000000 by omega) (by decide) (by decide)
        rw [val_digs' WB2] at hS
        have HS := Lib.hid hS
        have H3 := Lib.hid (H2.out.below b5); have P8 := Lib.hid (P7.out.trans (b5.mono P7.out.size))
        clear s5 b5 hS HP H2 P7 P5
        change Hid (Calls _ _ #[.slice A5 (wl (gk + q)) (wl (gk + q)), .int .u32 2] w4 _) at HS
        go_wp2_with fail
        refine HS.out.mono ?_
        rintro e w5 ⟨A6, rfl, s6, -, b6⟩
        have hml : wl ((gk + q) / 2) ≤ na + 3 := Nat.le_trans (digs_mono WB2 (Nat.div_le_self _ _)) hsl
        have H4 := Lib.hid (H3.out.below b6); have P9 := Lib.hid (P8.out.trans (b6.mono P8.out.size)); have S6 := Lib.hid s6
        clear s6 b6 HS H3 P8
        generalize hm : (gk + q) / 2 = m at *
        have HC := Lib.hid (compare_any A6 A1 m gk (wl m) c1 w5 S6.out H4.out (by omega))
        clear hm
        by_cases hge : gk ≤ m
        · have hcm : (0 : Int) ≤ cmpN m gk := by unfold cmpN; rw [if_neg (by omega)]; split <;> simp
          have HE := Lib.hid (sqN_of (HSt.out hge) HLT.out)
          have hM := made_any false A1 (digs WB gk) c1 (w5.drewN 0) (H4.out.drewN 0) (dig_digs' WB2 _) k1 k2 (by rw [val_digs' WB2]; change wl gk ≤ 1000000; omega)
          generalize cmpN m gk = cm at *
          clear hM
          go_wp2_with fail
          refine HC.out.mono ?_
          rintro e w6 ⟨rfl, n6, rfl⟩
          have H5 := Lib.hid (H4.out.drewN n6); have P10 := Lib.hid (below_drewN P9.out n6)
          have hM := made_any false A1 (digs WB gk) c1 (w5.drewN n6) H5.out (dig_digs' WB2 _) k1 k2 (by rw [val_digs' WB2]; change wl gk ≤ 1000000; omega)
          rw [val_digs' WB2] at hM
          change Calls _ _ #[.bool false, .slice A1 (wl gk) c1] _ _ at hM
          have HM := Lib.hid hM
          clear HC hM
          go_wp2_with fail
          refine HM.out.mono ?_
          rintro e w7 ⟨A7, c7, rfl, s7, m1, m2, f7, b7⟩
          have Bq := P10.out.trans (b7.mono P10.out.size)
          have Bp := HBw.out.trans (Bq.mono HBw.out.size)
          have hzz : w.heap.size + 1 + 1 ≤ w1.heap.size := hz1
          obtain ⟨-, y1, y2, -, B⟩ := two_keep (Hb.out.trans (Bp.mono hzz))
          have r1 := y1 0; have r2 := y1 1; have g10 := y2 0; have g11 := y2 1
          have S7 := Lib.hid (s7.setCell f7 (p := ⟨w.heap.size + 1, 0, none⟩) (by have := P10.out.size; have := HBw.out.size; simp at *; omega) (.bool false))
          have S8 := Lib.hid (S7.out.setCell f7 (p := ⟨w.heap.size + 1, 1, none⟩) (by have := P10.out.size; have := HBw.out.size; simp at *; omega) (.slice A7 (wl gk) c7))
          have BE := Lib.hid ((B.setCell (p := ⟨w.heap.size + 1, 0, none⟩) (by simp) (.bool false)).setCell (p := ⟨w.heap.size + 1, 1, none⟩) (by simp) (.slice A7 (wl gk) c7))
          clear s7 b7 Bq Bp y1 y2 B S7 HM f7 q0 q1 q2 f10 f11
          go_wp2_with fail
          refine bodyPost_ret (v := .tuple #[.agg #[.bool false, .slice A7 (wl gk) c7], .int .i64 0]) (by simp [results, Try.results64, go_sem, r1, r2]) rfl ?_
          rw [← HE.out]
          exact ⟨A7, c7, rfl, S8.out, m1, m2, BE.out⟩
        · have hcm : ¬ (0 : Int) ≤ cmpN m gk := by unfold cmpN; rw [if_pos (by omega)]; simp
          generalize cmpN m gk = cm at *
          go_wp2_with fail
          refine HC.out.mono ?_
          rintro e w6 ⟨rfl, n6, rfl⟩
          clear HC
          go_wp2_with fail
          go_roundg m
          case measure => omega
          case rel =>
            have hm0 : 0 < m := Nat.pos_of_ne_zero fun e => by have h := HNx.out; rw [e] at h; simp at h; omega
            have hml2 : wl m ≤ wl gk := digs_mono WB2 (by omega)
            exact ⟨A6, wl m, rfl, hm0, HNx.out, Nat.le_refl _, by unfold maxLen; omega, by omega, S6.out.drewN n6, HBw.out.trans ((below_drewN P9.out n6).mono HBw.out.size)⟩
    · have hz : sval true a < 0 := by simp [sval]; omega
      rw [show errR (sval true a) = 2 from if_pos hz, show (sval true a).toNat = 0 by omega, sqN_zero, wl_zero]
      go_enter Try.func64, Try.ntmps64
      go_wp2_with fail
      refine (HSx.out _ (HX.out.alloc _ |>.alloc _)).mono ?_
      rintro e w1 ⟨rfl, hb⟩
      rw [World.size_alloc, World.size_alloc] at hb
      obtain ⟨k0, k1, f1, hz1, B⟩ := two_keep hb
      have q0 := k0 0; have q1 := k1 0; have q2 := k1 1; have f10 := f1 0; have f11 := f1 1
      have HB := Lib.hid B
      clear hb k0 k1 f1 B
      go_wp2_with fail
      refine bodyPost_ret (v := .tuple #[.agg #[.bool false, .slice none 0 0], .int .i64 2]) (by simp [results, Try.results64, go_sem, q1, q2]) rfl ?_
      exact ⟨none, 0, rfl, Shows.nil, Nat.zero_le _, by simp [maxLen], (HB.out.setCell (p := ⟨w.heap.size + 1, 0, none⟩) (by simp) _).setCell (p := ⟨w.heap.size + 1, 1, none⟩) (by simp) _⟩
end Go.Proofs.Ytmlkiddkgikdhaa
namespace Go.Proofs.Ytmlkiddkgikdhaa
open Go.RowKit FF

/-- what holds at the head of the outer loop -/
def RBit (a : Nat) (W0 : World) (B0 U : Nat) (s : Value) (wr : World) : Prop :=
  ∃ (A : Option Addr) (c R : Nat), s = .slice A (hl R) c ∧ R * R ≤ a ∧ a < (R + U) * (R + U) ∧ hl R ≤ c ∧ c ≤ maxLen ∧ Shows .i64 wr A (digs HB R) ∧ Below B0 W0 wr
theorem pow16 (i : Nat) : 2 ^ 16 * HB ^ i = HB ^ (i + 1) := by rw [Nat.pow_succ, Nat.mul_comm]; rfl
theorem root_first {a k : Nat} (h : hl a ≤ 2 * k) : a < (0 + HB ^ k) * (0 + HB ^ k) := by
  have h1 := lt_pow_digs HB2 a
  change a < HB ^ hl a at h1
  rw [Nat.zero_add, ← Nat.pow_add]
  exact Nat.lt_of_lt_of_le h1 (Nat.pow_le_pow_right (by decide) (by omega))
theorem cells_zeros (i : Nat) : (madeCells #[Value.int .i64 0] i).toList = cells .i64 (List.replicate i 0) := by
  rw [toList_madeCells_one]; simp [cells]

theorem hl_add_le {a b k : Nat} (ha : hl a ≤ k) (hb : b < HB ^ k) : hl (a + b) ≤ k + 1 := by
  have h1 := lt_pow_digs HB2 a
  change a < HB ^ hl a at h1
  refine digs_length_le HB2 (k := k + 1) ?_
  have h3 : HB ^ hl a ≤ HB ^ k := Nat.pow_le_pow_right (by decide) ha
  rw [Nat.pow_succ]
  have h5 : HB ^ k * 2 ≤ HB ^ k * HB := Nat.mul_le_mul_left _ HB2
  omega
theorem bit_lt {bit i k : Nat} (h : bit < HB) (hk : i + 1 ≤ k) : bit * HB ^ i < HB ^ k := by
  have h1 : bit * HB ^ i < HB * HB ^ i := (Nat.mul_lt_mul_right (Nat.pow_pos (by decide))).2 h
  rw [Nat.mul_comm HB, ← Nat.pow_succ] at h1
  exact Nat.lt_of_lt_of_le h1 (Nat.pow_le_pow_right (by decide) hk)

set_option maxRecDepth 100000 in
set_option maxHeartbeats 2000000 in
theorem rRoot_any (s : Bool) (A : Option Addr) (n c : Nat) (x : Int) (w : World) (hx : AI w s A n c x) (hlen : n ≤ 400000) :
    Calls Try.prog 65 #[.agg #[.bool s, .slice A n c]] w (RootPost w x) := by
  unfold RootPost
  have HSg := Lib.hid (fun w' h => rSign_any s A n c x w' h hlen)
  have HDg := Lib.hid (fun w' h => rDigits_any s A n c x w' h (by omega))
  unfold HalfPost at HDg
  have HX := Lib.hid hx
  have hxl := hx.hl_le
  have hk := sgn_cases x
  clear hx
  by_cases hneg : x < 0
  · have hs : sgn x = -1 := by omega
    rw [hs] at HSg
    rw [show errR x = 2 from if_pos hneg, show x.toNat = 0 by omega, sqN_zero, wl_zero]
    clear hk hs
    go_enter Try.func65, Try.ntmps65
    go_wp2_with fail
    refine (HSg.out _ (HX.out.alloc _ |>.alloc _)).mono ?_
    rintro e w1 ⟨rfl, hb⟩
    rw [World.size_alloc, World.size_alloc] at hb
    obtain ⟨k0, k1, f1, hz1, B⟩ := two_keep hb
    have q0 := k0 0; have q1 := k1 0; have q2 := k1 1; have f10 := f1 0; have f11 := f1 1
    have HB := Lib.hid B
    clear hb k0 k1 f1 B HDg
    go_wp2_with fail
    refine bodyPost_ret (v := .tuple #[.agg #[.bool false, .slice none 0 0], .int .i64 2]) (by simp [results, Try.results65, go_sem, q1, q2]) rfl ?_
    exact ⟨none, 0, rfl, Shows.nil, Nat.zero_le _, by simp [maxLen], (HB.out.setCell (p := ⟨w.heap.size + 1, 0, none⟩) (by simp) _).setCell (p := ⟨w.heap.size + 1, 1, none⟩) (by simp) _⟩
  · have hs : 0 ≤ sgn x ∧ sgn x ≤ 1 := by omega
    rw [show errR x = 0 from if_neg hneg]
    obtain ⟨a, ha⟩ : ∃ a, x.natAbs = a := ⟨_, rfl⟩
    rw [ha] at HDg hxl
    rw [show x.toNat = a by omega]
    have hng : ¬ sgn x < 0 := by omega
    generalize sgn x = g at *
    clear hk ha hs hneg
    go_enter Try.func65, Try.ntmps65
    go_wp2_with fail
    refine (HSg.out _ (HX.out.alloc _ |>.alloc _)).mono ?_
    rintro e w1 ⟨rfl, hb⟩
    rw [World.size_alloc, World.size_alloc] at hb
    obtain ⟨k0, k1, f1, hz1, B⟩ := two_keep hb
    have q0 := k0 0; have q00 := k0 1; have q1 := k1 0; have q2 := k1 1
    have HB := Lib.hid B; have Hb := Lib.hid hb
    clear hb k0 k1 f1 B
    go_wp2_with fail
    refine (HDg.out _ (HX.out.keep HB.out)).mono ?_
    rintro e w2 ⟨A1, c1, rfl, s1, r1, r2, -, b1⟩
    have HD := Lib.hid s1
    have hzz : w.heap.size + 1 + 1 ≤ w1.heap.size := hz1
    have Hb2 := Lib.hid (Hb.out.trans (b1.mono hzz))
    have hz2 : w.heap.size + 1 + 1 ≤ w2.heap.size := by have := b1.size; omega
    clear s1 b1 HSg HDg q0 q00 q1 q2 Hb HB hzz
    go_wp2_with fail
    obtain ⟨i0, hi, hz0, hz1', hz2'⟩ := info_parts info_int
    have HI := Lib.hid hi; have HZ0 := Lib.hid hz0; have HZ1 := Lib.hid hz1'; have HZ2 := Lib.hid hz2'
    clear hi hz0 hz1' hz2'
    have hla : hl a ≤ 800000 := by omega
    have HRt := Lib.hid (root_first (a := a) (k := hl a / 2 + 2) (by omega))
    generalize hna : hl a = na at *
    have HNA := Lib.hid hna
    clear hna
    go_loopw [5, 6] (fun s5 s6 wr => ∃ k : Nat, s6 = .int .i64 ((k : Int) - 1) ∧ k ≤ na / 2 + 2 ∧ RBit a w2 w2.heap.size (HB ^ k) s5 wr) (fun _ s _ => (intOf s + 1).toNat)
    case atStart => exact ⟨na / 2 + 2, by go_num, Nat.le_refl _, none, 0, 0, rfl, by omega, HRt.out, Nat.zero_le _, by simp [maxLen], Shows.nil, Below.refl _ _⟩
    case round =>
      clear HRt
      obtain ⟨k, rfl, hk, hB⟩ := hrel
      by_cases h0 : 0 < k
      · obtain ⟨i, rfl⟩ : ∃ i, k = i + 1 := ⟨k - 1, by omega⟩
        rw [show ((i + 1 : Nat) : Int) - 1 = (i : Int) by omega]
        have HBt := Lib.hid hB
        have hmk := int_make i (by omega)
        clear hB h0
        go_wp2_with fail
        obtain ⟨W5, h5⟩ : ∃ W5 : World, W5 = wr := ⟨_, rfl⟩
        subst h5
        go_loopw [5, 7] (fun s5 s7 wr => ∃ j : Nat, s7 = .int .i64 ((2 ^ j / 2 : Nat) : Int) ∧ j ≤ 16 ∧ RBit a w2 w2.heap.size (2 ^ j * HB ^ i) s5 wr) (fun _ s _ => (intOf s).toNat)
        case atStart => exact ⟨16, rfl, Nat.le_refl _, by rw [pow16]; exact HBt.out⟩
        case round =>
          clear HBt
          obtain ⟨j, rfl, hj, hB⟩ := hrel
          obtain ⟨A3, c3, R, rfl, h1, h2, h3, h4, h5, h6⟩ := hB
          have HS3 := Lib.hid h5; have HB3 := Lib.hid h6; have H1 := Lib.hid h1
          clear h1 h5 h6
          match j, hj, h2 with
          | 0, hj, h2 =>
            have H2 := Lib.hid (show a < (R + HB ^ i) * (R + HB ^ i) by rw [Nat.pow_zero, Nat.one_mul] at h2; exact h2)
            rw [show ((2 ^ 0 / 2 : Nat) : Int) = 0 from rfl]
            clear h2
            go_wp2_with fail
            exact ⟨⟨i, rfl, by omega, A3, c3, R, rfl, H1.out, H2.out, h3, h4, HS3.out, HB3.out⟩, by simp [intOf]⟩
          | j + 1, hj, h2 =>
            rw [show 2 ^ (j + 1) / 2 = 2 ^ j by rw [Nat.pow_succ]; omega]
            have hjb : 2 ^ j ≤ 2 ^ 15 := Nat.pow_le_pow_right (by decide) (by omega)
            have hjp : 0 < 2 ^ j := Nat.pow_pos (by decide)
            rw [show 2 ^ (j + 1) * HB ^ i = 2 * (2 ^ j * HB ^ i) by rw [Nat.pow_succ, Nat.mul_comm (2 ^ j) 2, Nat.mul_assoc]] at h2
            have H2 := Lib.hid h2
            have HJ := Lib.hid (show (2 ^ j / 2 : Nat) = 2 ^ j / 2 ∧ j ≤ 16 from ⟨rfl, by omega⟩)
            clear h2
            have hRl : hl R ≤ na := by
              rw [← HNA.out]
              refine hl_le ?_
              by_cases hR0 : R = 0
              · omega
              · exact Nat.le_trans (Nat.le_mul_of_pos_left R (by omega)) H1.out
            generalize hbt : 2 ^ j = bit at *
            have HBT := Lib.hid hbt
            clear hbt
            have hO := (World.ownsRow_lit (base := wr.heap.size) (size := 1) (e := 3) wr (madeCells #[.int .i64 0] i) i (Nat.le_refl _) (by unfold maxLen; omega) (by rw [size_madeCells, Nat.mul_one])).alloc (.cells #[.int .i64 (bit : Int)] 3)
            rw [cells_zeros] at hO
            have HO := Lib.hid hO
            clear hO
            go_wp2_with (at_builtin; refine wpList_append_own _ rfl (.tmp 29) (.tmp 31) 30 rfl wr.heap.size 3 i0 (.int .i64 0) 1 8 Try.underlying30 HI.out HZ0.out HZ1.out HZ2.out rfl (by decide) (.slice (some ⟨wr.heap.size, 0, none⟩) i i) i (cells .i64 (List.replicate i 0)) rfl HO.out ⟨wr.heap.size + 1, 0, none⟩ 1 1 [.int .i64 (bit : Int)] rfl rfl (fun j u hj => by match j, hj with | 0, hj => simp at hj; subst hj; simp [Addr.add, go_sem]) (fun u hu => by simp at hu; subst hu; rfl) (by unfold maxLen; omega) (by omega) (by simp; omega) ?_; intro v5 w5 hown5 hgrow5 _)
            have hg : ((wr.alloc (.cells (madeCells #[.int .i64 0] i) 3)).alloc (.cells #[.int .i64 (bit : Int)] 3)).grownBy w5 (some wr.heap.size) := hgrow5
            have hb5 : Below wr.heap.size wr w5 := ((((Below.refl _ _).alloc (Nat.le_refl _) _).alloc (by simp) _).grown hg (by simp; omega) (fun k hk => by injection hk with hk; omega))
            have ho : w5.ownsRow wr.heap.size 3 1 v5 (List.replicate i 0 ++ [bit]).length (cells .i64 (List.replicate i 0 ++ [bit])) := by
              rw [List.length_append, List.length_replicate, ← cells_snoc]; exact hown5
            obtain ⟨A4, c4, rfl, s4, t1, t2, t3⟩ := own_shows ho
            have hbH : bit < HB := by have : HB = 65536 := rfl; omega
            have hP := rPlus_any A3 A4 (digs HB R) (List.replicate i 0 ++ [bit]) c3 c4 w5 (HS3.out.below hb5) s4 (dig_digs' HB2 R) (dig_zeros hbH) (show hl R ≤ 2000000 by omega) (by rw [List.length_append, List.length_replicate]; simp; omega)
            rw [val_digs' HB2, val_zeros] at hP
            rw [show (digs HB R).length = hl R from rfl] at hP
            have HP := Lib.hid hP
            have hVl : hl (R + bit * HB ^ i) ≤ na + 2 + 1 := hl_add_le (by omega) (bit_lt hbH (by omega))
            have HB5 := Lib.hid (below_then HB3.out hb5)
            have HS5 := Lib.hid (HS3.out.below hb5)
            clear hown5 hgrow5 hg hb5 ho s4 hP HO HS3 HB3
            unfold HalfPost at HP
            obtain ⟨N, hN⟩ : ∃ N, R + bit * HB ^ i = N := ⟨_, rfl⟩
            rw [hN] at HP hVl
            have HN := Lib.hid hN
            clear hN
            refine HP.out.mono ?_
            rintro e w6 ⟨A5, c5, rfl, s5, m1, m2, -, b5⟩
            have hT := rTimes_any A5 A5 (digs HB N) (digs HB N) c5 c5 w6 s5 s5 (dig_digs' HB2 N) (dig_digs' HB2 N) (show hl N ≤ 1000000 by omega) (show hl N ≤ 1000000 by omega)
            rw [val_digs' HB2] at hT
            rw [show (digs HB N).length = hl N from rfl] at hT
            unfold HalfPost at hT
            have HT := Lib.hid hT
            have HS6 := Lib.hid (HS5.out.below b5); have HN6 := Lib.hid s5; have HB6 := Lib.hid (below_then HB5.out b5)
            clear hT s5 b5 HP HS5 HB5
            go_wp2_with fail
            refine HT.out.mono ?_
            rintro e w7 ⟨A6, c6, rfl, s6, -, -, -, b6⟩
            have HS7 := Lib.hid (HS6.out.below b6); have HN7 := Lib.hid (HN6.out.below b6); have HB7 := Lib.hid (below_then HB6.out b6)
            have hL := rLess_any A1 A6 a (N * N) c1 c6 w7 (HD.out.below HB7.out) s6 (by rw [HNA.out]; omega)
            rw [HNA.out] at hL
            have HL := Lib.hid hL
            clear hL s6 b6 HT HS6 HN6 HB6
            by_cases hlt : a < N * N
            · rw [decide_eq_true hlt] at HL
              have HLT := Lib.hid hlt
              clear hlt
              go_wp2_with fail
              refine HL.out.mono ?_
              rintro e w8 ⟨rfl, n8, rfl⟩
              clear HL
              go_wp2_with fail
              refine ⟨⟨j, by rw [HBT.out, Int.natCast_ediv]; rfl, HJ.out.2, A3, c3, R, rfl, H1.out, ?_, h3, h4, HS7.out.drewN n8, below_drewN HB7.out n8⟩, by simp [intOf]; omega⟩
              rw [HBT.out, HN.out]; exact HLT.out
            · rw [decide_eq_false hlt] at HL
              have HLT := Lib.hid (show N * N ≤ a by omega)
              clear hlt
              go_wp2_with fail
              refine HL.out.mono ?_
              rintro e w8 ⟨rfl, n8, rfl⟩
              clear HL
              go_wp2_with fail
              refine ⟨⟨j, by rw [HBT.out, Int.natCast_ediv]; rfl, HJ.out.2, A5, c5, N, rfl, HLT.out, ?_, m1, m2, HN7.out.drewN n8, below_drewN HB7.out n8⟩, by simp [intOf]; omega⟩
              rw [HBT.out, ← HN.out, show R + bit * HB ^ i + bit * HB ^ i = R + 2 * (bit * HB ^ i) by omega]; exact H2.out
      · obtain rfl : k = 0 := by omega
        rw [Nat.pow_zero] at hB
        rw [show ((0 : Nat) : Int) - 1 = -1 from rfl]
        obtain ⟨A3, c3, R, rfl, h1, h2, h3, h4, h5, h6⟩ := hB
        have HE := Lib.hid (sqN_of h1 h2)
        have HS3 := Lib.hid h5; have HB3 := Lib.hid h6
        clear h1 h2 h5 h6
        have hM := rMade_any false A3 (digs HB R) c3 wr HS3.out (dig_digs' HB2 R) h3 h4 (by
          change hl R ≤ 3000000
          have h := sqN_self_le a
          rw [← HE.out] at h
          have := hl_le h
          rw [HNA.out] at this
          omega)
        rw [val_digs' HB2] at hM
        change Calls _ _ #[.bool false, .slice A3 (hl R) c3] wr _ at hM
        have HM := Lib.hid hM
        clear hM
        go_wp2_with fail
        refine HM.out.mono ?_
        rintro e w7 ⟨A7, c7, rfl, s7, m1, m2, f7, b7⟩
        obtain ⟨-, y1, y2, -, B⟩ := two_keep ((Hb2.out.trans (HB3.out.mono hz2)).trans (b7.mono (by have := HB3.out.size; omega)))
        have r1' := y1 0; have r2' := y1 1; have g10 := y2 0; have g11 := y2 1
        have S7 := Lib.hid (s7.setCell f7 (p := ⟨w.heap.size + 1, 0, none⟩) (by have := HB3.out.size; simp; omega) (.bool false))
        have S8 := Lib.hid (S7.out.setCell f7 (p := ⟨w.heap.size + 1, 1, none⟩) (by have := HB3.out.size; simp; omega) (.slice A7 (wl R) c7))
        have BE := Lib.hid ((B.setCell (p := ⟨w.heap.size + 1, 0, none⟩) (by simp) (.bool false)).setCell (p := ⟨w.heap.size + 1, 1, none⟩) (by simp) (.slice A7 (wl R) c7))
        clear s7 b7 y1 y2 B S7 HM f7
        go_wp2_with fail
        refine bodyPost_ret (v := .tuple #[.agg #[.bool false, .slice A7 (wl R) c7], .int .i64 0]) (by simp [results, Try.results65, go_sem, r1', r2']) rfl ?_
        rw [← HE.out]
        exact ⟨A7, c7, rfl, S8.out, m1, m2, BE.out⟩
end Go.Proofs.Ytmlkiddkgikdhaa
