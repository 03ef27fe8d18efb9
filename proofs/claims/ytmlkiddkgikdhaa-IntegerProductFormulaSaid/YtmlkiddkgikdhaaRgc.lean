/- Integers: quotient and remainder of both, in one form; the reference's greatest common divisor. -/
import Derived.Test.YtmlkiddkgikdhaaRdm
namespace Go.Proofs.Ytmlkiddkgikdhaa
open Go.RowKit FF

/-- what DivMod leaves, the divisor not 0 -/
def DMPost (w : World) (x y : Int) (e : Ending) (w' : World) : Prop :=
  ∃ A2 c2 A3 c3, e = .returned (.tuple #[.agg #[.bool (decide (x / y < 0)), .slice A2 (wl (x / y).natAbs) c2], .agg #[.bool (decide (x % y < 0)), .slice A3 (wl (x % y).natAbs) c3], .int .i64 0]) ∧
    Shows .u32 w' A2 (digs WB (x / y).natAbs) ∧ Shows .u32 w' A3 (digs WB (x % y).natAbs) ∧ wl (x / y).natAbs ≤ c2 ∧ c2 ≤ maxLen ∧ wl (x % y).natAbs ≤ c3 ∧ c3 ≤ maxLen ∧ Below w.heap.size w w'

theorem DivMod_int (s t : Bool) (A A' : Option Addr) (n m c c' : Nat) (x y : Int) (w : World) (hx : AI w s A n c x) (hy : AI w t A' m c' y) (hlen : n + m ≤ 400000) (hy0 : y ≠ 0) :
    Calls Try.prog 47 #[.agg #[.bool s, .slice A n c], .agg #[.bool t, .slice A' m c']] w (DMPost w x y) := by
  have h1 := hx.wl_le
  have h2 := hy.wl_le
  obtain ⟨xs, rfl, X, dx, hcx, hcx2, rfl, -⟩ := hx
  obtain ⟨ys, rfl, Y, dy, hcy, hcy2, rfl, -⟩ := hy
  rw [sval_natAbs] at h1 h2
  have hb0 : 0 < val WB ys := Nat.pos_of_ne_zero fun e => hy0 (by rw [e]; cases t <;> rfl)
  refine (DivMod_any s t A A' xs ys c c' w X dx hcx hcx2 Y dy hcy hcy2 (by omega) (by omega) hb0 (divKnown hb0)).mono ?_
  rintro e w' ⟨Q, R, A2, c2, A3, c3, rfl, rfl, h⟩
  obtain ⟨h1, h2, h3, h4, h5, h6, h7, h8⟩ := h
  exact ⟨A2, c2, A3, c3, h1, h2, h3, h4, h5, h6, h7, h8⟩
theorem DivMod_none (s t : Bool) (A A' : Option Addr) (n m c c' : Nat) (x y : Int) (w : World) (hx : AI w s A n c x) (hy : AI w t A' m c' y) (hy0 : y = 0) :
    Calls Try.prog 47 #[.agg #[.bool s, .slice A n c], .agg #[.bool t, .slice A' m c']] w fun e w' =>
      e = .returned (.tuple #[.agg #[.bool false, .slice none 0 0], .agg #[.bool false, .slice none 0 0], .int .i64 10]) ∧ Below w.heap.size w w' := by
  obtain ⟨xs, rfl, -⟩ := hx
  obtain ⟨ys, rfl, Y, dy, hcy, hcy2, h0, -⟩ := hy
  refine DivMod_zero s t A A' xs ys c c' w Y dy hcy hcy2 ?_
  rw [hy0] at h0
  cases t <;> simp [sval] at h0 <;> omega

theorem rDivMod_int (s t : Bool) (A A' : Option Addr) (n m c c' : Nat) (x y : Int) (w : World) (hx : AI w s A n c x) (hy : AI w t A' m c' y) (hlen : n + m ≤ 400000) (hy0 : y ≠ 0) :
    Calls Try.prog 48 #[.agg #[.bool s, .slice A n c], .agg #[.bool t, .slice A' m c']] w (DMPost w x y) := by
  have hb0 : 0 < y.natAbs := by omega
  have ex := hx.eq_sval
  have ey := hy.eq_sval
  obtain ⟨d1, d2⟩ := div_signs hb0 (rfl : x.natAbs / y.natAbs = _) (rfl : x.natAbs % y.natAbs = _) s t
  rw [ex, ey] at d1 d2
  by_cases hadj : s = true ∧ 0 < x.natAbs % y.natAbs
  · obtain ⟨q1, q2⟩ := d1 hadj.1 hadj.2
    refine (rDivMod_adj s t A A' n m c c' x y w hx hy hlen hb0 hadj _ _ rfl rfl _ rfl).mono ?_
    rintro e w' ⟨A2, c2, A3, c3, rfl, s1, s2, h1, h2, h3, h4, h5⟩
    refine ⟨A2, c2, A3, c3, ?_⟩
    rw [← q1, ← q2, sval_natAbs, sval_neg, Int.natAbs_natCast, show decide (((y.natAbs - x.natAbs % y.natAbs : Nat) : Int) < 0) = false from decide_eq_false (by omega)]
    exact ⟨rfl, s1, s2, h1, h2, h3, h4, h5⟩
  · obtain ⟨q1, q2⟩ := d2 (fun h => by apply Classical.byContradiction; intro hc; exact hadj ⟨h, by omega⟩)
    refine (rDivMod_plain s t A A' n m c c' x y w hx hy hlen hb0 (fun h => by apply Classical.byContradiction; intro hc; exact hadj ⟨h, by omega⟩) _ _ rfl rfl _ rfl).mono ?_
    rintro e w' ⟨A2, c2, A3, c3, rfl, s1, s2, h1, h2, h3, h4, h5⟩
    refine ⟨A2, c2, A3, c3, ?_⟩
    rw [← q1, ← q2, sval_natAbs, sval_neg, Int.natAbs_natCast, show decide (((x.natAbs % y.natAbs : Nat) : Int) < 0) = false from decide_eq_false (by omega)]
    exact ⟨rfl, s1, s2, h1, h2, h3, h4, h5⟩

/-- what holds at the head of the reference's Gcd's loop -/
def RGcdRel (G L : Nat) (W0 : World) (B0 : Nat) (gk : Nat) (s5 s6 : Value) (wr : World) : Prop :=
  ∃ (A1 : Option Addr) (c1 : Nat) (A2 : Option Addr) (c2 a b : Nat), s5 = .slice A1 (hl a) c1 ∧ s6 = .slice A2 (hl b) c2 ∧ gk = b ∧ Nat.gcd a b = G ∧ hl a ≤ c1 ∧ c1 ≤ maxLen ∧ hl b ≤ c2 ∧ c2 ≤ maxLen ∧ hl a ≤ L ∧ hl b ≤ L ∧
    Shows .i64 wr A1 (digs HB a) ∧ Shows .i64 wr A2 (digs HB b) ∧ Below B0 W0 wr

set_option maxRecDepth 100000 in
set_option maxHeartbeats 2000000 in
theorem rGcd_any (s t : Bool) (A A' : Option Addr) (n m c c' : Nat) (x y : Int) (w : World) (hx : AI w s A n c x) (hy : AI w t A' m c' y) (hlen : n + m ≤ 400000) :
    Calls Try.prog 46 #[.agg #[.bool s, .slice A n c], .agg #[.bool t, .slice A' m c']] w (IntPost w (Int.gcd x y)) := by
  have HDx := Lib.hid (fun w' h => rDigits_any s A n c x w' h (by omega))
  have HDy := Lib.hid (fun w' h => rDigits_any t A' m c' y w' h (by omega))
  unfold HalfPost at HDx HDy
  have hla := hx.hl_le
  have hlb := hy.hl_le
  have HX := Lib.hid hx; have HY := Lib.hid hy
  rw [show Int.gcd x y = Nat.gcd x.natAbs y.natAbs from rfl]
  clear hx hy
  generalize x.natAbs = a at *
  generalize y.natAbs = b at *
  obtain ⟨G, hG⟩ : ∃ G, Nat.gcd a b = G := ⟨_, rfl⟩
  rw [hG]
  have HG := Lib.hid hG
  clear hG
  have hR : w.heap.size + 1 < w.heap.size + 1 + 1 := by omega
  have HDv := Lib.hid (fun (A A' : Option Addr) (a b c c' : Nat) (W : World) h h' h1 h2 h3 => rDivide_any A A' a b c c' W h h' h1 h2 h3)
  unfold RDivPost at HDv
  go_enter Try.func46, Try.ntmps46
  go_wp2_with fail
  go_region_held3 (fun w' => Below w.heap.size w w' ∧ w'.cell? ⟨w.heap.size, 0, none⟩ = some (.bool s) ∧ w'.cell? ⟨w.heap.size, 1, none⟩ = some (.slice A n c) ∧ w'.cell? ⟨w.heap.size + 1, 0, none⟩ = some (.bool t) ∧ w'.cell? ⟨w.heap.size + 1, 1, none⟩ = some (.slice A' m c') ∧
    w'.cell? ⟨w.heap.size + 1 + 1, 0, none⟩ = some (cellAt w' ⟨w.heap.size + 1 + 1, 0, none⟩) ∧ w'.cell? ⟨w.heap.size + 1 + 1, 1, none⟩ = some (cellAt w' ⟨w.heap.size + 1 + 1, 1, none⟩) ∧ w'.frozen? ⟨w.heap.size + 1 + 1, 0, none⟩ = false ∧ w'.frozen? ⟨w.heap.size + 1 + 1, 1, none⟩ = false ∧ w.heap.size + 1 + 1 < w'.heap.size)
    (first
      | (refine ⟨(((Below.refl _ _).alloc (Nat.le_refl _) _).alloc (by simp) _).alloc (by simp; omega) _ |>.drew, ?_⟩; simp [go_sem, cellAt])
      | (refine Sres.keep hR (by assumption) ?_; first | assumption | exact (Below.refl _ _).alloc (Nat.le_refl _) _ | exact below_drewN (Below.refl _ _) _))
    (first
      | (go_at_call 109; (with_reducible refine (HDx.out _ (in_ai (by assumption) HX.out)).mono ?_); rintro e w' ⟨A1, c1, rfl, hs1, q1, q2, hf1, hbx⟩)
      | (go_at_call 109; (with_reducible refine (HDy.out _ (in_ai (by assumption) HY.out)).mono ?_); rintro e w' ⟨A2, c2, rfl, hs2, q3, q4, hf2, hby⟩))
  have B2 := three_drew (hbx.trans (hby.mono hbx.size))
  have HR0 := Lib.hid (show RGcdRel G 900000 (((w.alloc (.cells #[.bool s, .slice A n c] 51)).alloc (.cells #[.bool t, .slice A' m c'] 51)).alloc (.cells #[.bool false, .slice none 0 0] 51)) (w.heap.size + 1 + 1 + 1) b (.slice A1 (hl a) c1) (.slice A2 (hl b) c2) w' from
    ⟨A1, c1, A2, c2, a, b, rfl, rfl, rfl, HG.out, q1, q2, q3, q4, by omega, by omega, hs1.below hby, hs2, B2⟩)
  clear B2 hbx hby HX HY hs1 hs2 hf1 hf2 HDx HDy HG hla hlb hlen
  go_wp2_with fail
  go_loopg [5, 6] b (fun gk s5 s6 wr => RGcdRel G 900000 (((w.alloc (.cells #[.bool s, .slice A n c] 51)).alloc (.cells #[.bool t, .slice A' m c'] 51)).alloc (.cells #[.bool false, .slice none 0 0] 51)) (w.heap.size + 1 + 1 + 1) gk s5 s6 wr)
  case atStart => exact HR0.out
  case round =>
    clear HR0
    obtain ⟨A1, c1, A2, c2, a1, b1, rfl, rfl, rfl, hg, k1, k2, k3, k4, k5, k6, s1, s2, hB⟩ := hrel
    have H1 := Lib.hid s1; have H2 := Lib.hid s2; have HW := Lib.hid hB; have HG := Lib.hid hg
    clear s1 s2 hB hg
    by_cases h0 : gk = 0
    · have e0 : hl gk = 0 := by rw [h0]; rfl
      have HE := Lib.hid (show a1 = G by have := HG.out; rw [h0, Nat.gcd_zero_right] at this; exact this)
      have hlt : ¬ (0 : Int) < (hl gk : Nat) := by omega
      clear h0 e0
      have hM := rMade_any false A1 (digs HB a1) c1 wr H1.out (dig_digs' HB2 _) k1 k2 (show hl a1 ≤ 3000000 by omega)
      rw [val_digs' HB2] at hM
      change Calls _ _ #[.bool false, .slice A1 (hl a1) c1] wr _ at hM
      have HM := Lib.hid hM
      clear hM
      go_wp2_with fail
      refine HM.out.mono ?_
      rintro e w4 ⟨A3, c3, rfl, hs3, q1, q2, hf3, hb3⟩
      have hz := HW.out.size
      simp at hz
      have B3 := HW.out
      obtain ⟨-, -, -, -, hz0, B0⟩ := three_keep B3
      obtain ⟨-, -, q, f, -, B⟩ := three_keep (B3.trans (hb3.mono hz))
      have q0 := q 0; have qq1 := q 1; have f0 := f 0; have f1 := f 1
      have HS3 := Lib.hid hs3; have HF3 := Lib.hid hf3; have HBB := Lib.hid B; have HB0 := Lib.hid B0; have HZ := Lib.hid hz0
      clear hs3 hf3 B B0 hb3 hz hz0 B3 q f HW H1 H2
      go_wp2_with fail
      refine bodyPost_ret (v := .agg #[.bool false, .slice A3 (wl a1) c3]) (by simp [results, Try.results46, go_sem, q0, qq1]) rfl ?_
      exact fin_post (s := false) HB0.out HZ.out HBB.out (by omega) (by rw [HE.out]; rfl) rfl HS3.out q1 q2 HF3.out
    · have hpos : 0 < gk := by omega
      have hlt : (0 : Int) < (hl gk : Nat) := by have := hl_pos h0; omega
      have hD := HDv.out A1 A2 a1 gk c1 c2 wr H1.out H2.out k5 k6 hpos
      have HD := Lib.hid hD
      have HN := Lib.hid (show Nat.gcd gk (a1 % gk) = G by rw [← HG.out, Nat.gcd_comm a1 gk, Nat.gcd_rec gk a1, Nat.gcd_comm])
      have HM := Lib.hid (Nat.mod_lt a1 hpos)
      have hml : hl (a1 % gk) ≤ hl gk := hl_le (Nat.le_of_lt HM.out)
      clear hD h0 hpos HG
      go_wp2_with fail
      refine HD.out.mono ?_
      rintro e w3 ⟨A3, c3, A4, c4, rfl, p1, p2, p3, p4, p5, p6, p7⟩
      have P5 := Lib.hid p5; have P6 := Lib.hid p6; have P7 := Lib.hid p7
      clear p5 p6 p7 HD
      generalize hr : a1 % gk = r at *
      clear hr
      go_wp2_with fail
      go_roundg r
      case measure => exact HM.out
      case rel =>
        have hz := HW.out.size
        simp at hz
        exact ⟨A2, c2, A4, c4, gk, r, rfl, rfl, rfl, HN.out, k3, k4, p3, p4, k6, by omega, H2.out.below P7.out, P6.out, HW.out.trans (P7.out.mono hz)⟩
end Go.Proofs.Ytmlkiddkgikdhaa
