/- Integers of several words: greatest common divisor, comparison, machine integers. -/
import Derived.Test.YtmlkiddkgikdhaaRnh
namespace Go.Proofs.Ytmlkiddkgikdhaa
open Go.RowKit FF

/-- what holds at the head of Gcd's loop -/
def GcdRel (G L : Nat) (W0 : World) (B0 : Nat) (gk : Nat) (s5 s6 : Value) (wr : World) : Prop :=
  ∃ (A1 : Option Addr) (c1 : Nat) (A2 : Option Addr) (c2 a b : Nat), s5 = .slice A1 (wl a) c1 ∧ s6 = .slice A2 (wl b) c2 ∧ gk = b ∧ Nat.gcd a b = G ∧ wl a ≤ c1 ∧ c1 ≤ maxLen ∧ wl b ≤ c2 ∧ c2 ≤ maxLen ∧ wl a ≤ L ∧ wl b ≤ L ∧
    Shows .u32 wr A1 (digs WB a) ∧ Shows .u32 wr A2 (digs WB b) ∧ Below B0 W0 wr

set_option maxRecDepth 100000 in
set_option maxHeartbeats 2000000 in
theorem Gcd_any (s t : Bool) (A A' : Option Addr) (n m c c' : Nat) (x y : Int) (w : World) (hx : AI w s A n c x) (hy : AI w t A' m c' y) (hl : n + m ≤ 900000) :
    Calls Try.prog 45 #[.agg #[.bool s, .slice A n c], .agg #[.bool t, .slice A' m c']] w (IntPost w (Int.gcd x y)) := by
  obtain ⟨xs, rfl, X, dx, hcx, hcx2, rfl, -⟩ := hx
  obtain ⟨ys, rfl, Y, dy, hcy, hcy2, rfl, -⟩ := hy
  have HSx := Lib.hid (fun w' (h : Shows .u32 w' A xs) => size_any s A xs c w' h dx hcx hcx2)
  have HSy := Lib.hid (fun w' (h : Shows .u32 w' A' ys) => size_any t A' ys c' w' h dy hcy hcy2)
  have HX := Lib.hid X; have HY := Lib.hid Y
  have TX := Lib.hid (X.trim dx); have TY := Lib.hid (Y.trim dy)
  have hla : wl (val WB xs) ≤ xs.length := digs_length_le WB2 (val_lt dx)
  have hlb : wl (val WB ys) ≤ ys.length := digs_length_le WB2 (val_lt dy)
  have hG : Int.gcd (sval s (val WB xs)) (sval t (val WB ys)) = Nat.gcd (val WB xs) (val WB ys) := by
    unfold Int.gcd; rw [sval_natAbs, sval_natAbs]
  rw [hG]
  clear hG
  generalize xs.length = n at *
  generalize ys.length = m at *
  clear X Y dx dy hcx hcx2 hcy hcy2
  generalize val WB xs = a at *
  generalize val WB ys = b at *
  obtain ⟨G, hG⟩ : ∃ G, Nat.gcd a b = G := ⟨_, rfl⟩
  rw [hG]
  have HG := Lib.hid hG
  clear hG
  have hR : w.heap.size + 1 < w.heap.size + 1 + 1 := by omega
  have HDv := Lib.hid (fun (b : Nat) (h : 0 < b) => divKnown h)
  go_enter Try.func45, Try.ntmps45
  go_wp2_with fail
  go_region_held3 (fun w' => Below w.heap.size w w' ∧ w'.cell? ⟨w.heap.size, 0, none⟩ = some (.bool s) ∧ w'.cell? ⟨w.heap.size, 1, none⟩ = some (.slice A n c) ∧ w'.cell? ⟨w.heap.size + 1, 0, none⟩ = some (.bool t) ∧ w'.cell? ⟨w.heap.size + 1, 1, none⟩ = some (.slice A' m c') ∧
    w'.cell? ⟨w.heap.size + 1 + 1, 0, none⟩ = some (cellAt w' ⟨w.heap.size + 1 + 1, 0, none⟩) ∧ w'.cell? ⟨w.heap.size + 1 + 1, 1, none⟩ = some (cellAt w' ⟨w.heap.size + 1 + 1, 1, none⟩) ∧ w'.frozen? ⟨w.heap.size + 1 + 1, 0, none⟩ = false ∧ w'.frozen? ⟨w.heap.size + 1 + 1, 1, none⟩ = false ∧ w.heap.size + 1 + 1 < w'.heap.size)
    (first
      | (refine ⟨(((Below.refl _ _).alloc (Nat.le_refl _) _).alloc (by simp) _).alloc (by simp; omega) _ |>.drew, ?_⟩; simp [go_sem, cellAt])
      | (refine Sres.keep hR (by assumption) ?_; first | assumption | exact (Below.refl _ _).alloc (Nat.le_refl _) _ | exact below_drewN (Below.refl _ _) _))
    (first
      | (go_at_call 104; (with_reducible refine (HSx.out _ (in_shows (by assumption) HX.out)).mono ?_); rintro e w' ⟨rfl, hbx⟩)
      | (go_at_call 104; (with_reducible refine (HSy.out _ (in_shows (by assumption) HY.out)).mono ?_); rintro e w' ⟨rfl, hby⟩))
  have B2 := three_drew (hbx.trans (hby.mono hbx.size))
  obtain ⟨-, -, -, -, -, B⟩ := three_keep B2
  have HR0 := Lib.hid (show GcdRel G 900000 (((w.alloc (.cells #[.bool s, .slice A n c] 51)).alloc (.cells #[.bool t, .slice A' m c'] 51)).alloc (.cells #[.bool false, .slice none 0 0] 51)) (w.heap.size + 1 + 1 + 1) b (.slice A (wl a) (wl a)) (.slice A' (wl b) (wl b)) w' from
    ⟨A, wl a, A', wl b, a, b, rfl, rfl, rfl, HG.out, Nat.le_refl _, by unfold maxLen; omega, Nat.le_refl _, by unfold maxLen; omega, by omega, by omega, TX.out.below B, TY.out.below B, B2⟩)
  clear B2 B hbx hby HX HY TX TY HSx HSy HG hla hlb hl
  go_wp2_with fail
  go_loopg [5, 6] b (fun gk s5 s6 wr => GcdRel G 900000 (((w.alloc (.cells #[.bool s, .slice A n c] 51)).alloc (.cells #[.bool t, .slice A' m c'] 51)).alloc (.cells #[.bool false, .slice none 0 0] 51)) (w.heap.size + 1 + 1 + 1) gk s5 s6 wr)
  case atStart => exact HR0.out
  case round =>
    clear HR0
    obtain ⟨A1, c1, A2, c2, a1, b1, rfl, rfl, rfl, hg, k1, k2, k3, k4, k5, k6, s1, s2, hB⟩ := hrel
    have H1 := Lib.hid s1; have H2 := Lib.hid s2; have HB := Lib.hid hB; have HG := Lib.hid hg
    clear s1 s2 hB hg
    by_cases h0 : gk = 0
    · have e0 : wl gk = 0 := by rw [h0]; rfl
      have HE := Lib.hid (show a1 = G by have := HG.out; rw [h0, Nat.gcd_zero_right] at this; exact this)
      have hlt : ¬ (0 : Int) < (wl gk : Nat) := by omega
      clear h0 e0
      have hM := made_any false A1 (digs WB a1) c1 wr H1.out (dig_digs' WB2 _) k1 k2 (by rw [val_digs' WB2]; omega)
      rw [val_digs' WB2] at hM
      change Calls _ _ #[.bool false, .slice A1 (wl a1) c1] wr _ at hM
      have HM := Lib.hid hM
      clear hM
      go_wp2_with fail
      refine HM.out.mono ?_
      rintro e w4 ⟨A3, c3, rfl, hs3, q1, q2, hf3, hb3⟩
      have hz := HB.out.size
      simp at hz
      have B3 := HB.out
      obtain ⟨-, -, -, -, hz0, B0⟩ := three_keep B3
      obtain ⟨-, -, q, f, -, B⟩ := three_keep (B3.trans (hb3.mono hz))
      have q0 := q 0; have qq1 := q 1; have f0 := f 0; have f1 := f 1
      have HS3 := Lib.hid hs3; have HF3 := Lib.hid hf3; have HBB := Lib.hid B; have HB0 := Lib.hid B0; have HZ := Lib.hid hz0
      clear hs3 hf3 B B0 hb3 hz hz0 B3 q f HB H1 H2
      go_wp2_with fail
      refine bodyPost_ret (v := .agg #[.bool false, .slice A3 (wl a1) c3]) (by simp [results, Try.results45, go_sem, q0, qq1]) rfl ?_
      exact fin_post (s := false) HB0.out HZ.out HBB.out (by omega) (by rw [HE.out]; rfl) rfl HS3.out q1 q2 HF3.out
    · have hpos : 0 < gk := by omega
      have hlt : (0 : Int) < (wl gk : Nat) := by have : wl gk ≠ 0 := fun e => h0 (wl_eq_zero.1 e); omega
      have hD := HDv.out gk hpos A1 A2 a1 c1 c2 wr H1.out H2.out (by omega) k1 k2
      have HD := Lib.hid hD
      have HN := Lib.hid (show Nat.gcd gk (a1 % gk) = G by rw [← HG.out, Nat.gcd_comm a1 gk, Nat.gcd_rec gk a1, Nat.gcd_comm])
      have HM := Lib.hid (Nat.mod_lt a1 hpos)
      have hml : wl (a1 % gk) ≤ wl gk := digs_mono WB2 (Nat.le_of_lt HM.out)
      clear hD h0 hpos HG
      go_wp2_with fail
      refine HD.out.mono ?_
      rintro e w3 ⟨A3, c3, A4, c4, rfl, p1, p2, p3, p4, p5, p6, p7⟩
      have P5 := Lib.hid p5; have P6 := Lib.hid p6; have P7 := Lib.hid p7
      clear p5 p6 p7 HD
      generalize hr : a1 % gk = r at *
      clear hr
      go_wp2_with fail
      go_roundg r
      case measure => exact HM.out
      case rel =>
        have hz := HB.out.size
        simp at hz
        exact ⟨A2, c2, A4, c4, gk, r, rfl, rfl, rfl, HN.out, k3, k4, p3, p4, k6, by omega, H2.out.below P7.out, P6.out, HB.out.trans (P7.out.mono hz)⟩

/-- the sign of an integer -/
def sgn (z : Int) : Int := if z = 0 then 0 else if z < 0 then -1 else 1
theorem below_under2 {w w1 : World} {o1 o2 : Obj} (h : Below ((w.alloc o1).alloc o2).heap.size ((w.alloc o1).alloc o2) w1) : Below w.heap.size w w1 :=
  (((Below.refl _ _).alloc (Nat.le_refl _) _).alloc (by simp) _).trans (h.mono (by simp; omega))
theorem wl_pos {n : Nat} (h : n ≠ 0) : 0 < wl n := Nat.pos_of_ne_zero fun e => h (wl_eq_zero.1 e)

set_option maxRecDepth 100000 in
set_option maxHeartbeats 2000000 in
theorem Cmp_any (s t : Bool) (A A' : Option Addr) (n m c c' : Nat) (x y : Int) (w : World) (hx : AI w s A n c x) (hy : AI w t A' m c' y) (hl : n + m ≤ 900000) :
    Calls Try.prog 57 #[.agg #[.bool s, .slice A n c], .agg #[.bool t, .slice A' m c']] w fun e w' => e = .returned (.int .i64 (sgn (x - y))) ∧ Below w.heap.size w w' := by
  have HS := Lib.hid (fun w' h h' => Sub_any s t A A' n m c c' x y w' h h' hl)
  have HX := Lib.hid hx; have HY := Lib.hid hy
  clear hx hy hl
  generalize x - y = z at *
  have key : (z = 0 ∧ sgn z = 0) ∨ (z < 0 ∧ sgn z = -1) ∨ (0 < z ∧ sgn z = 1) := by
    unfold sgn
    by_cases h0 : z = 0
    · exact .inl ⟨h0, if_pos h0⟩
    · by_cases h1 : z < 0
      · exact .inr (.inl ⟨h1, by rw [if_neg h0, if_pos h1]⟩)
      · exact .inr (.inr ⟨by omega, by rw [if_neg h0, if_neg h1]⟩)
  unfold IntPost at HS
  have key2 : (decide (z < 0) = false ∧ (((wl z.natAbs : Nat) : Int) == 0) = true ∧ sgn z = 0) ∨ (decide (z < 0) = true ∧ (((wl z.natAbs : Nat) : Int) == 0) = false ∧ sgn z = -1) ∨ (decide (z < 0) = false ∧ (((wl z.natAbs : Nat) : Int) == 0) = false ∧ sgn z = 1) := by
    rcases key with ⟨h0, h2⟩ | ⟨h0, h2⟩ | ⟨h0, h2⟩
    · exact .inl ⟨decide_eq_false (by omega), t_beq (by rw [h0]; rfl), h2⟩
    · exact .inr (.inl ⟨decide_eq_true h0, f_beq (by have := wl_pos (n := z.natAbs) (by omega); omega), h2⟩)
    · exact .inr (.inr ⟨decide_eq_false (by omega), f_beq (by have := wl_pos (n := z.natAbs) (by omega); omega), h2⟩)
  clear key
  generalize sgn z = g at *
  generalize decide (z < 0) = d at *
  rcases key2 with ⟨h0, h1, h2⟩ | ⟨h0, h1, h2⟩ | ⟨h0, h1, h2⟩
  all_goals
    subst h2
    subst h0
    go_enter Try.func57, Try.ntmps57
    go_wp2_with fail
    refine (HS.out _ (HX.out.alloc _ |>.alloc _) (HY.out.alloc _ |>.alloc _)).mono ?_
    rintro e w1 ⟨A1, c1, rfl, -, -, -, -, hb⟩
    have hB := Lib.hid (below_under2 hb)
    clear hb HS HX HY
    generalize wl z.natAbs = l at *
    go_wp2_with fail
    go_ret
    exact ⟨rfl, hB.out.alloc hB.out.size _⟩
end Go.Proofs.Ytmlkiddkgikdhaa
