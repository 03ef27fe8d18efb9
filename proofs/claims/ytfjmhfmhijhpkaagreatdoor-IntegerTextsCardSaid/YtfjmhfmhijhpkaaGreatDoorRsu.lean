/- The reference's integers: difference, sign, comparison, greatest common divisor. -/
import Derived.Test.YtfjmhfmhijhpkaaGreatDoorRad
namespace Go.Proofs.YtfjmhfmhijhpkaaGreatDoor
open Go.RowKit FF

set_option maxRecDepth 100000 in
set_option maxHeartbeats 2000000 in
theorem rSub_any (s t : Bool) (A A' : Option Addr) (n m c c' : Nat) (x y : Int) (w : World) (hx : AI w s A n c x) (hy : AI w t A' m c' y) (hlen : n + m ≤ 400000) :
    Calls Tryz.prog 182 #[.agg #[.bool s, .slice A n c], .agg #[.bool t, .slice A' m c']] w (IntPost w (x - y)) := by
  have HN := Lib.hid (fun w' h => rNeg_any t A' m c' y w' h (by omega))
  have hyl : wl (-y).natAbs ≤ m := by rw [Int.natAbs_neg]; exact hy.wl_le
  have hA := fun (A3 : Option Addr) (c3 : Nat) (w' : World) h h' => rAdd_any s (decide (-y < 0)) A A3 n (wl (-y).natAbs) c c3 x (-y) w' h h' (by omega)
  rw [← Int.sub_eq_add_neg] at hA
  have HA := Lib.hid hA
  have HX := Lib.hid hx; have HY := Lib.hid hy
  clear hA hx hy hyl hlen
  unfold IntPost at HN
  generalize x - y = z at *
  generalize -y = y' at *
  go_enter Tryz.func182, Tryz.ntmps182
  go_wp2_with fail
  have hR : w.heap.size + 1 < w.heap.size + 1 + 1 := by omega
  go_region_held3 (fun w' => Below w.heap.size w w' ∧ w'.cell? ⟨w.heap.size, 0, none⟩ = some (.bool s) ∧ w'.cell? ⟨w.heap.size, 1, none⟩ = some (.slice A n c) ∧ w'.cell? ⟨w.heap.size + 1, 0, none⟩ = some (.bool t) ∧ w'.cell? ⟨w.heap.size + 1, 1, none⟩ = some (.slice A' m c') ∧
    w'.cell? ⟨w.heap.size + 1 + 1, 0, none⟩ = some (cellAt w' ⟨w.heap.size + 1 + 1, 0, none⟩) ∧ w'.cell? ⟨w.heap.size + 1 + 1, 1, none⟩ = some (cellAt w' ⟨w.heap.size + 1 + 1, 1, none⟩) ∧ w'.frozen? ⟨w.heap.size + 1 + 1, 0, none⟩ = false ∧ w'.frozen? ⟨w.heap.size + 1 + 1, 1, none⟩ = false ∧ w.heap.size + 1 + 1 < w'.heap.size)
    (first
      | (refine ⟨(((Below.refl _ _).alloc (Nat.le_refl _) _).alloc (by simp) _).alloc (by simp; omega) _ |>.drew, ?_⟩; simp [go_sem, cellAt])
      | (refine Sres.keep hR (by assumption) ?_; first | assumption | exact (Below.refl _ _).alloc (Nat.le_refl _) _ | exact below_drewN (Below.refl _ _) _)
      | exact Sres.store hR (by assumption) _ _)
    (first
      | (go_at_call 210; (refine (HN.out _ (in_ai (by assumption) HY.out)).mono ?_); rintro e w' ⟨A1, c1, rfl, hs1, q1, q2, hf1, hbx⟩)
      | (go_at_call 131; (refine (HA.out A1 c1 _ (in_ai (by assumption) HX.out) (AI.of_post hs1 q1 q2)).mono ?_); rintro e w' ⟨A3, c3, rfl, hs3, k1, k2, hf3, hb3⟩))
  obtain ⟨-, -, -, -, hz0, B0⟩ := three_keep (three_drew hbx)
  obtain ⟨-, -, q, -, -, B⟩ := three_keep (three_drew (hbx.trans (hb3.mono hbx.size)))
  go_wp2_with fail
  refine bodyPost_ret (v := .agg #[.bool (decide (z < 0)), .slice A3 (wl z.natAbs) c3]) (by simp [results, Tryz.results182, go_sem, q]) rfl ?_
  exact fin_int B0 hz0 B (by omega) rfl hs3 k1 k2 hf3

theorem hl_pos {n : Nat} (h : n ≠ 0) : 0 < hl n := Nat.pos_of_ne_zero fun e => h ((digs_nil HB2).1 e)
theorem hl_zero : hl 0 = 0 := rfl
theorem sgn_cases (z : Int) : (z = 0 ∧ sgn z = 0) ∨ (z < 0 ∧ sgn z = -1) ∨ (0 < z ∧ sgn z = 1) := by
  unfold sgn
  by_cases h0 : z = 0
  · exact .inl ⟨h0, if_pos h0⟩
  · by_cases h1 : z < 0
    · exact .inr (.inl ⟨h1, by rw [if_neg h0, if_pos h1]⟩)
    · exact .inr (.inr ⟨by omega, by rw [if_neg h0, if_neg h1]⟩)

set_option maxRecDepth 100000 in
set_option maxHeartbeats 2000000 in
/-- Sign, of a number in whatever form -/
theorem rSign_any (s : Bool) (A : Option Addr) (n c : Nat) (x : Int) (w : World) (hx : AI w s A n c x) (hlen : n ≤ 400000) :
    Calls Tryz.prog 181 #[.agg #[.bool s, .slice A n c]] w fun e w' => e = .returned (.int .i64 (sgn x)) ∧ Below w.heap.size w w' := by
  have HD := Lib.hid (fun w' h => rDigits_any s A n c x w' h (by omega))
  unfold HalfPost at HD
  have HX := Lib.hid hx
  have key : (s = s ∧ (((hl x.natAbs : Nat) : Int) == 0) = true ∧ sgn x = 0) ∨ (s = true ∧ (((hl x.natAbs : Nat) : Int) == 0) = false ∧ sgn x = -1) ∨ (s = false ∧ (((hl x.natAbs : Nat) : Int) == 0) = false ∧ sgn x = 1) := by
    have hs := hx.eq_sval
    rcases sgn_cases x with ⟨h0, h2⟩ | ⟨h0, h2⟩ | ⟨h0, h2⟩
    · exact .inl ⟨rfl, t_beq (by rw [h0]; rfl), h2⟩
    · refine .inr (.inl ⟨?_, f_beq (by have := hl_pos (n := x.natAbs) (by omega); omega), h2⟩)
      cases s
      · simp [sval] at hs; omega
      · rfl
    · refine .inr (.inr ⟨?_, f_beq (by have := hl_pos (n := x.natAbs) (by omega); omega), h2⟩)
      cases s
      · rfl
      · simp [sval] at hs; omega
  clear hx
  generalize sgn x = g at *
  generalize hl x.natAbs = l at *
  rcases key with ⟨-, h1, h2⟩ | ⟨h0, h1, h2⟩ | ⟨h0, h1, h2⟩
  all_goals
    subst h2
    try subst h0
    go_enter Tryz.func181, Tryz.ntmps181
    go_wp2_with fail
    refine (HD.out _ (HX.out.alloc _)).mono ?_
    rintro e w1 ⟨A1, c1, rfl, -, -, -, -, hb⟩
    rw [World.size_alloc] at hb
    obtain ⟨k, f, hz⟩ := slot_keep hb
    have k0 := k 0
    have hB := Lib.hid (below_slot hb)
    clear hb HD HX k f
    go_wp2_with fail
    go_ret
    exact ⟨rfl, hB.out⟩

set_option maxRecDepth 100000 in
set_option maxHeartbeats 2000000 in
theorem rCmp_any (s t : Bool) (A A' : Option Addr) (n m c c' : Nat) (x y : Int) (w : World) (hx : AI w s A n c x) (hy : AI w t A' m c' y) (hlen : n + m ≤ 300000) :
    Calls Tryz.prog 129 #[.agg #[.bool s, .slice A n c], .agg #[.bool t, .slice A' m c']] w fun e w' => e = .returned (.int .i64 (sgn (x - y))) ∧ Below w.heap.size w w' := by
  have HS := Lib.hid (fun w' h h' => rSub_any s t A A' n m c c' x y w' h h' (by omega))
  have hwl : wl (x - y).natAbs ≤ 400000 := by
    have h1 := hx.hl_le
    have h2 := hy.hl_le
    have h3 : (x - y).natAbs ≤ x.natAbs + y.natAbs := by omega
    have h4 := hl_le h3
    have h5 := hl_add x.natAbs y.natAbs
    have h6 := wl_half (x - y).natAbs
    omega
  have HX := Lib.hid hx; have HY := Lib.hid hy
  clear hx hy hlen
  unfold IntPost at HS
  generalize x - y = z at *
  have HG := Lib.hid (fun (A1 : Option Addr) (c1 : Nat) (w' : World) h => rSign_any (decide (z < 0)) A1 (wl z.natAbs) c1 z w' h hwl)
  clear hwl
  go_enter Tryz.func129, Tryz.ntmps129
  go_wp2_with fail
  refine (HS.out _ (HX.out.alloc _ |>.alloc _) (HY.out.alloc _ |>.alloc _)).mono ?_
  rintro e w1 ⟨A1, c1, rfl, h1, h2, h3, -, hb⟩
  have hB := Lib.hid (below_under2 hb)
  have hI := Lib.hid (HG.out A1 c1 w1 (AI.of_post h1 h2 h3))
  clear hb HS HX HY h1 HG
  go_wp2_with fail
  refine hI.out.mono ?_
  rintro e w2 ⟨rfl, hb2⟩
  have hB2 := Lib.hid (hB.out.trans (hb2.mono hB.out.size))
  clear hb2 hI
  go_wp2_with fail
  go_ret
  exact ⟨rfl, hB2.out⟩
end Go.Proofs.YtfjmhfmhijhpkaaGreatDoor
