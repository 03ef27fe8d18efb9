/- Norms in the program; small elements and algebras. -/
import Derived.Test.YtekkbdpggghcjaaDoorQo0
namespace Go.Proofs.YtekkbdpggghcjaaDoor
open Go.RowKit FF

/-- an algebra with numbers up to 20 -/
def litB (a b : Int) : Bool := decide (aE a b = 0) && winB a (-20) 20 && winB b (-20) 20
set_option maxHeartbeats 1000000 in
theorem little_any (a b : Int) (w : World) :
    Calls Tryd.prog 37 #[.agg #[.int .i64 a, .int .i64 b]] w fun r w' => r = .returned (.bool (litB a b)) ∧ Below w.heap.size w w' := by
  have HC := Lib.hid (fun w => rCheck_any a b w)
  have HA := Lib.hid (fun w => bWithin_any a (-20) 20 w)
  have HB := Lib.hid (fun w => bWithin_any b (-20) 20 w)
  have HF := Lib.hid (show litB a b = (decide (aE a b = 0) && winB a (-20) 20 && winB b (-20) 20) from rfl)
  generalize litB a b = F at *
  generalize winB a (-20) 20 = A at *
  generalize winB b (-20) 20 = B at *
  by_cases hE : aE a b = 0
  · rw [hE] at HC
    cases A
    · have HQ := Lib.hid (show F = false by rw [HF.out]; simp)
      clear HF HB hE
      go_enter Tryd.func37, Tryd.ntmps37
      go_wp2_with fail
      refine (HC.out _).mono ?_
      rintro e1 w1 ⟨rfl, hb1⟩
      have HB1 := Lib.hid (show Bx w [(w.heap.size, #[.int .i64 a, .int .i64 b])] w1 from ((Bx.nil (Below.refl w.heap.size w)).new _ _).keep hb1)
      clear hb1
      obtain ⟨c0, c1⟩ := HB1.out.two (List.mem_cons_self ..)
      go_wp2_with fail
      refine (HA.out _).mono ?_
      rintro e w' ⟨rfl, m1, rfl⟩
      go_wp2_with fail
      go_ret
      exact ⟨ret_bool HQ.out.symm, below_drewN HB1.out.below _⟩
    · have HQ := Lib.hid (show F = B by rw [HF.out]; simp [hE])
      clear HF hE
      go_enter Tryd.func37, Tryd.ntmps37
      go_wp2_with fail
      refine (HC.out _).mono ?_
      rintro e1 w1 ⟨rfl, hb1⟩
      have HB1 := Lib.hid (show Bx w [(w.heap.size, #[.int .i64 a, .int .i64 b])] w1 from ((Bx.nil (Below.refl w.heap.size w)).new _ _).keep hb1)
      clear hb1
      obtain ⟨c0, c1⟩ := HB1.out.two (List.mem_cons_self ..)
      go_wp2_with fail
      refine (HA.out _).mono ?_
      rintro e w' ⟨rfl, m1, rfl⟩
      go_wp2_with fail
      refine (HB.out _).mono ?_
      rintro e w' ⟨rfl, m2, rfl⟩
      go_wp2_with fail
      go_ret
      exact ⟨ret_bool HQ.out.symm, by first | exact below_drewN HB1.out.below _ | exact below_drewN (below_drewN HB1.out.below _) _⟩
  · have HQ := Lib.hid (show F = false by rw [HF.out]; simp [hE])
    have d1 : (aE a b == 0) = false := f_beq hE
    clear HF hE HA HB
    generalize aE a b = E at *
    go_enter Tryd.func37, Tryd.ntmps37
    go_wp2_with fail
    refine (HC.out _).mono ?_
    rintro e1 w1 ⟨rfl, hb1⟩
    have HB1 := Lib.hid (show Bx w [(w.heap.size, #[.int .i64 a, .int .i64 b])] w1 from ((Bx.nil (Below.refl w.heap.size w)).new _ _).keep hb1)
    clear hb1
    go_wp2_with fail
    go_ret
    exact ⟨ret_bool HQ.out.symm, HB1.out.below⟩

theorem sm_win (q : Qt) : smB q = (winB q.w (-3) 3 && winB q.x (-3) 3 && winB q.y (-3) 3 && winB q.z (-3) 3 && winB q.d 1 3) := by
  rw [Bool.eq_iff_iff, smB_iff]
  simp only [Bool.and_eq_true, winB_iff, and_assoc]
theorem all_sm_false {l : List Qt} {k : Nat} (hk : k < l.length) (h : smB (l.getD k Qt.zero) = false) : l.all smB = false := by
  rw [List.all_eq_false]
  refine ⟨l.getD k Qt.zero, ?_, by rw [h]; decide⟩
  rw [List.getD_eq_getElem?_getD, List.getElem?_eq_getElem hk]
  exact List.getElem_mem hk
theorem all_sm_true {l : List Qt} (h : ∀ j, j < l.length → smB (l.getD j Qt.zero) = true) : l.all smB = true := by
  rw [List.all_eq_true]
  intro q hq
  obtain ⟨j, hj, rfl⟩ := List.mem_iff_getElem.1 hq
  have := h j hj
  rwa [List.getD_eq_getElem?_getD, List.getElem?_eq_getElem hj] at this

set_option maxHeartbeats 4000000 in
set_option maxRecDepth 100000 in
theorem small_any (A : Option Addr) (l : List Qt) (n c : Nat) (w : World) (hx : ShowsI w A (flatQ l)) (hn : l.length = n) (hn9 : n ≤ 100) :
    Calls Tryd.prog 38 #[.slice A n c] w fun e w' => e = .returned (.bool (l.all smB)) ∧ Below w.heap.size w w' := by
  have HN := Lib.hid hn
  have HX := Lib.hid hx
  have HW := Lib.hid (fun n lo hi w => bWithin_any n lo hi w)
  clear hx hn
  go_enter Tryd.func38, Tryd.ntmps38
  go_wp2_with fail
  go_loopw [3, 4] (fun s3 _ wr => ∃ (k : Nat), s3 = .int .i64 k ∧ k ≤ n ∧ (∀ j, j < k → smB (l.getD j Qt.zero) = true) ∧ Below w.heap.size w wr) (fun s _ _ => n - (intOf s).toNat)
  case atStart => exact ⟨0, rfl, by omega, fun j hj => absurd hj (by omega), Below.refl _ _⟩
  case round =>
    obtain ⟨k, rfl, hk, hall, hb⟩ := hrel
    have HA := Lib.hid hall; clear hall
    have HB := Lib.hid hb; clear hb
    by_cases h0 : k < n
    · obtain ⟨b1, o1, rfl, hb1, hc1⟩ := (HX.out.below HB.out) (by rw [flatQ_len, HN.out]; omega)
      obtain ⟨f0, f1, f2, f3, f4⟩ := flatQ_get (l := l) (i := k) (by rw [HN.out]; exact h0)
      have x0 := hc1 (5 * k) (by rw [flatQ_len, HN.out]; omega)
      have x1 := hc1 (5 * k + 1) (by rw [flatQ_len, HN.out]; omega)
      have x2 := hc1 (5 * k + 2) (by rw [flatQ_len, HN.out]; omega)
      have x3 := hc1 (5 * k + 3) (by rw [flatQ_len, HN.out]; omega)
      have x4 := hc1 (5 * k + 4) (by rw [flatQ_len, HN.out]; omega)
      rw [f0, show o1 + 5 * k = o1 + k * 5 by omega] at x0
      rw [f1, show o1 + (5 * k + 1) = o1 + k * 5 + 1 by omega] at x1
      rw [f2, show o1 + (5 * k + 2) = o1 + k * 5 + 2 by omega] at x2
      rw [f3, show o1 + (5 * k + 3) = o1 + k * 5 + 3 by omega] at x3
      rw [f4, show o1 + (5 * k + 4) = o1 + k * 5 + 4 by omega] at x4
      clear hc1 f0 f1 f2 f3 f4
      have HE := Lib.hid (fun (h : smB (l.getD k Qt.zero) = false) => all_sm_false (l := l) (k := k) (by rw [HN.out]; exact h0) h)
      have HS := Lib.hid (fun (h : smB (l.getD k Qt.zero) = true) => (show ∀ j, j < k + 1 → smB (l.getD j Qt.zero) = true from fun j hj => by
        rcases Nat.lt_or_ge j k with g | g
        · exact HA.out j g
        · rw [show j = k by omega]; exact h))
      clear HA
      generalize l.getD k Qt.zero = q at *
      rw [sm_win q] at HE HS

      have H0 := Lib.hid (fun w => HW.out q.w (-3) 3 w)
      have H1 := Lib.hid (fun w => HW.out q.x (-3) 3 w)
      have H2 := Lib.hid (fun w => HW.out q.y (-3) 3 w)
      have H3 := Lib.hid (fun w => HW.out q.z (-3) 3 w)
      have H4 := Lib.hid (fun w => HW.out q.d 1 3 w)
      generalize winB q.w (-3) 3 = v0 at *
      generalize winB q.x (-3) 3 = v1 at *
      generalize winB q.y (-3) 3 = v2 at *
      generalize winB q.z (-3) 3 = v3 at *
      generalize winB q.d 1 3 = v4 at *
      generalize q.w = y0 at *
      generalize q.x = y1 at *
      generalize q.y = y2 at *
      generalize q.z = y3 at *
      generalize q.d = y4 at *
      cases v0
      · have HQ := Lib.hid (HE.out (by simp))
        clear HE HS HW H1 H2 H3 H4
        go_wp2_with fail
        refine (H0.out _).mono ?_
        rintro e w' ⟨rfl, m0, rfl⟩
        go_wp2_with fail
        go_ret
        exact ⟨ret_bool HQ.out.symm, by repeat (first | exact HB.out.alloc HB.out.size _ | refine below_drewN ?_ _)⟩
      cases v1
      · have HQ := Lib.hid (HE.out (by simp))
        clear HE HS HW H2 H3 H4
        go_wp2_with fail
        refine (H0.out _).mono ?_
        rintro e w' ⟨rfl, m0, rfl⟩
        go_wp2_with fail
        refine (H1.out _).mono ?_
        rintro e w' ⟨rfl, m1, rfl⟩
        go_wp2_with fail
        go_ret
        exact ⟨ret_bool HQ.out.symm, by repeat (first | exact HB.out.alloc HB.out.size _ | refine below_drewN ?_ _)⟩
      cases v2
      · have HQ := Lib.hid (HE.out (by simp))
        clear HE HS HW H3 H4
        go_wp2_with fail
        refine (H0.out _).mono ?_
        rintro e w' ⟨rfl, m0, rfl⟩
        go_wp2_with fail
        refine (H1.out _).mono ?_
        rintro e w' ⟨rfl, m1, rfl⟩
        go_wp2_with fail
        refine (H2.out _).mono ?_
        rintro e w' ⟨rfl, m2, rfl⟩
        go_wp2_with fail
        go_ret
        exact ⟨ret_bool HQ.out.symm, by repeat (first | exact HB.out.alloc HB.out.size _ | refine below_drewN ?_ _)⟩
      cases v3
      · have HQ := Lib.hid (HE.out (by simp))
        clear HE HS HW H4
        go_wp2_with fail
        refine (H0.out _).mono ?_
        rintro e w' ⟨rfl, m0, rfl⟩
        go_wp2_with fail
        refine (H1.out _).mono ?_
        rintro e w' ⟨rfl, m1, rfl⟩
        go_wp2_with fail
        refine (H2.out _).mono ?_
        rintro e w' ⟨rfl, m2, rfl⟩
        go_wp2_with fail
        refine (H3.out _).mono ?_
        rintro e w' ⟨rfl, m3, rfl⟩
        go_wp2_with fail
        go_ret
        exact ⟨ret_bool HQ.out.symm, by repeat (first | exact HB.out.alloc HB.out.size _ | refine below_drewN ?_ _)⟩
      cases v4
      · have HQ := Lib.hid (HE.out (by simp))
        clear HE HS HW
        go_wp2_with fail
        refine (H0.out _).mono ?_
        rintro e w' ⟨rfl, m0, rfl⟩
        go_wp2_with fail
        refine (H1.out _).mono ?_
        rintro e w' ⟨rfl, m1, rfl⟩
        go_wp2_with fail
        refine (H2.out _).mono ?_
        rintro e w' ⟨rfl, m2, rfl⟩
        go_wp2_with fail
        refine (H3.out _).mono ?_
        rintro e w' ⟨rfl, m3, rfl⟩
        go_wp2_with fail
        refine (H4.out _).mono ?_
        rintro e w' ⟨rfl, m4, rfl⟩
        go_wp2_with fail
        go_ret
        exact ⟨ret_bool HQ.out.symm, by repeat (first | exact HB.out.alloc HB.out.size _ | refine below_drewN ?_ _)⟩
      have HS2 := Lib.hid (HS.out rfl)
      clear HE HS HW
      go_wp2_with fail
      refine (H0.out _).mono ?_
      rintro e w' ⟨rfl, m0, rfl⟩
      go_wp2_with fail
      refine (H1.out _).mono ?_
      rintro e w' ⟨rfl, m1, rfl⟩
      go_wp2_with fail
      refine (H2.out _).mono ?_
      rintro e w' ⟨rfl, m2, rfl⟩
      go_wp2_with fail
      refine (H3.out _).mono ?_
      rintro e w' ⟨rfl, m3, rfl⟩
      go_wp2_with fail
      refine (H4.out _).mono ?_
      rintro e w' ⟨rfl, m4, rfl⟩
      go_wp2_with fail
      exact ⟨⟨k + 1, by go_num, by omega, HS2.out, by repeat (first | exact HB.out.alloc HB.out.size _ | refine below_drewN ?_ _)⟩, by simp [intOf]; omega⟩
    · obtain rfl : k = n := by omega
      have HQ := Lib.hid (all_sm_true (l := l) (fun j hj => HA.out j (by rw [HN.out] at hj; exact hj)))
      clear HA
      go_wp2_with fail
      go_ret
      exact ⟨ret_bool HQ.out.symm, HB.out⟩

/-- the norm as a fraction -/
def nmN (a b : Int) (q : Qt) : Int := lowN (nmQ a b q) (q.d * q.d)
def nmD (a b : Int) (q : Qt) : Int := lowD (nmQ a b q) (q.d * q.d)
set_option maxHeartbeats 4000000 in
set_option maxRecDepth 100000 in
theorem qNorm_good (a b p0 p1 p2 p3 p4 : Int) (w : World) (hq : qB ⟨p0, p1, p2, p3, p4⟩ = true) (ha : aE a b = 0) :
    Calls Tryd.prog 39 #[.agg #[.int .i64 a, .int .i64 b], qv ⟨p0, p1, p2, p3, p4⟩] w fun r w' => r = .returned (.tuple #[fvv (nmN a b ⟨p0, p1, p2, p3, p4⟩) (nmD a b ⟨p0, p1, p2, p3, p4⟩), .int .i64 0]) ∧ Below w.heap.size w w' := by
  have hE : allE a b [⟨p0, p1, p2, p3, p4⟩] = 0 := allE_zero.2 ⟨ha, by simp [hq]⟩
  have HC := Lib.hid (fun A c w hx => hE ▸ qboth_any a b A [⟨p0, p1, p2, p3, p4⟩] 1 c w hx rfl (by omega))
  have hd := (qB_iff.1 hq).2.2.2.2
  simp only at hd
  have hdd := mul_pos6 hd hd
  have hnm := nm_bound (aE_zero.1 ha).2.2.1 (aE_zero.1 ha).2.2.2 hq
  have HO := Lib.hid (fun w => qof_any p0 p1 p2 p3 p4 w)
  have HN := Lib.hid (fun w => qnorm_any p0 p1 p2 p3 p4 a b w hq ha)
  have HF := Lib.hid (fun w => (show Calls Tryd.prog 71 #[.int .i64 (nmQ a b ⟨p0, p1, p2, p3, p4⟩), .int .i64 (p4 * p4)] w fun r w' => r = .returned (fvv (nmN a b ⟨p0, p1, p2, p3, p4⟩) (nmD a b ⟨p0, p1, p2, p3, p4⟩)) ∧ Below w.heap.size w w' from qfraction_any _ _ w (by omega) (by omega) (by omega)))
  have e2 : IntKind.i64.wrap (p4 * p4) = p4 * p4 := wrap_id _ (by omega) (by omega)
  clear hE hd hdd hnm hq ha
  generalize nmN a b ⟨p0, p1, p2, p3, p4⟩ = FN at *
  generalize nmD a b ⟨p0, p1, p2, p3, p4⟩ = FD at *
  generalize nmQ a b ⟨p0, p1, p2, p3, p4⟩ = M at *
  simp only [cv, fvv] at HO HN HF
  simp only [qv, fvv]
  go_enter Tryd.func39, Tryd.ntmps39
  go_wp2_with fail
  refine (HC.out _ _ _ (shows_flat1 (by simp) p0 p1 p2 p3 p4)).mono ?_
  rintro e1 w1 ⟨rfl, hbb⟩
  have HG := Lib.hid (show Reg w [(w.heap.size, #[.int .i64 a, .int .i64 b]), (w.heap.size + 1, #[.int .i64 p0, .int .i64 p1, .int .i64 p2, .int .i64 p3, .int .i64 p4])] (w.heap.size + 2) 2 w1 from ((((Reg.nil (vs := #[.int .i64 0, .int .i64 0]) ((((Below.refl _ _).alloc (Nat.le_refl _) _).alloc (by simp; try omega) _).alloc (by simp; try omega) _) (by omega) (Cells.new _ _ _ (by simp))).cons ((Cells.new _ _ _ (by simp)).alloc _) (by omega)).cons (((Cells.new _ _ _ (by simp)).alloc _).alloc _) (by omega)).keep ((Below.refl _ _).alloc (Nat.le_refl _) _)).keep hbb)
  clear hbb HC
  have MK := Lib.hid (fun w' (h : Reg w [(w.heap.size, #[.int .i64 a, .int .i64 b]), (w.heap.size + 1, #[.int .i64 p0, .int .i64 p1, .int .i64 p2, .int .i64 p3, .int .i64 p4])] (w.heap.size + 2) 2 w') => And.intro h (And.intro (h.two (List.mem_cons_self ..)) (And.intro (h.five (List.mem_cons_of_mem _ (List.mem_cons_self ..))) h.res2)))
  have HG2 := Lib.hid (MK.out _ (HG.out.keep (Below.refl _ _).drew))
  go_upto_region 4 with fail
  go_region_held3 (fun w' => Reg w [(w.heap.size, #[.int .i64 a, .int .i64 b]), (w.heap.size + 1, #[.int .i64 p0, .int .i64 p1, .int .i64 p2, .int .i64 p3, .int .i64 p4])] (w.heap.size + 2) 2 w' ∧ (w'.cell? ⟨w.heap.size, 0, none⟩ = some (.int .i64 a) ∧ w'.cell? ⟨w.heap.size, 1, none⟩ = some (.int .i64 b)) ∧ (w'.cell? ⟨w.heap.size + 1, 0, none⟩ = some (.int .i64 p0) ∧ w'.cell? ⟨w.heap.size + 1, 1, none⟩ = some (.int .i64 p1) ∧ w'.cell? ⟨w.heap.size + 1, 2, none⟩ = some (.int .i64 p2) ∧ w'.cell? ⟨w.heap.size + 1, 3, none⟩ = some (.int .i64 p3) ∧ w'.cell? ⟨w.heap.size + 1, 4, none⟩ = some (.int .i64 p4)) ∧ Res2 (w.heap.size + 2) w')
    (first
      | exact HG2.out
      | exact MK.out _ (Reg.keep (And.left (by assumption)) (by assumption))
      | exact MK.out _ (Reg.set2 (And.left (by assumption)) _ _))
    (first
      | (go_at_call 56; (with_reducible refine (HO.out _).mono ?_); rintro e w' ⟨rfl, hb⟩)
      | (go_at_call 61; (with_reducible refine (HN.out _).mono ?_); rintro e w' ⟨rfl, hb⟩)
      | (go_at_call 71; (with_reducible refine (HF.out _).mono ?_); rintro e w' ⟨rfl, hb⟩))
  have hR : Reg w [(w.heap.size, #[.int .i64 a, .int .i64 b]), (w.heap.size + 1, #[.int .i64 p0, .int .i64 p1, .int .i64 p2, .int .i64 p3, .int .i64 p4])] (w.heap.size + 2) 2 w' := by repeat (first | exact HG2.out.1 | refine Reg.keep ?_ (by assumption))
  obtain ⟨W9, e9, q0, q1, B9⟩ := Reg.fin2 hR (.int .i64 FN) (.int .i64 FD)
  rw [e9]
  clear hR HG2 MK HG
  go_wp2_with fail
  refine bodyPost_ret (v := .tuple #[.agg #[.int .i64 FN, .int .i64 FD], .int .i64 0]) (by simp [results, Tryd.results39, go_sem, q0, q1]) rfl ?_
  exact ⟨rfl, B9⟩
end Go.Proofs.YtekkbdpggghcjaaDoor
