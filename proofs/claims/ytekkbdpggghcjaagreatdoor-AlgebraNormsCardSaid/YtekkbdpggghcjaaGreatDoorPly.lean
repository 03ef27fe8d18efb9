/- Minimal polynomials in the program. -/
import Derived.Test.YtekkbdpggghcjaaGreatDoorSm3
namespace Go.Proofs.YtekkbdpggghcjaaGreatDoor
open Go.RowKit FF

/-- rational elements -/
def ratB (q : Qt) : Bool := q.x == 0 && q.y == 0 && q.z == 0
/-- the coefficients of the minimal polynomial, numerators and denominators one after the other -/
def polL (a b : Int) (q : Qt) : List Int := if ratB q then [lowN (-q.w) q.d, lowD (-q.w) q.d, 1, 1] else [nmN a b q, nmD a b q, lowN (-2 * q.w) q.d, lowD (-2 * q.w) q.d, 1, 1]
def polN (q : Qt) : Nat := if ratB q then 2 else 3
theorem shows_cells4 {W : World} {T : TypeId} {B : Nat} (hB : W.heap.size = B) (a b c d : Int) : ShowsI (W.alloc (.cells #[.int .i64 a, .int .i64 b, .int .i64 c, .int .i64 d] T)) (some ⟨B, 0, none⟩) [a, b, c, d] := by
  subst hB
  exact ShowsI.new fun i hi => by match i, hi with | 0, _ => rfl | 1, _ => rfl | 2, _ => rfl | 3, _ => rfl
theorem shows_cells6 {W : World} {T : TypeId} {B : Nat} (hB : W.heap.size = B) (a b c d e f : Int) : ShowsI (W.alloc (.cells #[.int .i64 a, .int .i64 b, .int .i64 c, .int .i64 d, .int .i64 e, .int .i64 f] T)) (some ⟨B, 0, none⟩) [a, b, c, d, e, f] := by
  subst hB
  exact ShowsI.new fun i hi => by match i, hi with | 0, _ => rfl | 1, _ => rfl | 2, _ => rfl | 3, _ => rfl | 4, _ => rfl | 5, _ => rfl
/-- what Polynomial leaves -/
def PolPost (w : World) (n : Nat) (L : Array Value) (e : Ending) (w' : World) : Prop :=
  ∃ g c, e = .returned (.tuple #[.slice (some ⟨g, 0, none⟩) n c, .int .i64 0]) ∧ w.heap.size ≤ g ∧ Cells w' g L ∧ n ≤ c ∧ c ≤ 10 ∧ Below w.heap.size w w'

set_option maxHeartbeats 4000000 in
set_option maxRecDepth 100000 in
theorem qPoly_rat (a b p0 p1 p2 p3 p4 : Int) (w : World) (hq : qB ⟨p0, p1, p2, p3, p4⟩ = true) (ha : aE a b = 0) (hr : p1 = 0 ∧ p2 = 0 ∧ p3 = 0) :
    Calls Tryz.prog 13 #[.agg #[.int .i64 a, .int .i64 b], qv ⟨p0, p1, p2, p3, p4⟩] w (PolPost w 2 #[.int .i64 (lowN (-p0) p4), .int .i64 (lowD (-p0) p4), .int .i64 1, .int .i64 1]) := by
  have hE : allE a b [⟨p0, p1, p2, p3, p4⟩] = 0 := allE_zero.2 ⟨ha, by simp [hq]⟩
  have HC := Lib.hid (fun A c w hx => hE ▸ qboth_any a b A [⟨p0, p1, p2, p3, p4⟩] 1 c w hx rfl (by omega))
  have hd := (qB_iff.1 hq).2.2.2.2
  have h0 := (qB_iff.1 hq).1
  simp only at hd h0
  have HF := Lib.hid (fun w => qfraction_any (-p0) p4 w (by omega) (by omega) (by omega))
  obtain ⟨rfl, rfl, rfl⟩ := hr
  have e4 : IntKind.i64.wrap (-p0) = -p0 := wrap_id _ (by omega) (by omega)
  have n1 : -4611686018427387904 ≤ -p0 := by omega
  have n2 : -p0 ≤ 4611686018427387904 := by omega
  clear hE hd hq ha
  generalize lowN (-p0) p4 = x0 at *
  generalize lowD (-p0) p4 = x1 at *
  unfold PolPost
  simp only [fvv] at HF
  simp only [qv]
  go_enter Tryz.func13, Tryz.ntmps13
  go_wp2_with fail
  refine (HC.out _ _ _ (shows_flat1 (by simp) p0 0 0 0 p4)).mono ?_
  rintro e1 w1 ⟨rfl, hbb⟩
  have HB1 := Lib.hid (show Bx w [(w.heap.size + 1, #[.int .i64 p0, .int .i64 0, .int .i64 0, .int .i64 0, .int .i64 p4]), (w.heap.size, #[.int .i64 a, .int .i64 b])] w1 from (((Bx.nil ((((Below.refl _ _).alloc (by simp; try omega) _).alloc (by simp; try omega) _).alloc (by simp; try omega) _)).cons (by omega) (((Cells.new _ _ _ (by simp)).alloc _).alloc _)).cons (by omega) ((Cells.new _ _ _ (by simp)).alloc _)).keep hbb)
  clear hbb HC
  go_upto_region 5 with fail
  obtain ⟨V1, hV1⟩ : ∃ V1 : World, V1 = w1.alloc (.cells #[.int .i64 1, .int .i64 1] 28) := ⟨_, rfl⟩
  rw [← hV1]
  have HV := Lib.hid (show Bx w ((w1.heap.size, #[.int .i64 1, .int .i64 1]) :: [(w.heap.size + 1, #[.int .i64 p0, .int .i64 0, .int .i64 0, .int .i64 0, .int .i64 p4]), (w.heap.size, #[.int .i64 a, .int .i64 b])]) V1 from hV1 ▸ HB1.out.new _ _)
  have hlt := HV.out.lt (List.mem_cons_self ..)
  clear hV1 HB1
  generalize w1.heap.size = B1 at *
  obtain ⟨c0, c1, c2, c3, c4⟩ := HV.out.five (List.mem_cons_of_mem _ (List.mem_cons_self ..))
  have MK := Lib.hid (fun w' (h : Bx w [(B1, #[.int .i64 1, .int .i64 1]), (w.heap.size + 1, #[.int .i64 p0, .int .i64 0, .int .i64 0, .int .i64 0, .int .i64 p4]), (w.heap.size, #[.int .i64 a, .int .i64 b])] w') => And.intro h (And.intro (h.two (List.mem_cons_self ..)) (And.intro (h.five (List.mem_cons_of_mem _ (List.mem_cons_self ..))) (h.two (List.mem_cons_of_mem _ (List.mem_cons_of_mem _ (List.mem_cons_self ..)))))))
  have HG2 := Lib.hid (MK.out _ (HV.out.keep (Below.refl _ _).drew))
  go_upto_region 6 with fail
  clear c0 c1 c2 c3 c4
  go_region_held3 (fun w' => Bx w [(B1, #[.int .i64 1, .int .i64 1]), (w.heap.size + 1, #[.int .i64 p0, .int .i64 0, .int .i64 0, .int .i64 0, .int .i64 p4]), (w.heap.size, #[.int .i64 a, .int .i64 b])] w' ∧ (w'.cell? ⟨B1, 0, none⟩ = some (.int .i64 1) ∧ w'.cell? ⟨B1, 1, none⟩ = some (.int .i64 1)) ∧ (w'.cell? ⟨w.heap.size + 1, 0, none⟩ = some (.int .i64 p0) ∧ w'.cell? ⟨w.heap.size + 1, 1, none⟩ = some (.int .i64 0) ∧ w'.cell? ⟨w.heap.size + 1, 2, none⟩ = some (.int .i64 0) ∧ w'.cell? ⟨w.heap.size + 1, 3, none⟩ = some (.int .i64 0) ∧ w'.cell? ⟨w.heap.size + 1, 4, none⟩ = some (.int .i64 p4)) ∧ (w'.cell? ⟨w.heap.size, 0, none⟩ = some (.int .i64 a) ∧ w'.cell? ⟨w.heap.size, 1, none⟩ = some (.int .i64 b)))
    (first
      | assumption
      | exact HG2.out
      | exact MK.out _ (Bx.keep (And.left (by assumption)) (by first | assumption | exact (Below.refl _ _).alloc (Nat.le_refl _) _)))
    (first
      | (go_at_call 40; (with_reducible refine (HF.out _).mono ?_); rintro e w' ⟨rfl, hb⟩))
  all_goals
    have hR : Bx w [(B1, #[.int .i64 1, .int .i64 1]), (w.heap.size + 1, #[.int .i64 p0, .int .i64 0, .int .i64 0, .int .i64 0, .int .i64 p4]), (w.heap.size, #[.int .i64 a, .int .i64 b])] w' := by repeat (first | exact HG2.out.1 | refine Bx.keep ?_ (by assumption))
    go_wp2_with fail
    go_ret2
    exact ⟨_, _, rfl, hR.below.size, Cells.new _ _ _ rfl, by omega, by omega, Bx.below (And.left (by assumption))⟩

set_option maxHeartbeats 4000000 in
set_option maxRecDepth 100000 in
theorem qPoly_gen (a b p0 p1 p2 p3 p4 : Int) (w : World) (hq : qB ⟨p0, p1, p2, p3, p4⟩ = true) (ha : aE a b = 0) (hr : ¬ (p1 = 0 ∧ p2 = 0 ∧ p3 = 0)) :
    Calls Tryz.prog 13 #[.agg #[.int .i64 a, .int .i64 b], qv ⟨p0, p1, p2, p3, p4⟩] w (PolPost w 3 #[.int .i64 (nmN a b ⟨p0, p1, p2, p3, p4⟩), .int .i64 (nmD a b ⟨p0, p1, p2, p3, p4⟩), .int .i64 (lowN (-2 * p0) p4), .int .i64 (lowD (-2 * p0) p4), .int .i64 1, .int .i64 1]) := by
  have hE : allE a b [⟨p0, p1, p2, p3, p4⟩] = 0 := allE_zero.2 ⟨ha, by simp [hq]⟩
  have HC := Lib.hid (fun A c w hx => hE ▸ qboth_any a b A [⟨p0, p1, p2, p3, p4⟩] 1 c w hx rfl (by omega))
  have hd := (qB_iff.1 hq).2.2.2.2
  have h0 := (qB_iff.1 hq).1
  simp only at hd h0
  have hdd := mul_pos6 hd hd
  have hnm := nm_bound (aE_zero.1 ha).2.2.1 (aE_zero.1 ha).2.2.2 hq
  have HO := Lib.hid (fun w => qof_any p0 p1 p2 p3 p4 w)
  have HN := Lib.hid (fun w => qnorm_any p0 p1 p2 p3 p4 a b w hq ha)
  have HF := Lib.hid (fun w => (show Calls Tryz.prog 40 #[.int .i64 (nmQ a b ⟨p0, p1, p2, p3, p4⟩), .int .i64 (p4 * p4)] w fun r w' => r = .returned (fvv (nmN a b ⟨p0, p1, p2, p3, p4⟩) (nmD a b ⟨p0, p1, p2, p3, p4⟩)) ∧ Below w.heap.size w w' from qfraction_any _ _ w (by omega) (by omega) (by omega)))
  have HF2 := Lib.hid (fun w => qfraction_any (-2 * p0) p4 w (by omega) (by omega) (by omega))
  have e2 : IntKind.i64.wrap (p4 * p4) = p4 * p4 := wrap_id _ (by omega) (by omega)
  have e3 : IntKind.i64.wrap (-2 * p0) = -2 * p0 := wrap_id _ (by omega) (by omega)
  have hx : (p1 ≠ 0) ∨ (p1 = 0 ∧ p2 ≠ 0) ∨ (p1 = 0 ∧ p2 = 0 ∧ p3 ≠ 0) := by omega
  clear hE hd hdd hnm hq ha hr h0
  generalize nmN a b ⟨p0, p1, p2, p3, p4⟩ = x0 at *
  generalize nmD a b ⟨p0, p1, p2, p3, p4⟩ = x1 at *
  generalize lowN (-2 * p0) p4 = x2 at *
  generalize lowD (-2 * p0) p4 = x3 at *
  generalize nmQ a b ⟨p0, p1, p2, p3, p4⟩ = M at *
  unfold PolPost
  simp only [cv, fvv] at HO HN HF HF2
  simp only [qv]

  rcases hx with hx | ⟨rfl, hx⟩ | ⟨rfl, rfl, hx⟩
  · have d1 : (p1 == 0) = false := f_beq hx
    go_enter Tryz.func13, Tryz.ntmps13
    go_wp2_with fail
    refine (HC.out _ _ _ (shows_flat1 (by simp) p0 p1 p2 p3 p4)).mono ?_
    rintro e1 w1 ⟨rfl, hbb⟩
    have HB1 := Lib.hid (show Bx w [(w.heap.size + 1, #[.int .i64 p0, .int .i64 p1, .int .i64 p2, .int .i64 p3, .int .i64 p4]), (w.heap.size, #[.int .i64 a, .int .i64 b])] w1 from (((Bx.nil ((((Below.refl _ _).alloc (by simp; try omega) _).alloc (by simp; try omega) _).alloc (by simp; try omega) _)).cons (by omega) (((Cells.new _ _ _ (by simp)).alloc _).alloc _)).cons (by omega) ((Cells.new _ _ _ (by simp)).alloc _)).keep hbb)
    clear hbb HC
    go_upto_region 5 with fail
    obtain ⟨V1, hV1⟩ : ∃ V1 : World, V1 = w1.alloc (.cells #[.int .i64 1, .int .i64 1] 28) := ⟨_, rfl⟩
    rw [← hV1]
    have HV := Lib.hid (show Bx w ((w1.heap.size, #[.int .i64 1, .int .i64 1]) :: [(w.heap.size + 1, #[.int .i64 p0, .int .i64 p1, .int .i64 p2, .int .i64 p3, .int .i64 p4]), (w.heap.size, #[.int .i64 a, .int .i64 b])]) V1 from hV1 ▸ HB1.out.new _ _)
    have hlt := HV.out.lt (List.mem_cons_self ..)
    clear hV1 HB1
    generalize w1.heap.size = B1 at *
    obtain ⟨c0, c1, c2, c3, c4⟩ := HV.out.five (List.mem_cons_of_mem _ (List.mem_cons_self ..))
    have MK := Lib.hid (fun w' (h : Bx w [(B1, #[.int .i64 1, .int .i64 1]), (w.heap.size + 1, #[.int .i64 p0, .int .i64 p1, .int .i64 p2, .int .i64 p3, .int .i64 p4]), (w.heap.size, #[.int .i64 a, .int .i64 b])] w') => And.intro h (And.intro (h.two (List.mem_cons_self ..)) (And.intro (h.five (List.mem_cons_of_mem _ (List.mem_cons_self ..))) (h.two (List.mem_cons_of_mem _ (List.mem_cons_of_mem _ (List.mem_cons_self ..)))))))
    have HG2 := Lib.hid (MK.out _ (HV.out.keep (Below.refl _ _).drew))
    go_upto_region 7 with fail
    clear c0 c1 c2 c3 c4
    go_region_held3 (fun w' => Bx w [(B1, #[.int .i64 1, .int .i64 1]), (w.heap.size + 1, #[.int .i64 p0, .int .i64 p1, .int .i64 p2, .int .i64 p3, .int .i64 p4]), (w.heap.size, #[.int .i64 a, .int .i64 b])] w' ∧ (w'.cell? ⟨B1, 0, none⟩ = some (.int .i64 1) ∧ w'.cell? ⟨B1, 1, none⟩ = some (.int .i64 1)) ∧ (w'.cell? ⟨w.heap.size + 1, 0, none⟩ = some (.int .i64 p0) ∧ w'.cell? ⟨w.heap.size + 1, 1, none⟩ = some (.int .i64 p1) ∧ w'.cell? ⟨w.heap.size + 1, 2, none⟩ = some (.int .i64 p2) ∧ w'.cell? ⟨w.heap.size + 1, 3, none⟩ = some (.int .i64 p3) ∧ w'.cell? ⟨w.heap.size + 1, 4, none⟩ = some (.int .i64 p4)) ∧ (w'.cell? ⟨w.heap.size, 0, none⟩ = some (.int .i64 a) ∧ w'.cell? ⟨w.heap.size, 1, none⟩ = some (.int .i64 b)))
      (first
        | assumption
        | exact HG2.out
        | exact MK.out _ (Bx.keep (And.left (by assumption)) (by first | assumption | exact (Below.refl _ _).alloc (Nat.le_refl _) _)))
      (first
        | (go_at_call 45; (with_reducible refine (HO.out _).mono ?_); rintro e w' ⟨rfl, hb⟩)
        | (go_at_call 46; (with_reducible refine (HN.out _).mono ?_); rintro e w' ⟨rfl, hb⟩)
        | (go_at_call 40; (with_reducible refine (HF.out _).mono ?_); rintro e w' ⟨rfl, hb⟩)
        | (go_at_call 40; (with_reducible refine (HF2.out _).mono ?_); rintro e w' ⟨rfl, hb⟩))
    all_goals
      have hR : Bx w [(B1, #[.int .i64 1, .int .i64 1]), (w.heap.size + 1, #[.int .i64 p0, .int .i64 p1, .int .i64 p2, .int .i64 p3, .int .i64 p4]), (w.heap.size, #[.int .i64 a, .int .i64 b])] w' := by repeat (first | exact HG2.out.1 | refine Bx.keep ?_ (by assumption))
      go_wp2_with fail
      go_ret2
      exact ⟨_, _, rfl, hR.below.size, Cells.new _ _ _ rfl, by omega, by omega, Bx.below (And.left (by assumption))⟩

  · have d1 : (p2 == 0) = false := f_beq hx
    go_enter Tryz.func13, Tryz.ntmps13
    go_wp2_with fail
    refine (HC.out _ _ _ (shows_flat1 (by simp) p0 0 p2 p3 p4)).mono ?_
    rintro e1 w1 ⟨rfl, hbb⟩
    have HB1 := Lib.hid (show Bx w [(w.heap.size + 1, #[.int .i64 p0, .int .i64 0, .int .i64 p2, .int .i64 p3, .int .i64 p4]), (w.heap.size, #[.int .i64 a, .int .i64 b])] w1 from (((Bx.nil ((((Below.refl _ _).alloc (by simp; try omega) _).alloc (by simp; try omega) _).alloc (by simp; try omega) _)).cons (by omega) (((Cells.new _ _ _ (by simp)).alloc _).alloc _)).cons (by omega) ((Cells.new _ _ _ (by simp)).alloc _)).keep hbb)
    clear hbb HC
    go_upto_region 5 with fail
    obtain ⟨V1, hV1⟩ : ∃ V1 : World, V1 = w1.alloc (.cells #[.int .i64 1, .int .i64 1] 28) := ⟨_, rfl⟩
    rw [← hV1]
    have HV := Lib.hid (show Bx w ((w1.heap.size, #[.int .i64 1, .int .i64 1]) :: [(w.heap.size + 1, #[.int .i64 p0, .int .i64 0, .int .i64 p2, .int .i64 p3, .int .i64 p4]), (w.heap.size, #[.int .i64 a, .int .i64 b])]) V1 from hV1 ▸ HB1.out.new _ _)
    have hlt := HV.out.lt (List.mem_cons_self ..)
    clear hV1 HB1
    generalize w1.heap.size = B1 at *
    obtain ⟨c0, c1, c2, c3, c4⟩ := HV.out.five (List.mem_cons_of_mem _ (List.mem_cons_self ..))
    have MK := Lib.hid (fun w' (h : Bx w [(B1, #[.int .i64 1, .int .i64 1]), (w.heap.size + 1, #[.int .i64 p0, .int .i64 0, .int .i64 p2, .int .i64 p3, .int .i64 p4]), (w.heap.size, #[.int .i64 a, .int .i64 b])] w') => And.intro h (And.intro (h.two (List.mem_cons_self ..)) (And.intro (h.five (List.mem_cons_of_mem _ (List.mem_cons_self ..))) (h.two (List.mem_cons_of_mem _ (List.mem_cons_of_mem _ (List.mem_cons_self ..)))))))
    have HG2 := Lib.hid (MK.out _ (HV.out.keep (Below.refl _ _).drew))
    go_upto_region 7 with fail
    clear c0 c1 c2 c3 c4
    go_region_held3 (fun w' => Bx w [(B1, #[.int .i64 1, .int .i64 1]), (w.heap.size + 1, #[.int .i64 p0, .int .i64 0, .int .i64 p2, .int .i64 p3, .int .i64 p4]), (w.heap.size, #[.int .i64 a, .int .i64 b])] w' ∧ (w'.cell? ⟨B1, 0, none⟩ = some (.int .i64 1) ∧ w'.cell? ⟨B1, 1, none⟩ = some (.int .i64 1)) ∧ (w'.cell? ⟨w.heap.size + 1, 0, none⟩ = some (.int .i64 p0) ∧ w'.cell? ⟨w.heap.size + 1, 1, none⟩ = some (.int .i64 0) ∧ w'.cell? ⟨w.heap.size + 1, 2, none⟩ = some (.int .i64 p2) ∧ w'.cell? ⟨w.heap.size + 1, 3, none⟩ = some (.int .i64 p3) ∧ w'.cell? ⟨w.heap.size + 1, 4, none⟩ = some (.int .i64 p4)) ∧ (w'.cell? ⟨w.heap.size, 0, none⟩ = some (.int .i64 a) ∧ w'.cell? ⟨w.heap.size, 1, none⟩ = some (.int .i64 b)))
      (first
        | assumption
        | exact HG2.out
        | exact MK.out _ (Bx.keep (And.left (by assumption)) (by first | assumption | exact (Below.refl _ _).alloc (Nat.le_refl _) _)))
      (first
        | (go_at_call 45; (with_reducible refine (HO.out _).mono ?_); rintro e w' ⟨rfl, hb⟩)
        | (go_at_call 46; (with_reducible refine (HN.out _).mono ?_); rintro e w' ⟨rfl, hb⟩)
        | (go_at_call 40; (with_reducible refine (HF.out _).mono ?_); rintro e w' ⟨rfl, hb⟩)
        | (go_at_call 40; (with_reducible refine (HF2.out _).mono ?_); rintro e w' ⟨rfl, hb⟩))
    all_goals
      have hR : Bx w [(B1, #[.int .i64 1, .int .i64 1]), (w.heap.size + 1, #[.int .i64 p0, .int .i64 0, .int .i64 p2, .int .i64 p3, .int .i64 p4]), (w.heap.size, #[.int .i64 a, .int .i64 b])] w' := by repeat (first | exact HG2.out.1 | refine Bx.keep ?_ (by assumption))
      go_wp2_with fail
      go_ret2
      exact ⟨_, _, rfl, hR.below.size, Cells.new _ _ _ rfl, by omega, by omega, Bx.below (And.left (by assumption))⟩

  · have d1 : (p3 == 0) = false := f_beq hx
    go_enter Tryz.func13, Tryz.ntmps13
    go_wp2_with fail
    refine (HC.out _ _ _ (shows_flat1 (by simp) p0 0 0 p3 p4)).mono ?_
    rintro e1 w1 ⟨rfl, hbb⟩
    have HB1 := Lib.hid (show Bx w [(w.heap.size + 1, #[.int .i64 p0, .int .i64 0, .int .i64 0, .int .i64 p3, .int .i64 p4]), (w.heap.size, #[.int .i64 a, .int .i64 b])] w1 from (((Bx.nil ((((Below.refl _ _).alloc (by simp; try omega) _).alloc (by simp; try omega) _).alloc (by simp; try omega) _)).cons (by omega) (((Cells.new _ _ _ (by simp)).alloc _).alloc _)).cons (by omega) ((Cells.new _ _ _ (by simp)).alloc _)).keep hbb)
    clear hbb HC
    go_upto_region 5 with fail
    obtain ⟨V1, hV1⟩ : ∃ V1 : World, V1 = w1.alloc (.cells #[.int .i64 1, .int .i64 1] 28) := ⟨_, rfl⟩
    rw [← hV1]
    have HV := Lib.hid (show Bx w ((w1.heap.size, #[.int .i64 1, .int .i64 1]) :: [(w.heap.size + 1, #[.int .i64 p0, .int .i64 0, .int .i64 0, .int .i64 p3, .int .i64 p4]), (w.heap.size, #[.int .i64 a, .int .i64 b])]) V1 from hV1 ▸ HB1.out.new _ _)
    have hlt := HV.out.lt (List.mem_cons_self ..)
    clear hV1 HB1
    generalize w1.heap.size = B1 at *
    obtain ⟨c0, c1, c2, c3, c4⟩ := HV.out.five (List.mem_cons_of_mem _ (List.mem_cons_self ..))
    have MK := Lib.hid (fun w' (h : Bx w [(B1, #[.int .i64 1, .int .i64 1]), (w.heap.size + 1, #[.int .i64 p0, .int .i64 0, .int .i64 0, .int .i64 p3, .int .i64 p4]), (w.heap.size, #[.int .i64 a, .int .i64 b])] w') => And.intro h (And.intro (h.two (List.mem_cons_self ..)) (And.intro (h.five (List.mem_cons_of_mem _ (List.mem_cons_self ..))) (h.two (List.mem_cons_of_mem _ (List.mem_cons_of_mem _ (List.mem_cons_self ..)))))))
    have HG2 := Lib.hid (MK.out _ (HV.out.keep (Below.refl _ _).drew))
    go_upto_region 7 with fail
    clear c0 c1 c2 c3 c4
    go_region_held3 (fun w' => Bx w [(B1, #[.int .i64 1, .int .i64 1]), (w.heap.size + 1, #[.int .i64 p0, .int .i64 0, .int .i64 0, .int .i64 p3, .int .i64 p4]), (w.heap.size, #[.int .i64 a, .int .i64 b])] w' ∧ (w'.cell? ⟨B1, 0, none⟩ = some (.int .i64 1) ∧ w'.cell? ⟨B1, 1, none⟩ = some (.int .i64 1)) ∧ (w'.cell? ⟨w.heap.size + 1, 0, none⟩ = some (.int .i64 p0) ∧ w'.cell? ⟨w.heap.size + 1, 1, none⟩ = some (.int .i64 0) ∧ w'.cell? ⟨w.heap.size + 1, 2, none⟩ = some (.int .i64 0) ∧ w'.cell? ⟨w.heap.size + 1, 3, none⟩ = some (.int .i64 p3) ∧ w'.cell? ⟨w.heap.size + 1, 4, none⟩ = some (.int .i64 p4)) ∧ (w'.cell? ⟨w.heap.size, 0, none⟩ = some (.int .i64 a) ∧ w'.cell? ⟨w.heap.size, 1, none⟩ = some (.int .i64 b)))
      (first
        | assumption
        | exact HG2.out
        | exact MK.out _ (Bx.keep (And.left (by assumption)) (by first | assumption | exact (Below.refl _ _).alloc (Nat.le_refl _) _)))
      (first
        | (go_at_call 45; (with_reducible refine (HO.out _).mono ?_); rintro e w' ⟨rfl, hb⟩)
        | (go_at_call 46; (with_reducible refine (HN.out _).mono ?_); rintro e w' ⟨rfl, hb⟩)
        | (go_at_call 40; (with_reducible refine (HF.out _).mono ?_); rintro e w' ⟨rfl, hb⟩)
        | (go_at_call 40; (with_reducible refine (HF2.out _).mono ?_); rintro e w' ⟨rfl, hb⟩))
    all_goals
      have hR : Bx w [(B1, #[.int .i64 1, .int .i64 1]), (w.heap.size + 1, #[.int .i64 p0, .int .i64 0, .int .i64 0, .int .i64 p3, .int .i64 p4]), (w.heap.size, #[.int .i64 a, .int .i64 b])] w' := by repeat (first | exact HG2.out.1 | refine Bx.keep ?_ (by assumption))
      go_wp2_with fail
      go_ret2
      exact ⟨_, _, rfl, hR.below.size, Cells.new _ _ _ rfl, by omega, by omega, Bx.below (And.left (by assumption))⟩

end Go.Proofs.YtekkbdpggghcjaaGreatDoor
