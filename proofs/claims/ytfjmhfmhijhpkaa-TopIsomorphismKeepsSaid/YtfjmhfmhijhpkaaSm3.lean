/- Norms in the program; small elements and algebras. -/
import Derived.Test.YtfjmhfmhijhpkaaQo0
namespace Go.Proofs.Ytfjmhfmhijhpkaa
open Go.RowKit FF

/-- an algebra with numbers up to 20 -/
def litB (a b : Int) : Bool := decide (aE a b = 0) && winB a (-20) 20 && winB b (-20) 20
theorem sm_win (q : Qt) : smB q = (winB q.w (-3) 3 && winB q.x (-3) 3 && winB q.y (-3) 3 && winB q.z (-3) 3 && winB q.d 1 3) := by
  rw [Bool.eq_iff_iff, smB_iff]
  simp only [Bool.and_eq_true, winB_iff, and_assoc]
theorem all_sm_false {l : List Qt} {k : Nat} (hk : k < l.length) (h : smB (l.getD k Qt.zero) = false) : l.all smB = false := by
  rw [List.all_eq_false]
  refine ⟨l.getD k Qt.zero, ?_, by rw [h]; decide⟩
  rw [List.getD_eq_getElem?_getD, List.getElem?_eq_getElem hk]
  exact List.getElem_mem hk
theorem all_sm_true {l : List Qt} (h : ∀ j, j < l.length → smB (l.getD j Qt.zero) = true) : l.all smB = true := by
  rw [List.all_eq_true]
  intro q hq
  obtain ⟨j, hj, rfl⟩ := List.mem_iff_getElem.1 hq
  have := h j hj
  rwa [List.getD_eq_getElem?_getD, List.getElem?_eq_getElem hj] at this

/-- the norm as a fraction -/
def nmN (a b : Int) (q : Qt) : Int := lowN (nmQ a b q) (q.d * q.d)
def nmD (a b : Int) (q : Qt) : Int := lowD (nmQ a b q) (q.d * q.d)
set_option maxHeartbeats 4000000 in
set_option maxRecDepth 100000 in
theorem qNorm_good (a b p0 p1 p2 p3 p4 : Int) (w : World) (hq : qB ⟨p0, p1, p2, p3, p4⟩ = true) (ha : aE a b = 0) :
    Calls Try.prog 13 #[.agg #[.int .i64 a, .int .i64 b], qv ⟨p0, p1, p2, p3, p4⟩] w fun r w' => r = .returned (.tuple #[fvv (nmN a b ⟨p0, p1, p2, p3, p4⟩) (nmD a b ⟨p0, p1, p2, p3, p4⟩), .int .i64 0]) ∧ Below w.heap.size w w' := by
  have hE : allE a b [⟨p0, p1, p2, p3, p4⟩] = 0 := allE_zero.2 ⟨ha, by simp [hq]⟩
  have HC := Lib.hid (fun A c w hx => hE ▸ qboth_any a b A [⟨p0, p1, p2, p3, p4⟩] 1 c w hx rfl (by omega))
  have hd := (qB_iff.1 hq).2.2.2.2
  simp only at hd
  have hdd := mul_pos6 hd hd
  have hnm := nm_bound (aE_zero.1 ha).2.2.1 (aE_zero.1 ha).2.2.2 hq
  have HO := Lib.hid (fun w => qof_any p0 p1 p2 p3 p4 w)
  have HN := Lib.hid (fun w => qnorm_any p0 p1 p2 p3 p4 a b w hq ha)
  have HF := Lib.hid (fun w => (show Calls Try.prog 47 #[.int .i64 (nmQ a b ⟨p0, p1, p2, p3, p4⟩), .int .i64 (p4 * p4)] w fun r w' => r = .returned (fvv (nmN a b ⟨p0, p1, p2, p3, p4⟩) (nmD a b ⟨p0, p1, p2, p3, p4⟩)) ∧ Below w.heap.size w w' from qfraction_any _ _ w (by omega) (by omega) (by omega)))
  have e2 : IntKind.i64.wrap (p4 * p4) = p4 * p4 := wrap_id _ (by omega) (by omega)
  clear hE hd hdd hnm hq ha
  generalize nmN a b ⟨p0, p1, p2, p3, p4⟩ = FN at *
  generalize nmD a b ⟨p0, p1, p2, p3, p4⟩ = FD at *
  generalize nmQ a b ⟨p0, p1, p2, p3, p4⟩ = M at *
  simp only [cv, fvv] at HO HN HF
  simp only [qv, fvv]
  go_enter Try.func13, Try.ntmps13
  go_wp2_with fail
  refine (HC.out _ _ _ (shows_flat1 (by simp) p0 p1 p2 p3 p4)).mono ?_
  rintro e1 w1 ⟨rfl, hbb⟩
  have HG := Lib.hid (show Reg w [(w.heap.size, #[.int .i64 a, .int .i64 b]), (w.heap.size + 1, #[.int .i64 p0, .int .i64 p1, .int .i64 p2, .int .i64 p3, .int .i64 p4])] (w.heap.size + 2) 2 w1 from ((((Reg.nil (vs := #[.int .i64 0, .int .i64 0]) ((((Below.refl _ _).alloc (Nat.le_refl _) _).alloc (by simp; try omega) _).alloc (by simp; try omega) _) (by omega) (Cells.new _ _ _ (by simp))).cons ((Cells.new _ _ _ (by simp)).alloc _) (by omega)).cons (((Cells.new _ _ _ (by simp)).alloc _).alloc _) (by omega)).keep ((Below.refl _ _).alloc (Nat.le_refl _) _)).keep hbb)
  clear hbb HC
  have MK := Lib.hid (fun w' (h : Reg w [(w.heap.size, #[.int .i64 a, .int .i64 b]), (w.heap.size + 1, #[.int .i64 p0, .int .i64 p1, .int .i64 p2, .int .i64 p3, .int .i64 p4])] (w.heap.size + 2) 2 w') => And.intro h (And.intro (h.two (List.mem_cons_self ..)) (And.intro (h.five (List.mem_cons_of_mem _ (List.mem_cons_self ..))) h.res2)))
  have HG2 := Lib.hid (MK.out _ (HG.out.keep (Below.refl _ _).drew))
  go_upto_region 4 with fail
  go_region_held3 (fun w' => Reg w [(w.heap.size, #[.int .i64 a, .int .i64 b]), (w.heap.size + 1, #[.int .i64 p0, .int .i64 p1, .int .i64 p2, .int .i64 p3, .int .i64 p4])] (w.heap.size + 2) 2 w' ∧ (w'.cell? ⟨w.heap.size, 0, none⟩ = some (.int .i64 a) ∧ w'.cell? ⟨w.heap.size, 1, none⟩ = some (.int .i64 b)) ∧ (w'.cell? ⟨w.heap.size + 1, 0, none⟩ = some (.int .i64 p0) ∧ w'.cell? ⟨w.heap.size + 1, 1, none⟩ = some (.int .i64 p1) ∧ w'.cell? ⟨w.heap.size + 1, 2, none⟩ = some (.int .i64 p2) ∧ w'.cell? ⟨w.heap.size + 1, 3, none⟩ = some (.int .i64 p3) ∧ w'.cell? ⟨w.heap.size + 1, 4, none⟩ = some (.int .i64 p4)) ∧ Res2 (w.heap.size + 2) w')
    (first
      | exact HG2.out
      | exact MK.out _ (Reg.keep (And.left (by assumption)) (by assumption))
      | exact MK.out _ (Reg.set2 (And.left (by assumption)) _ _))
    (first
      | (go_at_call 48; (with_reducible refine (HO.out _).mono ?_); rintro e w' ⟨rfl, hb⟩)
      | (go_at_call 49; (with_reducible refine (HN.out _).mono ?_); rintro e w' ⟨rfl, hb⟩)
      | (go_at_call 47; (with_reducible refine (HF.out _).mono ?_); rintro e w' ⟨rfl, hb⟩))
  have hR : Reg w [(w.heap.size, #[.int .i64 a, .int .i64 b]), (w.heap.size + 1, #[.int .i64 p0, .int .i64 p1, .int .i64 p2, .int .i64 p3, .int .i64 p4])] (w.heap.size + 2) 2 w' := by repeat (first | exact HG2.out.1 | refine Reg.keep ?_ (by assumption))
  obtain ⟨W9, e9, q0, q1, B9⟩ := Reg.fin2 hR (.int .i64 FN) (.int .i64 FD)
  rw [e9]
  clear hR HG2 MK HG
  go_wp2_with fail
  refine bodyPost_ret (v := .tuple #[.agg #[.int .i64 FN, .int .i64 FD], .int .i64 0]) (by simp [results, Try.results13, go_sem, q0, q1]) rfl ?_
  exact ⟨rfl, B9⟩
end Go.Proofs.Ytfjmhfmhijhpkaa
