/- Walks of the constant graph: a step. -/
import Derived.Test.YthkklilhjnpedaaGreatUVrd
namespace Go.Proofs.YthkklilhjnpedaaGreat
open Go.RowKit FF
set_option maxRecDepth 3000 in
set_option maxHeartbeats 4000000 in
theorem stepped_0 {a b v : Value} {w : World} (hg : GV gNames gEdges a b w) (hv : VP [1, 0] v w) : Calls Tryz.prog 62 #[.agg #[a, b], v] w (PostW (VP [1, 2]) w) := by
  obtain ⟨A, c, rfl, -, -⟩ := hv.len
  obtain ⟨g, o, s9, A9, m9, c9, rfl, -⟩ := hv.at (i := 0) rfl
  obtain ⟨A', c', rfl, -, -⟩ := hg.2.len
  have hB := (Below.refl w.heap.size w).alloc (Nat.le_refl _) (.cells #[a, .slice A' gEdges.length c'] 38)
  have hG := GBox.new (a := a) (b := .slice A' gEdges.length c') (W := w)
  obtain ⟨W1, hW1⟩ : ∃ W1, W1 = w.alloc (.cells #[a, .slice A' gEdges.length c'] 38) := ⟨_, rfl⟩
  rw [← hW1] at hB hG
  have HB1 := Lib.hid hB; have HG := Lib.hid hG; have HW1 := Lib.hid hW1
  have HV := Lib.hid (hv.keep hB)
  have HE := Lib.hid (Sl.keep hg.2 hB)
  have hmk := (show ∀ W : World, (Instr.makeSlice 41 (.int .i64 2) (.int .i64 2)).run Tryz.prog W = .ok (.slice (some ⟨W.heap.size, 0, none⟩) 2 2) (W.alloc (.cells (madeCells #[.bool false, .slice none 0 0] (2 * 2)) 47)) from intp_make _ Tryz.underlying41 2 (by omega))
  obtain ⟨i0, hi, hz0, hz1, hz2⟩ := info_parts info_Int
  have HI := Lib.hid hi; have HZ1 := Lib.hid hz1
  have HBA := Lib.hid (show ∀ (W : World) o, Below W.heap.size W (W.alloc o) from fun W o => (Below.refl W.heap.size W).alloc (Nat.le_refl _) o)
  clear hv hg hB hG hW1 hi hz0 hz1 hz2
  rw [show gEdges.length = 2 from rfl] at *
  simp only [List.length_cons, List.length_nil] at *
  have HM := Lib.hid (Own.made_int (w := W1) (N := 2) (Below.refl _ _) (by omega))
  go_enter Tryz.func62, Tryz.ntmps62
  go_upto_region 1 with fail
  rw [← HW1.out]
  obtain ⟨Pg, hP⟩ : ∃ X, X = w.heap.size := ⟨_, rfl⟩
  rw [← hP] at HG
  rw [← hP]
  clear hP HW1
  go_wp2_with fail
  obtain ⟨R, hR⟩ : ∃ R, R = W1.heap.size := ⟨_, rfl⟩
  rw [← hR] at HM
  rw [← hR]
  clear hR hmk
  obtain ⟨V0, hV0⟩ : ∃ V, V = W1.alloc (.cells (madeCells #[.bool false, .slice none 0 0] (2 * 2)) 47) := ⟨_, rfl⟩
  rw [← hV0] at HM
  have hV0' : V0 = W1.alloc (.cells (madeCells #[.bool false, .slice none 0 0] 4) 47) := hV0
  rw [← hV0']
  have HO0 := Lib.hid (show Own eInt W1 (.slice (some ⟨R, 0, none⟩) 2 2) [(0, [.bool false, .slice none 0 0]), (0, [.bool false, .slice none 0 0])] V0 from HM.out)
  clear hV0 hV0' HM
  obtain ⟨e0, e1, hO⟩ : ∃ e0 e1 : List Value, Own eInt W1 (.slice (some ⟨R, 0, none⟩) 2 2) [(0, e0), (0, e1)] V0 := ⟨_, _, HO0.out⟩
  have HO := Lib.hid hO
  clear HO0 hO
  refine wp_loop_rounds 3 ?_
  rw [rounds_succ]
  obtain ⟨s, A, m, k, q0, q1, hI⟩ := vp_cell (HV.out.keep HO.out.below) (i := 0) rfl
  have q0 : V0.cell? ⟨g, o, none⟩ = some (.bool s) := q0
  have q1 : V0.cell? ⟨g, o + 1, none⟩ = some (.slice A m k) := q1
  have HIp := Lib.hid hI
  clear hI
  go_upto_region 5 with fail
  have HX := Lib.hid (IBox.new HIp.out)
  have HRX := Lib.hid (show R ≠ V0.heap.size from by have := (HO.out.1.lt R rfl).2; omega)
  have HO1 := Lib.hid (HO.out.keep (HBA.out V0 (.cells #[.bool s, .slice A m k] 47)))
  obtain ⟨Vx0, hW⟩ : ∃ V, V = V0.alloc (.cells #[.bool s, .slice A m k] 47) := ⟨_, rfl⟩
  obtain ⟨X0, hX⟩ : ∃ X, X = V0.heap.size := ⟨_, rfl⟩
  rw [← hW, ← hX] at HX
  rw [← hX] at HRX
  rw [← hW] at HO1
  rw [← hW, ← hX]
  clear hW hX q0 q1 HIp HO
  have HO := Lib.hid HO1.out
  clear HO1
  obtain ⟨-, g0, g1⟩ := HG.out.keep HO.out.below
  obtain ⟨bE, oE, uE, hA, -, r0, hu⟩ := sl_row_at (Sl.keep HE.out HO.out.below) (i := 0) (z := [0, 1, 1]) rfl
  rw [hA] at g1
  rw [Nat.add_zero] at r0
  obtain ⟨AE, cE, hE2, -, -⟩ := Sl.len hu
  rw [hE2] at r0 hu
  obtain ⟨bF, oF, hF, -, f9⟩ := np_at hu (i := 0) rfl
  rw [hF] at r0 hu
  have HU := Lib.hid hu
  simp only [List.length_cons, List.length_nil] at *
  clear f9 hu hE2 hF hA
  go_wp2_with fail
  clear g0 g1 r0
  refine wp_loop_rounds 4 ?_
  rw [rounds_succ]
  obtain ⟨bG, oG, hF, -, f9⟩ := np_at HU.out (i := 0) rfl
  injection hF with hF; injection hF with ea eb; subst ea eb
  rw [Nat.add_zero] at f9
  go_upto_region 8 with fail
  clear f9
  obtain ⟨cu, cv, cq, p0, p1, -, -, pI, pe⟩ := own_int_cell HO.out (i := 0) (by simp)
  have ec : (0 : Int) = cq := congrArg Prod.fst (Option.some.inj pe)
  subst ec
  have HRl := Lib.hid (HO.out.1.lt R rfl).2
  have HC0 := Lib.hid (show Vx0.cell? ⟨R, 0 + 0 * 2, none⟩ = some cu from p0)
  have HC1 := Lib.hid (show Vx0.cell? ⟨R, 0 + 0 * 2 + 1, none⟩ = some cv from p1)
  have HCI := Lib.hid pI
  obtain ⟨sq, aq, nq, cq, zl, z0, z1, -, -, zi⟩ := HX.out
  have HZl := Lib.hid zl; have HE0 := Lib.hid z0; have HE1 := Lib.hid z1; have HEI := Lib.hid zi
  clear p0 p1 pI pe zl z0 z1 zi
  refine wp_region_tail 9 [(0, 30, VC (.slice (some ⟨R, 0, none⟩) 2 2)), (1, 31, VC (.int .i64 0)), (2, 32, VC (.slice (some ⟨R, 0, none⟩) 2 2)), (3, 33, VC (.int .i64 0)), (4, 34, VC (.pointer (some ⟨R, 0 + 0 * 2, none⟩))), (5, 35, VI 0), (6, 36, VI 1), (7, 37, VI (0 + 1)), (8, 38, VC (.pointer (some ⟨R, 0 + 0 * 2, none⟩)))] (fun _ => True) [30, 31, 32, 33, 34, 35, 36, 37, 38] (by kernel_rfl) (by kernel_rfl) (by kernel_rfl) (by kernel_rfl) (by kernel_rfl) ⟨Keeps.vc _, Keeps.vc _, Keeps.vc _, Keeps.vc _, Keeps.vc _, Keeps.vi _, Keeps.vi _, Keeps.vi _, Keeps.vc _, trivial⟩ (fun _ _ _ _ _ => trivial) trivial (by decide) (forall_lt _ ⟨?_, ?_, ?_, ?_, ?_, ?_, ?_, ?_, ?_, trivial⟩) ?_
  · exact .of rfl rfl fun y W hB hE hV hU => .move rfl (fr_out (v := (.slice (some ⟨R, 0, none⟩) 2 2)) (by kernel_rfl) (by kernel_rfl)) rfl
  · exact .of rfl rfl fun y W hB hE hV hU => .move rfl (fr_out (v := (.int .i64 0)) (by kernel_rfl) (by kernel_rfl)) rfl
  · exact .of rfl rfl fun y W hB hE hV hU => .move rfl (fr_out (v := (.slice (some ⟨R, 0, none⟩) 2 2)) (by kernel_rfl) (by kernel_rfl)) rfl
  · exact .of rfl rfl fun y W hB hE hV hU => .move rfl (fr_out (v := (.int .i64 0)) (by kernel_rfl) (by kernel_rfl)) rfl
  · exact .of rfl rfl fun y W hB hE hV hU => .rowAt Tryz.underlying41 HI.out HZ1.out rfl ((fr_in (by kernel_rfl)).trans (hget hV 2 rfl (by kernel_rfl))) ((fr_in (by kernel_rfl)).trans (hget hV 3 rfl (by kernel_rfl))) (by decide)
  · exact .of rfl rfl fun y W hB hE hV hU => .loadI' hB HRl.out HC0.out HC1.out HCI.out rfl ((fr_in (by kernel_rfl)).trans (hget hV 4 rfl (by kernel_rfl)))
  · exact .of rfl rfl fun y W hB hE hV hU => .loadI' hB HZl.out HE0.out HE1.out HEI.out rfl (fr_out (v := (.pointer (some ⟨X0, 0, none⟩))) (by kernel_rfl) (by kernel_rfl))
  · exact .of rfl rfl fun y W hB hE hV hU => by obtain ⟨u5, v5, e5, h5⟩ := hget hV 5 rfl (by kernel_rfl); obtain ⟨u6, v6, e6, h6⟩ := hget hV 6 rfl (by kernel_rfl); exact .call Tryz.func55 (by kernel_rfl) rfl rfl rfl (map_two ((fr_in (by kernel_rfl)).trans e5) ((fr_in (by kernel_rfl)).trans e6)) (cAdd (j := 1) (k := 1) h5 h6 (by unfold Wn; decide) (by unfold Wn; decide) (by omega))
  · exact .of rfl rfl fun y W hB hE hV hU => .rowAt Tryz.underlying41 HI.out HZ1.out rfl ((fr_in (by kernel_rfl)).trans (hget hV 0 rfl (by kernel_rfl))) ((fr_in (by kernel_rfl)).trans (hget hV 1 rfl (by kernel_rfl))) (by decide)
  intro y W5 hB hE hV
  obtain ⟨uS, vS, eS, hS⟩ : VI (0 + 1) (y 37) W5 := hend hV 7 rfl
  rw [show (0 : Int) + 1 = 1 from by decide] at hS
  have eP : y 38 = .pointer (some ⟨R, 0, none⟩) := hend hV 8 rfl
  have HO1 := Lib.hid (HO.out.keep hB)
  have HX1 := Lib.hid (HX.out.keep hB)
  have HU1 := Lib.hid (Sl.keep HU.out hB)
  clear hB hE hV HO HX HU HRl HC0 HC1 HCI HZl HE0 HE1 HEI
  generalize hact : fr _ _ y = act
  simp only [fr, putAll, List.foldl_cons, List.foldl_nil, List.setIfInBounds_toArray, List.set_cons_zero, List.set_cons_succ, eS, eP] at hact
  subst hact
  clear eS eP
  show wpList _ _ _ [_] _ _
  obtain ⟨cu, cv, cq, p0, p1, f0, f1, -, -⟩ := own_int_cell HO1.out (i := 0) (by simp)
  have p0 : W5.cell? ⟨R, 0, none⟩ = some cu := p0
  have p1 : W5.cell? ⟨R, 1, none⟩ = some cv := p1
  have f0 : W5.frozen? ⟨R, 0, none⟩ = false := f0
  have f1 : W5.frozen? ⟨R, 1, none⟩ = false := f1
  have HS := Lib.hid (own_int_set HO1.out (i := 0) (by simp) hS)
  obtain ⟨aS, cS, rfl, rfl, -⟩ := hS
  have HXS := Lib.hid (HX1.out.row (j := 0) (s := sgB (1)) (v := .slice aS (lnW (1)) cS) HRX.out (HO1.out.2.2.2 R rfl))
  have HUS := Lib.hid (np_alt HU1.out (by decide) (HO1.out.2.2.2 R rfl) (Alt.two (g := R) (k := 0) (j := 1) (u := .bool (sgB (1))) (v := .slice aS (lnW (1)) cS)))
  clear HO1 HX1 HU1
  generalize sgB (1) = s5 at *
  generalize lnW (1) = n5 at *
  go_wp2_with fail
  clear p0 p1 f0 f1
  obtain ⟨Vn00, hW⟩ : ∃ V, V = (W5.setCell ⟨R, 0, none⟩ (.bool s5)).setCell ⟨R, 1, none⟩ (.slice aS n5 cS) := ⟨_, rfl⟩
  have HX := Lib.hid (show IBox Vn00 X0 1 from by rw [hW]; exact HXS.out)
  have HU := Lib.hid (show NP [0, 1, 1] (.slice (some ⟨bF, oF, none⟩) 3 cE) Vn00 from by rw [hW]; exact HUS.out)
  obtain ⟨e0, hO⟩ : ∃ e0 : List Value, Own eInt W1 (.slice (some ⟨R, 0, none⟩) 2 2) [(1, e0), (0, e1)] Vn00 := ⟨_, by rw [hW]; exact HS.out⟩
  have HO := Lib.hid hO
  rw [← hW]
  clear hW hO HS HXS HUS
  rw [rounds_succ]
  obtain ⟨bG, oG, hF, -, f9⟩ := np_at HU.out (i := 1) rfl
  injection hF with hF; injection hF with ea eb; subst ea eb
  go_upto_region 8 with fail
  clear f9
  obtain ⟨cu, cv, cq, p0, p1, -, -, pI, pe⟩ := own_int_cell HO.out (i := 1) (by simp)
  have ec : (0 : Int) = cq := congrArg Prod.fst (Option.some.inj pe)
  subst ec
  have HRl := Lib.hid (HO.out.1.lt R rfl).2
  have HC0 := Lib.hid (show Vn00.cell? ⟨R, 0 + 1 * 2, none⟩ = some cu from p0)
  have HC1 := Lib.hid (show Vn00.cell? ⟨R, 0 + 1 * 2 + 1, none⟩ = some cv from p1)
  have HCI := Lib.hid pI
  obtain ⟨sq, aq, nq, cq, zl, z0, z1, -, -, zi⟩ := HX.out
  have HZl := Lib.hid zl; have HE0 := Lib.hid z0; have HE1 := Lib.hid z1; have HEI := Lib.hid zi
  clear p0 p1 pI pe zl z0 z1 zi
  refine wp_region_tail 9 [(0, 30, VC (.slice (some ⟨R, 0, none⟩) 2 2)), (1, 31, VC (.int .i64 1)), (2, 32, VC (.slice (some ⟨R, 0, none⟩) 2 2)), (3, 33, VC (.int .i64 1)), (4, 34, VC (.pointer (some ⟨R, 0 + 1 * 2, none⟩))), (5, 35, VI 0), (6, 36, VI 1), (7, 37, VI (0 + 1)), (8, 38, VC (.pointer (some ⟨R, 0 + 1 * 2, none⟩)))] (fun _ => True) [30, 31, 32, 33, 34, 35, 36, 37, 38] (by kernel_rfl) (by kernel_rfl) (by kernel_rfl) (by kernel_rfl) (by kernel_rfl) ⟨Keeps.vc _, Keeps.vc _, Keeps.vc _, Keeps.vc _, Keeps.vc _, Keeps.vi _, Keeps.vi _, Keeps.vi _, Keeps.vc _, trivial⟩ (fun _ _ _ _ _ => trivial) trivial (by decide) (forall_lt _ ⟨?_, ?_, ?_, ?_, ?_, ?_, ?_, ?_, ?_, trivial⟩) ?_
  · exact .of rfl rfl fun y W hB hE hV hU => .move rfl (fr_out (v := (.slice (some ⟨R, 0, none⟩) 2 2)) (by kernel_rfl) (by kernel_rfl)) rfl
  · exact .of rfl rfl fun y W hB hE hV hU => .move rfl (fr_out (v := (.int .i64 1)) (by kernel_rfl) (by kernel_rfl)) rfl
  · exact .of rfl rfl fun y W hB hE hV hU => .move rfl (fr_out (v := (.slice (some ⟨R, 0, none⟩) 2 2)) (by kernel_rfl) (by kernel_rfl)) rfl
  · exact .of rfl rfl fun y W hB hE hV hU => .move rfl (fr_out (v := (.int .i64 1)) (by kernel_rfl) (by kernel_rfl)) rfl
  · exact .of rfl rfl fun y W hB hE hV hU => .rowAt Tryz.underlying41 HI.out HZ1.out rfl ((fr_in (by kernel_rfl)).trans (hget hV 2 rfl (by kernel_rfl))) ((fr_in (by kernel_rfl)).trans (hget hV 3 rfl (by kernel_rfl))) (by decide)
  · exact .of rfl rfl fun y W hB hE hV hU => .loadI' hB HRl.out HC0.out HC1.out HCI.out rfl ((fr_in (by kernel_rfl)).trans (hget hV 4 rfl (by kernel_rfl)))
  · exact .of rfl rfl fun y W hB hE hV hU => .loadI' hB HZl.out HE0.out HE1.out HEI.out rfl (fr_out (v := (.pointer (some ⟨X0, 0, none⟩))) (by kernel_rfl) (by kernel_rfl))
  · exact .of rfl rfl fun y W hB hE hV hU => by obtain ⟨u5, v5, e5, h5⟩ := hget hV 5 rfl (by kernel_rfl); obtain ⟨u6, v6, e6, h6⟩ := hget hV 6 rfl (by kernel_rfl); exact .call Tryz.func55 (by kernel_rfl) rfl rfl rfl (map_two ((fr_in (by kernel_rfl)).trans e5) ((fr_in (by kernel_rfl)).trans e6)) (cAdd (j := 1) (k := 1) h5 h6 (by unfold Wn; decide) (by unfold Wn; decide) (by omega))
  · exact .of rfl rfl fun y W hB hE hV hU => .rowAt Tryz.underlying41 HI.out HZ1.out rfl ((fr_in (by kernel_rfl)).trans (hget hV 0 rfl (by kernel_rfl))) ((fr_in (by kernel_rfl)).trans (hget hV 1 rfl (by kernel_rfl))) (by decide)
  intro y W5 hB hE hV
  obtain ⟨uS, vS, eS, hS⟩ : VI (0 + 1) (y 37) W5 := hend hV 7 rfl
  rw [show (0 : Int) + 1 = 1 from by decide] at hS
  have eP : y 38 = .pointer (some ⟨R, 2, none⟩) := hend hV 8 rfl
  have HO1 := Lib.hid (HO.out.keep hB)
  have HX1 := Lib.hid (HX.out.keep hB)
  have HU1 := Lib.hid (Sl.keep HU.out hB)
  clear hB hE hV HO HX HU HRl HC0 HC1 HCI HZl HE0 HE1 HEI
  generalize hact : fr _ _ y = act
  simp only [fr, putAll, List.foldl_cons, List.foldl_nil, List.setIfInBounds_toArray, List.set_cons_zero, List.set_cons_succ, eS, eP] at hact
  subst hact
  clear eS eP
  show wpList _ _ _ [_] _ _
  obtain ⟨cu, cv, cq, p0, p1, f0, f1, -, -⟩ := own_int_cell HO1.out (i := 1) (by simp)
  have p0 : W5.cell? ⟨R, 2, none⟩ = some cu := p0
  have p1 : W5.cell? ⟨R, 3, none⟩ = some cv := p1
  have f0 : W5.frozen? ⟨R, 2, none⟩ = false := f0
  have f1 : W5.frozen? ⟨R, 3, none⟩ = false := f1
  have HS := Lib.hid (own_int_set HO1.out (i := 1) (by simp) hS)
  obtain ⟨aS, cS, rfl, rfl, -⟩ := hS
  have HXS := Lib.hid (HX1.out.row (j := 2) (s := sgB (1)) (v := .slice aS (lnW (1)) cS) HRX.out (HO1.out.2.2.2 R rfl))
  have HUS := Lib.hid (np_alt HU1.out (by decide) (HO1.out.2.2.2 R rfl) (Alt.two (g := R) (k := 2) (j := 3) (u := .bool (sgB (1))) (v := .slice aS (lnW (1)) cS)))
  clear HO1 HX1 HU1
  generalize sgB (1) = s5 at *
  generalize lnW (1) = n5 at *
  go_wp2_with fail
  clear p0 p1 f0 f1
  obtain ⟨Vn01, hW⟩ : ∃ V, V = (W5.setCell ⟨R, 2, none⟩ (.bool s5)).setCell ⟨R, 3, none⟩ (.slice aS n5 cS) := ⟨_, rfl⟩
  have HX := Lib.hid (show IBox Vn01 X0 1 from by rw [hW]; exact HXS.out)
  have HU := Lib.hid (show NP [0, 1, 1] (.slice (some ⟨bF, oF, none⟩) 3 cE) Vn01 from by rw [hW]; exact HUS.out)
  obtain ⟨e1, hO⟩ : ∃ e1 : List Value, Own eInt W1 (.slice (some ⟨R, 0, none⟩) 2 2) [(1, e0), (1, e1)] Vn01 := ⟨_, by rw [hW]; exact HS.out⟩
  have HO := Lib.hid hO
  rw [← hW]
  clear hW hO HS HXS HUS
  rw [rounds_succ]
  obtain ⟨bG, oG, hF, -, f9⟩ := np_at HU.out (i := 2) rfl
  injection hF with hF; injection hF with ea eb; subst ea eb
  go_upto_region 8 with fail
  clear f9
  obtain ⟨cu, cv, cq, p0, p1, -, -, pI, pe⟩ := own_int_cell HO.out (i := 1) (by simp)
  have ec : (1 : Int) = cq := congrArg Prod.fst (Option.some.inj pe)
  subst ec
  have HRl := Lib.hid (HO.out.1.lt R rfl).2
  have HC0 := Lib.hid (show Vn01.cell? ⟨R, 0 + 1 * 2, none⟩ = some cu from p0)
  have HC1 := Lib.hid (show Vn01.cell? ⟨R, 0 + 1 * 2 + 1, none⟩ = some cv from p1)
  have HCI := Lib.hid pI
  obtain ⟨sq, aq, nq, cq, zl, z0, z1, -, -, zi⟩ := HX.out
  have HZl := Lib.hid zl; have HE0 := Lib.hid z0; have HE1 := Lib.hid z1; have HEI := Lib.hid zi
  clear p0 p1 pI pe zl z0 z1 zi
  refine wp_region_tail 9 [(0, 30, VC (.slice (some ⟨R, 0, none⟩) 2 2)), (1, 31, VC (.int .i64 1)), (2, 32, VC (.slice (some ⟨R, 0, none⟩) 2 2)), (3, 33, VC (.int .i64 1)), (4, 34, VC (.pointer (some ⟨R, 0 + 1 * 2, none⟩))), (5, 35, VI 1), (6, 36, VI 1), (7, 37, VI (1 + 1)), (8, 38, VC (.pointer (some ⟨R, 0 + 1 * 2, none⟩)))] (fun _ => True) [30, 31, 32, 33, 34, 35, 36, 37, 38] (by kernel_rfl) (by kernel_rfl) (by kernel_rfl) (by kernel_rfl) (by kernel_rfl) ⟨Keeps.vc _, Keeps.vc _, Keeps.vc _, Keeps.vc _, Keeps.vc _, Keeps.vi _, Keeps.vi _, Keeps.vi _, Keeps.vc _, trivial⟩ (fun _ _ _ _ _ => trivial) trivial (by decide) (forall_lt _ ⟨?_, ?_, ?_, ?_, ?_, ?_, ?_, ?_, ?_, trivial⟩) ?_
  · exact .of rfl rfl fun y W hB hE hV hU => .move rfl (fr_out (v := (.slice (some ⟨R, 0, none⟩) 2 2)) (by kernel_rfl) (by kernel_rfl)) rfl
  · exact .of rfl rfl fun y W hB hE hV hU => .move rfl (fr_out (v := (.int .i64 1)) (by kernel_rfl) (by kernel_rfl)) rfl
  · exact .of rfl rfl fun y W hB hE hV hU => .move rfl (fr_out (v := (.slice (some ⟨R, 0, none⟩) 2 2)) (by kernel_rfl) (by kernel_rfl)) rfl
  · exact .of rfl rfl fun y W hB hE hV hU => .move rfl (fr_out (v := (.int .i64 1)) (by kernel_rfl) (by kernel_rfl)) rfl
  · exact .of rfl rfl fun y W hB hE hV hU => .rowAt Tryz.underlying41 HI.out HZ1.out rfl ((fr_in (by kernel_rfl)).trans (hget hV 2 rfl (by kernel_rfl))) ((fr_in (by kernel_rfl)).trans (hget hV 3 rfl (by kernel_rfl))) (by decide)
  · exact .of rfl rfl fun y W hB hE hV hU => .loadI' hB HRl.out HC0.out HC1.out HCI.out rfl ((fr_in (by kernel_rfl)).trans (hget hV 4 rfl (by kernel_rfl)))
  · exact .of rfl rfl fun y W hB hE hV hU => .loadI' hB HZl.out HE0.out HE1.out HEI.out rfl (fr_out (v := (.pointer (some ⟨X0, 0, none⟩))) (by kernel_rfl) (by kernel_rfl))
  · exact .of rfl rfl fun y W hB hE hV hU => by obtain ⟨u5, v5, e5, h5⟩ := hget hV 5 rfl (by kernel_rfl); obtain ⟨u6, v6, e6, h6⟩ := hget hV 6 rfl (by kernel_rfl); exact .call Tryz.func55 (by kernel_rfl) rfl rfl rfl (map_two ((fr_in (by kernel_rfl)).trans e5) ((fr_in (by kernel_rfl)).trans e6)) (cAdd (j := 1) (k := 1) h5 h6 (by unfold Wn; decide) (by unfold Wn; decide) (by omega))
  · exact .of rfl rfl fun y W hB hE hV hU => .rowAt Tryz.underlying41 HI.out HZ1.out rfl ((fr_in (by kernel_rfl)).trans (hget hV 0 rfl (by kernel_rfl))) ((fr_in (by kernel_rfl)).trans (hget hV 1 rfl (by kernel_rfl))) (by decide)
  intro y W5 hB hE hV
  obtain ⟨uS, vS, eS, hS⟩ : VI (1 + 1) (y 37) W5 := hend hV 7 rfl
  rw [show (1 : Int) + 1 = 2 from by decide] at hS
  have eP : y 38 = .pointer (some ⟨R, 2, none⟩) := hend hV 8 rfl
  have HO1 := Lib.hid (HO.out.keep hB)
  have HX1 := Lib.hid (HX.out.keep hB)
  have HU1 := Lib.hid (Sl.keep HU.out hB)
  clear hB hE hV HO HX HU HRl HC0 HC1 HCI HZl HE0 HE1 HEI
  generalize hact : fr _ _ y = act
  simp only [fr, putAll, List.foldl_cons, List.foldl_nil, List.setIfInBounds_toArray, List.set_cons_zero, List.set_cons_succ, eS, eP] at hact
  subst hact
  clear eS eP
  show wpList _ _ _ [_] _ _
  obtain ⟨cu, cv, cq, p0, p1, f0, f1, -, -⟩ := own_int_cell HO1.out (i := 1) (by simp)
  have p0 : W5.cell? ⟨R, 2, none⟩ = some cu := p0
  have p1 : W5.cell? ⟨R, 3, none⟩ = some cv := p1
  have f0 : W5.frozen? ⟨R, 2, none⟩ = false := f0
  have f1 : W5.frozen? ⟨R, 3, none⟩ = false := f1
  have HS := Lib.hid (own_int_set HO1.out (i := 1) (by simp) hS)
  obtain ⟨aS, cS, rfl, rfl, -⟩ := hS
  have HXS := Lib.hid (HX1.out.row (j := 2) (s := sgB (2)) (v := .slice aS (lnW (2)) cS) HRX.out (HO1.out.2.2.2 R rfl))
  have HUS := Lib.hid (np_alt HU1.out (by decide) (HO1.out.2.2.2 R rfl) (Alt.two (g := R) (k := 2) (j := 3) (u := .bool (sgB (2))) (v := .slice aS (lnW (2)) cS)))
  clear HO1 HX1 HU1
  generalize sgB (2) = s5 at *
  generalize lnW (2) = n5 at *
  go_wp2_with fail
  clear p0 p1 f0 f1
  obtain ⟨Vn02, hW⟩ : ∃ V, V = (W5.setCell ⟨R, 2, none⟩ (.bool s5)).setCell ⟨R, 3, none⟩ (.slice aS n5 cS) := ⟨_, rfl⟩
  have HX := Lib.hid (show IBox Vn02 X0 1 from by rw [hW]; exact HXS.out)
  have HU := Lib.hid (show NP [0, 1, 1] (.slice (some ⟨bF, oF, none⟩) 3 cE) Vn02 from by rw [hW]; exact HUS.out)
  obtain ⟨e1, hO⟩ : ∃ e1 : List Value, Own eInt W1 (.slice (some ⟨R, 0, none⟩) 2 2) [(1, e0), (2, e1)] Vn02 := ⟨_, by rw [hW]; exact HS.out⟩
  have HO := Lib.hid hO
  rw [← hW]
  clear hW hO HS HXS HUS
  rw [rounds_succ]
  go_wp2_with fail
  clear HX HRX HU
  rw [rounds_succ]
  obtain ⟨s, A, m, k, q0, q1, hI⟩ := vp_cell (HV.out.keep HO.out.below) (i := 1) rfl
  have q0 : Vn02.cell? ⟨g, o + 2, none⟩ = some (.bool s) := q0
  have q1 : Vn02.cell? ⟨g, o + 2 + 1, none⟩ = some (.slice A m k) := q1
  have HIp := Lib.hid hI
  clear hI
  go_upto_region 5 with fail
  have HX := Lib.hid (IBox.new HIp.out)
  have HRX := Lib.hid (show R ≠ Vn02.heap.size from by have := (HO.out.1.lt R rfl).2; omega)
  have HO1 := Lib.hid (HO.out.keep (HBA.out Vn02 (.cells #[.bool s, .slice A m k] 47)))
  obtain ⟨Vx1, hW⟩ : ∃ V, V = Vn02.alloc (.cells #[.bool s, .slice A m k] 47) := ⟨_, rfl⟩
  obtain ⟨X1, hX⟩ : ∃ X, X = Vn02.heap.size := ⟨_, rfl⟩
  rw [← hW, ← hX] at HX
  rw [← hX] at HRX
  rw [← hW] at HO1
  rw [← hW, ← hX]
  clear hW hX q0 q1 HIp HO
  have HO := Lib.hid HO1.out
  clear HO1
  obtain ⟨-, g0, g1⟩ := HG.out.keep HO.out.below
  obtain ⟨bE, oE, uE, hA, -, r0, hu⟩ := sl_row_at (Sl.keep HE.out HO.out.below) (i := 1) (z := [0, 0, 0]) rfl
  rw [hA] at g1
  obtain ⟨AE, cE, hE2, -, -⟩ := Sl.len hu
  rw [hE2] at r0 hu
  obtain ⟨bF, oF, hF, -, f9⟩ := np_at hu (i := 0) rfl
  rw [hF] at r0 hu
  have HU := Lib.hid hu
  simp only [List.length_cons, List.length_nil] at *
  clear f9 hu hE2 hF hA
  go_wp2_with fail
  clear g0 g1 r0
  refine wp_loop_rounds 4 ?_
  rw [rounds_succ]
  obtain ⟨bG, oG, hF, -, f9⟩ := np_at HU.out (i := 0) rfl
  injection hF with hF; injection hF with ea eb; subst ea eb
  rw [Nat.add_zero] at f9
  go_upto_region 8 with fail
  clear f9
  obtain ⟨cu, cv, cq, p0, p1, -, -, pI, pe⟩ := own_int_cell HO.out (i := 0) (by simp)
  have ec : (1 : Int) = cq := congrArg Prod.fst (Option.some.inj pe)
  subst ec
  have HRl := Lib.hid (HO.out.1.lt R rfl).2
  have HC0 := Lib.hid (show Vx1.cell? ⟨R, 0 + 0 * 2, none⟩ = some cu from p0)
  have HC1 := Lib.hid (show Vx1.cell? ⟨R, 0 + 0 * 2 + 1, none⟩ = some cv from p1)
  have HCI := Lib.hid pI
  obtain ⟨sq, aq, nq, cq, zl, z0, z1, -, -, zi⟩ := HX.out
  have HZl := Lib.hid zl; have HE0 := Lib.hid z0; have HE1 := Lib.hid z1; have HEI := Lib.hid zi
  clear p0 p1 pI pe zl z0 z1 zi
  refine wp_region_tail 9 [(0, 30, VC (.slice (some ⟨R, 0, none⟩) 2 2)), (1, 31, VC (.int .i64 0)), (2, 32, VC (.slice (some ⟨R, 0, none⟩) 2 2)), (3, 33, VC (.int .i64 0)), (4, 34, VC (.pointer (some ⟨R, 0 + 0 * 2, none⟩))), (5, 35, VI 1), (6, 36, VI 0), (7, 37, VI (1 + 0)), (8, 38, VC (.pointer (some ⟨R, 0 + 0 * 2, none⟩)))] (fun _ => True) [30, 31, 32, 33, 34, 35, 36, 37, 38] (by kernel_rfl) (by kernel_rfl) (by kernel_rfl) (by kernel_rfl) (by kernel_rfl) ⟨Keeps.vc _, Keeps.vc _, Keeps.vc _, Keeps.vc _, Keeps.vc _, Keeps.vi _, Keeps.vi _, Keeps.vi _, Keeps.vc _, trivial⟩ (fun _ _ _ _ _ => trivial) trivial (by decide) (forall_lt _ ⟨?_, ?_, ?_, ?_, ?_, ?_, ?_, ?_, ?_, trivial⟩) ?_
  · exact .of rfl rfl fun y W hB hE hV hU => .move rfl (fr_out (v := (.slice (some ⟨R, 0, none⟩) 2 2)) (by kernel_rfl) (by kernel_rfl)) rfl
  · exact .of rfl rfl fun y W hB hE hV hU => .move rfl (fr_out (v := (.int .i64 0)) (by kernel_rfl) (by kernel_rfl)) rfl
  · exact .of rfl rfl fun y W hB hE hV hU => .move rfl (fr_out (v := (.slice (some ⟨R, 0, none⟩) 2 2)) (by kernel_rfl) (by kernel_rfl)) rfl
  · exact .of rfl rfl fun y W hB hE hV hU => .move rfl (fr_out (v := (.int .i64 0)) (by kernel_rfl) (by kernel_rfl)) rfl
  · exact .of rfl rfl fun y W hB hE hV hU => .rowAt Tryz.underlying41 HI.out HZ1.out rfl ((fr_in (by kernel_rfl)).trans (hget hV 2 rfl (by kernel_rfl))) ((fr_in (by kernel_rfl)).trans (hget hV 3 rfl (by kernel_rfl))) (by decide)
  · exact .of rfl rfl fun y W hB hE hV hU => .loadI' hB HRl.out HC0.out HC1.out HCI.out rfl ((fr_in (by kernel_rfl)).trans (hget hV 4 rfl (by kernel_rfl)))
  · exact .of rfl rfl fun y W hB hE hV hU => .loadI' hB HZl.out HE0.out HE1.out HEI.out rfl (fr_out (v := (.pointer (some ⟨X1, 0, none⟩))) (by kernel_rfl) (by kernel_rfl))
  · exact .of rfl rfl fun y W hB hE hV hU => by obtain ⟨u5, v5, e5, h5⟩ := hget hV 5 rfl (by kernel_rfl); obtain ⟨u6, v6, e6, h6⟩ := hget hV 6 rfl (by kernel_rfl); exact .call Tryz.func55 (by kernel_rfl) rfl rfl rfl (map_two ((fr_in (by kernel_rfl)).trans e5) ((fr_in (by kernel_rfl)).trans e6)) (cAdd (j := 1) (k := 1) h5 h6 (by unfold Wn; decide) (by unfold Wn; decide) (by omega))
  · exact .of rfl rfl fun y W hB hE hV hU => .rowAt Tryz.underlying41 HI.out HZ1.out rfl ((fr_in (by kernel_rfl)).trans (hget hV 0 rfl (by kernel_rfl))) ((fr_in (by kernel_rfl)).trans (hget hV 1 rfl (by kernel_rfl))) (by decide)
  intro y W5 hB hE hV
  obtain ⟨uS, vS, eS, hS⟩ : VI (1 + 0) (y 37) W5 := hend hV 7 rfl
  rw [show (1 : Int) + 0 = 1 from by decide] at hS
  have eP : y 38 = .pointer (some ⟨R, 0, none⟩) := hend hV 8 rfl
  have HO1 := Lib.hid (HO.out.keep hB)
  have HX1 := Lib.hid (HX.out.keep hB)
  have HU1 := Lib.hid (Sl.keep HU.out hB)
  clear hB hE hV HO HX HU HRl HC0 HC1 HCI HZl HE0 HE1 HEI
  generalize hact : fr _ _ y = act
  simp only [fr, putAll, List.foldl_cons, List.foldl_nil, List.setIfInBounds_toArray, List.set_cons_zero, List.set_cons_succ, eS, eP] at hact
  subst hact
  clear eS eP
  show wpList _ _ _ [_] _ _
  obtain ⟨cu, cv, cq, p0, p1, f0, f1, -, -⟩ := own_int_cell HO1.out (i := 0) (by simp)
  have p0 : W5.cell? ⟨R, 0, none⟩ = some cu := p0
  have p1 : W5.cell? ⟨R, 1, none⟩ = some cv := p1
  have f0 : W5.frozen? ⟨R, 0, none⟩ = false := f0
  have f1 : W5.frozen? ⟨R, 1, none⟩ = false := f1
  have HS := Lib.hid (own_int_set HO1.out (i := 0) (by simp) hS)
  obtain ⟨aS, cS, rfl, rfl, -⟩ := hS
  have HXS := Lib.hid (HX1.out.row (j := 0) (s := sgB (1)) (v := .slice aS (lnW (1)) cS) HRX.out (HO1.out.2.2.2 R rfl))
  have HUS := Lib.hid (np_alt HU1.out (by decide) (HO1.out.2.2.2 R rfl) (Alt.two (g := R) (k := 0) (j := 1) (u := .bool (sgB (1))) (v := .slice aS (lnW (1)) cS)))
  clear HO1 HX1 HU1
  generalize sgB (1) = s5 at *
  generalize lnW (1) = n5 at *
  go_wp2_with fail
  clear p0 p1 f0 f1
  obtain ⟨Vn10, hW⟩ : ∃ V, V = (W5.setCell ⟨R, 0, none⟩ (.bool s5)).setCell ⟨R, 1, none⟩ (.slice aS n5 cS) := ⟨_, rfl⟩
  have HX := Lib.hid (show IBox Vn10 X1 0 from by rw [hW]; exact HXS.out)
  have HU := Lib.hid (show NP [0, 0, 0] (.slice (some ⟨bF, oF, none⟩) 3 cE) Vn10 from by rw [hW]; exact HUS.out)
  obtain ⟨e0, hO⟩ : ∃ e0 : List Value, Own eInt W1 (.slice (some ⟨R, 0, none⟩) 2 2) [(1, e0), (2, e1)] Vn10 := ⟨_, by rw [hW]; exact HS.out⟩
  have HO := Lib.hid hO
  rw [← hW]
  clear hW hO HS HXS HUS
  rw [rounds_succ]
  obtain ⟨bG, oG, hF, -, f9⟩ := np_at HU.out (i := 1) rfl
  injection hF with hF; injection hF with ea eb; subst ea eb
  go_upto_region 8 with fail
  clear f9
  obtain ⟨cu, cv, cq, p0, p1, -, -, pI, pe⟩ := own_int_cell HO.out (i := 0) (by simp)
  have ec : (1 : Int) = cq := congrArg Prod.fst (Option.some.inj pe)
  subst ec
  have HRl := Lib.hid (HO.out.1.lt R rfl).2
  have HC0 := Lib.hid (show Vn10.cell? ⟨R, 0 + 0 * 2, none⟩ = some cu from p0)
  have HC1 := Lib.hid (show Vn10.cell? ⟨R, 0 + 0 * 2 + 1, none⟩ = some cv from p1)
  have HCI := Lib.hid pI
  obtain ⟨sq, aq, nq, cq, zl, z0, z1, -, -, zi⟩ := HX.out
  have HZl := Lib.hid zl; have HE0 := Lib.hid z0; have HE1 := Lib.hid z1; have HEI := Lib.hid zi
  clear p0 p1 pI pe zl z0 z1 zi
  refine wp_region_tail 9 [(0, 30, VC (.slice (some ⟨R, 0, none⟩) 2 2)), (1, 31, VC (.int .i64 0)), (2, 32, VC (.slice (some ⟨R, 0, none⟩) 2 2)), (3, 33, VC (.int .i64 0)), (4, 34, VC (.pointer (some ⟨R, 0 + 0 * 2, none⟩))), (5, 35, VI 1), (6, 36, VI 0), (7, 37, VI (1 + 0)), (8, 38, VC (.pointer (some ⟨R, 0 + 0 * 2, none⟩)))] (fun _ => True) [30, 31, 32, 33, 34, 35, 36, 37, 38] (by kernel_rfl) (by kernel_rfl) (by kernel_rfl) (by kernel_rfl) (by kernel_rfl) ⟨Keeps.vc _, Keeps.vc _, Keeps.vc _, Keeps.vc _, Keeps.vc _, Keeps.vi _, Keeps.vi _, Keeps.vi _, Keeps.vc _, trivial⟩ (fun _ _ _ _ _ => trivial) trivial (by decide) (forall_lt _ ⟨?_, ?_, ?_, ?_, ?_, ?_, ?_, ?_, ?_, trivial⟩) ?_
  · exact .of rfl rfl fun y W hB hE hV hU => .move rfl (fr_out (v := (.slice (some ⟨R, 0, none⟩) 2 2)) (by kernel_rfl) (by kernel_rfl)) rfl
  · exact .of rfl rfl fun y W hB hE hV hU => .move rfl (fr_out (v := (.int .i64 0)) (by kernel_rfl) (by kernel_rfl)) rfl
  · exact .of rfl rfl fun y W hB hE hV hU => .move rfl (fr_out (v := (.slice (some ⟨R, 0, none⟩) 2 2)) (by kernel_rfl) (by kernel_rfl)) rfl
  · exact .of rfl rfl fun y W hB hE hV hU => .move rfl (fr_out (v := (.int .i64 0)) (by kernel_rfl) (by kernel_rfl)) rfl
  · exact .of rfl rfl fun y W hB hE hV hU => .rowAt Tryz.underlying41 HI.out HZ1.out rfl ((fr_in (by kernel_rfl)).trans (hget hV 2 rfl (by kernel_rfl))) ((fr_in (by kernel_rfl)).trans (hget hV 3 rfl (by kernel_rfl))) (by decide)
  · exact .of rfl rfl fun y W hB hE hV hU => .loadI' hB HRl.out HC0.out HC1.out HCI.out rfl ((fr_in (by kernel_rfl)).trans (hget hV 4 rfl (by kernel_rfl)))
  · exact .of rfl rfl fun y W hB hE hV hU => .loadI' hB HZl.out HE0.out HE1.out HEI.out rfl (fr_out (v := (.pointer (some ⟨X1, 0, none⟩))) (by kernel_rfl) (by kernel_rfl))
  · exact .of rfl rfl fun y W hB hE hV hU => by obtain ⟨u5, v5, e5, h5⟩ := hget hV 5 rfl (by kernel_rfl); obtain ⟨u6, v6, e6, h6⟩ := hget hV 6 rfl (by kernel_rfl); exact .call Tryz.func55 (by kernel_rfl) rfl rfl rfl (map_two ((fr_in (by kernel_rfl)).trans e5) ((fr_in (by kernel_rfl)).trans e6)) (cAdd (j := 1) (k := 1) h5 h6 (by unfold Wn; decide) (by unfold Wn; decide) (by omega))
  · exact .of rfl rfl fun y W hB hE hV hU => .rowAt Tryz.underlying41 HI.out HZ1.out rfl ((fr_in (by kernel_rfl)).trans (hget hV 0 rfl (by kernel_rfl))) ((fr_in (by kernel_rfl)).trans (hget hV 1 rfl (by kernel_rfl))) (by decide)
  intro y W5 hB hE hV
  obtain ⟨uS, vS, eS, hS⟩ : VI (1 + 0) (y 37) W5 := hend hV 7 rfl
  rw [show (1 : Int) + 0 = 1 from by decide] at hS
  have eP : y 38 = .pointer (some ⟨R, 0, none⟩) := hend hV 8 rfl
  have HO1 := Lib.hid (HO.out.keep hB)
  have HX1 := Lib.hid (HX.out.keep hB)
  have HU1 := Lib.hid (Sl.keep HU.out hB)
  clear hB hE hV HO HX HU HRl HC0 HC1 HCI HZl HE0 HE1 HEI
  generalize hact : fr _ _ y = act
  simp only [fr, putAll, List.foldl_cons, List.foldl_nil, List.setIfInBounds_toArray, List.set_cons_zero, List.set_cons_succ, eS, eP] at hact
  subst hact
  clear eS eP
  show wpList _ _ _ [_] _ _
  obtain ⟨cu, cv, cq, p0, p1, f0, f1, -, -⟩ := own_int_cell HO1.out (i := 0) (by simp)
  have p0 : W5.cell? ⟨R, 0, none⟩ = some cu := p0
  have p1 : W5.cell? ⟨R, 1, none⟩ = some cv := p1
  have f0 : W5.frozen? ⟨R, 0, none⟩ = false := f0
  have f1 : W5.frozen? ⟨R, 1, none⟩ = false := f1
  have HS := Lib.hid (own_int_set HO1.out (i := 0) (by simp) hS)
  obtain ⟨aS, cS, rfl, rfl, -⟩ := hS
  have HXS := Lib.hid (HX1.out.row (j := 0) (s := sgB (1)) (v := .slice aS (lnW (1)) cS) HRX.out (HO1.out.2.2.2 R rfl))
  have HUS := Lib.hid (np_alt HU1.out (by decide) (HO1.out.2.2.2 R rfl) (Alt.two (g := R) (k := 0) (j := 1) (u := .bool (sgB (1))) (v := .slice aS (lnW (1)) cS)))
  clear HO1 HX1 HU1
  generalize sgB (1) = s5 at *
  generalize lnW (1) = n5 at *
  go_wp2_with fail
  clear p0 p1 f0 f1
  obtain ⟨Vn11, hW⟩ : ∃ V, V = (W5.setCell ⟨R, 0, none⟩ (.bool s5)).setCell ⟨R, 1, none⟩ (.slice aS n5 cS) := ⟨_, rfl⟩
  have HX := Lib.hid (show IBox Vn11 X1 0 from by rw [hW]; exact HXS.out)
  have HU := Lib.hid (show NP [0, 0, 0] (.slice (some ⟨bF, oF, none⟩) 3 cE) Vn11 from by rw [hW]; exact HUS.out)
  obtain ⟨e0, hO⟩ : ∃ e0 : List Value, Own eInt W1 (.slice (some ⟨R, 0, none⟩) 2 2) [(1, e0), (2, e1)] Vn11 := ⟨_, by rw [hW]; exact HS.out⟩
  have HO := Lib.hid hO
  rw [← hW]
  clear hW hO HS HXS HUS
  rw [rounds_succ]
  obtain ⟨bG, oG, hF, -, f9⟩ := np_at HU.out (i := 2) rfl
  injection hF with hF; injection hF with ea eb; subst ea eb
  go_upto_region 8 with fail
  clear f9
  obtain ⟨cu, cv, cq, p0, p1, -, -, pI, pe⟩ := own_int_cell HO.out (i := 0) (by simp)
  have ec : (1 : Int) = cq := congrArg Prod.fst (Option.some.inj pe)
  subst ec
  have HRl := Lib.hid (HO.out.1.lt R rfl).2
  have HC0 := Lib.hid (show Vn11.cell? ⟨R, 0 + 0 * 2, none⟩ = some cu from p0)
  have HC1 := Lib.hid (show Vn11.cell? ⟨R, 0 + 0 * 2 + 1, none⟩ = some cv from p1)
  have HCI := Lib.hid pI
  obtain ⟨sq, aq, nq, cq, zl, z0, z1, -, -, zi⟩ := HX.out
  have HZl := Lib.hid zl; have HE0 := Lib.hid z0; have HE1 := Lib.hid z1; have HEI := Lib.hid zi
  clear p0 p1 pI pe zl z0 z1 zi
  refine wp_region_tail 9 [(0, 30, VC (.slice (some ⟨R, 0, none⟩) 2 2)), (1, 31, VC (.int .i64 0)), (2, 32, VC (.slice (some ⟨R, 0, none⟩) 2 2)), (3, 33, VC (.int .i64 0)), (4, 34, VC (.pointer (some ⟨R, 0 + 0 * 2, none⟩))), (5, 35, VI 1), (6, 36, VI 0), (7, 37, VI (1 + 0)), (8, 38, VC (.pointer (some ⟨R, 0 + 0 * 2, none⟩)))] (fun _ => True) [30, 31, 32, 33, 34, 35, 36, 37, 38] (by kernel_rfl) (by kernel_rfl) (by kernel_rfl) (by kernel_rfl) (by kernel_rfl) ⟨Keeps.vc _, Keeps.vc _, Keeps.vc _, Keeps.vc _, Keeps.vc _, Keeps.vi _, Keeps.vi _, Keeps.vi _, Keeps.vc _, trivial⟩ (fun _ _ _ _ _ => trivial) trivial (by decide) (forall_lt _ ⟨?_, ?_, ?_, ?_, ?_, ?_, ?_, ?_, ?_, trivial⟩) ?_
  · exact .of rfl rfl fun y W hB hE hV hU => .move rfl (fr_out (v := (.slice (some ⟨R, 0, none⟩) 2 2)) (by kernel_rfl) (by kernel_rfl)) rfl
  · exact .of rfl rfl fun y W hB hE hV hU => .move rfl (fr_out (v := (.int .i64 0)) (by kernel_rfl) (by kernel_rfl)) rfl
  · exact .of rfl rfl fun y W hB hE hV hU => .move rfl (fr_out (v := (.slice (some ⟨R, 0, none⟩) 2 2)) (by kernel_rfl) (by kernel_rfl)) rfl
  · exact .of rfl rfl fun y W hB hE hV hU => .move rfl (fr_out (v := (.int .i64 0)) (by kernel_rfl) (by kernel_rfl)) rfl
  · exact .of rfl rfl fun y W hB hE hV hU => .rowAt Tryz.underlying41 HI.out HZ1.out rfl ((fr_in (by kernel_rfl)).trans (hget hV 2 rfl (by kernel_rfl))) ((fr_in (by kernel_rfl)).trans (hget hV 3 rfl (by kernel_rfl))) (by decide)
  · exact .of rfl rfl fun y W hB hE hV hU => .loadI' hB HRl.out HC0.out HC1.out HCI.out rfl ((fr_in (by kernel_rfl)).trans (hget hV 4 rfl (by kernel_rfl)))
  · exact .of rfl rfl fun y W hB hE hV hU => .loadI' hB HZl.out HE0.out HE1.out HEI.out rfl (fr_out (v := (.pointer (some ⟨X1, 0, none⟩))) (by kernel_rfl) (by kernel_rfl))
  · exact .of rfl rfl fun y W hB hE hV hU => by obtain ⟨u5, v5, e5, h5⟩ := hget hV 5 rfl (by kernel_rfl); obtain ⟨u6, v6, e6, h6⟩ := hget hV 6 rfl (by kernel_rfl); exact .call Tryz.func55 (by kernel_rfl) rfl rfl rfl (map_two ((fr_in (by kernel_rfl)).trans e5) ((fr_in (by kernel_rfl)).trans e6)) (cAdd (j := 1) (k := 1) h5 h6 (by unfold Wn; decide) (by unfold Wn; decide) (by omega))
  · exact .of rfl rfl fun y W hB hE hV hU => .rowAt Tryz.underlying41 HI.out HZ1.out rfl ((fr_in (by kernel_rfl)).trans (hget hV 0 rfl (by kernel_rfl))) ((fr_in (by kernel_rfl)).trans (hget hV 1 rfl (by kernel_rfl))) (by decide)
  intro y W5 hB hE hV
  obtain ⟨uS, vS, eS, hS⟩ : VI (1 + 0) (y 37) W5 := hend hV 7 rfl
  rw [show (1 : Int) + 0 = 1 from by decide] at hS
  have eP : y 38 = .pointer (some ⟨R, 0, none⟩) := hend hV 8 rfl
  have HO1 := Lib.hid (HO.out.keep hB)
  have HX1 := Lib.hid (HX.out.keep hB)
  have HU1 := Lib.hid (Sl.keep HU.out hB)
  clear hB hE hV HO HX HU HRl HC0 HC1 HCI HZl HE0 HE1 HEI
  generalize hact : fr _ _ y = act
  simp only [fr, putAll, List.foldl_cons, List.foldl_nil, List.setIfInBounds_toArray, List.set_cons_zero, List.set_cons_succ, eS, eP] at hact
  subst hact
  clear eS eP
  show wpList _ _ _ [_] _ _
  obtain ⟨cu, cv, cq, p0, p1, f0, f1, -, -⟩ := own_int_cell HO1.out (i := 0) (by simp)
  have p0 : W5.cell? ⟨R, 0, none⟩ = some cu := p0
  have p1 : W5.cell? ⟨R, 1, none⟩ = some cv := p1
  have f0 : W5.frozen? ⟨R, 0, none⟩ = false := f0
  have f1 : W5.frozen? ⟨R, 1, none⟩ = false := f1
  have HS := Lib.hid (own_int_set HO1.out (i := 0) (by simp) hS)
  obtain ⟨aS, cS, rfl, rfl, -⟩ := hS
  have HXS := Lib.hid (HX1.out.row (j := 0) (s := sgB (1)) (v := .slice aS (lnW (1)) cS) HRX.out (HO1.out.2.2.2 R rfl))
  have HUS := Lib.hid (np_alt HU1.out (by decide) (HO1.out.2.2.2 R rfl) (Alt.two (g := R) (k := 0) (j := 1) (u := .bool (sgB (1))) (v := .slice aS (lnW (1)) cS)))
  clear HO1 HX1 HU1
  generalize sgB (1) = s5 at *
  generalize lnW (1) = n5 at *
  go_wp2_with fail
  clear p0 p1 f0 f1
  obtain ⟨Vn12, hW⟩ : ∃ V, V = (W5.setCell ⟨R, 0, none⟩ (.bool s5)).setCell ⟨R, 1, none⟩ (.slice aS n5 cS) := ⟨_, rfl⟩
  have HX := Lib.hid (show IBox Vn12 X1 0 from by rw [hW]; exact HXS.out)
  have HU := Lib.hid (show NP [0, 0, 0] (.slice (some ⟨bF, oF, none⟩) 3 cE) Vn12 from by rw [hW]; exact HUS.out)
  obtain ⟨e0, hO⟩ : ∃ e0 : List Value, Own eInt W1 (.slice (some ⟨R, 0, none⟩) 2 2) [(1, e0), (2, e1)] Vn12 := ⟨_, by rw [hW]; exact HS.out⟩
  have HO := Lib.hid hO
  rw [← hW]
  clear hW hO HS HXS HUS
  rw [rounds_succ]
  go_wp2_with fail
  clear HX HRX HU
  rw [rounds_succ]
  go_wp2_with fail
  go_ret
  exact ⟨_, rfl, Sl.vp HO.out.sl, HB1.out.trans (HO.out.below.mono HB1.out.size)⟩
set_option maxRecDepth 3000 in
set_option maxHeartbeats 4000000 in
theorem stepped_1 {a b v : Value} {w : World} (hg : GV gNames gEdges a b w) (hv : VP [1, 2] v w) : Calls Tryz.prog 62 #[.agg #[a, b], v] w (PostW (VP [7, 2]) w) := by
  obtain ⟨A, c, rfl, -, -⟩ := hv.len
  obtain ⟨g, o, s9, A9, m9, c9, rfl, -⟩ := hv.at (i := 0) rfl
  obtain ⟨A', c', rfl, -, -⟩ := hg.2.len
  have hB := (Below.refl w.heap.size w).alloc (Nat.le_refl _) (.cells #[a, .slice A' gEdges.length c'] 38)
  have hG := GBox.new (a := a) (b := .slice A' gEdges.length c') (W := w)
  obtain ⟨W1, hW1⟩ : ∃ W1, W1 = w.alloc (.cells #[a, .slice A' gEdges.length c'] 38) := ⟨_, rfl⟩
  rw [← hW1] at hB hG
  have HB1 := Lib.hid hB; have HG := Lib.hid hG; have HW1 := Lib.hid hW1
  have HV := Lib.hid (hv.keep hB)
  have HE := Lib.hid (Sl.keep hg.2 hB)
  have hmk := (show ∀ W : World, (Instr.makeSlice 41 (.int .i64 2) (.int .i64 2)).run Tryz.prog W = .ok (.slice (some ⟨W.heap.size, 0, none⟩) 2 2) (W.alloc (.cells (madeCells #[.bool false, .slice none 0 0] (2 * 2)) 47)) from intp_make _ Tryz.underlying41 2 (by omega))
  obtain ⟨i0, hi, hz0, hz1, hz2⟩ := info_parts info_Int
  have HI := Lib.hid hi; have HZ1 := Lib.hid hz1
  have HBA := Lib.hid (show ∀ (W : World) o, Below W.heap.size W (W.alloc o) from fun W o => (Below.refl W.heap.size W).alloc (Nat.le_refl _) o)
  clear hv hg hB hG hW1 hi hz0 hz1 hz2
  rw [show gEdges.length = 2 from rfl] at *
  simp only [List.length_cons, List.length_nil] at *
  have HM := Lib.hid (Own.made_int (w := W1) (N := 2) (Below.refl _ _) (by omega))
  go_enter Tryz.func62, Tryz.ntmps62
  go_upto_region 1 with fail
  rw [← HW1.out]
  obtain ⟨Pg, hP⟩ : ∃ X, X = w.heap.size := ⟨_, rfl⟩
  rw [← hP] at HG
  rw [← hP]
  clear hP HW1
  go_wp2_with fail
  obtain ⟨R, hR⟩ : ∃ R, R = W1.heap.size := ⟨_, rfl⟩
  rw [← hR] at HM
  rw [← hR]
  clear hR hmk
  obtain ⟨V0, hV0⟩ : ∃ V, V = W1.alloc (.cells (madeCells #[.bool false, .slice none 0 0] (2 * 2)) 47) := ⟨_, rfl⟩
  rw [← hV0] at HM
  have hV0' : V0 = W1.alloc (.cells (madeCells #[.bool false, .slice none 0 0] 4) 47) := hV0
  rw [← hV0']
  have HO0 := Lib.hid (show Own eInt W1 (.slice (some ⟨R, 0, none⟩) 2 2) [(0, [.bool false, .slice none 0 0]), (0, [.bool false, .slice none 0 0])] V0 from HM.out)
  clear hV0 hV0' HM
  obtain ⟨e0, e1, hO⟩ : ∃ e0 e1 : List Value, Own eInt W1 (.slice (some ⟨R, 0, none⟩) 2 2) [(0, e0), (0, e1)] V0 := ⟨_, _, HO0.out⟩
  have HO := Lib.hid hO
  clear HO0 hO
  refine wp_loop_rounds 3 ?_
  rw [rounds_succ]
  obtain ⟨s, A, m, k, q0, q1, hI⟩ := vp_cell (HV.out.keep HO.out.below) (i := 0) rfl
  have q0 : V0.cell? ⟨g, o, none⟩ = some (.bool s) := q0
  have q1 : V0.cell? ⟨g, o + 1, none⟩ = some (.slice A m k) := q1
  have HIp := Lib.hid hI
  clear hI
  go_upto_region 5 with fail
  have HX := Lib.hid (IBox.new HIp.out)
  have HRX := Lib.hid (show R ≠ V0.heap.size from by have := (HO.out.1.lt R rfl).2; omega)
  have HO1 := Lib.hid (HO.out.keep (HBA.out V0 (.cells #[.bool s, .slice A m k] 47)))
  obtain ⟨Vx0, hW⟩ : ∃ V, V = V0.alloc (.cells #[.bool s, .slice A m k] 47) := ⟨_, rfl⟩
  obtain ⟨X0, hX⟩ : ∃ X, X = V0.heap.size := ⟨_, rfl⟩
  rw [← hW, ← hX] at HX
  rw [← hX] at HRX
  rw [← hW] at HO1
  rw [← hW, ← hX]
  clear hW hX q0 q1 HIp HO
  have HO := Lib.hid HO1.out
  clear HO1
  obtain ⟨-, g0, g1⟩ := HG.out.keep HO.out.below
  obtain ⟨bE, oE, uE, hA, -, r0, hu⟩ := sl_row_at (Sl.keep HE.out HO.out.below) (i := 0) (z := [0, 1, 1]) rfl
  rw [hA] at g1
  rw [Nat.add_zero] at r0
  obtain ⟨AE, cE, hE2, -, -⟩ := Sl.len hu
  rw [hE2] at r0 hu
  obtain ⟨bF, oF, hF, -, f9⟩ := np_at hu (i := 0) rfl
  rw [hF] at r0 hu
  have HU := Lib.hid hu
  simp only [List.length_cons, List.length_nil] at *
  clear f9 hu hE2 hF hA
  go_wp2_with fail
  clear g0 g1 r0
  refine wp_loop_rounds 4 ?_
  rw [rounds_succ]
  obtain ⟨bG, oG, hF, -, f9⟩ := np_at HU.out (i := 0) rfl
  injection hF with hF; injection hF with ea eb; subst ea eb
  rw [Nat.add_zero] at f9
  go_upto_region 8 with fail
  clear f9
  obtain ⟨cu, cv, cq, p0, p1, -, -, pI, pe⟩ := own_int_cell HO.out (i := 0) (by simp)
  have ec : (0 : Int) = cq := congrArg Prod.fst (Option.some.inj pe)
  subst ec
  have HRl := Lib.hid (HO.out.1.lt R rfl).2
  have HC0 := Lib.hid (show Vx0.cell? ⟨R, 0 + 0 * 2, none⟩ = some cu from p0)
  have HC1 := Lib.hid (show Vx0.cell? ⟨R, 0 + 0 * 2 + 1, none⟩ = some cv from p1)
  have HCI := Lib.hid pI
  obtain ⟨sq, aq, nq, cq, zl, z0, z1, -, -, zi⟩ := HX.out
  have HZl := Lib.hid zl; have HE0 := Lib.hid z0; have HE1 := Lib.hid z1; have HEI := Lib.hid zi
  clear p0 p1 pI pe zl z0 z1 zi
  refine wp_region_tail 9 [(0, 30, VC (.slice (some ⟨R, 0, none⟩) 2 2)), (1, 31, VC (.int .i64 0)), (2, 32, VC (.slice (some ⟨R, 0, none⟩) 2 2)), (3, 33, VC (.int .i64 0)), (4, 34, VC (.pointer (some ⟨R, 0 + 0 * 2, none⟩))), (5, 35, VI 0), (6, 36, VI 1), (7, 37, VI (0 + 1)), (8, 38, VC (.pointer (some ⟨R, 0 + 0 * 2, none⟩)))] (fun _ => True) [30, 31, 32, 33, 34, 35, 36, 37, 38] (by kernel_rfl) (by kernel_rfl) (by kernel_rfl) (by kernel_rfl) (by kernel_rfl) ⟨Keeps.vc _, Keeps.vc _, Keeps.vc _, Keeps.vc _, Keeps.vc _, Keeps.vi _, Keeps.vi _, Keeps.vi _, Keeps.vc _, trivial⟩ (fun _ _ _ _ _ => trivial) trivial (by decide) (forall_lt _ ⟨?_, ?_, ?_, ?_, ?_, ?_, ?_, ?_, ?_, trivial⟩) ?_
  · exact .of rfl rfl fun y W hB hE hV hU => .move rfl (fr_out (v := (.slice (some ⟨R, 0, none⟩) 2 2)) (by kernel_rfl) (by kernel_rfl)) rfl
  · exact .of rfl rfl fun y W hB hE hV hU => .move rfl (fr_out (v := (.int .i64 0)) (by kernel_rfl) (by kernel_rfl)) rfl
  · exact .of rfl rfl fun y W hB hE hV hU => .move rfl (fr_out (v := (.slice (some ⟨R, 0, none⟩) 2 2)) (by kernel_rfl) (by kernel_rfl)) rfl
  · exact .of rfl rfl fun y W hB hE hV hU => .move rfl (fr_out (v := (.int .i64 0)) (by kernel_rfl) (by kernel_rfl)) rfl
  · exact .of rfl rfl fun y W hB hE hV hU => .rowAt Tryz.underlying41 HI.out HZ1.out rfl ((fr_in (by kernel_rfl)).trans (hget hV 2 rfl (by kernel_rfl))) ((fr_in (by kernel_rfl)).trans (hget hV 3 rfl (by kernel_rfl))) (by decide)
  · exact .of rfl rfl fun y W hB hE hV hU => .loadI' hB HRl.out HC0.out HC1.out HCI.out rfl ((fr_in (by kernel_rfl)).trans (hget hV 4 rfl (by kernel_rfl)))
  · exact .of rfl rfl fun y W hB hE hV hU => .loadI' hB HZl.out HE0.out HE1.out HEI.out rfl (fr_out (v := (.pointer (some ⟨X0, 0, none⟩))) (by kernel_rfl) (by kernel_rfl))
  · exact .of rfl rfl fun y W hB hE hV hU => by obtain ⟨u5, v5, e5, h5⟩ := hget hV 5 rfl (by kernel_rfl); obtain ⟨u6, v6, e6, h6⟩ := hget hV 6 rfl (by kernel_rfl); exact .call Tryz.func55 (by kernel_rfl) rfl rfl rfl (map_two ((fr_in (by kernel_rfl)).trans e5) ((fr_in (by kernel_rfl)).trans e6)) (cAdd (j := 1) (k := 1) h5 h6 (by unfold Wn; decide) (by unfold Wn; decide) (by omega))
  · exact .of rfl rfl fun y W hB hE hV hU => .rowAt Tryz.underlying41 HI.out HZ1.out rfl ((fr_in (by kernel_rfl)).trans (hget hV 0 rfl (by kernel_rfl))) ((fr_in (by kernel_rfl)).trans (hget hV 1 rfl (by kernel_rfl))) (by decide)
  intro y W5 hB hE hV
  obtain ⟨uS, vS, eS, hS⟩ : VI (0 + 1) (y 37) W5 := hend hV 7 rfl
  rw [show (0 : Int) + 1 = 1 from by decide] at hS
  have eP : y 38 = .pointer (some ⟨R, 0, none⟩) := hend hV 8 rfl
  have HO1 := Lib.hid (HO.out.keep hB)
  have HX1 := Lib.hid (HX.out.keep hB)
  have HU1 := Lib.hid (Sl.keep HU.out hB)
  clear hB hE hV HO HX HU HRl HC0 HC1 HCI HZl HE0 HE1 HEI
  generalize hact : fr _ _ y = act
  simp only [fr, putAll, List.foldl_cons, List.foldl_nil, List.setIfInBounds_toArray, List.set_cons_zero, List.set_cons_succ, eS, eP] at hact
  subst hact
  clear eS eP
  show wpList _ _ _ [_] _ _
  obtain ⟨cu, cv, cq, p0, p1, f0, f1, -, -⟩ := own_int_cell HO1.out (i := 0) (by simp)
  have p0 : W5.cell? ⟨R, 0, none⟩ = some cu := p0
  have p1 : W5.cell? ⟨R, 1, none⟩ = some cv := p1
  have f0 : W5.frozen? ⟨R, 0, none⟩ = false := f0
  have f1 : W5.frozen? ⟨R, 1, none⟩ = false := f1
  have HS := Lib.hid (own_int_set HO1.out (i := 0) (by simp) hS)
  obtain ⟨aS, cS, rfl, rfl, -⟩ := hS
  have HXS := Lib.hid (HX1.out.row (j := 0) (s := sgB (1)) (v := .slice aS (lnW (1)) cS) HRX.out (HO1.out.2.2.2 R rfl))
  have HUS := Lib.hid (np_alt HU1.out (by decide) (HO1.out.2.2.2 R rfl) (Alt.two (g := R) (k := 0) (j := 1) (u := .bool (sgB (1))) (v := .slice aS (lnW (1)) cS)))
  clear HO1 HX1 HU1
  generalize sgB (1) = s5 at *
  generalize lnW (1) = n5 at *
  go_wp2_with fail
  clear p0 p1 f0 f1
  obtain ⟨Vn00, hW⟩ : ∃ V, V = (W5.setCell ⟨R, 0, none⟩ (.bool s5)).setCell ⟨R, 1, none⟩ (.slice aS n5 cS) := ⟨_, rfl⟩
  have HX := Lib.hid (show IBox Vn00 X0 1 from by rw [hW]; exact HXS.out)
  have HU := Lib.hid (show NP [0, 1, 1] (.slice (some ⟨bF, oF, none⟩) 3 cE) Vn00 from by rw [hW]; exact HUS.out)
  obtain ⟨e0, hO⟩ : ∃ e0 : List Value, Own eInt W1 (.slice (some ⟨R, 0, none⟩) 2 2) [(1, e0), (0, e1)] Vn00 := ⟨_, by rw [hW]; exact HS.out⟩
  have HO := Lib.hid hO
  rw [← hW]
  clear hW hO HS HXS HUS
  rw [rounds_succ]
  obtain ⟨bG, oG, hF, -, f9⟩ := np_at HU.out (i := 1) rfl
  injection hF with hF; injection hF with ea eb; subst ea eb
  go_upto_region 8 with fail
  clear f9
  obtain ⟨cu, cv, cq, p0, p1, -, -, pI, pe⟩ := own_int_cell HO.out (i := 1) (by simp)
  have ec : (0 : Int) = cq := congrArg Prod.fst (Option.some.inj pe)
  subst ec
  have HRl := Lib.hid (HO.out.1.lt R rfl).2
  have HC0 := Lib.hid (show Vn00.cell? ⟨R, 0 + 1 * 2, none⟩ = some cu from p0)
  have HC1 := Lib.hid (show Vn00.cell? ⟨R, 0 + 1 * 2 + 1, none⟩ = some cv from p1)
  have HCI := Lib.hid pI
  obtain ⟨sq, aq, nq, cq, zl, z0, z1, -, -, zi⟩ := HX.out
  have HZl := Lib.hid zl; have HE0 := Lib.hid z0; have HE1 := Lib.hid z1; have HEI := Lib.hid zi
  clear p0 p1 pI pe zl z0 z1 zi
  refine wp_region_tail 9 [(0, 30, VC (.slice (some ⟨R, 0, none⟩) 2 2)), (1, 31, VC (.int .i64 1)), (2, 32, VC (.slice (some ⟨R, 0, none⟩) 2 2)), (3, 33, VC (.int .i64 1)), (4, 34, VC (.pointer (some ⟨R, 0 + 1 * 2, none⟩))), (5, 35, VI 0), (6, 36, VI 1), (7, 37, VI (0 + 1)), (8, 38, VC (.pointer (some ⟨R, 0 + 1 * 2, none⟩)))] (fun _ => True) [30, 31, 32, 33, 34, 35, 36, 37, 38] (by kernel_rfl) (by kernel_rfl) (by kernel_rfl) (by kernel_rfl) (by kernel_rfl) ⟨Keeps.vc _, Keeps.vc _, Keeps.vc _, Keeps.vc _, Keeps.vc _, Keeps.vi _, Keeps.vi _, Keeps.vi _, Keeps.vc _, trivial⟩ (fun _ _ _ _ _ => trivial) trivial (by decide) (forall_lt _ ⟨?_, ?_, ?_, ?_, ?_, ?_, ?_, ?_, ?_, trivial⟩) ?_
  · exact .of rfl rfl fun y W hB hE hV hU => .move rfl (fr_out (v := (.slice (some ⟨R, 0, none⟩) 2 2)) (by kernel_rfl) (by kernel_rfl)) rfl
  · exact .of rfl rfl fun y W hB hE hV hU => .move rfl (fr_out (v := (.int .i64 1)) (by kernel_rfl) (by kernel_rfl)) rfl
  · exact .of rfl rfl fun y W hB hE hV hU => .move rfl (fr_out (v := (.slice (some ⟨R, 0, none⟩) 2 2)) (by kernel_rfl) (by kernel_rfl)) rfl
  · exact .of rfl rfl fun y W hB hE hV hU => .move rfl (fr_out (v := (.int .i64 1)) (by kernel_rfl) (by kernel_rfl)) rfl
  · exact .of rfl rfl fun y W hB hE hV hU => .rowAt Tryz.underlying41 HI.out HZ1.out rfl ((fr_in (by kernel_rfl)).trans (hget hV 2 rfl (by kernel_rfl))) ((fr_in (by kernel_rfl)).trans (hget hV 3 rfl (by kernel_rfl))) (by decide)
  · exact .of rfl rfl fun y W hB hE hV hU => .loadI' hB HRl.out HC0.out HC1.out HCI.out rfl ((fr_in (by kernel_rfl)).trans (hget hV 4 rfl (by kernel_rfl)))
  · exact .of rfl rfl fun y W hB hE hV hU => .loadI' hB HZl.out HE0.out HE1.out HEI.out rfl (fr_out (v := (.pointer (some ⟨X0, 0, none⟩))) (by kernel_rfl) (by kernel_rfl))
  · exact .of rfl rfl fun y W hB hE hV hU => by obtain ⟨u5, v5, e5, h5⟩ := hget hV 5 rfl (by kernel_rfl); obtain ⟨u6, v6, e6, h6⟩ := hget hV 6 rfl (by kernel_rfl); exact .call Tryz.func55 (by kernel_rfl) rfl rfl rfl (map_two ((fr_in (by kernel_rfl)).trans e5) ((fr_in (by kernel_rfl)).trans e6)) (cAdd (j := 1) (k := 1) h5 h6 (by unfold Wn; decide) (by unfold Wn; decide) (by omega))
  · exact .of rfl rfl fun y W hB hE hV hU => .rowAt Tryz.underlying41 HI.out HZ1.out rfl ((fr_in (by kernel_rfl)).trans (hget hV 0 rfl (by kernel_rfl))) ((fr_in (by kernel_rfl)).trans (hget hV 1 rfl (by kernel_rfl))) (by decide)
  intro y W5 hB hE hV
  obtain ⟨uS, vS, eS, hS⟩ : VI (0 + 1) (y 37) W5 := hend hV 7 rfl
  rw [show (0 : Int) + 1 = 1 from by decide] at hS
  have eP : y 38 = .pointer (some ⟨R, 2, none⟩) := hend hV 8 rfl
  have HO1 := Lib.hid (HO.out.keep hB)
  have HX1 := Lib.hid (HX.out.keep hB)
  have HU1 := Lib.hid (Sl.keep HU.out hB)
  clear hB hE hV HO HX HU HRl HC0 HC1 HCI HZl HE0 HE1 HEI
  generalize hact : fr _ _ y = act
  simp only [fr, putAll, List.foldl_cons, List.foldl_nil, List.setIfInBounds_toArray, List.set_cons_zero, List.set_cons_succ, eS, eP] at hact
  subst hact
  clear eS eP
  show wpList _ _ _ [_] _ _
  obtain ⟨cu, cv, cq, p0, p1, f0, f1, -, -⟩ := own_int_cell HO1.out (i := 1) (by simp)
  have p0 : W5.cell? ⟨R, 2, none⟩ = some cu := p0
  have p1 : W5.cell? ⟨R, 3, none⟩ = some cv := p1
  have f0 : W5.frozen? ⟨R, 2, none⟩ = false := f0
  have f1 : W5.frozen? ⟨R, 3, none⟩ = false := f1
  have HS := Lib.hid (own_int_set HO1.out (i := 1) (by simp) hS)
  obtain ⟨aS, cS, rfl, rfl, -⟩ := hS
  have HXS := Lib.hid (HX1.out.row (j := 2) (s := sgB (1)) (v := .slice aS (lnW (1)) cS) HRX.out (HO1.out.2.2.2 R rfl))
  have HUS := Lib.hid (np_alt HU1.out (by decide) (HO1.out.2.2.2 R rfl) (Alt.two (g := R) (k := 2) (j := 3) (u := .bool (sgB (1))) (v := .slice aS (lnW (1)) cS)))
  clear HO1 HX1 HU1
  generalize sgB (1) = s5 at *
  generalize lnW (1) = n5 at *
  go_wp2_with fail
  clear p0 p1 f0 f1
  obtain ⟨Vn01, hW⟩ : ∃ V, V = (W5.setCell ⟨R, 2, none⟩ (.bool s5)).setCell ⟨R, 3, none⟩ (.slice aS n5 cS) := ⟨_, rfl⟩
  have HX := Lib.hid (show IBox Vn01 X0 1 from by rw [hW]; exact HXS.out)
  have HU := Lib.hid (show NP [0, 1, 1] (.slice (some ⟨bF, oF, none⟩) 3 cE) Vn01 from by rw [hW]; exact HUS.out)
  obtain ⟨e1, hO⟩ : ∃ e1 : List Value, Own eInt W1 (.slice (some ⟨R, 0, none⟩) 2 2) [(1, e0), (1, e1)] Vn01 := ⟨_, by rw [hW]; exact HS.out⟩
  have HO := Lib.hid hO
  rw [← hW]
  clear hW hO HS HXS HUS
  rw [rounds_succ]
  obtain ⟨bG, oG, hF, -, f9⟩ := np_at HU.out (i := 2) rfl
  injection hF with hF; injection hF with ea eb; subst ea eb
  go_upto_region 8 with fail
  clear f9
  obtain ⟨cu, cv, cq, p0, p1, -, -, pI, pe⟩ := own_int_cell HO.out (i := 1) (by simp)
  have ec : (1 : Int) = cq := congrArg Prod.fst (Option.some.inj pe)
  subst ec
  have HRl := Lib.hid (HO.out.1.lt R rfl).2
  have HC0 := Lib.hid (show Vn01.cell? ⟨R, 0 + 1 * 2, none⟩ = some cu from p0)
  have HC1 := Lib.hid (show Vn01.cell? ⟨R, 0 + 1 * 2 + 1, none⟩ = some cv from p1)
  have HCI := Lib.hid pI
  obtain ⟨sq, aq, nq, cq, zl, z0, z1, -, -, zi⟩ := HX.out
  have HZl := Lib.hid zl; have HE0 := Lib.hid z0; have HE1 := Lib.hid z1; have HEI := Lib.hid zi
  clear p0 p1 pI pe zl z0 z1 zi
  refine wp_region_tail 9 [(0, 30, VC (.slice (some ⟨R, 0, none⟩) 2 2)), (1, 31, VC (.int .i64 1)), (2, 32, VC (.slice (some ⟨R, 0, none⟩) 2 2)), (3, 33, VC (.int .i64 1)), (4, 34, VC (.pointer (some ⟨R, 0 + 1 * 2, none⟩))), (5, 35, VI 1), (6, 36, VI 1), (7, 37, VI (1 + 1)), (8, 38, VC (.pointer (some ⟨R, 0 + 1 * 2, none⟩)))] (fun _ => True) [30, 31, 32, 33, 34, 35, 36, 37, 38] (by kernel_rfl) (by kernel_rfl) (by kernel_rfl) (by kernel_rfl) (by kernel_rfl) ⟨Keeps.vc _, Keeps.vc _, Keeps.vc _, Keeps.vc _, Keeps.vc _, Keeps.vi _, Keeps.vi _, Keeps.vi _, Keeps.vc _, trivial⟩ (fun _ _ _ _ _ => trivial) trivial (by decide) (forall_lt _ ⟨?_, ?_, ?_, ?_, ?_, ?_, ?_, ?_, ?_, trivial⟩) ?_
  · exact .of rfl rfl fun y W hB hE hV hU => .move rfl (fr_out (v := (.slice (some ⟨R, 0, none⟩) 2 2)) (by kernel_rfl) (by kernel_rfl)) rfl
  · exact .of rfl rfl fun y W hB hE hV hU => .move rfl (fr_out (v := (.int .i64 1)) (by kernel_rfl) (by kernel_rfl)) rfl
  · exact .of rfl rfl fun y W hB hE hV hU => .move rfl (fr_out (v := (.slice (some ⟨R, 0, none⟩) 2 2)) (by kernel_rfl) (by kernel_rfl)) rfl
  · exact .of rfl rfl fun y W hB hE hV hU => .move rfl (fr_out (v := (.int .i64 1)) (by kernel_rfl) (by kernel_rfl)) rfl
  · exact .of rfl rfl fun y W hB hE hV hU => .rowAt Tryz.underlying41 HI.out HZ1.out rfl ((fr_in (by kernel_rfl)).trans (hget hV 2 rfl (by kernel_rfl))) ((fr_in (by kernel_rfl)).trans (hget hV 3 rfl (by kernel_rfl))) (by decide)
  · exact .of rfl rfl fun y W hB hE hV hU => .loadI' hB HRl.out HC0.out HC1.out HCI.out rfl ((fr_in (by kernel_rfl)).trans (hget hV 4 rfl (by kernel_rfl)))
  · exact .of rfl rfl fun y W hB hE hV hU => .loadI' hB HZl.out HE0.out HE1.out HEI.out rfl (fr_out (v := (.pointer (some ⟨X0, 0, none⟩))) (by kernel_rfl) (by kernel_rfl))
  · exact .of rfl rfl fun y W hB hE hV hU => by obtain ⟨u5, v5, e5, h5⟩ := hget hV 5 rfl (by kernel_rfl); obtain ⟨u6, v6, e6, h6⟩ := hget hV 6 rfl (by kernel_rfl); exact .call Tryz.func55 (by kernel_rfl) rfl rfl rfl (map_two ((fr_in (by kernel_rfl)).trans e5) ((fr_in (by kernel_rfl)).trans e6)) (cAdd (j := 1) (k := 1) h5 h6 (by unfold Wn; decide) (by unfold Wn; decide) (by omega))
  · exact .of rfl rfl fun y W hB hE hV hU => .rowAt Tryz.underlying41 HI.out HZ1.out rfl ((fr_in (by kernel_rfl)).trans (hget hV 0 rfl (by kernel_rfl))) ((fr_in (by kernel_rfl)).trans (hget hV 1 rfl (by kernel_rfl))) (by decide)
  intro y W5 hB hE hV
  obtain ⟨uS, vS, eS, hS⟩ : VI (1 + 1) (y 37) W5 := hend hV 7 rfl
  rw [show (1 : Int) + 1 = 2 from by decide] at hS
  have eP : y 38 = .pointer (some ⟨R, 2, none⟩) := hend hV 8 rfl
  have HO1 := Lib.hid (HO.out.keep hB)
  have HX1 := Lib.hid (HX.out.keep hB)
  have HU1 := Lib.hid (Sl.keep HU.out hB)
  clear hB hE hV HO HX HU HRl HC0 HC1 HCI HZl HE0 HE1 HEI
  generalize hact : fr _ _ y = act
  simp only [fr, putAll, List.foldl_cons, List.foldl_nil, List.setIfInBounds_toArray, List.set_cons_zero, List.set_cons_succ, eS, eP] at hact
  subst hact
  clear eS eP
  show wpList _ _ _ [_] _ _
  obtain ⟨cu, cv, cq, p0, p1, f0, f1, -, -⟩ := own_int_cell HO1.out (i := 1) (by simp)
  have p0 : W5.cell? ⟨R, 2, none⟩ = some cu := p0
  have p1 : W5.cell? ⟨R, 3, none⟩ = some cv := p1
  have f0 : W5.frozen? ⟨R, 2, none⟩ = false := f0
  have f1 : W5.frozen? ⟨R, 3, none⟩ = false := f1
  have HS := Lib.hid (own_int_set HO1.out (i := 1) (by simp) hS)
  obtain ⟨aS, cS, rfl, rfl, -⟩ := hS
  have HXS := Lib.hid (HX1.out.row (j := 2) (s := sgB (2)) (v := .slice aS (lnW (2)) cS) HRX.out (HO1.out.2.2.2 R rfl))
  have HUS := Lib.hid (np_alt HU1.out (by decide) (HO1.out.2.2.2 R rfl) (Alt.two (g := R) (k := 2) (j := 3) (u := .bool (sgB (2))) (v := .slice aS (lnW (2)) cS)))
  clear HO1 HX1 HU1
  generalize sgB (2) = s5 at *
  generalize lnW (2) = n5 at *
  go_wp2_with fail
  clear p0 p1 f0 f1
  obtain ⟨Vn02, hW⟩ : ∃ V, V = (W5.setCell ⟨R, 2, none⟩ (.bool s5)).setCell ⟨R, 3, none⟩ (.slice aS n5 cS) := ⟨_, rfl⟩
  have HX := Lib.hid (show IBox Vn02 X0 1 from by rw [hW]; exact HXS.out)
  have HU := Lib.hid (show NP [0, 1, 1] (.slice (some ⟨bF, oF, none⟩) 3 cE) Vn02 from by rw [hW]; exact HUS.out)
  obtain ⟨e1, hO⟩ : ∃ e1 : List Value, Own eInt W1 (.slice (some ⟨R, 0, none⟩) 2 2) [(1, e0), (2, e1)] Vn02 := ⟨_, by rw [hW]; exact HS.out⟩
  have HO := Lib.hid hO
  rw [← hW]
  clear hW hO HS HXS HUS
  rw [rounds_succ]
  go_wp2_with fail
  clear HX HRX HU
  rw [rounds_succ]
  obtain ⟨s, A, m, k, q0, q1, hI⟩ := vp_cell (HV.out.keep HO.out.below) (i := 1) rfl
  have q0 : Vn02.cell? ⟨g, o + 2, none⟩ = some (.bool s) := q0
  have q1 : Vn02.cell? ⟨g, o + 2 + 1, none⟩ = some (.slice A m k) := q1
  have HIp := Lib.hid hI
  clear hI
  go_upto_region 5 with fail
  have HX := Lib.hid (IBox.new HIp.out)
  have HRX := Lib.hid (show R ≠ Vn02.heap.size from by have := (HO.out.1.lt R rfl).2; omega)
  have HO1 := Lib.hid (HO.out.keep (HBA.out Vn02 (.cells #[.bool s, .slice A m k] 47)))
  obtain ⟨Vx1, hW⟩ : ∃ V, V = Vn02.alloc (.cells #[.bool s, .slice A m k] 47) := ⟨_, rfl⟩
  obtain ⟨X1, hX⟩ : ∃ X, X = Vn02.heap.size := ⟨_, rfl⟩
  rw [← hW, ← hX] at HX
  rw [← hX] at HRX
  rw [← hW] at HO1
  rw [← hW, ← hX]
  clear hW hX q0 q1 HIp HO
  have HO := Lib.hid HO1.out
  clear HO1
  obtain ⟨-, g0, g1⟩ := HG.out.keep HO.out.below
  obtain ⟨bE, oE, uE, hA, -, r0, hu⟩ := sl_row_at (Sl.keep HE.out HO.out.below) (i := 1) (z := [0, 0, 0]) rfl
  rw [hA] at g1
  obtain ⟨AE, cE, hE2, -, -⟩ := Sl.len hu
  rw [hE2] at r0 hu
  obtain ⟨bF, oF, hF, -, f9⟩ := np_at hu (i := 0) rfl
  rw [hF] at r0 hu
  have HU := Lib.hid hu
  simp only [List.length_cons, List.length_nil] at *
  clear f9 hu hE2 hF hA
  go_wp2_with fail
  clear g0 g1 r0
  refine wp_loop_rounds 4 ?_
  rw [rounds_succ]
  obtain ⟨bG, oG, hF, -, f9⟩ := np_at HU.out (i := 0) rfl
  injection hF with hF; injection hF with ea eb; subst ea eb
  rw [Nat.add_zero] at f9
  go_upto_region 8 with fail
  clear f9
  obtain ⟨cu, cv, cq, p0, p1, -, -, pI, pe⟩ := own_int_cell HO.out (i := 0) (by simp)
  have ec : (1 : Int) = cq := congrArg Prod.fst (Option.some.inj pe)
  subst ec
  have HRl := Lib.hid (HO.out.1.lt R rfl).2
  have HC0 := Lib.hid (show Vx1.cell? ⟨R, 0 + 0 * 2, none⟩ = some cu from p0)
  have HC1 := Lib.hid (show Vx1.cell? ⟨R, 0 + 0 * 2 + 1, none⟩ = some cv from p1)
  have HCI := Lib.hid pI
  obtain ⟨sq, aq, nq, cq, zl, z0, z1, -, -, zi⟩ := HX.out
  have HZl := Lib.hid zl; have HE0 := Lib.hid z0; have HE1 := Lib.hid z1; have HEI := Lib.hid zi
  clear p0 p1 pI pe zl z0 z1 zi
  refine wp_region_tail 9 [(0, 30, VC (.slice (some ⟨R, 0, none⟩) 2 2)), (1, 31, VC (.int .i64 0)), (2, 32, VC (.slice (some ⟨R, 0, none⟩) 2 2)), (3, 33, VC (.int .i64 0)), (4, 34, VC (.pointer (some ⟨R, 0 + 0 * 2, none⟩))), (5, 35, VI 1), (6, 36, VI 2), (7, 37, VI (1 + 2)), (8, 38, VC (.pointer (some ⟨R, 0 + 0 * 2, none⟩)))] (fun _ => True) [30, 31, 32, 33, 34, 35, 36, 37, 38] (by kernel_rfl) (by kernel_rfl) (by kernel_rfl) (by kernel_rfl) (by kernel_rfl) ⟨Keeps.vc _, Keeps.vc _, Keeps.vc _, Keeps.vc _, Keeps.vc _, Keeps.vi _, Keeps.vi _, Keeps.vi _, Keeps.vc _, trivial⟩ (fun _ _ _ _ _ => trivial) trivial (by decide) (forall_lt _ ⟨?_, ?_, ?_, ?_, ?_, ?_, ?_, ?_, ?_, trivial⟩) ?_
  · exact .of rfl rfl fun y W hB hE hV hU => .move rfl (fr_out (v := (.slice (some ⟨R, 0, none⟩) 2 2)) (by kernel_rfl) (by kernel_rfl)) rfl
  · exact .of rfl rfl fun y W hB hE hV hU => .move rfl (fr_out (v := (.int .i64 0)) (by kernel_rfl) (by kernel_rfl)) rfl
  · exact .of rfl rfl fun y W hB hE hV hU => .move rfl (fr_out (v := (.slice (some ⟨R, 0, none⟩) 2 2)) (by kernel_rfl) (by kernel_rfl)) rfl
  · exact .of rfl rfl fun y W hB hE hV hU => .move rfl (fr_out (v := (.int .i64 0)) (by kernel_rfl) (by kernel_rfl)) rfl
  · exact .of rfl rfl fun y W hB hE hV hU => .rowAt Tryz.underlying41 HI.out HZ1.out rfl ((fr_in (by kernel_rfl)).trans (hget hV 2 rfl (by kernel_rfl))) ((fr_in (by kernel_rfl)).trans (hget hV 3 rfl (by kernel_rfl))) (by decide)
  · exact .of rfl rfl fun y W hB hE hV hU => .loadI' hB HRl.out HC0.out HC1.out HCI.out rfl ((fr_in (by kernel_rfl)).trans (hget hV 4 rfl (by kernel_rfl)))
  · exact .of rfl rfl fun y W hB hE hV hU => .loadI' hB HZl.out HE0.out HE1.out HEI.out rfl (fr_out (v := (.pointer (some ⟨X1, 0, none⟩))) (by kernel_rfl) (by kernel_rfl))
  · exact .of rfl rfl fun y W hB hE hV hU => by obtain ⟨u5, v5, e5, h5⟩ := hget hV 5 rfl (by kernel_rfl); obtain ⟨u6, v6, e6, h6⟩ := hget hV 6 rfl (by kernel_rfl); exact .call Tryz.func55 (by kernel_rfl) rfl rfl rfl (map_two ((fr_in (by kernel_rfl)).trans e5) ((fr_in (by kernel_rfl)).trans e6)) (cAdd (j := 1) (k := 1) h5 h6 (by unfold Wn; decide) (by unfold Wn; decide) (by omega))
  · exact .of rfl rfl fun y W hB hE hV hU => .rowAt Tryz.underlying41 HI.out HZ1.out rfl ((fr_in (by kernel_rfl)).trans (hget hV 0 rfl (by kernel_rfl))) ((fr_in (by kernel_rfl)).trans (hget hV 1 rfl (by kernel_rfl))) (by decide)
  intro y W5 hB hE hV
  obtain ⟨uS, vS, eS, hS⟩ : VI (1 + 2) (y 37) W5 := hend hV 7 rfl
  rw [show (1 : Int) + 2 = 3 from by decide] at hS
  have eP : y 38 = .pointer (some ⟨R, 0, none⟩) := hend hV 8 rfl
  have HO1 := Lib.hid (HO.out.keep hB)
  have HX1 := Lib.hid (HX.out.keep hB)
  have HU1 := Lib.hid (Sl.keep HU.out hB)
  clear hB hE hV HO HX HU HRl HC0 HC1 HCI HZl HE0 HE1 HEI
  generalize hact : fr _ _ y = act
  simp only [fr, putAll, List.foldl_cons, List.foldl_nil, List.setIfInBounds_toArray, List.set_cons_zero, List.set_cons_succ, eS, eP] at hact
  subst hact
  clear eS eP
  show wpList _ _ _ [_] _ _
  obtain ⟨cu, cv, cq, p0, p1, f0, f1, -, -⟩ := own_int_cell HO1.out (i := 0) (by simp)
  have p0 : W5.cell? ⟨R, 0, none⟩ = some cu := p0
  have p1 : W5.cell? ⟨R, 1, none⟩ = some cv := p1
  have f0 : W5.frozen? ⟨R, 0, none⟩ = false := f0
  have f1 : W5.frozen? ⟨R, 1, none⟩ = false := f1
  have HS := Lib.hid (own_int_set HO1.out (i := 0) (by simp) hS)
  obtain ⟨aS, cS, rfl, rfl, -⟩ := hS
  have HXS := Lib.hid (HX1.out.row (j := 0) (s := sgB (3)) (v := .slice aS (lnW (3)) cS) HRX.out (HO1.out.2.2.2 R rfl))
  have HUS := Lib.hid (np_alt HU1.out (by decide) (HO1.out.2.2.2 R rfl) (Alt.two (g := R) (k := 0) (j := 1) (u := .bool (sgB (3))) (v := .slice aS (lnW (3)) cS)))
  clear HO1 HX1 HU1
  generalize sgB (3) = s5 at *
  generalize lnW (3) = n5 at *
  go_wp2_with fail
  clear p0 p1 f0 f1
  obtain ⟨Vn10, hW⟩ : ∃ V, V = (W5.setCell ⟨R, 0, none⟩ (.bool s5)).setCell ⟨R, 1, none⟩ (.slice aS n5 cS) := ⟨_, rfl⟩
  have HX := Lib.hid (show IBox Vn10 X1 2 from by rw [hW]; exact HXS.out)
  have HU := Lib.hid (show NP [0, 0, 0] (.slice (some ⟨bF, oF, none⟩) 3 cE) Vn10 from by rw [hW]; exact HUS.out)
  obtain ⟨e0, hO⟩ : ∃ e0 : List Value, Own eInt W1 (.slice (some ⟨R, 0, none⟩) 2 2) [(3, e0), (2, e1)] Vn10 := ⟨_, by rw [hW]; exact HS.out⟩
  have HO := Lib.hid hO
  rw [← hW]
  clear hW hO HS HXS HUS
  rw [rounds_succ]
  obtain ⟨bG, oG, hF, -, f9⟩ := np_at HU.out (i := 1) rfl
  injection hF with hF; injection hF with ea eb; subst ea eb
  go_upto_region 8 with fail
  clear f9
  obtain ⟨cu, cv, cq, p0, p1, -, -, pI, pe⟩ := own_int_cell HO.out (i := 0) (by simp)
  have ec : (3 : Int) = cq := congrArg Prod.fst (Option.some.inj pe)
  subst ec
  have HRl := Lib.hid (HO.out.1.lt R rfl).2
  have HC0 := Lib.hid (show Vn10.cell? ⟨R, 0 + 0 * 2, none⟩ = some cu from p0)
  have HC1 := Lib.hid (show Vn10.cell? ⟨R, 0 + 0 * 2 + 1, none⟩ = some cv from p1)
  have HCI := Lib.hid pI
  obtain ⟨sq, aq, nq, cq, zl, z0, z1, -, -, zi⟩ := HX.out
  have HZl := Lib.hid zl; have HE0 := Lib.hid z0; have HE1 := Lib.hid z1; have HEI := Lib.hid zi
  clear p0 p1 pI pe zl z0 z1 zi
  refine wp_region_tail 9 [(0, 30, VC (.slice (some ⟨R, 0, none⟩) 2 2)), (1, 31, VC (.int .i64 0)), (2, 32, VC (.slice (some ⟨R, 0, none⟩) 2 2)), (3, 33, VC (.int .i64 0)), (4, 34, VC (.pointer (some ⟨R, 0 + 0 * 2, none⟩))), (5, 35, VI 3), (6, 36, VI 2), (7, 37, VI (3 + 2)), (8, 38, VC (.pointer (some ⟨R, 0 + 0 * 2, none⟩)))] (fun _ => True) [30, 31, 32, 33, 34, 35, 36, 37, 38] (by kernel_rfl) (by kernel_rfl) (by kernel_rfl) (by kernel_rfl) (by kernel_rfl) ⟨Keeps.vc _, Keeps.vc _, Keeps.vc _, Keeps.vc _, Keeps.vc _, Keeps.vi _, Keeps.vi _, Keeps.vi _, Keeps.vc _, trivial⟩ (fun _ _ _ _ _ => trivial) trivial (by decide) (forall_lt _ ⟨?_, ?_, ?_, ?_, ?_, ?_, ?_, ?_, ?_, trivial⟩) ?_
  · exact .of rfl rfl fun y W hB hE hV hU => .move rfl (fr_out (v := (.slice (some ⟨R, 0, none⟩) 2 2)) (by kernel_rfl) (by kernel_rfl)) rfl
  · exact .of rfl rfl fun y W hB hE hV hU => .move rfl (fr_out (v := (.int .i64 0)) (by kernel_rfl) (by kernel_rfl)) rfl
  · exact .of rfl rfl fun y W hB hE hV hU => .move rfl (fr_out (v := (.slice (some ⟨R, 0, none⟩) 2 2)) (by kernel_rfl) (by kernel_rfl)) rfl
  · exact .of rfl rfl fun y W hB hE hV hU => .move rfl (fr_out (v := (.int .i64 0)) (by kernel_rfl) (by kernel_rfl)) rfl
  · exact .of rfl rfl fun y W hB hE hV hU => .rowAt Tryz.underlying41 HI.out HZ1.out rfl ((fr_in (by kernel_rfl)).trans (hget hV 2 rfl (by kernel_rfl))) ((fr_in (by kernel_rfl)).trans (hget hV 3 rfl (by kernel_rfl))) (by decide)
  · exact .of rfl rfl fun y W hB hE hV hU => .loadI' hB HRl.out HC0.out HC1.out HCI.out rfl ((fr_in (by kernel_rfl)).trans (hget hV 4 rfl (by kernel_rfl)))
  · exact .of rfl rfl fun y W hB hE hV hU => .loadI' hB HZl.out HE0.out HE1.out HEI.out rfl (fr_out (v := (.pointer (some ⟨X1, 0, none⟩))) (by kernel_rfl) (by kernel_rfl))
  · exact .of rfl rfl fun y W hB hE hV hU => by obtain ⟨u5, v5, e5, h5⟩ := hget hV 5 rfl (by kernel_rfl); obtain ⟨u6, v6, e6, h6⟩ := hget hV 6 rfl (by kernel_rfl); exact .call Tryz.func55 (by kernel_rfl) rfl rfl rfl (map_two ((fr_in (by kernel_rfl)).trans e5) ((fr_in (by kernel_rfl)).trans e6)) (cAdd (j := 1) (k := 1) h5 h6 (by unfold Wn; decide) (by unfold Wn; decide) (by omega))
  · exact .of rfl rfl fun y W hB hE hV hU => .rowAt Tryz.underlying41 HI.out HZ1.out rfl ((fr_in (by kernel_rfl)).trans (hget hV 0 rfl (by kernel_rfl))) ((fr_in (by kernel_rfl)).trans (hget hV 1 rfl (by kernel_rfl))) (by decide)
  intro y W5 hB hE hV
  obtain ⟨uS, vS, eS, hS⟩ : VI (3 + 2) (y 37) W5 := hend hV 7 rfl
  rw [show (3 : Int) + 2 = 5 from by decide] at hS
  have eP : y 38 = .pointer (some ⟨R, 0, none⟩) := hend hV 8 rfl
  have HO1 := Lib.hid (HO.out.keep hB)
  have HX1 := Lib.hid (HX.out.keep hB)
  have HU1 := Lib.hid (Sl.keep HU.out hB)
  clear hB hE hV HO HX HU HRl HC0 HC1 HCI HZl HE0 HE1 HEI
  generalize hact : fr _ _ y = act
  simp only [fr, putAll, List.foldl_cons, List.foldl_nil, List.setIfInBounds_toArray, List.set_cons_zero, List.set_cons_succ, eS, eP] at hact
  subst hact
  clear eS eP
  show wpList _ _ _ [_] _ _
  obtain ⟨cu, cv, cq, p0, p1, f0, f1, -, -⟩ := own_int_cell HO1.out (i := 0) (by simp)
  have p0 : W5.cell? ⟨R, 0, none⟩ = some cu := p0
  have p1 : W5.cell? ⟨R, 1, none⟩ = some cv := p1
  have f0 : W5.frozen? ⟨R, 0, none⟩ = false := f0
  have f1 : W5.frozen? ⟨R, 1, none⟩ = false := f1
  have HS := Lib.hid (own_int_set HO1.out (i := 0) (by simp) hS)
  obtain ⟨aS, cS, rfl, rfl, -⟩ := hS
  have HXS := Lib.hid (HX1.out.row (j := 0) (s := sgB (5)) (v := .slice aS (lnW (5)) cS) HRX.out (HO1.out.2.2.2 R rfl))
  have HUS := Lib.hid (np_alt HU1.out (by decide) (HO1.out.2.2.2 R rfl) (Alt.two (g := R) (k := 0) (j := 1) (u := .bool (sgB (5))) (v := .slice aS (lnW (5)) cS)))
  clear HO1 HX1 HU1
  generalize sgB (5) = s5 at *
  generalize lnW (5) = n5 at *
  go_wp2_with fail
  clear p0 p1 f0 f1
  obtain ⟨Vn11, hW⟩ : ∃ V, V = (W5.setCell ⟨R, 0, none⟩ (.bool s5)).setCell ⟨R, 1, none⟩ (.slice aS n5 cS) := ⟨_, rfl⟩
  have HX := Lib.hid (show IBox Vn11 X1 2 from by rw [hW]; exact HXS.out)
  have HU := Lib.hid (show NP [0, 0, 0] (.slice (some ⟨bF, oF, none⟩) 3 cE) Vn11 from by rw [hW]; exact HUS.out)
  obtain ⟨e0, hO⟩ : ∃ e0 : List Value, Own eInt W1 (.slice (some ⟨R, 0, none⟩) 2 2) [(5, e0), (2, e1)] Vn11 := ⟨_, by rw [hW]; exact HS.out⟩
  have HO := Lib.hid hO
  rw [← hW]
  clear hW hO HS HXS HUS
  rw [rounds_succ]
  obtain ⟨bG, oG, hF, -, f9⟩ := np_at HU.out (i := 2) rfl
  injection hF with hF; injection hF with ea eb; subst ea eb
  go_upto_region 8 with fail
  clear f9
  obtain ⟨cu, cv, cq, p0, p1, -, -, pI, pe⟩ := own_int_cell HO.out (i := 0) (by simp)
  have ec : (5 : Int) = cq := congrArg Prod.fst (Option.some.inj pe)
  subst ec
  have HRl := Lib.hid (HO.out.1.lt R rfl).2
  have HC0 := Lib.hid (show Vn11.cell? ⟨R, 0 + 0 * 2, none⟩ = some cu from p0)
  have HC1 := Lib.hid (show Vn11.cell? ⟨R, 0 + 0 * 2 + 1, none⟩ = some cv from p1)
  have HCI := Lib.hid pI
  obtain ⟨sq, aq, nq, cq, zl, z0, z1, -, -, zi⟩ := HX.out
  have HZl := Lib.hid zl; have HE0 := Lib.hid z0; have HE1 := Lib.hid z1; have HEI := Lib.hid zi
  clear p0 p1 pI pe zl z0 z1 zi
  refine wp_region_tail 9 [(0, 30, VC (.slice (some ⟨R, 0, none⟩) 2 2)), (1, 31, VC (.int .i64 0)), (2, 32, VC (.slice (some ⟨R, 0, none⟩) 2 2)), (3, 33, VC (.int .i64 0)), (4, 34, VC (.pointer (some ⟨R, 0 + 0 * 2, none⟩))), (5, 35, VI 5), (6, 36, VI 2), (7, 37, VI (5 + 2)), (8, 38, VC (.pointer (some ⟨R, 0 + 0 * 2, none⟩)))] (fun _ => True) [30, 31, 32, 33, 34, 35, 36, 37, 38] (by kernel_rfl) (by kernel_rfl) (by kernel_rfl) (by kernel_rfl) (by kernel_rfl) ⟨Keeps.vc _, Keeps.vc _, Keeps.vc _, Keeps.vc _, Keeps.vc _, Keeps.vi _, Keeps.vi _, Keeps.vi _, Keeps.vc _, trivial⟩ (fun _ _ _ _ _ => trivial) trivial (by decide) (forall_lt _ ⟨?_, ?_, ?_, ?_, ?_, ?_, ?_, ?_, ?_, trivial⟩) ?_
  · exact .of rfl rfl fun y W hB hE hV hU => .move rfl (fr_out (v := (.slice (some ⟨R, 0, none⟩) 2 2)) (by kernel_rfl) (by kernel_rfl)) rfl
  · exact .of rfl rfl fun y W hB hE hV hU => .move rfl (fr_out (v := (.int .i64 0)) (by kernel_rfl) (by kernel_rfl)) rfl
  · exact .of rfl rfl fun y W hB hE hV hU => .move rfl (fr_out (v := (.slice (some ⟨R, 0, none⟩) 2 2)) (by kernel_rfl) (by kernel_rfl)) rfl
  · exact .of rfl rfl fun y W hB hE hV hU => .move rfl (fr_out (v := (.int .i64 0)) (by kernel_rfl) (by kernel_rfl)) rfl
  · exact .of rfl rfl fun y W hB hE hV hU => .rowAt Tryz.underlying41 HI.out HZ1.out rfl ((fr_in (by kernel_rfl)).trans (hget hV 2 rfl (by kernel_rfl))) ((fr_in (by kernel_rfl)).trans (hget hV 3 rfl (by kernel_rfl))) (by decide)
  · exact .of rfl rfl fun y W hB hE hV hU => .loadI' hB HRl.out HC0.out HC1.out HCI.out rfl ((fr_in (by kernel_rfl)).trans (hget hV 4 rfl (by kernel_rfl)))
  · exact .of rfl rfl fun y W hB hE hV hU => .loadI' hB HZl.out HE0.out HE1.out HEI.out rfl (fr_out (v := (.pointer (some ⟨X1, 0, none⟩))) (by kernel_rfl) (by kernel_rfl))
  · exact .of rfl rfl fun y W hB hE hV hU => by obtain ⟨u5, v5, e5, h5⟩ := hget hV 5 rfl (by kernel_rfl); obtain ⟨u6, v6, e6, h6⟩ := hget hV 6 rfl (by kernel_rfl); exact .call Tryz.func55 (by kernel_rfl) rfl rfl rfl (map_two ((fr_in (by kernel_rfl)).trans e5) ((fr_in (by kernel_rfl)).trans e6)) (cAdd (j := 1) (k := 1) h5 h6 (by unfold Wn; decide) (by unfold Wn; decide) (by omega))
  · exact .of rfl rfl fun y W hB hE hV hU => .rowAt Tryz.underlying41 HI.out HZ1.out rfl ((fr_in (by kernel_rfl)).trans (hget hV 0 rfl (by kernel_rfl))) ((fr_in (by kernel_rfl)).trans (hget hV 1 rfl (by kernel_rfl))) (by decide)
  intro y W5 hB hE hV
  obtain ⟨uS, vS, eS, hS⟩ : VI (5 + 2) (y 37) W5 := hend hV 7 rfl
  rw [show (5 : Int) + 2 = 7 from by decide] at hS
  have eP : y 38 = .pointer (some ⟨R, 0, none⟩) := hend hV 8 rfl
  have HO1 := Lib.hid (HO.out.keep hB)
  have HX1 := Lib.hid (HX.out.keep hB)
  have HU1 := Lib.hid (Sl.keep HU.out hB)
  clear hB hE hV HO HX HU HRl HC0 HC1 HCI HZl HE0 HE1 HEI
  generalize hact : fr _ _ y = act
  simp only [fr, putAll, List.foldl_cons, List.foldl_nil, List.setIfInBounds_toArray, List.set_cons_zero, List.set_cons_succ, eS, eP] at hact
  subst hact
  clear eS eP
  show wpList _ _ _ [_] _ _
  obtain ⟨cu, cv, cq, p0, p1, f0, f1, -, -⟩ := own_int_cell HO1.out (i := 0) (by simp)
  have p0 : W5.cell? ⟨R, 0, none⟩ = some cu := p0
  have p1 : W5.cell? ⟨R, 1, none⟩ = some cv := p1
  have f0 : W5.frozen? ⟨R, 0, none⟩ = false := f0
  have f1 : W5.frozen? ⟨R, 1, none⟩ = false := f1
  have HS := Lib.hid (own_int_set HO1.out (i := 0) (by simp) hS)
  obtain ⟨aS, cS, rfl, rfl, -⟩ := hS
  have HXS := Lib.hid (HX1.out.row (j := 0) (s := sgB (7)) (v := .slice aS (lnW (7)) cS) HRX.out (HO1.out.2.2.2 R rfl))
  have HUS := Lib.hid (np_alt HU1.out (by decide) (HO1.out.2.2.2 R rfl) (Alt.two (g := R) (k := 0) (j := 1) (u := .bool (sgB (7))) (v := .slice aS (lnW (7)) cS)))
  clear HO1 HX1 HU1
  generalize sgB (7) = s5 at *
  generalize lnW (7) = n5 at *
  go_wp2_with fail
  clear p0 p1 f0 f1
  obtain ⟨Vn12, hW⟩ : ∃ V, V = (W5.setCell ⟨R, 0, none⟩ (.bool s5)).setCell ⟨R, 1, none⟩ (.slice aS n5 cS) := ⟨_, rfl⟩
  have HX := Lib.hid (show IBox Vn12 X1 2 from by rw [hW]; exact HXS.out)
  have HU := Lib.hid (show NP [0, 0, 0] (.slice (some ⟨bF, oF, none⟩) 3 cE) Vn12 from by rw [hW]; exact HUS.out)
  obtain ⟨e0, hO⟩ : ∃ e0 : List Value, Own eInt W1 (.slice (some ⟨R, 0, none⟩) 2 2) [(7, e0), (2, e1)] Vn12 := ⟨_, by rw [hW]; exact HS.out⟩
  have HO := Lib.hid hO
  rw [← hW]
  clear hW hO HS HXS HUS
  rw [rounds_succ]
  go_wp2_with fail
  clear HX HRX HU
  rw [rounds_succ]
  go_wp2_with fail
  go_ret
  exact ⟨_, rfl, Sl.vp HO.out.sl, HB1.out.trans (HO.out.below.mono HB1.out.size)⟩
end Go.Proofs.YthkklilhjnpedaaGreat
