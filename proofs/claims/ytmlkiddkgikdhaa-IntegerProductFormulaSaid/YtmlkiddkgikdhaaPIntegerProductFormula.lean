/- The statement IntegerProductFormula: for every input the call returns true. No condition. -/
import Derived.Test.YtmlkiddkgikdhaaOpen
import Derived.Test.YtmlkiddkgikdhaaIntegerProductFormula
namespace Go.Proofs.Ytmlkiddkgikdhaa.integerProductFormula
open Go.ChangeShapes Go.WideShapes Go.ChangeAt Go.RowKit FF
theorem k10 : (Rows.integerProductFormulaRow.inPlace == Try.checked.prog.inPlace 15) = true := by kernel_rfl
theorem k11 : (Rows.integerProductFormulaRow.unfollowed == Try.checked.prog.unfollowed 15) = true := by kernel_rfl
theorem k12 : (Rows.integerProductFormulaRow.recurses == Try.checked.prog.recurses 15) = true := by kernel_rfl
theorem k13 : (Rows.integerProductFormulaRow.named == Try.checked.prog.varsNamed 15) = true := by kernel_rfl
theorem k14 : (Rows.integerProductFormulaRow.maps == (Try.f15.params.toList ++ Rows.integerProductFormulaSpec.plain.varTypes Try.checked.prog).any (Try.checked.prog.mapsRec ·)) = true := by kernel_rfl
theorem k15 : (Rows.integerProductFormulaRow.ifaces == (Try.f15.params.toList ++ Rows.integerProductFormulaSpec.plain.varTypes Try.checked.prog).any (Try.checked.prog.ifacesRec ·)) = true := by kernel_rfl
theorem k16 : (Rows.integerProductFormulaRow.mapsOut == Try.checked.prog.mapsAmong Try.f15.resultTypes.toList) = true := by kernel_rfl
theorem k17 : (Rows.integerProductFormulaRow.loops == (Try.f15.params.toList ++ Rows.integerProductFormulaSpec.plain.varTypes Try.checked.prog).any (Try.checked.prog.loopsFrom ·)) = true := by kernel_rfl
theorem k18 : (Rows.integerProductFormulaRow.wideKeys == (Try.f15.params.toList ++ Rows.integerProductFormulaSpec.plain.varTypes Try.checked.prog ++ Try.f15.resultTypes.toList).any (Try.checked.prog.wideKeysFrom ·)) = true := by kernel_rfl
theorem k31 : (Rows.integerProductFormulaRow.veiled == (Try.f15.params.toList ++ Rows.integerProductFormulaSpec.plain.varTypes Try.checked.prog ++ Try.f15.resultTypes.toList).any (Try.checked.prog.veiledRec ·)) = true := by kernel_rfl
theorem k32 : Rows.integerProductFormulaRow.veiledFits Try.checked.prog Try.f15.params.toList (Try.f15.params.toList ++ Rows.integerProductFormulaSpec.plain.varTypes Try.checked.prog ++ Try.f15.resultTypes.toList) = true := by kernel_rfl
theorem facts : joinedFacts Try.checked.prog 15 Try.f15 Rows.integerProductFormulaSpec Rows.integerProductFormulaRow = true :=
  joined_of (by kernel_rfl) pk2 pk3 (by kernel_rfl) (by kernel_rfl) (by kernel_rfl) pk7 (by kernel_rfl) pk9 k10 k11 k12 k13 k14 k15 k16 k17 k18 (by kernel_rfl) (by kernel_rfl) (by kernel_rfl) (by kernel_rfl) (beq_turn pk23 rfl) (by kernel_rfl) pk25 pk26 (beq_turn pk27 rfl) (beq_turn' pk28 rfl) (by kernel_rfl) (by kernel_rfl) k31 k32
set_option maxRecDepth 100000 in
theorem lifted (os : Os) (started : os.Started) (H : Type) (enc : TypeId × Value → H) :
    ReturnsInHanded {} Try.checked os 15 .any (Rows.integerProductFormulaSpec.pre6 enc Try.prog Try.f15 Rows.integerProductFormulaRow.domain false) (Rows.integerProductFormulaSpec.post enc Try.prog Try.f15 false true false false) := by
  refine returnsInHanded_of_change (C := Try.checked) own started (by kernel_rfl) Try.func15
    (ChangeSpec.witness6 (enc := enc) (C := Try.checked) false ⟨#[], #[.int .i64 0, .int .i64 0, .agg #[.int .i64 0, .int .i64 0, .int .i64 0]], []⟩ 8 (by kernel_rfl) (by kernel_rfl) (by kernel_rfl) (by kernel_rfl)) ?_
  intro W base args ds gs before hval0 hW _ _
  have hval : ∀ (j : Nat) t v, Try.f15.params[j]? = some t → args[j]? = some v → Value.okWide Try.prog W .any base t v := hval0
  have hW' := hW
  obtain ⟨p, q, hA0, hV, rfl, hfz, hnd⟩ := hW
  have hA : DataW.TrodAll enc Try.prog W 0 (fun _ => true) true Try.f15.params.toList args.toList ds p := hA0
  rw [Try.params15] at hA hval
  have hAA := hA
  obtain ⟨v0, vs0, d0, ds0, p0, q0, hargs, rfl, rfl, h0, r0⟩ := trodAll_cons hA
  obtain ⟨v1, vs1, d1, ds1, p1, q1, rfl, rfl, rfl, h1, r1⟩ := trodAll_cons r0
  obtain ⟨v2, vs2, d2, ds2, p2, q2, rfl, rfl, rfl, h2, r2⟩ := trodAll_cons r1
  obtain ⟨rfl, rfl, rfl⟩ := trodAll_nil r2
  obtain rfl : args = #[v0, v1, v2] := by cases args; simp_all
  obtain ⟨rfl, rfl⟩ := trodVars_none hV
  obtain ⟨a0, rfl, rfl, rfl, w0⟩ := open_int Try.underlying3 (hval 0 3 v0 rfl rfl) h0
  obtain ⟨a1, rfl, rfl, rfl, w1⟩ := open_int Try.underlying3 (hval 1 3 v1 rfl rfl) h1
  obtain ⟨a2, b2, c2, rfl, w2, x2, y2⟩ := open_arr3 Try.underlying79 Try.underlying3 (by kernel_rfl) (by kernel_rfl) (hval 2 79 v2 rfl rfl) h2
  clear hA0 hval0
  refine (IntegerProductFormula_law a0 a1 a2 b2 c2 W (i64_of_wf w0) (i64_of_wf w1) (i64_of_wf w2) (i64_of_wf x2) (i64_of_wf y2)).mono fun e W' ⟨he, hg⟩ => ?_
  subst he
  exact ⟨_, rfl, post_of_below (pa := _) (pv := []) hW' (fun _ _ _ => (trodAll_cons_mk (shut_bool Try.underlying4 _) trodAll_mk0)) (fun sp hsp => args_again' pk2 pk3 slicesFull (by kernel_rfl) hAA hg sp (fun x hx => hsp x (List.mem_append_left _ hx))) (fun _ _ => rfl) rfl
    hg (ok_one (by kernel_rfl) rfl (okWide_bool_mk Try.underlying4 _))⟩
theorem over : Rows.integerProductFormulaRow.holds Try.pinned (OpenSpec.ofChange Rows.integerProductFormulaSpec) :=
  OpenClaim.holds_of_wide 15 Try.f15 rfl rfl rfl rfl rfl rfl rfl ⟨rfl, rfl, rfl, rfl, rfl⟩ rfl rfl rfl rfl rfl (by kernel_rfl) Try.func15 facts
    (of_decide_eq_true (by kernel_rfl)) (by unfold Func.isWrapper; first | (rw [if_pos (by decide +kernel)]; kernel_rfl) | (rw [if_neg (by decide +kernel)]; exact ⟨rfl, rfl⟩))
    (fun os started H enc _ => lifted os started H enc)
/-- THE STATEMENT -/
theorem proved : Rows.IntegerProductFormulaSaid := over
end Go.Proofs.Ytmlkiddkgikdhaa.integerProductFormula
