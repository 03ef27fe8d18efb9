/- The statement IntegerChinese: for every input the call returns true. No condition. -/
import Derived.Test.YtmlkiddkgikdhaaOpen3
import Derived.Test.YtmlkiddkgikdhaaIntegerChinese
namespace Go.Proofs.Ytmlkiddkgikdhaa.integerChinese
open Go.ChangeShapes Go.WideShapes Go.ChangeAt Go.RowKit FF
theorem k10 : (Rows.integerChineseRow.inPlace == Try.checked.prog.inPlace 11) = true := by kernel_rfl
theorem k11 : (Rows.integerChineseRow.unfollowed == Try.checked.prog.unfollowed 11) = true := by kernel_rfl
theorem k12 : (Rows.integerChineseRow.recurses == Try.checked.prog.recurses 11) = true := by kernel_rfl
theorem k13 : (Rows.integerChineseRow.named == Try.checked.prog.varsNamed 11) = true := by kernel_rfl
theorem k14 : (Rows.integerChineseRow.maps == (Try.f11.params.toList ++ Rows.integerChineseSpec.plain.varTypes Try.checked.prog).any (Try.checked.prog.mapsRec ·)) = true := by kernel_rfl
theorem k15 : (Rows.integerChineseRow.ifaces == (Try.f11.params.toList ++ Rows.integerChineseSpec.plain.varTypes Try.checked.prog).any (Try.checked.prog.ifacesRec ·)) = true := by kernel_rfl
theorem k16 : (Rows.integerChineseRow.mapsOut == Try.checked.prog.mapsAmong Try.f11.resultTypes.toList) = true := by kernel_rfl
theorem k17 : (Rows.integerChineseRow.loops == (Try.f11.params.toList ++ Rows.integerChineseSpec.plain.varTypes Try.checked.prog).any (Try.checked.prog.loopsFrom ·)) = true := by kernel_rfl
theorem k18 : (Rows.integerChineseRow.wideKeys == (Try.f11.params.toList ++ Rows.integerChineseSpec.plain.varTypes Try.checked.prog ++ Try.f11.resultTypes.toList).any (Try.checked.prog.wideKeysFrom ·)) = true := by kernel_rfl
theorem k31 : (Rows.integerChineseRow.veiled == (Try.f11.params.toList ++ Rows.integerChineseSpec.plain.varTypes Try.checked.prog ++ Try.f11.resultTypes.toList).any (Try.checked.prog.veiledRec ·)) = true := by kernel_rfl
theorem k32 : Rows.integerChineseRow.veiledFits Try.checked.prog Try.f11.params.toList (Try.f11.params.toList ++ Rows.integerChineseSpec.plain.varTypes Try.checked.prog ++ Try.f11.resultTypes.toList) = true := by kernel_rfl
theorem facts : joinedFacts Try.checked.prog 11 Try.f11 Rows.integerChineseSpec Rows.integerChineseRow = true :=
  joined_of (by kernel_rfl) pk2 pk3 (by kernel_rfl) (by kernel_rfl) (by kernel_rfl) pk7 (by kernel_rfl) pk9 k10 k11 k12 k13 k14 k15 k16 k17 k18 (by kernel_rfl) (by kernel_rfl) (by kernel_rfl) (by kernel_rfl) (beq_turn pk23 rfl) (by kernel_rfl) pk25 pk26 (beq_turn pk27 rfl) (beq_turn' pk28 rfl) (by kernel_rfl) (by kernel_rfl) k31 k32
set_option maxRecDepth 100000 in
theorem lifted (os : Os) (started : os.Started) (H : Type) (enc : TypeId × Value → H) :
    ReturnsInHanded {} Try.checked os 11 .any (Rows.integerChineseSpec.pre6 enc Try.prog Try.f11 Rows.integerChineseRow.domain false) (Rows.integerChineseSpec.post enc Try.prog Try.f11 false true false false) := by
  refine returnsInHanded_of_change (C := Try.checked) own started (by kernel_rfl) Try.func11
    (ChangeSpec.witness6 (enc := enc) (C := Try.checked) false ⟨#[], #[.slice none 0 0], []⟩ 8 (by kernel_rfl) (by kernel_rfl) (by kernel_rfl) (by kernel_rfl)) ?_
  intro W base args ds gs before hval0 hW _ _
  have hval : ∀ (j : Nat) t v, Try.f11.params[j]? = some t → args[j]? = some v → Value.okWide Try.prog W .any base t v := hval0
  have hW' := hW
  obtain ⟨p, q, hA0, hV, rfl, hfz, hnd⟩ := hW
  have hA : DataW.TrodAll enc Try.prog W 0 (fun _ => true) true Try.f11.params.toList args.toList ds p := hA0
  rw [Try.params11] at hA hval
  have hAA := hA
  obtain ⟨v0, vs0, d0, ds0, p0, q0, hargs, rfl, rfl, h0, r0⟩ := trodAll_cons hA
  obtain ⟨rfl, rfl, rfl⟩ := trodAll_nil r0
  obtain rfl : args = #[v0] := by cases args; simp_all
  obtain ⟨rfl, rfl⟩ := trodVars_none hV
  obtain ⟨A0, l0, c0, rfl, s0, g0, m0, x0, y0⟩ := open_pairs Try.underlying59 Try.underlying61 (by kernel_rfl) rfl rfl (by kernel_rfl) rfl rfl Try.underlying3 (hval 0 59 v0 rfl rfl) h0
  clear hA0 hval0
  refine (IntegerChinese_law A0 l0 c0 W s0 g0 m0 x0).mono fun e W' ⟨he, hg⟩ => ?_
  subst he
  exact ⟨_, rfl, post_of_below (pa := _) (pv := []) hW' (fun _ _ _ => (trodAll_cons_mk (shut_bool Try.underlying4 _) trodAll_mk0)) (fun sp hsp => args_again' pk2 pk3 slicesFull (by kernel_rfl) hAA hg sp (fun x hx => hsp x (List.mem_append_left _ hx))) (fun _ _ => rfl) rfl
    hg (ok_one (by kernel_rfl) rfl (okWide_bool_mk Try.underlying4 _))⟩
theorem over : Rows.integerChineseRow.holds Try.pinned (OpenSpec.ofChange Rows.integerChineseSpec) :=
  OpenClaim.holds_of_wide 11 Try.f11 rfl rfl rfl rfl rfl rfl rfl ⟨rfl, rfl, rfl, rfl, rfl⟩ rfl rfl rfl rfl rfl (by kernel_rfl) Try.func11 facts
    (of_decide_eq_true (by kernel_rfl)) (by unfold Func.isWrapper; first | (rw [if_pos (by decide +kernel)]; kernel_rfl) | (rw [if_neg (by decide +kernel)]; exact ⟨rfl, rfl⟩))
    (fun os started H enc _ => lifted os started H enc)
/-- THE STATEMENT -/
theorem proved : Rows.IntegerChineseSaid := over
end Go.Proofs.Ytmlkiddkgikdhaa.integerChinese
