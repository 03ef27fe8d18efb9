/- The statement TopGeneratorsAreIdeals: for every input the call returns true. No condition. -/
import Derived.Test.YthkklilhjnpedaaGreatUOpen0
import Derived.Test.YthkklilhjnpedaaGreatUJw
namespace Go.Proofs.YthkklilhjnpedaaGreat.topGeneratorsAreIdeals
open Go.ChangeShapes Go.WideShapes Go.ChangeAt Go.RowKit FF
theorem k10 : (Rows.topGeneratorsAreIdealsRow.inPlace == Tryz.checked.prog.inPlace 3) = true := by kernel_rfl
theorem k11 : (Rows.topGeneratorsAreIdealsRow.unfollowed == Tryz.checked.prog.unfollowed 3) = true := by kernel_rfl
theorem k12 : (Rows.topGeneratorsAreIdealsRow.recurses == Tryz.checked.prog.recurses 3) = true := by kernel_rfl
theorem k13 : (Rows.topGeneratorsAreIdealsRow.named == Tryz.checked.prog.varsNamed 3) = true := by kernel_rfl
theorem k14 : (Rows.topGeneratorsAreIdealsRow.maps == (Tryz.f3.params.toList ++ Rows.topGeneratorsAreIdealsSpec.plain.varTypes Tryz.checked.prog).any (Tryz.checked.prog.mapsRec ·)) = true := by kernel_rfl
theorem k15 : (Rows.topGeneratorsAreIdealsRow.ifaces == (Tryz.f3.params.toList ++ Rows.topGeneratorsAreIdealsSpec.plain.varTypes Tryz.checked.prog).any (Tryz.checked.prog.ifacesRec ·)) = true := by kernel_rfl
theorem k16 : (Rows.topGeneratorsAreIdealsRow.mapsOut == Tryz.checked.prog.mapsAmong Tryz.f3.resultTypes.toList) = true := by kernel_rfl
theorem k17 : (Rows.topGeneratorsAreIdealsRow.loops == (Tryz.f3.params.toList ++ Rows.topGeneratorsAreIdealsSpec.plain.varTypes Tryz.checked.prog).any (Tryz.checked.prog.loopsFrom ·)) = true := by kernel_rfl
theorem k18 : (Rows.topGeneratorsAreIdealsRow.wideKeys == (Tryz.f3.params.toList ++ Rows.topGeneratorsAreIdealsSpec.plain.varTypes Tryz.checked.prog ++ Tryz.f3.resultTypes.toList).any (Tryz.checked.prog.wideKeysFrom ·)) = true := by kernel_rfl
theorem k31 : (Rows.topGeneratorsAreIdealsRow.veiled == (Tryz.f3.params.toList ++ Rows.topGeneratorsAreIdealsSpec.plain.varTypes Tryz.checked.prog ++ Tryz.f3.resultTypes.toList).any (Tryz.checked.prog.veiledRec ·)) = true := by kernel_rfl
theorem k32 : Rows.topGeneratorsAreIdealsRow.veiledFits Tryz.checked.prog Tryz.f3.params.toList (Tryz.f3.params.toList ++ Rows.topGeneratorsAreIdealsSpec.plain.varTypes Tryz.checked.prog ++ Tryz.f3.resultTypes.toList) = true := by kernel_rfl
theorem facts : joinedFacts Tryz.checked.prog 3 Tryz.f3 Rows.topGeneratorsAreIdealsSpec Rows.topGeneratorsAreIdealsRow = true :=
  joined_of (by kernel_rfl) pk2 pk3 (by kernel_rfl) (by kernel_rfl) (by kernel_rfl) pk7 (by kernel_rfl) pk9 k10 k11 k12 k13 k14 k15 k16 k17 k18 (by kernel_rfl) (by kernel_rfl) (by kernel_rfl) (by kernel_rfl) (beq_turn pk23 rfl) (by kernel_rfl) pk25 pk26 (beq_turn pk27 rfl) (beq_turn' pk28 rfl) (by kernel_rfl) (by kernel_rfl) k31 k32
set_option maxRecDepth 100000 in
theorem lifted (os : Os) (started : os.Started) (H : Type) (enc : TypeId × Value → H) :
    ReturnsInHanded {} Tryz.checked os 3 .any (Rows.topGeneratorsAreIdealsSpec.pre6 enc Tryz.prog Tryz.f3 Rows.topGeneratorsAreIdealsRow.domain false) (Rows.topGeneratorsAreIdealsSpec.post enc Tryz.prog Tryz.f3 false true false false) := by
  refine returnsInHanded_of_change (C := Tryz.checked) own started (by kernel_rfl) Tryz.func3
    (ChangeSpec.witness6 (enc := enc) (C := Tryz.checked) false ⟨#[], #[.int .i64 0], []⟩ 8 (by kernel_rfl) (by kernel_rfl) (by kernel_rfl) (by kernel_rfl)) ?_
  intro W base args ds gs before hval0 hW _ _
  have hval : ∀ (j : Nat) t v, Tryz.f3.params[j]? = some t → args[j]? = some v → Value.okWide Tryz.prog W .any base t v := hval0
  have hW' := hW
  obtain ⟨p, q, hA0, hV, rfl, hfz, hnd⟩ := hW
  have hA : DataW.TrodAll enc Tryz.prog W 0 (fun _ => true) true Tryz.f3.params.toList args.toList ds p := hA0
  rw [Tryz.params3] at hA hval
  have hAA := hA
  obtain ⟨v0, vs0, d0, ds0, p0, q0, hargs, rfl, rfl, h0, r0⟩ := trodAll_cons hA
  obtain ⟨rfl, rfl, rfl⟩ := trodAll_nil r0
  obtain rfl : args = #[v0] := by cases args; simp_all
  obtain ⟨rfl, rfl⟩ := trodVars_none hV
  obtain ⟨a0, rfl, rfl, rfl, w0⟩ := open_int Tryz.underlying3 (hval 0 3 v0 rfl rfl) h0
  clear hA0 hval0
  refine (TopGeneratorsAreIdeals_law a0 W (i64_of_wf w0)).mono fun e W' ⟨he, hg⟩ => ?_
  subst he
  exact ⟨_, rfl, post_of_below (pa := _) (pv := []) hW' (fun _ _ _ => (trodAll_cons_mk (shut_bool Tryz.underlying4 _) trodAll_mk0)) (fun sp hsp => args_again' pk2 pk3 slicesFull (by kernel_rfl) hAA hg sp (fun x hx => hsp x (List.mem_append_left _ hx))) (fun _ _ => rfl) rfl
    hg (ok_one (by kernel_rfl) rfl (okWide_bool_mk Tryz.underlying4 _))⟩
theorem over : Rows.topGeneratorsAreIdealsRow.holds Tryz.pinned (OpenSpec.ofChange Rows.topGeneratorsAreIdealsSpec) :=
  OpenClaim.holds_of_wide 3 Tryz.f3 rfl rfl rfl rfl rfl rfl rfl ⟨rfl, rfl, rfl, rfl, rfl⟩ rfl rfl rfl rfl rfl (by kernel_rfl) Tryz.func3 facts
    (of_decide_eq_true (by kernel_rfl)) (by unfold Func.isWrapper; first | (rw [if_pos (by decide +kernel)]; kernel_rfl) | (rw [if_neg (by decide +kernel)]; exact ⟨rfl, rfl⟩))
    (fun os started H enc _ => lifted os started H enc)
theorem proved : Rows.TopGeneratorsAreIdealsSaid := over
end Go.Proofs.YthkklilhjnpedaaGreat.topGeneratorsAreIdeals
