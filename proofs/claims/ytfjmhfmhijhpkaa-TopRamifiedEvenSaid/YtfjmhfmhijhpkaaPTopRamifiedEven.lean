/- The statement TopRamifiedEven: for every input the call returns true. No condition. -/
import Derived.Test.YtfjmhfmhijhpkaaOpen4
import Derived.Test.YtfjmhfmhijhpkaaTopRamifiedEven
namespace Go.Proofs.Ytfjmhfmhijhpkaa.topRamifiedEven
open Go.ChangeShapes Go.WideShapes Go.ChangeAt Go.RowKit FF
theorem k10 : (Rows.topRamifiedEvenRow.inPlace == Try.checked.prog.inPlace 5) = true := by kernel_rfl
theorem k11 : (Rows.topRamifiedEvenRow.unfollowed == Try.checked.prog.unfollowed 5) = true := by kernel_rfl
theorem k12 : (Rows.topRamifiedEvenRow.recurses == Try.checked.prog.recurses 5) = true := by kernel_rfl
theorem k13 : (Rows.topRamifiedEvenRow.named == Try.checked.prog.varsNamed 5) = true := by kernel_rfl
theorem k14 : (Rows.topRamifiedEvenRow.maps == (Try.f5.params.toList ++ Rows.topRamifiedEvenSpec.plain.varTypes Try.checked.prog).any (Try.checked.prog.mapsRec ·)) = true := by kernel_rfl
theorem k15 : (Rows.topRamifiedEvenRow.ifaces == (Try.f5.params.toList ++ Rows.topRamifiedEvenSpec.plain.varTypes Try.checked.prog).any (Try.checked.prog.ifacesRec ·)) = true := by kernel_rfl
theorem k16 : (Rows.topRamifiedEvenRow.mapsOut == Try.checked.prog.mapsAmong Try.f5.resultTypes.toList) = true := by kernel_rfl
theorem k17 : (Rows.topRamifiedEvenRow.loops == (Try.f5.params.toList ++ Rows.topRamifiedEvenSpec.plain.varTypes Try.checked.prog).any (Try.checked.prog.loopsFrom ·)) = true := by kernel_rfl
theorem k18 : (Rows.topRamifiedEvenRow.wideKeys == (Try.f5.params.toList ++ Rows.topRamifiedEvenSpec.plain.varTypes Try.checked.prog ++ Try.f5.resultTypes.toList).any (Try.checked.prog.wideKeysFrom ·)) = true := by kernel_rfl
theorem k31 : (Rows.topRamifiedEvenRow.veiled == (Try.f5.params.toList ++ Rows.topRamifiedEvenSpec.plain.varTypes Try.checked.prog ++ Try.f5.resultTypes.toList).any (Try.checked.prog.veiledRec ·)) = true := by kernel_rfl
theorem k32 : Rows.topRamifiedEvenRow.veiledFits Try.checked.prog Try.f5.params.toList (Try.f5.params.toList ++ Rows.topRamifiedEvenSpec.plain.varTypes Try.checked.prog ++ Try.f5.resultTypes.toList) = true := by kernel_rfl
theorem facts : joinedFacts Try.checked.prog 5 Try.f5 Rows.topRamifiedEvenSpec Rows.topRamifiedEvenRow = true :=
  joined_of (by kernel_rfl) pk2 pk3 (by kernel_rfl) (by kernel_rfl) (by kernel_rfl) pk7 (by kernel_rfl) pk9 k10 k11 k12 k13 k14 k15 k16 k17 k18 (by kernel_rfl) (by kernel_rfl) (by kernel_rfl) (by kernel_rfl) (beq_turn pk23 rfl) (by kernel_rfl) pk25 pk26 (beq_turn pk27 rfl) (beq_turn' pk28 rfl) (by kernel_rfl) (by kernel_rfl) k31 k32
set_option maxRecDepth 100000 in
theorem lifted (os : Os) (started : os.Started) (H : Type) (enc : TypeId × Value → H) :
    ReturnsInHanded {} Try.checked os 5 .any (Rows.topRamifiedEvenSpec.pre6 enc Try.prog Try.f5 Rows.topRamifiedEvenRow.domain false) (Rows.topRamifiedEvenSpec.post enc Try.prog Try.f5 false true false false) := by
  refine returnsInHanded_of_change (C := Try.checked) own started (by kernel_rfl) Try.func5
    (ChangeSpec.witness6 (enc := enc) (C := Try.checked) false ⟨#[], #[.agg #[.int .i64 0, .int .i64 0]], []⟩ 8 (by kernel_rfl) (by kernel_rfl) (by kernel_rfl) (by kernel_rfl)) ?_
  intro W base args ds gs before hval0 hW _ _
  have hval : ∀ (j : Nat) t v, Try.f5.params[j]? = some t → args[j]? = some v → Value.okWide Try.prog W .any base t v := hval0
  have hW' := hW
  obtain ⟨p, q, hA0, hV, rfl, hfz, hnd⟩ := hW
  have hA : DataW.TrodAll enc Try.prog W 0 (fun _ => true) true Try.f5.params.toList args.toList ds p := hA0
  rw [Try.params5] at hA hval
  have hAA := hA
  obtain ⟨v0, vs0, d0, ds0, p0, q0, hargs, rfl, rfl, h0, r0⟩ := trodAll_cons hA
  obtain ⟨rfl, rfl, rfl⟩ := trodAll_nil r0
  obtain rfl : args = #[v0] := by cases args; simp_all
  obtain ⟨rfl, rfl⟩ := trodVars_none hV
  obtain ⟨x0_0, x0_1, rfl, w0_0, w0_1⟩ := open_2 (n := 6) (by kernel_rfl) Try.underlying23 (by kernel_rfl) (hval 0 23 v0 rfl rfl) h0
  clear hA0 hval0
  refine (TopRamifiedEven_law x0_0 x0_1 W ).mono fun e W' ⟨he, hg⟩ => ?_
  subst he
  exact ⟨_, rfl, post_of_below (pa := _) (pv := []) hW' (fun _ _ _ => (trodAll_cons_mk (shut_bool Try.underlying4 _) trodAll_mk0)) (fun sp hsp => args_again' pk2 pk3 slicesFull (by kernel_rfl) hAA hg sp (fun x hx => hsp x (List.mem_append_left _ hx))) (fun _ _ => rfl) rfl
    hg (ok_one (by kernel_rfl) rfl (okWide_bool_mk Try.underlying4 _))⟩
theorem over : Rows.topRamifiedEvenRow.holds Try.pinned (OpenSpec.ofChange Rows.topRamifiedEvenSpec) :=
  OpenClaim.holds_of_wide 5 Try.f5 rfl rfl rfl rfl rfl rfl rfl ⟨rfl, rfl, rfl, rfl, rfl⟩ rfl rfl rfl rfl rfl (by kernel_rfl) Try.func5 facts
    (of_decide_eq_true (by kernel_rfl)) (by unfold Func.isWrapper; first | (rw [if_pos (by decide +kernel)]; kernel_rfl) | (rw [if_neg (by decide +kernel)]; exact ⟨rfl, rfl⟩))
    (fun os started H enc _ => lifted os started H enc)
/-- THE STATEMENT -/
theorem proved : Rows.TopRamifiedEvenSaid := over
end Go.Proofs.Ytfjmhfmhijhpkaa.topRamifiedEven
