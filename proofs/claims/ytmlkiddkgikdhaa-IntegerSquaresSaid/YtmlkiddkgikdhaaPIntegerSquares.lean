/- The statement IntegerSquares: for every input the call returns true. No condition. -/
import Derived.Test.YtmlkiddkgikdhaaOpen
import Derived.Test.YtmlkiddkgikdhaaIntegerSquares
namespace Go.Proofs.Ytmlkiddkgikdhaa.integerSquares
open Go.ChangeShapes Go.WideShapes Go.ChangeAt Go.RowKit FF
theorem k10 : (Rows.integerSquaresRow.inPlace == Try.checked.prog.inPlace 14) = true := by kernel_rfl
theorem k11 : (Rows.integerSquaresRow.unfollowed == Try.checked.prog.unfollowed 14) = true := by kernel_rfl
theorem k12 : (Rows.integerSquaresRow.recurses == Try.checked.prog.recurses 14) = true := by kernel_rfl
theorem k13 : (Rows.integerSquaresRow.named == Try.checked.prog.varsNamed 14) = true := by kernel_rfl
theorem k14 : (Rows.integerSquaresRow.maps == (Try.f14.params.toList ++ Rows.integerSquaresSpec.plain.varTypes Try.checked.prog).any (Try.checked.prog.mapsRec ·)) = true := by kernel_rfl
theorem k15 : (Rows.integerSquaresRow.ifaces == (Try.f14.params.toList ++ Rows.integerSquaresSpec.plain.varTypes Try.checked.prog).any (Try.checked.prog.ifacesRec ·)) = true := by kernel_rfl
theorem k16 : (Rows.integerSquaresRow.mapsOut == Try.checked.prog.mapsAmong Try.f14.resultTypes.toList) = true := by kernel_rfl
theorem k17 : (Rows.integerSquaresRow.loops == (Try.f14.params.toList ++ Rows.integerSquaresSpec.plain.varTypes Try.checked.prog).any (Try.checked.prog.loopsFrom ·)) = true := by kernel_rfl
theorem k18 : (Rows.integerSquaresRow.wideKeys == (Try.f14.params.toList ++ Rows.integerSquaresSpec.plain.varTypes Try.checked.prog ++ Try.f14.resultTypes.toList).any (Try.checked.prog.wideKeysFrom ·)) = true := by kernel_rfl
theorem k31 : (Rows.integerSquaresRow.veiled == (Try.f14.params.toList ++ Rows.integerSquaresSpec.plain.varTypes Try.checked.prog ++ Try.f14.resultTypes.toList).any (Try.checked.prog.veiledRec ·)) = true := by kernel_rfl
theorem k32 : Rows.integerSquaresRow.veiledFits Try.checked.prog Try.f14.params.toList (Try.f14.params.toList ++ Rows.integerSquaresSpec.plain.varTypes Try.checked.prog ++ Try.f14.resultTypes.toList) = true := by kernel_rfl
theorem facts : joinedFacts Try.checked.prog 14 Try.f14 Rows.integerSquaresSpec Rows.integerSquaresRow = true :=
  joined_of (by kernel_rfl) pk2 pk3 (by kernel_rfl) (by kernel_rfl) (by kernel_rfl) pk7 (by kernel_rfl) pk9 k10 k11 k12 k13 k14 k15 k16 k17 k18 (by kernel_rfl) (by kernel_rfl) (by kernel_rfl) (by kernel_rfl) (beq_turn pk23 rfl) (by kernel_rfl) pk25 pk26 (beq_turn pk27 rfl) (beq_turn' pk28 rfl) (by kernel_rfl) (by kernel_rfl) k31 k32
set_option maxRecDepth 100000 in
theorem lifted (os : Os) (started : os.Started) (H : Type) (enc : TypeId × Value → H) :
    ReturnsInHanded {} Try.checked os 14 .any (Rows.integerSquaresSpec.pre6 enc Try.prog Try.f14 Rows.integerSquaresRow.domain false) (Rows.integerSquaresSpec.post enc Try.prog Try.f14 false true false false) := by
  refine returnsInHanded_of_change (C := Try.checked) own started (by kernel_rfl) Try.func14
    (ChangeSpec.witness6 (enc := enc) (C := Try.checked) false ⟨#[], #[.agg #[.bool false, .slice none 0 0]], []⟩ 8 (by kernel_rfl) (by kernel_rfl) (by kernel_rfl) (by kernel_rfl)) ?_
  intro W base args ds gs before hval0 hW _ _
  have hval : ∀ (j : Nat) t v, Try.f14.params[j]? = some t → args[j]? = some v → Value.okWide Try.prog W .any base t v := hval0
  have hW' := hW
  obtain ⟨p, q, hA0, hV, rfl, hfz, hnd⟩ := hW
  have hA : DataW.TrodAll enc Try.prog W 0 (fun _ => true) true Try.f14.params.toList args.toList ds p := hA0
  rw [Try.params14] at hA hval
  have hAA := hA
  obtain ⟨v0, vs0, d0, ds0, p0, q0, hargs, rfl, rfl, h0, r0⟩ := trodAll_cons hA
  obtain ⟨rfl, rfl, rfl⟩ := trodAll_nil r0
  obtain rfl : args = #[v0] := by cases args; simp_all
  obtain ⟨rfl, rfl⟩ := trodVars_none hV
  obtain ⟨b0, A0, xs0, c0, rfl, s0, g0, l0, m0⟩ := open_Int Try.underlying51 (by kernel_rfl) (by kernel_rfl) rfl rfl Try.underlying4 Try.underlying49 Try.underlying111 (by kernel_rfl) (hval 0 51 v0 rfl rfl) h0
  clear hA0 hval0
  refine (IntegerSquares_law b0 A0 xs0 c0 W s0 g0 l0 m0).mono fun e W' ⟨he, hg⟩ => ?_
  subst he
  exact ⟨_, rfl, post_of_below (pa := _) (pv := []) hW' (fun _ _ _ => (trodAll_cons_mk (shut_bool Try.underlying4 _) trodAll_mk0)) (fun sp hsp => args_again' pk2 pk3 slicesFull (by kernel_rfl) hAA hg sp (fun x hx => hsp x (List.mem_append_left _ hx))) (fun _ _ => rfl) rfl
    hg (ok_one (by kernel_rfl) rfl (okWide_bool_mk Try.underlying4 _))⟩
theorem over : Rows.integerSquaresRow.holds Try.pinned (OpenSpec.ofChange Rows.integerSquaresSpec) :=
  OpenClaim.holds_of_wide 14 Try.f14 rfl rfl rfl rfl rfl rfl rfl ⟨rfl, rfl, rfl, rfl, rfl⟩ rfl rfl rfl rfl rfl (by kernel_rfl) Try.func14 facts
    (of_decide_eq_true (by kernel_rfl)) (by unfold Func.isWrapper; first | (rw [if_pos (by decide +kernel)]; kernel_rfl) | (rw [if_neg (by decide +kernel)]; exact ⟨rfl, rfl⟩))
    (fun os started H enc _ => lifted os started H enc)
/-- THE STATEMENT -/
theorem proved : Rows.IntegerSquaresSaid := over
end Go.Proofs.Ytmlkiddkgikdhaa.integerSquares
