/- The statement TopIsomorphismKeeps: for every input the call returns true. No condition. -/
import Derived.Test.YtfjmhfmhijhpkaaOpen4
import Derived.Test.YtfjmhfmhijhpkaaTopIsomorphismKeeps
namespace Go.Proofs.Ytfjmhfmhijhpkaa.topIsomorphismKeeps
open Go.ChangeShapes Go.WideShapes Go.ChangeAt Go.RowKit FF
theorem k10 : (Rows.topIsomorphismKeepsRow.inPlace == Try.checked.prog.inPlace 6) = true := by kernel_rfl
theorem k11 : (Rows.topIsomorphismKeepsRow.unfollowed == Try.checked.prog.unfollowed 6) = true := by kernel_rfl
theorem k12 : (Rows.topIsomorphismKeepsRow.recurses == Try.checked.prog.recurses 6) = true := by kernel_rfl
theorem k13 : (Rows.topIsomorphismKeepsRow.named == Try.checked.prog.varsNamed 6) = true := by kernel_rfl
theorem k14 : (Rows.topIsomorphismKeepsRow.maps == (Try.f6.params.toList ++ Rows.topIsomorphismKeepsSpec.plain.varTypes Try.checked.prog).any (Try.checked.prog.mapsRec ·)) = true := by kernel_rfl
theorem k15 : (Rows.topIsomorphismKeepsRow.ifaces == (Try.f6.params.toList ++ Rows.topIsomorphismKeepsSpec.plain.varTypes Try.checked.prog).any (Try.checked.prog.ifacesRec ·)) = true := by kernel_rfl
theorem k16 : (Rows.topIsomorphismKeepsRow.mapsOut == Try.checked.prog.mapsAmong Try.f6.resultTypes.toList) = true := by kernel_rfl
theorem k17 : (Rows.topIsomorphismKeepsRow.loops == (Try.f6.params.toList ++ Rows.topIsomorphismKeepsSpec.plain.varTypes Try.checked.prog).any (Try.checked.prog.loopsFrom ·)) = true := by kernel_rfl
theorem k18 : (Rows.topIsomorphismKeepsRow.wideKeys == (Try.f6.params.toList ++ Rows.topIsomorphismKeepsSpec.plain.varTypes Try.checked.prog ++ Try.f6.resultTypes.toList).any (Try.checked.prog.wideKeysFrom ·)) = true := by kernel_rfl
theorem k31 : (Rows.topIsomorphismKeepsRow.veiled == (Try.f6.params.toList ++ Rows.topIsomorphismKeepsSpec.plain.varTypes Try.checked.prog ++ Try.f6.resultTypes.toList).any (Try.checked.prog.veiledRec ·)) = true := by kernel_rfl
theorem k32 : Rows.topIsomorphismKeepsRow.veiledFits Try.checked.prog Try.f6.params.toList (Try.f6.params.toList ++ Rows.topIsomorphismKeepsSpec.plain.varTypes Try.checked.prog ++ Try.f6.resultTypes.toList) = true := by kernel_rfl
theorem facts : joinedFacts Try.checked.prog 6 Try.f6 Rows.topIsomorphismKeepsSpec Rows.topIsomorphismKeepsRow = true :=
  joined_of (by kernel_rfl) pk2 pk3 (by kernel_rfl) (by kernel_rfl) (by kernel_rfl) pk7 (by kernel_rfl) pk9 k10 k11 k12 k13 k14 k15 k16 k17 k18 (by kernel_rfl) (by kernel_rfl) (by kernel_rfl) (by kernel_rfl) (beq_turn pk23 rfl) (by kernel_rfl) pk25 pk26 (beq_turn pk27 rfl) (beq_turn' pk28 rfl) (by kernel_rfl) (by kernel_rfl) k31 k32
set_option maxRecDepth 100000 in
theorem lifted (os : Os) (started : os.Started) (H : Type) (enc : TypeId × Value → H) :
    ReturnsInHanded {} Try.checked os 6 .any (Rows.topIsomorphismKeepsSpec.pre6 enc Try.prog Try.f6 Rows.topIsomorphismKeepsRow.domain false) (Rows.topIsomorphismKeepsSpec.post enc Try.prog Try.f6 false true false false) := by
  refine returnsInHanded_of_change (C := Try.checked) own started (by kernel_rfl) Try.func6
    (ChangeSpec.witness6 (enc := enc) (C := Try.checked) false ⟨#[], #[.agg #[.int .i64 0, .int .i64 0], .agg #[.int .i64 0, .int .i64 0], .agg #[.int .i64 0, .int .i64 0, .int .i64 0, .int .i64 0, .int .i64 0, .int .i64 0, .int .i64 0, .int .i64 0, .int .i64 0, .int .i64 0]], []⟩ 8 (by kernel_rfl) (by kernel_rfl) (by kernel_rfl) (by kernel_rfl)) ?_
  intro W base args ds gs before hval0 hW _ _
  have hval : ∀ (j : Nat) t v, Try.f6.params[j]? = some t → args[j]? = some v → Value.okWide Try.prog W .any base t v := hval0
  have hW' := hW
  obtain ⟨p, q, hA0, hV, rfl, hfz, hnd⟩ := hW
  have hA : DataW.TrodAll enc Try.prog W 0 (fun _ => true) true Try.f6.params.toList args.toList ds p := hA0
  rw [Try.params6] at hA hval
  have hAA := hA
  obtain ⟨v0, vs0, d0, ds0, p0, q0, hargs, rfl, rfl, h0, r0⟩ := trodAll_cons hA
  obtain ⟨v1, vs1, d1, ds1, p1, q1, rfl, rfl, rfl, h1, r1⟩ := trodAll_cons r0
  obtain ⟨v2, vs2, d2, ds2, p2, q2, rfl, rfl, rfl, h2, r2⟩ := trodAll_cons r1
  obtain ⟨rfl, rfl, rfl⟩ := trodAll_nil r2
  obtain rfl : args = #[v0, v1, v2] := by cases args; simp_all
  obtain ⟨rfl, rfl⟩ := trodVars_none hV
  obtain ⟨x0_0, x0_1, rfl, w0_0, w0_1⟩ := open_2 (n := 6) (by kernel_rfl) Try.underlying23 (by kernel_rfl) (hval 0 23 v0 rfl rfl) h0
  obtain ⟨x1_0, x1_1, rfl, w1_0, w1_1⟩ := open_2 (n := 6) (by kernel_rfl) Try.underlying23 (by kernel_rfl) (hval 1 23 v1 rfl rfl) h1
  obtain ⟨x2_0, x2_1, x2_2, x2_3, x2_4, x2_5, x2_6, x2_7, x2_8, x2_9, rfl, w2_0, w2_1, w2_2, w2_3, w2_4, w2_5, w2_6, w2_7, w2_8, w2_9⟩ := open_10 (n := 6) (by kernel_rfl) Try.underlying67 (by kernel_rfl) (hval 2 67 v2 rfl rfl) h2
  clear hA0 hval0
  refine (TopIsomorphismKeeps_law x0_0 x0_1 x1_0 x1_1 x2_0 x2_1 x2_2 x2_3 x2_4 x2_5 x2_6 x2_7 x2_8 x2_9 W ).mono fun e W' ⟨he, hg⟩ => ?_
  subst he
  exact ⟨_, rfl, post_of_below (pa := _) (pv := []) hW' (fun _ _ _ => (trodAll_cons_mk (shut_bool Try.underlying4 _) trodAll_mk0)) (fun sp hsp => args_again' pk2 pk3 slicesFull (by kernel_rfl) hAA hg sp (fun x hx => hsp x (List.mem_append_left _ hx))) (fun _ _ => rfl) rfl
    hg (ok_one (by kernel_rfl) rfl (okWide_bool_mk Try.underlying4 _))⟩
theorem over : Rows.topIsomorphismKeepsRow.holds Try.pinned (OpenSpec.ofChange Rows.topIsomorphismKeepsSpec) :=
  OpenClaim.holds_of_wide 6 Try.f6 rfl rfl rfl rfl rfl rfl rfl ⟨rfl, rfl, rfl, rfl, rfl⟩ rfl rfl rfl rfl rfl (by kernel_rfl) Try.func6 facts
    (of_decide_eq_true (by kernel_rfl)) (by unfold Func.isWrapper; first | (rw [if_pos (by decide +kernel)]; kernel_rfl) | (rw [if_neg (by decide +kernel)]; exact ⟨rfl, rfl⟩))
    (fun os started H enc _ => lifted os started H enc)
/-- THE STATEMENT -/
theorem proved : Rows.TopIsomorphismKeepsSaid := over
end Go.Proofs.Ytfjmhfmhijhpkaa.topIsomorphismKeeps
