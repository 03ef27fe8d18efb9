/- The statement AlgebraProofs: for every input the call returns true. No condition. -/
import Derived.Test.YtfjmhfmhijhpkaaDoorCards
import Derived.Test.YtfjmhfmhijhpkaaDoorTie
import Derived.SevenTiedAt
import Derived.Test.YtfjmhfmhijhpkaaDoorDoor
import Derived.Test.YtfjmhfmhijhpkaaDoorAlgebraProofs
namespace Go.Proofs.YtfjmhfmhijhpkaaDoor.algebraProofs
open Go.ChangeShapes Go.WideShapes Go.ChangeAt Go.RowKit FF
theorem k10 : (Rows.algebraProofsRow.inPlace == Tryd.checked.prog.inPlace 4) = true := by kernel_rfl
theorem k11 : (Rows.algebraProofsRow.unfollowed == Tryd.checked.prog.unfollowed 4) = true := by kernel_rfl
theorem k12 : (Rows.algebraProofsRow.recurses == Tryd.checked.prog.recurses 4) = true := by kernel_rfl
theorem k13 : (Rows.algebraProofsRow.named == Tryd.checked.prog.varsNamed 4) = true := by kernel_rfl
theorem k14 : (Rows.algebraProofsRow.maps == (Tryd.f4.params.toList ++ Rows.algebraProofsSpec.plain.varTypes Tryd.checked.prog).any (Tryd.checked.prog.mapsRec ·)) = true := by kernel_rfl
theorem k15 : (Rows.algebraProofsRow.ifaces == (Tryd.f4.params.toList ++ Rows.algebraProofsSpec.plain.varTypes Tryd.checked.prog).any (Tryd.checked.prog.ifacesRec ·)) = true := by kernel_rfl
theorem k16 : (Rows.algebraProofsRow.mapsOut == Tryd.checked.prog.mapsAmong Tryd.f4.resultTypes.toList) = true := by kernel_rfl
theorem k17 : (Rows.algebraProofsRow.loops == (Tryd.f4.params.toList ++ Rows.algebraProofsSpec.plain.varTypes Tryd.checked.prog).any (Tryd.checked.prog.loopsFrom ·)) = true := by kernel_rfl
theorem k18 : (Rows.algebraProofsRow.wideKeys == (Tryd.f4.params.toList ++ Rows.algebraProofsSpec.plain.varTypes Tryd.checked.prog ++ Tryd.f4.resultTypes.toList).any (Tryd.checked.prog.wideKeysFrom ·)) = true := by kernel_rfl
theorem k31 : (Rows.algebraProofsRow.veiled == (Tryd.f4.params.toList ++ Rows.algebraProofsSpec.plain.varTypes Tryd.checked.prog ++ Tryd.f4.resultTypes.toList).any (Tryd.checked.prog.veiledRec ·)) = true := by kernel_rfl
theorem k32 : Rows.algebraProofsRow.veiledFits Tryd.checked.prog Tryd.f4.params.toList (Tryd.f4.params.toList ++ Rows.algebraProofsSpec.plain.varTypes Tryd.checked.prog ++ Tryd.f4.resultTypes.toList) = true := by kernel_rfl
theorem facts : joinedFacts Tryd.checked.prog 4 Tryd.f4 Rows.algebraProofsSpec Rows.algebraProofsRow = true :=
  joined_of (by kernel_rfl) pk2 pk3 (by kernel_rfl) (by kernel_rfl) (by kernel_rfl) pk7 (by kernel_rfl) pk9 k10 k11 k12 k13 k14 k15 k16 k17 k18 (by kernel_rfl) (by kernel_rfl) (by kernel_rfl) (by kernel_rfl) (beq_turn pk23 rfl) (by kernel_rfl) pk25 pk26 (beq_turn pk27 rfl) (beq_turn' pk28 rfl) (by kernel_rfl) (by kernel_rfl) k31 k32
set_option maxRecDepth 100000 in
theorem lifted (os : Os) (started : os.Started) (H : Type) (enc : TypeId × Value → H) :
    ReturnsInHanded {} Tryd.checked os 4 .any (fun w args => (Rows.algebraProofsSpec.pre enc Tryd.prog Tryd.f4 [] false w args ∧ laidMetH Tryd.prog Rows.algebraProofsRow.laid w) ∧ sizedMet enc Tryd.prog Tryd.f4 (OpenSpec.ofChange Rows.algebraProofsSpec) false w args) (Rows.algebraProofsSpec.post enc Tryd.prog Tryd.f4 false true false false) := by
  refine returnsInHanded_of_change_and (C := Tryd.checked) (X := fun w _ => laidMetH Tryd.prog Rows.algebraProofsRow.laid w) (fun _ _ _ hh h => h.of_heap hh) own started (by kernel_rfl) Tryd.func4
    (ChangeSpec.witness_shaped (enc := enc) (C := Tryd.checked) (os := os) (X := fun w _ => laidMetH Tryd.prog Rows.algebraProofsRow.laid w) false (World.doorLaid Tryd.prog 400 os) #[.agg #[.int .i64 0, .int .i64 0], .agg #[.int .i64 0, .int .i64 0], .slice none 0 0] 8 rfl (World.shaped_of_RefB (by kernel_rfl) (by kernel_rfl)) (by kernel_rfl) (by kernel_rfl) (by kernel_rfl) (door_met os _)) ?_
  intro W base args ds gs before hval0 hW _ _ _ _
  have hval : ∀ (j : Nat) t v, Tryd.f4.params[j]? = some t → args[j]? = some v → Value.okWide Tryd.prog W .any base t v := hval0
  have hW' := hW
  obtain ⟨p, q, hA0, hV, rfl, hfz, hnd⟩ := hW
  have hA : DataW.TrodAll enc Tryd.prog W 0 (fun _ => true) true Tryd.f4.params.toList args.toList ds p := hA0
  rw [Tryd.params4] at hA hval
  have hAA := hA
  obtain ⟨v0, vs0, d0, ds0, p0, q0, hargs, rfl, rfl, h0, r0⟩ := trodAll_cons hA
  obtain ⟨v1, vs1, d1, ds1, p1, q1, rfl, rfl, rfl, h1, r1⟩ := trodAll_cons r0
  obtain ⟨v2, vs2, d2, ds2, p2, q2, rfl, rfl, rfl, h2, r2⟩ := trodAll_cons r1
  obtain ⟨rfl, rfl, rfl⟩ := trodAll_nil r2
  obtain rfl : args = #[v0, v1, v2] := by cases args; simp_all
  obtain ⟨rfl, rfl⟩ := trodVars_none hV
  obtain ⟨x0_0, x0_1, rfl, w0_0, w0_1⟩ := open_2 (n := 6) (by kernel_rfl) Tryd.underlying23 (by kernel_rfl) (hval 0 23 v0 rfl rfl) h0
  obtain ⟨x1_0, x1_1, rfl, w1_0, w1_1⟩ := open_2 (n := 6) (by kernel_rfl) Tryd.underlying23 (by kernel_rfl) (hval 1 23 v1 rfl rfl) h1
  obtain ⟨A2, l2, c2, rfl, s2⟩ := open_quats (nn := 6) Tryd.underlying34 (by kernel_rfl) (by kernel_rfl) (hval 2 34 v2 rfl rfl) h2
  clear hA0 hval0
  refine (AlgebraProofs_law x0_0 x0_1 x1_0 x1_1 A2 l2 c2 W s2).mono fun e W' ⟨he, hg⟩ => ?_
  subst he
  exact ⟨_, rfl, post_of_below (pa := _) (pv := []) hW' (fun _ _ _ => (trodAll_cons_mk (shut_bool Tryd.underlying4 _) trodAll_mk0)) (fun sp hsp => args_again' pk2 pk3 slicesFull (by kernel_rfl) hAA hg sp (fun x hx => hsp x (List.mem_append_left _ hx))) (fun _ _ => rfl) rfl
    hg (ok_one (by kernel_rfl) rfl (okWide_bool_mk Tryd.underlying4 _))⟩
theorem over : Rows.algebraProofsRow.holds Tryd.pinned (OpenSpec.ofChange Rows.algebraProofsSpec) :=
  OpenClaim.holds_of_wide 4 Tryd.f4 rfl rfl rfl rfl rfl rfl rfl ⟨rfl, rfl, rfl, rfl, rfl⟩ rfl rfl rfl rfl rfl (by kernel_rfl) Tryd.func4 facts
    (of_decide_eq_true (by kernel_rfl)) (by unfold Func.isWrapper; first | (rw [if_pos (by decide +kernel)]; kernel_rfl) | (rw [if_neg (by decide +kernel)]; exact ⟨rfl, rfl⟩))
    (fun os started H enc _ => lifted os started H enc)
/-- THE STATEMENT -/
theorem proved : Rows.AlgebraProofsCardSaid :=
  Claim7.holds_tied_plain_at .later [] [.data, .data, .data] true (true, "ecaf361e81541c4b5a4d9529f400488c4454f1dbc1c0c61401a1862f884f311b") false
    over (fun _ h => by cases h) (by kernel_rfl) (fun _ h => by cases h) algebraProofs_row_tie rfl ⟨rfl, rfl⟩ (by kernel_rfl) rfl
    (fun f fn hf hfn => by
      obtain rfl : f = 4 := Option.some.inj ((show Tryd.prog.funcNamed "fourfold/fourfoldlaw03.AlgebraProofs" = some 4 by kernel_rfl).symm.trans hf) |>.symm
      obtain rfl : fn = Tryd.f4 := (Option.some.inj (Tryd.func4.symm.trans hfn)).symm
      exact ⟨by kernel_rfl, fun j t ht => by
        rw [Tryd.params4] at ht
        have hm : t ∈ [23, 34] := by have := Array.mem_of_getElem? ht; simp at this ⊢; omega
        have hall : ([23, 34].all fun u => !Tryd.prog.wantsStandIn u) = true := by kernel_rfl
        exact (show Tryd.prog.wantsStandIn t = false by simpa using List.all_eq_true.1 hall t hm)⟩)
    (by kernel_rfl)
end Go.Proofs.YtfjmhfmhijhpkaaDoor.algebraProofs
