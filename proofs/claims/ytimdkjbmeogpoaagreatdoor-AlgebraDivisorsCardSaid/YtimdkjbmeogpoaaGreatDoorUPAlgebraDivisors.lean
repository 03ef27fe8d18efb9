/- The statement AlgebraDivisors: for every input the call returns true. No condition. -/
import Derived.Test.YtimdkjbmeogpoaaGreatDoorCards
import Derived.Test.YtimdkjbmeogpoaaGreatDoorTie
import Derived.SevenTiedAt
import Derived.Test.YtimdkjbmeogpoaaGreatDoorUOpen0
import Derived.Test.YtimdkjbmeogpoaaGreatDoorUAlgebraDivisors
namespace Go.Proofs.YtimdkjbmeogpoaaGreatDoor.algebraDivisors
open Go.ChangeShapes Go.WideShapes Go.ChangeAt Go.RowKit FF
theorem k10 : (Rows.algebraDivisorsRow.inPlace == Tryz.checked.prog.inPlace 4) = true := by kernel_rfl
theorem k11 : (Rows.algebraDivisorsRow.unfollowed == Tryz.checked.prog.unfollowed 4) = true := by kernel_rfl
theorem k12 : (Rows.algebraDivisorsRow.recurses == Tryz.checked.prog.recurses 4) = true := by kernel_rfl
theorem k13 : (Rows.algebraDivisorsRow.named == Tryz.checked.prog.varsNamed 4) = true := by kernel_rfl
theorem k14 : (Rows.algebraDivisorsRow.maps == (Tryz.f4.params.toList ++ Rows.algebraDivisorsSpec.plain.varTypes Tryz.checked.prog).any (Tryz.checked.prog.mapsRec ·)) = true := by kernel_rfl
theorem k15 : (Rows.algebraDivisorsRow.ifaces == (Tryz.f4.params.toList ++ Rows.algebraDivisorsSpec.plain.varTypes Tryz.checked.prog).any (Tryz.checked.prog.ifacesRec ·)) = true := by kernel_rfl
theorem k16 : (Rows.algebraDivisorsRow.mapsOut == Tryz.checked.prog.mapsAmong Tryz.f4.resultTypes.toList) = true := by kernel_rfl
theorem k17 : (Rows.algebraDivisorsRow.loops == (Tryz.f4.params.toList ++ Rows.algebraDivisorsSpec.plain.varTypes Tryz.checked.prog).any (Tryz.checked.prog.loopsFrom ·)) = true := by kernel_rfl
theorem k18 : (Rows.algebraDivisorsRow.wideKeys == (Tryz.f4.params.toList ++ Rows.algebraDivisorsSpec.plain.varTypes Tryz.checked.prog ++ Tryz.f4.resultTypes.toList).any (Tryz.checked.prog.wideKeysFrom ·)) = true := by kernel_rfl
theorem k31 : (Rows.algebraDivisorsRow.veiled == (Tryz.f4.params.toList ++ Rows.algebraDivisorsSpec.plain.varTypes Tryz.checked.prog ++ Tryz.f4.resultTypes.toList).any (Tryz.checked.prog.veiledRec ·)) = true := by kernel_rfl
theorem k32 : Rows.algebraDivisorsRow.veiledFits Tryz.checked.prog Tryz.f4.params.toList (Tryz.f4.params.toList ++ Rows.algebraDivisorsSpec.plain.varTypes Tryz.checked.prog ++ Tryz.f4.resultTypes.toList) = true := by kernel_rfl
theorem facts : joinedFacts Tryz.checked.prog 4 Tryz.f4 Rows.algebraDivisorsSpec Rows.algebraDivisorsRow = true :=
  joined_of (by kernel_rfl) pk2 pk3 (by kernel_rfl) (by kernel_rfl) (by kernel_rfl) pk7 (by kernel_rfl) pk9 k10 k11 k12 k13 k14 k15 k16 k17 k18 (by kernel_rfl) (by kernel_rfl) (by kernel_rfl) (by kernel_rfl) (beq_turn pk23 rfl) (by kernel_rfl) pk25 pk26 (beq_turn pk27 rfl) (beq_turn' pk28 rfl) (by kernel_rfl) (by kernel_rfl) k31 k32
set_option maxRecDepth 100000 in
theorem lifted (os : Os) (started : os.Started) (H : Type) (enc : TypeId × Value → H) :
    ReturnsInHanded {} Tryz.checked os 4 .any (fun w args => (Rows.algebraDivisorsSpec.pre enc Tryz.prog Tryz.f4 [] false w args ∧ laidMetH Tryz.prog Rows.algebraDivisorsRow.laid w) ∧ sizedMet enc Tryz.prog Tryz.f4 (OpenSpec.ofChange Rows.algebraDivisorsSpec) false w args) (Rows.algebraDivisorsSpec.post enc Tryz.prog Tryz.f4 false true false false) := by
  refine returnsInHanded_of_change_and (C := Tryz.checked) (X := fun w _ => laidMetH Tryz.prog Rows.algebraDivisorsRow.laid w) (fun _ _ _ hh h => h.of_heap hh) own started (by kernel_rfl) Tryz.func4
    (ChangeSpec.witness_shaped (enc := enc) (C := Tryz.checked) (os := os) (X := fun w _ => laidMetH Tryz.prog Rows.algebraDivisorsRow.laid w) false (World.doorLaid Tryz.prog 400 os) #[.agg #[.int .i64 0, .int .i64 0]] 8 rfl (World.shaped_of_RefB (by kernel_rfl) (by kernel_rfl)) (by kernel_rfl) (by kernel_rfl) (by kernel_rfl) (door_met os _)) ?_
  intro W base args ds gs before hval0 hW _ _ _ _
  have hval : ∀ (j : Nat) t v, Tryz.f4.params[j]? = some t → args[j]? = some v → Value.okWide Tryz.prog W .any base t v := hval0
  have hW' := hW
  obtain ⟨p, q, hA0, hV, rfl, hfz, hnd⟩ := hW
  have hA : DataW.TrodAll enc Tryz.prog W 0 (fun _ => true) true Tryz.f4.params.toList args.toList ds p := hA0
  rw [Tryz.params4] at hA hval
  have hAA := hA
  obtain ⟨v0, vs0, d0, ds0, p0, q0, hargs, rfl, rfl, h0, r0⟩ := trodAll_cons hA
  obtain ⟨rfl, rfl, rfl⟩ := trodAll_nil r0
  obtain rfl : args = #[v0] := by cases args; simp_all
  obtain ⟨rfl, rfl⟩ := trodVars_none hV
  obtain ⟨x0_0, x0_1, rfl, w0_0, w0_1⟩ := open_2 (n := 6) (by kernel_rfl) Tryz.underlying23 (by kernel_rfl) (hval 0 23 v0 rfl rfl) h0
  clear hA0 hval0
  refine (AlgebraDivisors_law x0_0 x0_1 W w0_0 w0_1).mono fun e W' ⟨he, hg⟩ => ?_
  subst he
  exact ⟨_, rfl, post_of_below (pa := _) (pv := []) hW' (fun _ _ _ => (trodAll_cons_mk (shut_bool Tryz.underlying4 _) trodAll_mk0)) (fun sp hsp => args_again' pk2 pk3 slicesFull (by kernel_rfl) hAA hg sp (fun x hx => hsp x (List.mem_append_left _ hx))) (fun _ _ => rfl) rfl
    hg (ok_one (by kernel_rfl) rfl (okWide_bool_mk Tryz.underlying4 _))⟩
theorem over : Rows.algebraDivisorsRow.holds Tryz.pinned (OpenSpec.ofChange Rows.algebraDivisorsSpec) :=
  OpenClaim.holds_of_wide 4 Tryz.f4 rfl rfl rfl rfl rfl rfl rfl ⟨rfl, rfl, rfl, rfl, rfl⟩ rfl rfl rfl rfl rfl (by kernel_rfl) Tryz.func4 facts
    (of_decide_eq_true (by kernel_rfl)) (by unfold Func.isWrapper; first | (rw [if_pos (by decide +kernel)]; kernel_rfl) | (rw [if_neg (by decide +kernel)]; exact ⟨rfl, rfl⟩))
    (fun os started H enc _ => lifted os started H enc)
theorem proved : Rows.AlgebraDivisorsCardSaid :=
  Claim7.holds_tied_plain_at .later [] [.data, .data, .data] true (true, "634471de2bc04a1289d2d11e4207e3f9d698f91f30bfdc8b948ccab577f3682b") true
    over (fun _ h => by cases h) (by kernel_rfl) (fun _ h => by cases h) algebraDivisors_row_tie rfl ⟨rfl, rfl⟩ (by kernel_rfl) rfl
    (fun f fn hf hfn => by
      obtain rfl : f = 4 := Option.some.inj ((show Tryz.prog.funcNamed "fourfold/fourfoldlaw03.AlgebraDivisors" = some 4 by kernel_rfl).symm.trans hf) |>.symm
      obtain rfl : fn = Tryz.f4 := (Option.some.inj (Tryz.func4.symm.trans hfn)).symm
      exact ⟨by kernel_rfl, fun j t ht => by
        rw [Tryz.params4] at ht
        have hm : t ∈ [23] := by have := Array.mem_of_getElem? ht; simp at this ⊢; omega
        have hall : ([23].all fun u => !Tryz.prog.wantsStandIn u) = true := by kernel_rfl
        exact (show Tryz.prog.wantsStandIn t = false by simpa using List.all_eq_true.1 hall t hm)⟩)
    (by kernel_rfl)
end Go.Proofs.YtimdkjbmeogpoaaGreatDoor.algebraDivisors
