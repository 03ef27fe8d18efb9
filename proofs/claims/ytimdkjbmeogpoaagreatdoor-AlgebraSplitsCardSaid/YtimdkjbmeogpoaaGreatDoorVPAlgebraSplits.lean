/- The statement AlgebraSplits: for every input the call returns true. No condition. -/
import Derived.Test.YtimdkjbmeogpoaaGreatDoorCards
import Derived.Test.YtimdkjbmeogpoaaGreatDoorTie
import Derived.SevenTiedAt
import Derived.Test.YtimdkjbmeogpoaaGreatDoorVOpen0
import Derived.Test.YtimdkjbmeogpoaaGreatDoorVAlgebraSplits
namespace Go.Proofs.YtimdkjbmeogpoaaGreatDoor.algebraSplits
open Go.ChangeShapes Go.WideShapes Go.ChangeAt Go.RowKit FF
theorem k10 : (Rows.algebraSplitsRow.inPlace == Tryz.checked.prog.inPlace 3) = true := by kernel_rfl
theorem k11 : (Rows.algebraSplitsRow.unfollowed == Tryz.checked.prog.unfollowed 3) = true := by kernel_rfl
theorem k12 : (Rows.algebraSplitsRow.recurses == Tryz.checked.prog.recurses 3) = true := by kernel_rfl
theorem k13 : (Rows.algebraSplitsRow.named == Tryz.checked.prog.varsNamed 3) = true := by kernel_rfl
theorem k14 : (Rows.algebraSplitsRow.maps == (Tryz.f3.params.toList ++ Rows.algebraSplitsSpec.plain.varTypes Tryz.checked.prog).any (Tryz.checked.prog.mapsRec ·)) = true := by kernel_rfl
theorem k15 : (Rows.algebraSplitsRow.ifaces == (Tryz.f3.params.toList ++ Rows.algebraSplitsSpec.plain.varTypes Tryz.checked.prog).any (Tryz.checked.prog.ifacesRec ·)) = true := by kernel_rfl
theorem k16 : (Rows.algebraSplitsRow.mapsOut == Tryz.checked.prog.mapsAmong Tryz.f3.resultTypes.toList) = true := by kernel_rfl
theorem k17 : (Rows.algebraSplitsRow.loops == (Tryz.f3.params.toList ++ Rows.algebraSplitsSpec.plain.varTypes Tryz.checked.prog).any (Tryz.checked.prog.loopsFrom ·)) = true := by kernel_rfl
theorem k18 : (Rows.algebraSplitsRow.wideKeys == (Tryz.f3.params.toList ++ Rows.algebraSplitsSpec.plain.varTypes Tryz.checked.prog ++ Tryz.f3.resultTypes.toList).any (Tryz.checked.prog.wideKeysFrom ·)) = true := by kernel_rfl
theorem k31 : (Rows.algebraSplitsRow.veiled == (Tryz.f3.params.toList ++ Rows.algebraSplitsSpec.plain.varTypes Tryz.checked.prog ++ Tryz.f3.resultTypes.toList).any (Tryz.checked.prog.veiledRec ·)) = true := by kernel_rfl
theorem k32 : Rows.algebraSplitsRow.veiledFits Tryz.checked.prog Tryz.f3.params.toList (Tryz.f3.params.toList ++ Rows.algebraSplitsSpec.plain.varTypes Tryz.checked.prog ++ Tryz.f3.resultTypes.toList) = true := by kernel_rfl
theorem facts : joinedFacts Tryz.checked.prog 3 Tryz.f3 Rows.algebraSplitsSpec Rows.algebraSplitsRow = true :=
  joined_of (by kernel_rfl) pk2 pk3 (by kernel_rfl) (by kernel_rfl) (by kernel_rfl) pk7 (by kernel_rfl) pk9 k10 k11 k12 k13 k14 k15 k16 k17 k18 (by kernel_rfl) (by kernel_rfl) (by kernel_rfl) (by kernel_rfl) (beq_turn pk23 rfl) (by kernel_rfl) pk25 pk26 (beq_turn pk27 rfl) (beq_turn' pk28 rfl) (by kernel_rfl) (by kernel_rfl) k31 k32
set_option maxRecDepth 100000 in
theorem lifted (os : Os) (started : os.Started) (H : Type) (enc : TypeId × Value → H) :
    ReturnsInHanded {} Tryz.checked os 3 .any (fun w args => (Rows.algebraSplitsSpec.pre enc Tryz.prog Tryz.f3 [] false w args ∧ laidMetH Tryz.prog Rows.algebraSplitsRow.laid w) ∧ sizedMet enc Tryz.prog Tryz.f3 (OpenSpec.ofChange Rows.algebraSplitsSpec) false w args) (Rows.algebraSplitsSpec.post enc Tryz.prog Tryz.f3 false true false false) := by
  refine returnsInHanded_of_change_and (C := Tryz.checked) (X := fun w _ => laidMetH Tryz.prog Rows.algebraSplitsRow.laid w) (fun _ _ _ hh h => h.of_heap hh) own started (by kernel_rfl) Tryz.func3
    (ChangeSpec.witness_shaped (enc := enc) (C := Tryz.checked) (os := os) (X := fun w _ => laidMetH Tryz.prog Rows.algebraSplitsRow.laid w) false (World.doorLaid Tryz.prog 400 os) #[.agg #[.int .i64 0, .int .i64 0], .agg #[.int .i64 0, .int .i64 0, .int .i64 0, .int .i64 0, .int .i64 0, .int .i64 0, .int .i64 0, .int .i64 0], .agg #[.int .i64 0, .int .i64 0, .int .i64 0, .int .i64 0, .int .i64 0, .int .i64 0, .int .i64 0, .int .i64 0]] 8 rfl (World.shaped_of_RefB (by kernel_rfl) (by kernel_rfl)) (by kernel_rfl) (by kernel_rfl) (by kernel_rfl) (door_met os _)) ?_
  intro W base args ds gs before hval0 hW _ _ _ _
  have hval : ∀ (j : Nat) t v, Tryz.f3.params[j]? = some t → args[j]? = some v → Value.okWide Tryz.prog W .any base t v := hval0
  have hW' := hW
  obtain ⟨p, q, hA0, hV, rfl, hfz, hnd⟩ := hW
  have hA : DataW.TrodAll enc Tryz.prog W 0 (fun _ => true) true Tryz.f3.params.toList args.toList ds p := hA0
  rw [Tryz.params3] at hA hval
  have hAA := hA
  obtain ⟨v0, vs0, d0, ds0, p0, q0, hargs, rfl, rfl, h0, r0⟩ := trodAll_cons hA
  obtain ⟨v1, vs1, d1, ds1, p1, q1, rfl, rfl, rfl, h1, r1⟩ := trodAll_cons r0
  obtain ⟨v2, vs2, d2, ds2, p2, q2, rfl, rfl, rfl, h2, r2⟩ := trodAll_cons r1
  obtain ⟨rfl, rfl, rfl⟩ := trodAll_nil r2
  obtain rfl : args = #[v0, v1, v2] := by cases args; simp_all
  obtain ⟨rfl, rfl⟩ := trodVars_none hV
  obtain ⟨x0_0, x0_1, rfl, w0_0, w0_1⟩ := open_2 (n := 6) (by kernel_rfl) Tryz.underlying23 (by kernel_rfl) (hval 0 23 v0 rfl rfl) h0
  obtain ⟨x1_0, x1_1, x1_2, x1_3, x1_4, x1_5, x1_6, x1_7, rfl, w1_0, w1_1, w1_2, w1_3, w1_4, w1_5, w1_6, w1_7⟩ := open_8 (n := 6) (by kernel_rfl) Tryz.underlying27 (by kernel_rfl) (hval 1 27 v1 rfl rfl) h1
  obtain ⟨x2_0, x2_1, x2_2, x2_3, x2_4, x2_5, x2_6, x2_7, rfl, w2_0, w2_1, w2_2, w2_3, w2_4, w2_5, w2_6, w2_7⟩ := open_8 (n := 6) (by kernel_rfl) Tryz.underlying27 (by kernel_rfl) (hval 2 27 v2 rfl rfl) h2
  clear hA0 hval0
  refine (AlgebraSplits_law x0_0 x0_1 x1_0 x1_1 x1_2 x1_3 x1_4 x1_5 x1_6 x1_7 x2_0 x2_1 x2_2 x2_3 x2_4 x2_5 x2_6 x2_7 W w0_0 w0_1 w1_0 w1_1 w1_2 w1_3 w1_4 w1_5 w1_6 w1_7 w2_0 w2_1 w2_2 w2_3 w2_4 w2_5 w2_6 w2_7).mono fun e W' ⟨he, hg⟩ => ?_
  subst he
  exact ⟨_, rfl, post_of_below (pa := _) (pv := []) hW' (fun _ _ _ => (trodAll_cons_mk (shut_bool Tryz.underlying4 _) trodAll_mk0)) (fun sp hsp => args_again' pk2 pk3 slicesFull (by kernel_rfl) hAA hg sp (fun x hx => hsp x (List.mem_append_left _ hx))) (fun _ _ => rfl) rfl
    hg (ok_one (by kernel_rfl) rfl (okWide_bool_mk Tryz.underlying4 _))⟩
theorem over : Rows.algebraSplitsRow.holds Tryz.pinned (OpenSpec.ofChange Rows.algebraSplitsSpec) :=
  OpenClaim.holds_of_wide 3 Tryz.f3 rfl rfl rfl rfl rfl rfl rfl ⟨rfl, rfl, rfl, rfl, rfl⟩ rfl rfl rfl rfl rfl (by kernel_rfl) Tryz.func3 facts
    (of_decide_eq_true (by kernel_rfl)) (by unfold Func.isWrapper; first | (rw [if_pos (by decide +kernel)]; kernel_rfl) | (rw [if_neg (by decide +kernel)]; exact ⟨rfl, rfl⟩))
    (fun os started H enc _ => lifted os started H enc)
theorem proved : Rows.AlgebraSplitsCardSaid :=
  Claim7.holds_tied_plain_at .later [] [.data, .data, .data] true (true, "634471de2bc04a1289d2d11e4207e3f9d698f91f30bfdc8b948ccab577f3682b") true
    over (fun _ h => by cases h) (by kernel_rfl) (fun _ h => by cases h) algebraSplits_row_tie rfl ⟨rfl, rfl⟩ (by kernel_rfl) rfl
    (fun f fn hf hfn => by
      obtain rfl : f = 3 := Option.some.inj ((show Tryz.prog.funcNamed "fourfold/fourfoldlaw03.AlgebraSplits" = some 3 by kernel_rfl).symm.trans hf) |>.symm
      obtain rfl : fn = Tryz.f3 := (Option.some.inj (Tryz.func3.symm.trans hfn)).symm
      exact ⟨by kernel_rfl, fun j t ht => by
        rw [Tryz.params3] at ht
        have hm : t ∈ [23, 27] := by have := Array.mem_of_getElem? ht; simp at this ⊢; omega
        have hall : ([23, 27].all fun u => !Tryz.prog.wantsStandIn u) = true := by kernel_rfl
        exact (show Tryz.prog.wantsStandIn t = false by simpa using List.all_eq_true.1 hall t hm)⟩)
    (by kernel_rfl)
end Go.Proofs.YtimdkjbmeogpoaaGreatDoor.algebraSplits
