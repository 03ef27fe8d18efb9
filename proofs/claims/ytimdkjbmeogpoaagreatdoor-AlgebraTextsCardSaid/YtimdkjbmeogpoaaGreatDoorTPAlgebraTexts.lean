/- The statement AlgebraTexts: for every input the call returns true. No condition. -/
import Derived.Test.YtimdkjbmeogpoaaGreatDoorCards
import Derived.Test.YtimdkjbmeogpoaaGreatDoorTie
import Derived.SevenTiedAt
import Derived.Test.YtimdkjbmeogpoaaGreatDoorTTde
import Derived.Test.YtimdkjbmeogpoaaGreatDoorTAlgebraTexts
namespace Go.Proofs.YtimdkjbmeogpoaaGreatDoor.algebraTexts
open Go.ChangeShapes Go.WideShapes Go.ChangeAt Go.RowKit FF
theorem k10 : (Rows.algebraTextsRow.inPlace == Tryz.checked.prog.inPlace 5) = true := by kernel_rfl
theorem k11 : (Rows.algebraTextsRow.unfollowed == Tryz.checked.prog.unfollowed 5) = true := by kernel_rfl
theorem k12 : (Rows.algebraTextsRow.recurses == Tryz.checked.prog.recurses 5) = true := by kernel_rfl
theorem k13 : (Rows.algebraTextsRow.named == Tryz.checked.prog.varsNamed 5) = true := by kernel_rfl
theorem k14 : (Rows.algebraTextsRow.maps == (Tryz.f5.params.toList ++ Rows.algebraTextsSpec.plain.varTypes Tryz.checked.prog).any (Tryz.checked.prog.mapsRec ·)) = true := by kernel_rfl
theorem k15 : (Rows.algebraTextsRow.ifaces == (Tryz.f5.params.toList ++ Rows.algebraTextsSpec.plain.varTypes Tryz.checked.prog).any (Tryz.checked.prog.ifacesRec ·)) = true := by kernel_rfl
theorem k16 : (Rows.algebraTextsRow.mapsOut == Tryz.checked.prog.mapsAmong Tryz.f5.resultTypes.toList) = true := by kernel_rfl
theorem k17 : (Rows.algebraTextsRow.loops == (Tryz.f5.params.toList ++ Rows.algebraTextsSpec.plain.varTypes Tryz.checked.prog).any (Tryz.checked.prog.loopsFrom ·)) = true := by kernel_rfl
theorem k18 : (Rows.algebraTextsRow.wideKeys == (Tryz.f5.params.toList ++ Rows.algebraTextsSpec.plain.varTypes Tryz.checked.prog ++ Tryz.f5.resultTypes.toList).any (Tryz.checked.prog.wideKeysFrom ·)) = true := by kernel_rfl
theorem k31 : (Rows.algebraTextsRow.veiled == (Tryz.f5.params.toList ++ Rows.algebraTextsSpec.plain.varTypes Tryz.checked.prog ++ Tryz.f5.resultTypes.toList).any (Tryz.checked.prog.veiledRec ·)) = true := by kernel_rfl
theorem k32 : Rows.algebraTextsRow.veiledFits Tryz.checked.prog Tryz.f5.params.toList (Tryz.f5.params.toList ++ Rows.algebraTextsSpec.plain.varTypes Tryz.checked.prog ++ Tryz.f5.resultTypes.toList) = true := by kernel_rfl
theorem facts : joinedFacts Tryz.checked.prog 5 Tryz.f5 Rows.algebraTextsSpec Rows.algebraTextsRow = true :=
  joined_of (by kernel_rfl) pk2 pk3 (by kernel_rfl) (by kernel_rfl) (by kernel_rfl) pk7 (by kernel_rfl) pk9 k10 k11 k12 k13 k14 k15 k16 k17 k18 (by kernel_rfl) (by kernel_rfl) (by kernel_rfl) (by kernel_rfl) (beq_turn pk23 rfl) (by kernel_rfl) pk25 pk26 (beq_turn pk27 rfl) (beq_turn' pk28 rfl) (by kernel_rfl) (by kernel_rfl) k31 k32
set_option maxRecDepth 100000 in
theorem lifted (os : Os) (started : os.Started) (H : Type) (enc : TypeId × Value → H) :
    ReturnsInHanded {} Tryz.checked os 5 .any (fun w args => (Rows.algebraTextsSpec.pre enc Tryz.prog Tryz.f5 [] false w args ∧ laidMetH Tryz.prog Rows.algebraTextsRow.laid w) ∧ sizedMet enc Tryz.prog Tryz.f5 (OpenSpec.ofChange Rows.algebraTextsSpec) false w args) (Rows.algebraTextsSpec.post enc Tryz.prog Tryz.f5 false true false false) := by
  refine handed_and_shaped (C := Tryz.checked) (X := fun w _ => laidMetH Tryz.prog Rows.algebraTextsRow.laid w) (fun _ _ _ hh h => h.of_heap hh) own started (by kernel_rfl) Tryz.func5
    (ChangeSpec.witness_shaped (enc := enc) (C := Tryz.checked) (os := os) (X := fun w _ => laidMetH Tryz.prog Rows.algebraTextsRow.laid w) false (World.doorLaid Tryz.prog 400 os) #[.agg #[.int .i64 0, .int .i64 0, .int .i64 0, .int .i64 0, .int .i64 0], .string ⟨#[]⟩] 8 rfl (World.shaped_of_RefB (by kernel_rfl) (by kernel_rfl)) (by kernel_rfl) (by kernel_rfl) (by kernel_rfl) (door_texts os _)) ?_
  intro W base args ds gs before hval0 hW hX hsh
  have hval : ∀ (j : Nat) t v, Tryz.f5.params[j]? = some t → args[j]? = some v → Value.okWide Tryz.prog W .any base t v := hval0
  have hW' := hW
  obtain ⟨p, q, hA0, hV, rfl, hfz, hnd⟩ := hW
  have hA : DataW.TrodAll enc Tryz.prog W 0 (fun _ => true) true Tryz.f5.params.toList args.toList ds p := hA0
  rw [Tryz.params5] at hA hval
  have hAA := hA
  obtain ⟨v0, vs0, d0, ds0, p0, q0, hargs, rfl, rfl, h0, r0⟩ := trodAll_cons hA
  obtain ⟨v1, vs1, d1, ds1, p1, q1, rfl, rfl, rfl, h1, r1⟩ := trodAll_cons r0
  obtain ⟨rfl, rfl, rfl⟩ := trodAll_nil r1
  obtain rfl : args = #[v0, v1] := by cases args; simp_all
  obtain ⟨rfl, rfl⟩ := trodVars_none hV
  obtain ⟨x0_0, x0_1, x0_2, x0_3, x0_4, rfl, w0_0, w0_1, w0_2, w0_3, w0_4⟩ := open_5 (n := 6) (by kernel_rfl) Tryz.underlying35 (by kernel_rfl) (hval 0 35 v0 rfl rfl) h0
  obtain ⟨t1, rfl, rfl, rfl, m1⟩ := Go.ChangeMaps.open_string Tryz.underlying9 (hval 1 9 v1 rfl rfl) h1
  obtain ⟨l1, rfl⟩ : ∃ l : List UInt8, t1 = ⟨l.toArray⟩ := ⟨t1.data.toList, by simp⟩
  clear hA0 hval0
  refine (AlgebraTexts_law x0_0 x0_1 x0_2 x0_3 x0_4 l1 W  (ev_laid hX hsh)).mono fun e W' ⟨he, hg⟩ => ?_
  subst he
  exact ⟨_, rfl, post_of_below (pa := _) (pv := []) hW' (fun _ _ _ => (trodAll_cons_mk (shut_bool Tryz.underlying4 _) trodAll_mk0)) (fun sp hsp => args_again' pk2 pk3 slicesFull (by kernel_rfl) hAA hg sp (fun x hx => hsp x (List.mem_append_left _ hx))) (fun _ _ => rfl) rfl
    hg (ok_one (by kernel_rfl) rfl (okWide_bool_mk Tryz.underlying4 _))⟩
theorem over : Rows.algebraTextsRow.holds Tryz.pinned (OpenSpec.ofChange Rows.algebraTextsSpec) :=
  OpenClaim.holds_of_wide 5 Tryz.f5 rfl rfl rfl rfl rfl rfl rfl ⟨rfl, rfl, rfl, rfl, rfl⟩ rfl rfl rfl rfl rfl (by kernel_rfl) Tryz.func5 facts
    (of_decide_eq_true (by kernel_rfl)) (by unfold Func.isWrapper; first | (rw [if_pos (by decide +kernel)]; kernel_rfl) | (rw [if_neg (by decide +kernel)]; exact ⟨rfl, rfl⟩))
    (fun os started H enc _ => lifted os started H enc)
theorem proved : Rows.AlgebraTextsCardSaid :=
  Claim7.holds_tied_plain_at .later [] [.data, .data, .data, .sentinel, .sentinel] true (true, "634471de2bc04a1289d2d11e4207e3f9d698f91f30bfdc8b948ccab577f3682b") true
    over (fun _ h => by cases h) (by kernel_rfl) (fun _ h => by cases h) algebraTexts_row_tie rfl ⟨rfl, rfl⟩ (by kernel_rfl) rfl
    (fun f fn hf hfn => by
      obtain rfl : f = 5 := Option.some.inj ((show Tryz.prog.funcNamed "fourfold/fourfoldlaw03.AlgebraTexts" = some 5 by kernel_rfl).symm.trans hf) |>.symm
      obtain rfl : fn = Tryz.f5 := (Option.some.inj (Tryz.func5.symm.trans hfn)).symm
      exact ⟨by kernel_rfl, fun j t ht => by
        rw [Tryz.params5] at ht
        have hm : t ∈ [35, 9] := by have := Array.mem_of_getElem? ht; simp at this ⊢; omega
        have hall : ([35, 9].all fun u => !Tryz.prog.wantsStandIn u) = true := by kernel_rfl
        exact (show Tryz.prog.wantsStandIn t = false by simpa using List.all_eq_true.1 hall t hm)⟩)
    (by kernel_rfl)
end Go.Proofs.YtimdkjbmeogpoaaGreatDoor.algebraTexts
