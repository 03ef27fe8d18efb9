/- The statement IntegerTexts: for every input the call returns true. No condition. -/
import Derived.Test.YtfjmhfmhijhpkaaGreatDoorCards
import Derived.Test.YtfjmhfmhijhpkaaGreatDoorTie
import Derived.SevenTiedAt
import Derived.Test.YtfjmhfmhijhpkaaGreatDoorTdr
import Derived.Test.YtfjmhfmhijhpkaaGreatDoorIntegerTexts
namespace Go.Proofs.YtfjmhfmhijhpkaaGreatDoor.integerTexts
open Go.ChangeShapes Go.WideShapes Go.ChangeAt Go.RowKit FF
theorem k10 : (Rows.integerTextsRow.inPlace == Tryz.checked.prog.inPlace 6) = true := by kernel_rfl
theorem k11 : (Rows.integerTextsRow.unfollowed == Tryz.checked.prog.unfollowed 6) = true := by kernel_rfl
theorem k12 : (Rows.integerTextsRow.recurses == Tryz.checked.prog.recurses 6) = true := by kernel_rfl
theorem k13 : (Rows.integerTextsRow.named == Tryz.checked.prog.varsNamed 6) = true := by kernel_rfl
theorem k14 : (Rows.integerTextsRow.maps == (Tryz.f6.params.toList ++ Rows.integerTextsSpec.plain.varTypes Tryz.checked.prog).any (Tryz.checked.prog.mapsRec ·)) = true := by kernel_rfl
theorem k15 : (Rows.integerTextsRow.ifaces == (Tryz.f6.params.toList ++ Rows.integerTextsSpec.plain.varTypes Tryz.checked.prog).any (Tryz.checked.prog.ifacesRec ·)) = true := by kernel_rfl
theorem k16 : (Rows.integerTextsRow.mapsOut == Tryz.checked.prog.mapsAmong Tryz.f6.resultTypes.toList) = true := by kernel_rfl
theorem k17 : (Rows.integerTextsRow.loops == (Tryz.f6.params.toList ++ Rows.integerTextsSpec.plain.varTypes Tryz.checked.prog).any (Tryz.checked.prog.loopsFrom ·)) = true := by kernel_rfl
theorem k18 : (Rows.integerTextsRow.wideKeys == (Tryz.f6.params.toList ++ Rows.integerTextsSpec.plain.varTypes Tryz.checked.prog ++ Tryz.f6.resultTypes.toList).any (Tryz.checked.prog.wideKeysFrom ·)) = true := by kernel_rfl
theorem k31 : (Rows.integerTextsRow.veiled == (Tryz.f6.params.toList ++ Rows.integerTextsSpec.plain.varTypes Tryz.checked.prog ++ Tryz.f6.resultTypes.toList).any (Tryz.checked.prog.veiledRec ·)) = true := by kernel_rfl
theorem k32 : Rows.integerTextsRow.veiledFits Tryz.checked.prog Tryz.f6.params.toList (Tryz.f6.params.toList ++ Rows.integerTextsSpec.plain.varTypes Tryz.checked.prog ++ Tryz.f6.resultTypes.toList) = true := by kernel_rfl
theorem facts : joinedFacts Tryz.checked.prog 6 Tryz.f6 Rows.integerTextsSpec Rows.integerTextsRow = true :=
  joined_of (by kernel_rfl) pk2 pk3 (by kernel_rfl) (by kernel_rfl) (by kernel_rfl) pk7 (by kernel_rfl) pk9 k10 k11 k12 k13 k14 k15 k16 k17 k18 (by kernel_rfl) (by kernel_rfl) (by kernel_rfl) (by kernel_rfl) (beq_turn pk23 rfl) (by kernel_rfl) pk25 pk26 (beq_turn pk27 rfl) (beq_turn' pk28 rfl) (by kernel_rfl) (by kernel_rfl) k31 k32
set_option maxRecDepth 100000 in
theorem lifted (os : Os) (started : os.Started) (H : Type) (enc : TypeId × Value → H) :
    ReturnsInHanded {} Tryz.checked os 6 .any (fun w args => (Rows.integerTextsSpec.pre enc Tryz.prog Tryz.f6 [] false w args ∧ laidMetH Tryz.prog Rows.integerTextsRow.laid w) ∧ sizedMet enc Tryz.prog Tryz.f6 (OpenSpec.ofChange Rows.integerTextsSpec) false w args) (Rows.integerTextsSpec.post enc Tryz.prog Tryz.f6 false true false false) := by
  refine returnsInHanded_of_change_and (C := Tryz.checked) (X := fun w _ => laidMetH Tryz.prog Rows.integerTextsRow.laid w) (fun _ _ _ hh h => h.of_heap hh) own started (by kernel_rfl) Tryz.func6
    (ChangeSpec.witness_shaped (enc := enc) (C := Tryz.checked) (os := os) (X := fun w _ => laidMetH Tryz.prog Rows.integerTextsRow.laid w) false (World.doorLaid Tryz.prog 400 os) #[.agg #[.bool false, .slice none 0 0], .string ⟨#[]⟩] 8 rfl (World.shaped_of_RefB (by kernel_rfl) (by kernel_rfl)) (by kernel_rfl) (by kernel_rfl) (by kernel_rfl) (door_met os _)) ?_
  intro W base args ds gs before hval0 hW _ _ hX _
  have hval : ∀ (j : Nat) t v, Tryz.f6.params[j]? = some t → args[j]? = some v → Value.okWide Tryz.prog W .any base t v := hval0
  have hW' := hW
  obtain ⟨p, q, hA0, hV, rfl, hfz, hnd⟩ := hW
  have hA : DataW.TrodAll enc Tryz.prog W 0 (fun _ => true) true Tryz.f6.params.toList args.toList ds p := hA0
  rw [Tryz.params6] at hA hval
  have hAA := hA
  obtain ⟨v0, vs0, d0, ds0, p0, q0, hargs, rfl, rfl, h0, r0⟩ := trodAll_cons hA
  obtain ⟨v1, vs1, d1, ds1, p1, q1, rfl, rfl, rfl, h1, r1⟩ := trodAll_cons r0
  obtain ⟨rfl, rfl, rfl⟩ := trodAll_nil r1
  obtain rfl : args = #[v0, v1] := by cases args; simp_all
  obtain ⟨rfl, rfl⟩ := trodVars_none hV
  obtain ⟨b0, A0, xs0, c0, rfl, s0, g0, l0, m0⟩ := open_Int Tryz.underlying55 (by kernel_rfl) (by kernel_rfl) rfl rfl Tryz.underlying4 Tryz.underlying53 Tryz.underlying134 (by kernel_rfl) (hval 0 55 v0 rfl rfl) h0
  obtain ⟨t1, rfl, rfl, rfl, m1⟩ := Go.ChangeMaps.open_string Tryz.underlying9 (hval 1 9 v1 rfl rfl) h1
  obtain ⟨l1, rfl⟩ : ∃ l : List UInt8, t1 = ⟨l.toArray⟩ := ⟨t1.data.toList, by simp⟩
  clear hA0 hval0
  refine (IntegerTexts_law b0 A0 xs0 c0 l1 W s0 g0 l0 m0  (tab_of (by kernel_rfl) hX)).mono fun e W' ⟨he, hg⟩ => ?_
  subst he
  exact ⟨_, rfl, post_of_below (pa := _) (pv := []) hW' (fun _ _ _ => (trodAll_cons_mk (shut_bool Tryz.underlying4 _) trodAll_mk0)) (fun sp hsp => args_again' pk2 pk3 slicesFull (by kernel_rfl) hAA hg sp (fun x hx => hsp x (List.mem_append_left _ hx))) (fun _ _ => rfl) rfl
    hg (ok_one (by kernel_rfl) rfl (okWide_bool_mk Tryz.underlying4 _))⟩
theorem over : Rows.integerTextsRow.holds Tryz.pinned (OpenSpec.ofChange Rows.integerTextsSpec) :=
  OpenClaim.holds_of_wide 6 Tryz.f6 rfl rfl rfl rfl rfl rfl rfl ⟨rfl, rfl, rfl, rfl, rfl⟩ rfl rfl rfl rfl rfl (by kernel_rfl) Tryz.func6 facts
    (of_decide_eq_true (by kernel_rfl)) (by unfold Func.isWrapper; first | (rw [if_pos (by decide +kernel)]; kernel_rfl) | (rw [if_neg (by decide +kernel)]; exact ⟨rfl, rfl⟩))
    (fun os started H enc _ => lifted os started H enc)
/-- THE STATEMENT -/
theorem proved : Rows.IntegerTextsCardSaid :=
  Claim7.holds_tied_plain_at .later [] [.data, .data, .data] true (true, "b78c017eb5b22e784ef6a7cdbc54482a67286d5f6b899ee62b66f89f0502f040") true
    over (fun _ h => by cases h) (by kernel_rfl) (fun _ h => by cases h) integerTexts_row_tie rfl ⟨rfl, rfl⟩ (by kernel_rfl) rfl
    (fun f fn hf hfn => by
      obtain rfl : f = 6 := Option.some.inj ((show Tryz.prog.funcNamed "fourfold/fourfoldlaw01.IntegerTexts" = some 6 by kernel_rfl).symm.trans hf) |>.symm
      obtain rfl : fn = Tryz.f6 := (Option.some.inj (Tryz.func6.symm.trans hfn)).symm
      exact ⟨by kernel_rfl, fun j t ht => by
        rw [Tryz.params6] at ht
        have hm : t ∈ [55, 9] := by have := Array.mem_of_getElem? ht; simp at this ⊢; omega
        have hall : ([55, 9].all fun u => !Tryz.prog.wantsStandIn u) = true := by kernel_rfl
        exact (show Tryz.prog.wantsStandIn t = false by simpa using List.all_eq_true.1 hall t hm)⟩)
    (by kernel_rfl)
end Go.Proofs.YtfjmhfmhijhpkaaGreatDoor.integerTexts
