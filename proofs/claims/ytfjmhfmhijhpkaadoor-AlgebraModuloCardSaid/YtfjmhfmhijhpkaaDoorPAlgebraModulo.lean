/- The statement AlgebraModulo: for every input the call returns true. No condition. -/
import Derived.Test.YtfjmhfmhijhpkaaDoorCards
import Derived.Test.YtfjmhfmhijhpkaaDoorTie
import Derived.SevenTiedAt
import Derived.Test.YtfjmhfmhijhpkaaDoorDoor
import Derived.Test.YtfjmhfmhijhpkaaDoorAlgebraModulo
namespace Go.Proofs.YtfjmhfmhijhpkaaDoor.algebraModulo
open Go.ChangeShapes Go.WideShapes Go.ChangeAt Go.RowKit FF
theorem k10 : (Rows.algebraModuloRow.inPlace == Tryd.checked.prog.inPlace 3) = true := by kernel_rfl
theorem k11 : (Rows.algebraModuloRow.unfollowed == Tryd.checked.prog.unfollowed 3) = true := by kernel_rfl
theorem k12 : (Rows.algebraModuloRow.recurses == Tryd.checked.prog.recurses 3) = true := by kernel_rfl
theorem k13 : (Rows.algebraModuloRow.named == Tryd.checked.prog.varsNamed 3) = true := by kernel_rfl
theorem k14 : (Rows.algebraModuloRow.maps == (Tryd.f3.params.toList ++ Rows.algebraModuloSpec.plain.varTypes Tryd.checked.prog).any (Tryd.checked.prog.mapsRec ·)) = true := by kernel_rfl
theorem k15 : (Rows.algebraModuloRow.ifaces == (Tryd.f3.params.toList ++ Rows.algebraModuloSpec.plain.varTypes Tryd.checked.prog).any (Tryd.checked.prog.ifacesRec ·)) = true := by kernel_rfl
theorem k16 : (Rows.algebraModuloRow.mapsOut == Tryd.checked.prog.mapsAmong Tryd.f3.resultTypes.toList) = true := by kernel_rfl
theorem k17 : (Rows.algebraModuloRow.loops == (Tryd.f3.params.toList ++ Rows.algebraModuloSpec.plain.varTypes Tryd.checked.prog).any (Tryd.checked.prog.loopsFrom ·)) = true := by kernel_rfl
theorem k18 : (Rows.algebraModuloRow.wideKeys == (Tryd.f3.params.toList ++ Rows.algebraModuloSpec.plain.varTypes Tryd.checked.prog ++ Tryd.f3.resultTypes.toList).any (Tryd.checked.prog.wideKeysFrom ·)) = true := by kernel_rfl
theorem k31 : (Rows.algebraModuloRow.veiled == (Tryd.f3.params.toList ++ Rows.algebraModuloSpec.plain.varTypes Tryd.checked.prog ++ Tryd.f3.resultTypes.toList).any (Tryd.checked.prog.veiledRec ·)) = true := by kernel_rfl
theorem k32 : Rows.algebraModuloRow.veiledFits Tryd.checked.prog Tryd.f3.params.toList (Tryd.f3.params.toList ++ Rows.algebraModuloSpec.plain.varTypes Tryd.checked.prog ++ Tryd.f3.resultTypes.toList) = true := by kernel_rfl
theorem facts : joinedFacts Tryd.checked.prog 3 Tryd.f3 Rows.algebraModuloSpec Rows.algebraModuloRow = true :=
  joined_of (by kernel_rfl) pk2 pk3 (by kernel_rfl) (by kernel_rfl) (by kernel_rfl) pk7 (by kernel_rfl) pk9 k10 k11 k12 k13 k14 k15 k16 k17 k18 (by kernel_rfl) (by kernel_rfl) (by kernel_rfl) (by kernel_rfl) (beq_turn pk23 rfl) (by kernel_rfl) pk25 pk26 (beq_turn pk27 rfl) (beq_turn' pk28 rfl) (by kernel_rfl) (by kernel_rfl) k31 k32
set_option maxRecDepth 100000 in
theorem lifted (os : Os) (started : os.Started) (H : Type) (enc : TypeId × Value → H) :
    ReturnsInHanded {} Tryd.checked os 3 .any (fun w args => (Rows.algebraModuloSpec.pre enc Tryd.prog Tryd.f3 [] false w args ∧ laidMetH Tryd.prog Rows.algebraModuloRow.laid w) ∧ sizedMet enc Tryd.prog Tryd.f3 (OpenSpec.ofChange Rows.algebraModuloSpec) false w args) (Rows.algebraModuloSpec.post enc Tryd.prog Tryd.f3 false true false false) := by
  refine returnsInHanded_of_change_and (C := Tryd.checked) (X := fun w _ => laidMetH Tryd.prog Rows.algebraModuloRow.laid w) (fun _ _ _ hh h => h.of_heap hh) own started (by kernel_rfl) Tryd.func3
    (ChangeSpec.witness_shaped (enc := enc) (C := Tryd.checked) (os := os) (X := fun w _ => laidMetH Tryd.prog Rows.algebraModuloRow.laid w) false (World.doorLaid Tryd.prog 400 os) #[.agg #[.int .i64 0, .int .i64 0], .int .i64 0] 8 rfl (World.shaped_of_RefB (by kernel_rfl) (by kernel_rfl)) (by kernel_rfl) (by kernel_rfl) (by kernel_rfl) (door_met os _)) ?_
  intro W base args ds gs before hval0 hW _ _ _ _
  have hval : ∀ (j : Nat) t v, Tryd.f3.params[j]? = some t → args[j]? = some v → Value.okWide Tryd.prog W .any base t v := hval0
  have hW' := hW
  obtain ⟨p, q, hA0, hV, rfl, hfz, hnd⟩ := hW
  have hA : DataW.TrodAll enc Tryd.prog W 0 (fun _ => true) true Tryd.f3.params.toList args.toList ds p := hA0
  rw [Tryd.params3] at hA hval
  have hAA := hA
  obtain ⟨v0, vs0, d0, ds0, p0, q0, hargs, rfl, rfl, h0, r0⟩ := trodAll_cons hA
  obtain ⟨v1, vs1, d1, ds1, p1, q1, rfl, rfl, rfl, h1, r1⟩ := trodAll_cons r0
  obtain ⟨rfl, rfl, rfl⟩ := trodAll_nil r1
  obtain rfl : args = #[v0, v1] := by cases args; simp_all
  obtain ⟨rfl, rfl⟩ := trodVars_none hV
  obtain ⟨x0_0, x0_1, rfl, w0_0, w0_1⟩ := open_2 (n := 6) (by kernel_rfl) Tryd.underlying23 (by kernel_rfl) (hval 0 23 v0 rfl rfl) h0
  obtain ⟨a1, rfl, rfl, rfl, w1⟩ := open_int Tryd.underlying3 (hval 1 3 v1 rfl rfl) h1
  clear hA0 hval0
  refine (AlgebraModulo_law x0_0 x0_1 a1 W ).mono fun e W' ⟨he, hg⟩ => ?_
  subst he
  exact ⟨_, rfl, post_of_below (pa := _) (pv := []) hW' (fun _ _ _ => (trodAll_cons_mk (shut_bool Tryd.underlying4 _) trodAll_mk0)) (fun sp hsp => args_again' pk2 pk3 slicesFull (by kernel_rfl) hAA hg sp (fun x hx => hsp x (List.mem_append_left _ hx))) (fun _ _ => rfl) rfl
    hg (ok_one (by kernel_rfl) rfl (okWide_bool_mk Tryd.underlying4 _))⟩
theorem over : Rows.algebraModuloRow.holds Tryd.pinned (OpenSpec.ofChange Rows.algebraModuloSpec) :=
  OpenClaim.holds_of_wide 3 Tryd.f3 rfl rfl rfl rfl rfl rfl rfl ⟨rfl, rfl, rfl, rfl, rfl⟩ rfl rfl rfl rfl rfl (by kernel_rfl) Tryd.func3 facts
    (of_decide_eq_true (by kernel_rfl)) (by unfold Func.isWrapper; first | (rw [if_pos (by decide +kernel)]; kernel_rfl) | (rw [if_neg (by decide +kernel)]; exact ⟨rfl, rfl⟩))
    (fun os started H enc _ => lifted os started H enc)
/-- THE STATEMENT -/
theorem proved : Rows.AlgebraModuloCardSaid :=
  Claim7.holds_tied_plain_at .later [] [.data, .data, .data] true (true, "ecaf361e81541c4b5a4d9529f400488c4454f1dbc1c0c61401a1862f884f311b") false
    over (fun _ h => by cases h) (by kernel_rfl) (fun _ h => by cases h) algebraModulo_row_tie rfl ⟨rfl, rfl⟩ (by kernel_rfl) rfl
    (fun f fn hf hfn => by
      obtain rfl : f = 3 := Option.some.inj ((show Tryd.prog.funcNamed "fourfold/fourfoldlaw03.AlgebraModulo" = some 3 by kernel_rfl).symm.trans hf) |>.symm
      obtain rfl : fn = Tryd.f3 := (Option.some.inj (Tryd.func3.symm.trans hfn)).symm
      exact ⟨by kernel_rfl, fun j t ht => by
        rw [Tryd.params3] at ht
        have hm : t ∈ [23, 3] := by have := Array.mem_of_getElem? ht; simp at this ⊢; omega
        have hall : ([23, 3].all fun u => !Tryd.prog.wantsStandIn u) = true := by kernel_rfl
        exact (show Tryd.prog.wantsStandIn t = false by simpa using List.all_eq_true.1 hall t hm)⟩)
    (by kernel_rfl)
end Go.Proofs.YtfjmhfmhijhpkaaDoor.algebraModulo
