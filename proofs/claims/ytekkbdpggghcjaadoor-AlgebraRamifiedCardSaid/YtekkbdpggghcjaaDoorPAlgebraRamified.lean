/- The statement AlgebraRamified: for every input the call returns true. No condition. -/
import Derived.Test.YtekkbdpggghcjaaDoorCards
import Derived.Test.YtekkbdpggghcjaaDoorTie
import Derived.SevenTiedAt
import Derived.Test.YtekkbdpggghcjaaDoorDoor
import Derived.Test.YtekkbdpggghcjaaDoorAlgebraRamified
namespace Go.Proofs.YtekkbdpggghcjaaDoor.algebraRamified
open Go.ChangeShapes Go.WideShapes Go.ChangeAt Go.RowKit FF
theorem k10 : (Rows.algebraRamifiedRow.inPlace == Tryd.checked.prog.inPlace 6) = true := by kernel_rfl
theorem k11 : (Rows.algebraRamifiedRow.unfollowed == Tryd.checked.prog.unfollowed 6) = true := by kernel_rfl
theorem k12 : (Rows.algebraRamifiedRow.recurses == Tryd.checked.prog.recurses 6) = true := by kernel_rfl
theorem k13 : (Rows.algebraRamifiedRow.named == Tryd.checked.prog.varsNamed 6) = true := by kernel_rfl
theorem k14 : (Rows.algebraRamifiedRow.maps == (Tryd.f6.params.toList ++ Rows.algebraRamifiedSpec.plain.varTypes Tryd.checked.prog).any (Tryd.checked.prog.mapsRec ·)) = true := by kernel_rfl
theorem k15 : (Rows.algebraRamifiedRow.ifaces == (Tryd.f6.params.toList ++ Rows.algebraRamifiedSpec.plain.varTypes Tryd.checked.prog).any (Tryd.checked.prog.ifacesRec ·)) = true := by kernel_rfl
theorem k16 : (Rows.algebraRamifiedRow.mapsOut == Tryd.checked.prog.mapsAmong Tryd.f6.resultTypes.toList) = true := by kernel_rfl
theorem k17 : (Rows.algebraRamifiedRow.loops == (Tryd.f6.params.toList ++ Rows.algebraRamifiedSpec.plain.varTypes Tryd.checked.prog).any (Tryd.checked.prog.loopsFrom ·)) = true := by kernel_rfl
theorem k18 : (Rows.algebraRamifiedRow.wideKeys == (Tryd.f6.params.toList ++ Rows.algebraRamifiedSpec.plain.varTypes Tryd.checked.prog ++ Tryd.f6.resultTypes.toList).any (Tryd.checked.prog.wideKeysFrom ·)) = true := by kernel_rfl
theorem k31 : (Rows.algebraRamifiedRow.veiled == (Tryd.f6.params.toList ++ Rows.algebraRamifiedSpec.plain.varTypes Tryd.checked.prog ++ Tryd.f6.resultTypes.toList).any (Tryd.checked.prog.veiledRec ·)) = true := by kernel_rfl
theorem k32 : Rows.algebraRamifiedRow.veiledFits Tryd.checked.prog Tryd.f6.params.toList (Tryd.f6.params.toList ++ Rows.algebraRamifiedSpec.plain.varTypes Tryd.checked.prog ++ Tryd.f6.resultTypes.toList) = true := by kernel_rfl
theorem facts : joinedFacts Tryd.checked.prog 6 Tryd.f6 Rows.algebraRamifiedSpec Rows.algebraRamifiedRow = true :=
  joined_of (by kernel_rfl) pk2 pk3 (by kernel_rfl) (by kernel_rfl) (by kernel_rfl) pk7 (by kernel_rfl) pk9 k10 k11 k12 k13 k14 k15 k16 k17 k18 (by kernel_rfl) (by kernel_rfl) (by kernel_rfl) (by kernel_rfl) (beq_turn pk23 rfl) (by kernel_rfl) pk25 pk26 (beq_turn pk27 rfl) (beq_turn' pk28 rfl) (by kernel_rfl) (by kernel_rfl) k31 k32
set_option maxRecDepth 100000 in
theorem lifted (os : Os) (started : os.Started) (H : Type) (enc : TypeId × Value → H) :
    ReturnsInHanded {} Tryd.checked os 6 .any (fun w args => (Rows.algebraRamifiedSpec.pre enc Tryd.prog Tryd.f6 [] false w args ∧ laidMetH Tryd.prog Rows.algebraRamifiedRow.laid w) ∧ sizedMet enc Tryd.prog Tryd.f6 (OpenSpec.ofChange Rows.algebraRamifiedSpec) false w args) (Rows.algebraRamifiedSpec.post enc Tryd.prog Tryd.f6 false true false false) := by
  refine returnsInHanded_of_change_and (C := Tryd.checked) (X := fun w _ => laidMetH Tryd.prog Rows.algebraRamifiedRow.laid w) (fun _ _ _ hh h => h.of_heap hh) own started (by kernel_rfl) Tryd.func6
    (ChangeSpec.witness_shaped (enc := enc) (C := Tryd.checked) (os := os) (X := fun w _ => laidMetH Tryd.prog Rows.algebraRamifiedRow.laid w) false (World.doorLaid Tryd.prog 400 os) #[.agg #[.int .i64 0, .int .i64 0]] 8 rfl (World.shaped_of_RefB (by kernel_rfl) (by kernel_rfl)) (by kernel_rfl) (by kernel_rfl) (by kernel_rfl) (door_met os _)) ?_
  intro W base args ds gs before hval0 hW _ _ _ _
  have hval : ∀ (j : Nat) t v, Tryd.f6.params[j]? = some t → args[j]? = some v → Value.okWide Tryd.prog W .any base t v := hval0
  have hW' := hW
  obtain ⟨p, q, hA0, hV, rfl, hfz, hnd⟩ := hW
  have hA : DataW.TrodAll enc Tryd.prog W 0 (fun _ => true) true Tryd.f6.params.toList args.toList ds p := hA0
  rw [Tryd.params6] at hA hval
  have hAA := hA
  obtain ⟨v0, vs0, d0, ds0, p0, q0, hargs, rfl, rfl, h0, r0⟩ := trodAll_cons hA
  obtain ⟨rfl, rfl, rfl⟩ := trodAll_nil r0
  obtain rfl : args = #[v0] := by cases args; simp_all
  obtain ⟨rfl, rfl⟩ := trodVars_none hV
  obtain ⟨x0_0, x0_1, rfl, w0_0, w0_1⟩ := open_2 (n := 6) (by kernel_rfl) Tryd.underlying23 (by kernel_rfl) (hval 0 23 v0 rfl rfl) h0
  clear hA0 hval0
  refine (AlgebraRamified_law x0_0 x0_1 W ).mono fun e W' ⟨he, hg⟩ => ?_
  subst he
  exact ⟨_, rfl, post_of_below (pa := _) (pv := []) hW' (fun _ _ _ => (trodAll_cons_mk (shut_bool Tryd.underlying4 _) trodAll_mk0)) (fun sp hsp => args_again' pk2 pk3 slicesFull (by kernel_rfl) hAA hg sp (fun x hx => hsp x (List.mem_append_left _ hx))) (fun _ _ => rfl) rfl
    hg (ok_one (by kernel_rfl) rfl (okWide_bool_mk Tryd.underlying4 _))⟩
theorem over : Rows.algebraRamifiedRow.holds Tryd.pinned (OpenSpec.ofChange Rows.algebraRamifiedSpec) :=
  OpenClaim.holds_of_wide 6 Tryd.f6 rfl rfl rfl rfl rfl rfl rfl ⟨rfl, rfl, rfl, rfl, rfl⟩ rfl rfl rfl rfl rfl (by kernel_rfl) Tryd.func6 facts
    (of_decide_eq_true (by kernel_rfl)) (by unfold Func.isWrapper; first | (rw [if_pos (by decide +kernel)]; kernel_rfl) | (rw [if_neg (by decide +kernel)]; exact ⟨rfl, rfl⟩))
    (fun os started H enc _ => lifted os started H enc)
/-- THE STATEMENT -/
theorem proved : Rows.AlgebraRamifiedCardSaid :=
  Claim7.holds_tied_plain_at .later [] [.data, .data, .data] true (true, "8570d81b6c98f89f0edb1197e46762c78c7ba83d89e70a1efa5522d02912666d") false
    over (fun _ h => by cases h) (by kernel_rfl) (fun _ h => by cases h) algebraRamified_row_tie rfl ⟨rfl, rfl⟩ (by kernel_rfl) rfl
    (fun f fn hf hfn => by
      obtain rfl : f = 6 := Option.some.inj ((show Tryd.prog.funcNamed "fourfold/fourfoldlaw03.AlgebraRamified" = some 6 by kernel_rfl).symm.trans hf) |>.symm
      obtain rfl : fn = Tryd.f6 := (Option.some.inj (Tryd.func6.symm.trans hfn)).symm
      exact ⟨by kernel_rfl, fun j t ht => by
        rw [Tryd.params6] at ht
        have hm : t ∈ [23] := by have := Array.mem_of_getElem? ht; simp at this ⊢; omega
        have hall : ([23].all fun u => !Tryd.prog.wantsStandIn u) = true := by kernel_rfl
        exact (show Tryd.prog.wantsStandIn t = false by simpa using List.all_eq_true.1 hall t hm)⟩)
    (by kernel_rfl)
end Go.Proofs.YtekkbdpggghcjaaDoor.algebraRamified
