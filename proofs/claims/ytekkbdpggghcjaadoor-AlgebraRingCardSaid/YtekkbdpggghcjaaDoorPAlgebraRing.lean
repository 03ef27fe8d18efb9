/- The statement AlgebraRing: for every input the call returns true. No condition. -/
import Derived.Test.YtekkbdpggghcjaaDoorCards
import Derived.Test.YtekkbdpggghcjaaDoorTie
import Derived.SevenTiedAt
import Derived.Test.YtekkbdpggghcjaaDoorDoor
import Derived.Test.YtekkbdpggghcjaaDoorAlgebraRing
namespace Go.Proofs.YtekkbdpggghcjaaDoor.algebraRing
open Go.ChangeShapes Go.WideShapes Go.ChangeAt Go.RowKit FF
theorem k10 : (Rows.algebraRingRow.inPlace == Tryd.checked.prog.inPlace 11) = true := by kernel_rfl
theorem k11 : (Rows.algebraRingRow.unfollowed == Tryd.checked.prog.unfollowed 11) = true := by kernel_rfl
theorem k12 : (Rows.algebraRingRow.recurses == Tryd.checked.prog.recurses 11) = true := by kernel_rfl
theorem k13 : (Rows.algebraRingRow.named == Tryd.checked.prog.varsNamed 11) = true := by kernel_rfl
theorem k14 : (Rows.algebraRingRow.maps == (Tryd.f11.params.toList ++ Rows.algebraRingSpec.plain.varTypes Tryd.checked.prog).any (Tryd.checked.prog.mapsRec ·)) = true := by kernel_rfl
theorem k15 : (Rows.algebraRingRow.ifaces == (Tryd.f11.params.toList ++ Rows.algebraRingSpec.plain.varTypes Tryd.checked.prog).any (Tryd.checked.prog.ifacesRec ·)) = true := by kernel_rfl
theorem k16 : (Rows.algebraRingRow.mapsOut == Tryd.checked.prog.mapsAmong Tryd.f11.resultTypes.toList) = true := by kernel_rfl
theorem k17 : (Rows.algebraRingRow.loops == (Tryd.f11.params.toList ++ Rows.algebraRingSpec.plain.varTypes Tryd.checked.prog).any (Tryd.checked.prog.loopsFrom ·)) = true := by kernel_rfl
theorem k18 : (Rows.algebraRingRow.wideKeys == (Tryd.f11.params.toList ++ Rows.algebraRingSpec.plain.varTypes Tryd.checked.prog ++ Tryd.f11.resultTypes.toList).any (Tryd.checked.prog.wideKeysFrom ·)) = true := by kernel_rfl
theorem k31 : (Rows.algebraRingRow.veiled == (Tryd.f11.params.toList ++ Rows.algebraRingSpec.plain.varTypes Tryd.checked.prog ++ Tryd.f11.resultTypes.toList).any (Tryd.checked.prog.veiledRec ·)) = true := by kernel_rfl
theorem k32 : Rows.algebraRingRow.veiledFits Tryd.checked.prog Tryd.f11.params.toList (Tryd.f11.params.toList ++ Rows.algebraRingSpec.plain.varTypes Tryd.checked.prog ++ Tryd.f11.resultTypes.toList) = true := by kernel_rfl
theorem facts : joinedFacts Tryd.checked.prog 11 Tryd.f11 Rows.algebraRingSpec Rows.algebraRingRow = true :=
  joined_of (by kernel_rfl) pk2 pk3 (by kernel_rfl) (by kernel_rfl) (by kernel_rfl) pk7 (by kernel_rfl) pk9 k10 k11 k12 k13 k14 k15 k16 k17 k18 (by kernel_rfl) (by kernel_rfl) (by kernel_rfl) (by kernel_rfl) (beq_turn pk23 rfl) (by kernel_rfl) pk25 pk26 (beq_turn pk27 rfl) (beq_turn' pk28 rfl) (by kernel_rfl) (by kernel_rfl) k31 k32
set_option maxRecDepth 100000 in
theorem lifted (os : Os) (started : os.Started) (H : Type) (enc : TypeId × Value → H) :
    ReturnsInHanded {} Tryd.checked os 11 .any (fun w args => (Rows.algebraRingSpec.pre enc Tryd.prog Tryd.f11 [] false w args ∧ laidMetH Tryd.prog Rows.algebraRingRow.laid w) ∧ sizedMet enc Tryd.prog Tryd.f11 (OpenSpec.ofChange Rows.algebraRingSpec) false w args) (Rows.algebraRingSpec.post enc Tryd.prog Tryd.f11 false true false false) := by
  refine returnsInHanded_of_change_and (C := Tryd.checked) (X := fun w _ => laidMetH Tryd.prog Rows.algebraRingRow.laid w) (fun _ _ _ hh h => h.of_heap hh) own started (by kernel_rfl) Tryd.func11
    (ChangeSpec.witness_shaped (enc := enc) (C := Tryd.checked) (os := os) (X := fun w _ => laidMetH Tryd.prog Rows.algebraRingRow.laid w) false (World.doorLaid Tryd.prog 400 os) #[.agg #[.int .i64 0, .int .i64 0], .agg #[.int .i64 0, .int .i64 0, .int .i64 0, .int .i64 0, .int .i64 0, .int .i64 0, .int .i64 0, .int .i64 0, .int .i64 0, .int .i64 0, .int .i64 0, .int .i64 0, .int .i64 0, .int .i64 0, .int .i64 0]] 8 rfl (World.shaped_of_RefB (by kernel_rfl) (by kernel_rfl)) (by kernel_rfl) (by kernel_rfl) (by kernel_rfl) (door_met os _)) ?_
  intro W base args ds gs before hval0 hW _ _ _ _
  have hval : ∀ (j : Nat) t v, Tryd.f11.params[j]? = some t → args[j]? = some v → Value.okWide Tryd.prog W .any base t v := hval0
  have hW' := hW
  obtain ⟨p, q, hA0, hV, rfl, hfz, hnd⟩ := hW
  have hA : DataW.TrodAll enc Tryd.prog W 0 (fun _ => true) true Tryd.f11.params.toList args.toList ds p := hA0
  rw [Tryd.params11] at hA hval
  have hAA := hA
  obtain ⟨v0, vs0, d0, ds0, p0, q0, hargs, rfl, rfl, h0, r0⟩ := trodAll_cons hA
  obtain ⟨v1, vs1, d1, ds1, p1, q1, rfl, rfl, rfl, h1, r1⟩ := trodAll_cons r0
  obtain ⟨rfl, rfl, rfl⟩ := trodAll_nil r1
  obtain rfl : args = #[v0, v1] := by cases args; simp_all
  obtain ⟨rfl, rfl⟩ := trodVars_none hV
  obtain ⟨x0_0, x0_1, rfl, w0_0, w0_1⟩ := open_2 (n := 6) (by kernel_rfl) Tryd.underlying23 (by kernel_rfl) (hval 0 23 v0 rfl rfl) h0
  obtain ⟨x1_0, x1_1, x1_2, x1_3, x1_4, x1_5, x1_6, x1_7, x1_8, x1_9, x1_10, x1_11, x1_12, x1_13, x1_14, rfl, w1_0, w1_1, w1_2, w1_3, w1_4, w1_5, w1_6, w1_7, w1_8, w1_9, w1_10, w1_11, w1_12, w1_13, w1_14⟩ := open_15 (n := 6) (by kernel_rfl) Tryd.underlying82 (by kernel_rfl) (hval 1 82 v1 rfl rfl) h1
  clear hA0 hval0
  refine (AlgebraRing_law x0_0 x0_1 x1_0 x1_1 x1_2 x1_3 x1_4 x1_5 x1_6 x1_7 x1_8 x1_9 x1_10 x1_11 x1_12 x1_13 x1_14 W ).mono fun e W' ⟨he, hg⟩ => ?_
  subst he
  exact ⟨_, rfl, post_of_below (pa := _) (pv := []) hW' (fun _ _ _ => (trodAll_cons_mk (shut_bool Tryd.underlying4 _) trodAll_mk0)) (fun sp hsp => args_again' pk2 pk3 slicesFull (by kernel_rfl) hAA hg sp (fun x hx => hsp x (List.mem_append_left _ hx))) (fun _ _ => rfl) rfl
    hg (ok_one (by kernel_rfl) rfl (okWide_bool_mk Tryd.underlying4 _))⟩
theorem over : Rows.algebraRingRow.holds Tryd.pinned (OpenSpec.ofChange Rows.algebraRingSpec) :=
  OpenClaim.holds_of_wide 11 Tryd.f11 rfl rfl rfl rfl rfl rfl rfl ⟨rfl, rfl, rfl, rfl, rfl⟩ rfl rfl rfl rfl rfl (by kernel_rfl) Tryd.func11 facts
    (of_decide_eq_true (by kernel_rfl)) (by unfold Func.isWrapper; first | (rw [if_pos (by decide +kernel)]; kernel_rfl) | (rw [if_neg (by decide +kernel)]; exact ⟨rfl, rfl⟩))
    (fun os started H enc _ => lifted os started H enc)
/-- THE STATEMENT -/
theorem proved : Rows.AlgebraRingCardSaid :=
  Claim7.holds_tied_plain_at .later [] [.data, .data, .data] true (true, "8570d81b6c98f89f0edb1197e46762c78c7ba83d89e70a1efa5522d02912666d") false
    over (fun _ h => by cases h) (by kernel_rfl) (fun _ h => by cases h) algebraRing_row_tie rfl ⟨rfl, rfl⟩ (by kernel_rfl) rfl
    (fun f fn hf hfn => by
      obtain rfl : f = 11 := Option.some.inj ((show Tryd.prog.funcNamed "fourfold/fourfoldlaw03.AlgebraRing" = some 11 by kernel_rfl).symm.trans hf) |>.symm
      obtain rfl : fn = Tryd.f11 := (Option.some.inj (Tryd.func11.symm.trans hfn)).symm
      exact ⟨by kernel_rfl, fun j t ht => by
        rw [Tryd.params11] at ht
        have hm : t ∈ [23, 82] := by have := Array.mem_of_getElem? ht; simp at this ⊢; omega
        have hall : ([23, 82].all fun u => !Tryd.prog.wantsStandIn u) = true := by kernel_rfl
        exact (show Tryd.prog.wantsStandIn t = false by simpa using List.all_eq_true.1 hall t hm)⟩)
    (by kernel_rfl)
end Go.Proofs.YtekkbdpggghcjaaDoor.algebraRing
