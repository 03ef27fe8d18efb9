/- The statement IntegerFactors: for every input the call returns true. No condition. -/
import Derived.Test.YtfjmhfmhijhpkaaShp
import Derived.Test.YtfjmhfmhijhpkaaIntegerFactors
namespace Go.Proofs.Ytfjmhfmhijhpkaa.integerFactors
open Go.ChangeShapes Go.WideShapes Go.ChangeAt Go.RowKit FF
theorem k10 : (Rows.integerFactorsRow.inPlace == Try.checked.prog.inPlace 7) = true := by kernel_rfl
theorem k11 : (Rows.integerFactorsRow.unfollowed == Try.checked.prog.unfollowed 7) = true := by kernel_rfl
theorem k12 : (Rows.integerFactorsRow.recurses == Try.checked.prog.recurses 7) = true := by kernel_rfl
theorem k13 : (Rows.integerFactorsRow.named == Try.checked.prog.varsNamed 7) = true := by kernel_rfl
theorem k14 : (Rows.integerFactorsRow.maps == (Try.f7.params.toList ++ Rows.integerFactorsSpec.plain.varTypes Try.checked.prog).any (Try.checked.prog.mapsRec ·)) = true := by kernel_rfl
theorem k15 : (Rows.integerFactorsRow.ifaces == (Try.f7.params.toList ++ Rows.integerFactorsSpec.plain.varTypes Try.checked.prog).any (Try.checked.prog.ifacesRec ·)) = true := by kernel_rfl
theorem k16 : (Rows.integerFactorsRow.mapsOut == Try.checked.prog.mapsAmong Try.f7.resultTypes.toList) = true := by kernel_rfl
theorem k17 : (Rows.integerFactorsRow.loops == (Try.f7.params.toList ++ Rows.integerFactorsSpec.plain.varTypes Try.checked.prog).any (Try.checked.prog.loopsFrom ·)) = true := by kernel_rfl
theorem k18 : (Rows.integerFactorsRow.wideKeys == (Try.f7.params.toList ++ Rows.integerFactorsSpec.plain.varTypes Try.checked.prog ++ Try.f7.resultTypes.toList).any (Try.checked.prog.wideKeysFrom ·)) = true := by kernel_rfl
theorem k31 : (Rows.integerFactorsRow.veiled == (Try.f7.params.toList ++ Rows.integerFactorsSpec.plain.varTypes Try.checked.prog ++ Try.f7.resultTypes.toList).any (Try.checked.prog.veiledRec ·)) = true := by kernel_rfl
theorem k32 : Rows.integerFactorsRow.veiledFits Try.checked.prog Try.f7.params.toList (Try.f7.params.toList ++ Rows.integerFactorsSpec.plain.varTypes Try.checked.prog ++ Try.f7.resultTypes.toList) = true := by kernel_rfl
theorem facts : joinedFacts Try.checked.prog 7 Try.f7 Rows.integerFactorsSpec Rows.integerFactorsRow = true :=
  joined_of (by kernel_rfl) pk2 pk3 (by kernel_rfl) (by kernel_rfl) (by kernel_rfl) pk7 (by kernel_rfl) pk9 k10 k11 k12 k13 k14 k15 k16 k17 k18 (by kernel_rfl) (by kernel_rfl) (by kernel_rfl) (by kernel_rfl) (beq_turn pk23 rfl) (by kernel_rfl) pk25 pk26 (beq_turn pk27 rfl) (beq_turn' pk28 rfl) (by kernel_rfl) (by kernel_rfl) k31 k32
set_option maxRecDepth 100000 in
theorem lifted (os : Os) (started : os.Started) (H : Type) (enc : TypeId × Value → H) :
    ReturnsInHanded {} Try.checked os 7 .any (Rows.integerFactorsSpec.pre6 enc Try.prog Try.f7 Rows.integerFactorsRow.domain false) (Rows.integerFactorsSpec.post enc Try.prog Try.f7 false true false false) := by
  refine returnsInHanded_of_change (C := Try.checked) own started (by kernel_rfl) Try.func7
    (ChangeSpec.witness6 (enc := enc) (C := Try.checked) false ⟨#[], #[.int .i64 0, .slice none 0 0, .slice none 0 0], []⟩ 8 (by kernel_rfl) (by kernel_rfl) (by kernel_rfl) (by kernel_rfl)) ?_
  intro W base args ds gs before hval0 hW _ _
  have hval : ∀ (j : Nat) t v, Try.f7.params[j]? = some t → args[j]? = some v → Value.okWide Try.prog W .any base t v := hval0
  have hW' := hW
  obtain ⟨p, q, hA0, hV, rfl, hfz, hnd⟩ := hW
  have hA : DataW.TrodAll enc Try.prog W 0 (fun _ => true) true Try.f7.params.toList args.toList ds p := hA0
  rw [Try.params7] at hA hval
  have hAA := hA
  obtain ⟨v0, vs0, d0, ds0, p0, q0, hargs, rfl, rfl, h0, r0⟩ := trodAll_cons hA
  obtain ⟨v1, vs1, d1, ds1, p1, q1, rfl, rfl, rfl, h1, r1⟩ := trodAll_cons r0
  obtain ⟨v2, vs2, d2, ds2, p2, q2, rfl, rfl, rfl, h2, r2⟩ := trodAll_cons r1
  obtain ⟨rfl, rfl, rfl⟩ := trodAll_nil r2
  obtain rfl : args = #[v0, v1, v2] := by cases args; simp_all
  obtain ⟨rfl, rfl⟩ := trodVars_none hV
  obtain ⟨a0, rfl, rfl, rfl, w0⟩ := open_int Try.underlying3 (hval 0 3 v0 rfl rfl) h0
  obtain ⟨A1, l1, c1, rfl, s1, g1, m1, x1, y1⟩ := open_pairsW Try.underlying77 Try.underlying90 (by kernel_rfl) rfl rfl (by kernel_rfl) rfl rfl Try.underlying3 (hval 1 77 v1 rfl rfl) h1
  obtain ⟨A2, l2, c2, rfl, s2, g2, m2, x2⟩ := open_lists Try.underlying78 (by kernel_rfl) Try.underlying45 Try.underlying48 (by kernel_rfl) rfl rfl rfl rfl rfl rfl (by kernel_rfl) (by kernel_rfl) Try.underlying3 Try.underlying46 (hval 2 78 v2 rfl rfl) h2
  clear hA0 hval0
  refine (IntegerFactors_law a0 A1 l1 c1 A2 l2 c2 W (i64_of_wf w0) s1 g1 m1 x1 y1 s2 g2 m2 x2).mono fun e W' ⟨he, hg⟩ => ?_
  subst he
  exact ⟨_, rfl, post_of_below (pa := _) (pv := []) hW' (fun _ _ _ => (trodAll_cons_mk (shut_bool Try.underlying4 _) trodAll_mk0)) (fun sp hsp => args_again' pk2 pk3 slicesFull (by kernel_rfl) hAA hg sp (fun x hx => hsp x (List.mem_append_left _ hx))) (fun _ _ => rfl) rfl
    hg (ok_one (by kernel_rfl) rfl (okWide_bool_mk Try.underlying4 _))⟩
theorem over : Rows.integerFactorsRow.holds Try.pinned (OpenSpec.ofChange Rows.integerFactorsSpec) :=
  OpenClaim.holds_of_wide 7 Try.f7 rfl rfl rfl rfl rfl rfl rfl ⟨rfl, rfl, rfl, rfl, rfl⟩ rfl rfl rfl rfl rfl (by kernel_rfl) Try.func7 facts
    (of_decide_eq_true (by kernel_rfl)) (by unfold Func.isWrapper; first | (rw [if_pos (by decide +kernel)]; kernel_rfl) | (rw [if_neg (by decide +kernel)]; exact ⟨rfl, rfl⟩))
    (fun os started H enc _ => lifted os started H enc)
/-- THE STATEMENT -/
theorem proved : Rows.IntegerFactorsSaid := over
end Go.Proofs.Ytfjmhfmhijhpkaa.integerFactors
