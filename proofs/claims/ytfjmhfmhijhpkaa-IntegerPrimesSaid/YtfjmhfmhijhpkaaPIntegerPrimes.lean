/- The statement IntegerPrimes: for every input the call returns true. No condition. -/
import Derived.Test.YtfjmhfmhijhpkaaOpen0
import Derived.Test.YtfjmhfmhijhpkaaOst
import Derived.Test.YtfjmhfmhijhpkaaIntegerPrimes
namespace Go.Proofs.Ytfjmhfmhijhpkaa.integerPrimes
open Go.ChangeShapes Go.WideShapes Go.ChangeAt Go.RowKit FF
theorem k10 : (Rows.integerPrimesRow.inPlace == Try.checked.prog.inPlace 4) = true := by kernel_rfl
theorem k11 : (Rows.integerPrimesRow.unfollowed == Try.checked.prog.unfollowed 4) = true := by kernel_rfl
theorem k12 : (Rows.integerPrimesRow.recurses == Try.checked.prog.recurses 4) = true := by kernel_rfl
theorem k13 : (Rows.integerPrimesRow.named == Try.checked.prog.varsNamed 4) = true := by kernel_rfl
theorem k14 : (Rows.integerPrimesRow.maps == (Try.f4.params.toList ++ Rows.integerPrimesSpec.plain.varTypes Try.checked.prog).any (Try.checked.prog.mapsRec ·)) = true := by kernel_rfl
theorem k15 : (Rows.integerPrimesRow.ifaces == (Try.f4.params.toList ++ Rows.integerPrimesSpec.plain.varTypes Try.checked.prog).any (Try.checked.prog.ifacesRec ·)) = true := by kernel_rfl
theorem k16 : (Rows.integerPrimesRow.mapsOut == Try.checked.prog.mapsAmong Try.f4.resultTypes.toList) = true := by kernel_rfl
theorem k17 : (Rows.integerPrimesRow.loops == (Try.f4.params.toList ++ Rows.integerPrimesSpec.plain.varTypes Try.checked.prog).any (Try.checked.prog.loopsFrom ·)) = true := by kernel_rfl
theorem k18 : (Rows.integerPrimesRow.wideKeys == (Try.f4.params.toList ++ Rows.integerPrimesSpec.plain.varTypes Try.checked.prog ++ Try.f4.resultTypes.toList).any (Try.checked.prog.wideKeysFrom ·)) = true := by kernel_rfl
theorem k31 : (Rows.integerPrimesRow.veiled == (Try.f4.params.toList ++ Rows.integerPrimesSpec.plain.varTypes Try.checked.prog ++ Try.f4.resultTypes.toList).any (Try.checked.prog.veiledRec ·)) = true := by kernel_rfl
theorem k32 : Rows.integerPrimesRow.veiledFits Try.checked.prog Try.f4.params.toList (Try.f4.params.toList ++ Rows.integerPrimesSpec.plain.varTypes Try.checked.prog ++ Try.f4.resultTypes.toList) = true := by kernel_rfl
theorem facts : joinedFacts Try.checked.prog 4 Try.f4 Rows.integerPrimesSpec Rows.integerPrimesRow = true :=
  joined_of (by kernel_rfl) pk2 pk3 (by kernel_rfl) (by kernel_rfl) (by kernel_rfl) pk7 (by kernel_rfl) pk9 k10 k11 k12 k13 k14 k15 k16 k17 k18 (by kernel_rfl) (by kernel_rfl) (by kernel_rfl) (by kernel_rfl) (beq_turn pk23 rfl) (by kernel_rfl) pk25 pk26 (beq_turn pk27 rfl) (beq_turn' pk28 rfl) (by kernel_rfl) (by kernel_rfl) k31 k32
set_option maxRecDepth 100000 in
theorem lifted (os : Os) (started : os.Started) (H : Type) (enc : TypeId × Value → H) :
    ReturnsInHanded {} Try.checked os 4 .any (Rows.integerPrimesSpec.pre6 enc Try.prog Try.f4 Rows.integerPrimesRow.domain false) (Rows.integerPrimesSpec.post enc Try.prog Try.f4 false true false false) := by
  refine returnsInHanded_of_change (C := Try.checked) own started (by kernel_rfl) Try.func4
    (ChangeSpec.witness6 (enc := enc) (C := Try.checked) false ⟨#[], #[.int .i64 0, .slice none 0 0], []⟩ 8 (by kernel_rfl) (by kernel_rfl) (by kernel_rfl) (by kernel_rfl)) ?_
  intro W base args ds gs before hval0 hW _ _
  have hval : ∀ (j : Nat) t v, Try.f4.params[j]? = some t → args[j]? = some v → Value.okWide Try.prog W .any base t v := hval0
  have hW' := hW
  obtain ⟨p, q, hA0, hV, rfl, hfz, hnd⟩ := hW
  have hA : DataW.TrodAll enc Try.prog W 0 (fun _ => true) true Try.f4.params.toList args.toList ds p := hA0
  rw [Try.params4] at hA hval
  have hAA := hA
  obtain ⟨v0, vs0, d0, ds0, p0, q0, hargs, rfl, rfl, h0, r0⟩ := trodAll_cons hA
  obtain ⟨v1, vs1, d1, ds1, p1, q1, rfl, rfl, rfl, h1, r1⟩ := trodAll_cons r0
  obtain ⟨rfl, rfl, rfl⟩ := trodAll_nil r1
  obtain rfl : args = #[v0, v1] := by cases args; simp_all
  obtain ⟨rfl, rfl⟩ := trodVars_none hV
  obtain ⟨a0, rfl, rfl, rfl, w0⟩ := open_int Try.underlying3 (hval 0 3 v0 rfl rfl) h0
  obtain ⟨A1, l1, c1, rfl, s1, g1, m1, x1⟩ := open_steps Try.underlying45 Try.underlying48 (by kernel_rfl) rfl rfl rfl rfl rfl rfl (by kernel_rfl) (by kernel_rfl) Try.underlying3 Try.underlying46 (hval 1 45 v1 rfl rfl) h1
  clear hA0 hval0
  refine (IntegerPrimes_law a0 A1 l1 c1 W (i64_of_wf w0) s1 g1 m1 x1).mono fun e W' ⟨he, hg⟩ => ?_
  subst he
  exact ⟨_, rfl, post_of_below (pa := _) (pv := []) hW' (fun _ _ _ => (trodAll_cons_mk (shut_bool Try.underlying4 _) trodAll_mk0)) (fun sp hsp => args_again' pk2 pk3 slicesFull (by kernel_rfl) hAA hg sp (fun x hx => hsp x (List.mem_append_left _ hx))) (fun _ _ => rfl) rfl
    hg (ok_one (by kernel_rfl) rfl (okWide_bool_mk Try.underlying4 _))⟩
theorem over : Rows.integerPrimesRow.holds Try.pinned (OpenSpec.ofChange Rows.integerPrimesSpec) :=
  OpenClaim.holds_of_wide 4 Try.f4 rfl rfl rfl rfl rfl rfl rfl ⟨rfl, rfl, rfl, rfl, rfl⟩ rfl rfl rfl rfl rfl (by kernel_rfl) Try.func4 facts
    (of_decide_eq_true (by kernel_rfl)) (by unfold Func.isWrapper; first | (rw [if_pos (by decide +kernel)]; kernel_rfl) | (rw [if_neg (by decide +kernel)]; exact ⟨rfl, rfl⟩))
    (fun os started H enc _ => lifted os started H enc)
/-- THE STATEMENT -/
theorem proved : Rows.IntegerPrimesSaid := over
end Go.Proofs.Ytfjmhfmhijhpkaa.integerPrimes
