/- The statement IntegerRing: for every input the call returns true. No condition. -/
import Derived.Test.YtmlkiddkgikdhaaOpen
import Derived.Test.YtmlkiddkgikdhaaIntegerRing
namespace Go.Proofs.Ytmlkiddkgikdhaa.integerRing
open Go.ChangeShapes Go.WideShapes Go.ChangeAt Go.RowKit FF
theorem k10 : (Rows.integerRingRow.inPlace == Try.checked.prog.inPlace 12) = true := by kernel_rfl
theorem k11 : (Rows.integerRingRow.unfollowed == Try.checked.prog.unfollowed 12) = true := by kernel_rfl
theorem k12 : (Rows.integerRingRow.recurses == Try.checked.prog.recurses 12) = true := by kernel_rfl
theorem k13 : (Rows.integerRingRow.named == Try.checked.prog.varsNamed 12) = true := by kernel_rfl
theorem k14 : (Rows.integerRingRow.maps == (Try.f12.params.toList ++ Rows.integerRingSpec.plain.varTypes Try.checked.prog).any (Try.checked.prog.mapsRec ·)) = true := by kernel_rfl
theorem k15 : (Rows.integerRingRow.ifaces == (Try.f12.params.toList ++ Rows.integerRingSpec.plain.varTypes Try.checked.prog).any (Try.checked.prog.ifacesRec ·)) = true := by kernel_rfl
theorem k16 : (Rows.integerRingRow.mapsOut == Try.checked.prog.mapsAmong Try.f12.resultTypes.toList) = true := by kernel_rfl
theorem k17 : (Rows.integerRingRow.loops == (Try.f12.params.toList ++ Rows.integerRingSpec.plain.varTypes Try.checked.prog).any (Try.checked.prog.loopsFrom ·)) = true := by kernel_rfl
theorem k18 : (Rows.integerRingRow.wideKeys == (Try.f12.params.toList ++ Rows.integerRingSpec.plain.varTypes Try.checked.prog ++ Try.f12.resultTypes.toList).any (Try.checked.prog.wideKeysFrom ·)) = true := by kernel_rfl
theorem k31 : (Rows.integerRingRow.veiled == (Try.f12.params.toList ++ Rows.integerRingSpec.plain.varTypes Try.checked.prog ++ Try.f12.resultTypes.toList).any (Try.checked.prog.veiledRec ·)) = true := by kernel_rfl
theorem k32 : Rows.integerRingRow.veiledFits Try.checked.prog Try.f12.params.toList (Try.f12.params.toList ++ Rows.integerRingSpec.plain.varTypes Try.checked.prog ++ Try.f12.resultTypes.toList) = true := by kernel_rfl
theorem facts : joinedFacts Try.checked.prog 12 Try.f12 Rows.integerRingSpec Rows.integerRingRow = true :=
  joined_of (by kernel_rfl) pk2 pk3 (by kernel_rfl) (by kernel_rfl) (by kernel_rfl) pk7 (by kernel_rfl) pk9 k10 k11 k12 k13 k14 k15 k16 k17 k18 (by kernel_rfl) (by kernel_rfl) (by kernel_rfl) (by kernel_rfl) (beq_turn pk23 rfl) (by kernel_rfl) pk25 pk26 (beq_turn pk27 rfl) (beq_turn' pk28 rfl) (by kernel_rfl) (by kernel_rfl) k31 k32
set_option maxRecDepth 100000 in
theorem lifted (os : Os) (started : os.Started) (H : Type) (enc : TypeId × Value → H) :
    ReturnsInHanded {} Try.checked os 12 .any (Rows.integerRingSpec.pre6 enc Try.prog Try.f12 Rows.integerRingRow.domain false) (Rows.integerRingSpec.post enc Try.prog Try.f12 false true false false) := by
  refine returnsInHanded_of_change (C := Try.checked) own started (by kernel_rfl) Try.func12
    (ChangeSpec.witness6 (enc := enc) (C := Try.checked) false ⟨#[], #[.agg #[.bool false, .slice none 0 0], .agg #[.bool false, .slice none 0 0], .agg #[.bool false, .slice none 0 0]], []⟩ 8 (by kernel_rfl) (by kernel_rfl) (by kernel_rfl) (by kernel_rfl)) ?_
  intro W base args ds gs before hval0 hW _ _
  have hval : ∀ (j : Nat) t v, Try.f12.params[j]? = some t → args[j]? = some v → Value.okWide Try.prog W .any base t v := hval0
  have hW' := hW
  obtain ⟨p, q, hA0, hV, rfl, hfz, hnd⟩ := hW
  have hA : DataW.TrodAll enc Try.prog W 0 (fun _ => true) true Try.f12.params.toList args.toList ds p := hA0
  rw [Try.params12] at hA hval
  have hAA := hA
  obtain ⟨v0, vs0, d0, ds0, p0, q0, hargs, rfl, rfl, h0, r0⟩ := trodAll_cons hA
  obtain ⟨v1, vs1, d1, ds1, p1, q1, rfl, rfl, rfl, h1, r1⟩ := trodAll_cons r0
  obtain ⟨v2, vs2, d2, ds2, p2, q2, rfl, rfl, rfl, h2, r2⟩ := trodAll_cons r1
  obtain ⟨rfl, rfl, rfl⟩ := trodAll_nil r2
  obtain rfl : args = #[v0, v1, v2] := by cases args; simp_all
  obtain ⟨rfl, rfl⟩ := trodVars_none hV
  obtain ⟨b0, A0, xs0, c0, rfl, s0, g0, l0, m0⟩ := open_Int Try.underlying51 (by kernel_rfl) (by kernel_rfl) rfl rfl Try.underlying4 Try.underlying49 Try.underlying111 (by kernel_rfl) (hval 0 51 v0 rfl rfl) h0
  obtain ⟨b1, A1, xs1, c1, rfl, s1, g1, l1, m1⟩ := open_Int Try.underlying51 (by kernel_rfl) (by kernel_rfl) rfl rfl Try.underlying4 Try.underlying49 Try.underlying111 (by kernel_rfl) (hval 1 51 v1 rfl rfl) h1
  obtain ⟨b2, A2, xs2, c2, rfl, s2, g2, l2, m2⟩ := open_Int Try.underlying51 (by kernel_rfl) (by kernel_rfl) rfl rfl Try.underlying4 Try.underlying49 Try.underlying111 (by kernel_rfl) (hval 2 51 v2 rfl rfl) h2
  clear hA0 hval0
  refine (IntegerRing_law b0 A0 xs0 c0 b1 A1 xs1 c1 b2 A2 xs2 c2 W s0 g0 l0 m0 s1 g1 l1 m1 s2 g2 l2 m2).mono fun e W' ⟨he, hg⟩ => ?_
  subst he
  exact ⟨_, rfl, post_of_below (pa := _) (pv := []) hW' (fun _ _ _ => (trodAll_cons_mk (shut_bool Try.underlying4 _) trodAll_mk0)) (fun sp hsp => args_again' pk2 pk3 slicesFull (by kernel_rfl) hAA hg sp (fun x hx => hsp x (List.mem_append_left _ hx))) (fun _ _ => rfl) rfl
    hg (ok_one (by kernel_rfl) rfl (okWide_bool_mk Try.underlying4 _))⟩
theorem over : Rows.integerRingRow.holds Try.pinned (OpenSpec.ofChange Rows.integerRingSpec) :=
  OpenClaim.holds_of_wide 12 Try.f12 rfl rfl rfl rfl rfl rfl rfl ⟨rfl, rfl, rfl, rfl, rfl⟩ rfl rfl rfl rfl rfl (by kernel_rfl) Try.func12 facts
    (of_decide_eq_true (by kernel_rfl)) (by unfold Func.isWrapper; first | (rw [if_pos (by decide +kernel)]; kernel_rfl) | (rw [if_neg (by decide +kernel)]; exact ⟨rfl, rfl⟩))
    (fun os started H enc _ => lifted os started H enc)
/-- THE STATEMENT -/
theorem proved : Rows.IntegerRingSaid := over
end Go.Proofs.Ytmlkiddkgikdhaa.integerRing
