/- Texts of elements: the program's Format. -/
import Derived.Test.YtimdkjbmeogpoaaGreatDoorTTxt
namespace Go.Proofs.YtimdkjbmeogpoaaGreatDoor
open Go.RowKit FF
theorem resQ_good {q : Qt} (h : qB q = true) : resQ (qE q) q = nrm q ∧ resE (qE q) q = 0 := by
  rw [qE_zero.2 h]
  have := qB_nrm h
  exact ⟨by show fitQ q = nrm q; unfold fitQ; rw [if_pos this], by show fitE q = 0; unfold fitE; rw [if_pos this]⟩
theorem resQ_bad {q : Qt} (h : qB q = false) : resQ (qE q) q = Qt.zero ∧ resE (qE q) q = 3 := by
  have e : qE q = 3 := by unfold qE; rw [h]; rfl
  rw [e]; exact ⟨rfl, rfl⟩
theorem cf4_bnd {q : Qt} (h : qB q = true) (k : Nat) : -1000000 ≤ cf4 q.w q.x q.y q.z k ∧ cf4 q.w q.x q.y q.z k ≤ 1000000 := by
  obtain ⟨h1, h2, h3, h4, -⟩ := qB_iff.1 h
  unfold cf4; split
  · exact h1
  · exact h2
  · exact h3
  · exact h4
def fmtV (q : Qt) : List UInt8 := if qB q = true then fmtQ q else []
theorem fmt_val (t d : List UInt8) : (ByteArray.mk #[40] ++ ByteArray.mk t.toArray ++ ByteArray.mk #[41, 47] ++ ByteArray.mk d.toArray : ByteArray) = ⟨([40] ++ t ++ [41, 47] ++ d).toArray⟩ := by
  have e1 : (ByteArray.mk #[40] : ByteArray) = ⟨([40] : List UInt8).toArray⟩ := rfl
  have e2 : (ByteArray.mk #[41, 47] : ByteArray) = ⟨([41, 47] : List UInt8).toArray⟩ := rfl
  have app : ∀ a b : List UInt8, (⟨a.toArray⟩ : ByteArray) ++ ⟨b.toArray⟩ = ⟨(a ++ b).toArray⟩ := fun a b => by
    apply ByteArray.ext; simp
  rw [e1, e2, app, app, app]
set_option maxHeartbeats 4000000 in
set_option maxRecDepth 100000 in
theorem Format_good (a0 a1 a2 a3 a4 n0 n1 n2 n3 d : Int) (t L : List UInt8) (w : World) (htab : Ptab w)
    (hN : ∀ w, Calls Tryz.prog 47 #[.agg #[.int .i64 a0, .int .i64 a1, .int .i64 a2, .int .i64 a3, .int .i64 a4]] w fun r w' => r = .returned (.tuple #[.agg #[.int .i64 n0, .int .i64 n1, .int .i64 n2, .int .i64 n3, .int .i64 d], .int .i64 0]) ∧ Below w.heap.size w w')
    (hX : ∀ w, Ptab w → Calls Tryz.prog 49 #[.agg #[.int .i64 n0, .int .i64 n1, .int .i64 n2, .int .i64 n3]] w fun e w' => e = .returned (.string ⟨t.toArray⟩) ∧ Below w.heap.size w w')
    (hL : L = if d = 1 then t else [40] ++ t ++ [41, 47] ++ Lib.decDigits d.natAbs) (htl : t.length ≤ 100) (hd1 : 1 ≤ d) (hd2 : d ≤ 1000000) :
    Calls Tryz.prog 16 #[.agg #[.int .i64 a0, .int .i64 a1, .int .i64 a2, .int .i64 a3, .int .i64 a4]] w fun e w' => e = .returned (.tuple #[.string ⟨L.toArray⟩, .int .i64 0]) ∧ Below w.heap.size w w' := by
  have HN := Lib.hid hN; have HX := Lib.hid hX; have HL := Lib.hid hL; have Htl := Lib.hid htl; have HT := Lib.hid htab
  have HO := Lib.hid (fun w => qof_any n0 n1 n2 n3 d w)
  simp only [cv] at HO
  clear hN hX hL htl htab
  go_enter Tryz.func16, Tryz.ntmps16
  go_wp2_with fail
  refine (HN.out _).mono ?_
  rintro e1 w1 ⟨rfl, hbb⟩
  have HB1 := Lib.hid (((Below.refl w.heap.size w).alloc (Nat.le_refl _) _).trans (hbb.mono (by simp)))
  have hC := show Cells w1 w.heap.size #[.int .i64 a0, .int .i64 a1, .int .i64 a2, .int .i64 a3, .int .i64 a4] from (Cells.new w _ _ rfl).keep hbb
  have HC := Lib.hid hC
  obtain ⟨z0, z1, z2, z3, z4⟩ := hC.five
  obtain ⟨f0, f1, f2, f3, f4⟩ := hC.fr
  clear hbb hC HN
  go_upto_region 2 with fail
  obtain ⟨W2, e2, B2, C2, K2, S2⟩ := store5 HB1.out (Nat.le_refl _) HC.out (.int .i64 n0) (.int .i64 n1) (.int .i64 n2) (.int .i64 n3) (.int .i64 d)
  rw [e2]
  have HB2 := Lib.hid B2
  have HC2 := Lib.hid C2
  obtain ⟨y0, y1, y2, y3, y4⟩ := C2.five
  clear z0 z1 z2 z3 z4 f0 f1 f2 f3 f4 e2 B2 C2 K2 S2 HB1 HC
  go_wp2_with fail
  refine (HO.out _).mono ?_
  rintro e1 w3 ⟨rfl, hbb⟩
  have HB3 := Lib.hid (HB2.out.trans (hbb.mono HB2.out.size))
  have HC3 := Lib.hid (HC2.out.keep hbb)
  clear hbb HB2 HC2 y0 y1 y2 y3 y4
  go_wp2_with fail
  refine (HX.out _ (HT.out.at HB3.out)).mono ?_
  rintro e1 w4 ⟨rfl, hbb⟩
  have HB4 := Lib.hid (HB3.out.trans (hbb.mono HB3.out.size))
  have hC4 := HC3.out.keep hbb
  obtain ⟨y0, y1, y2, y3, y4⟩ := hC4.five
  clear hbb HB3 HC3 hC4
  by_cases hd : d = 1
  · subst hd
    rw [if_pos rfl] at HL
    go_wp2_with fail
    go_ret2
    exact ⟨by rw [HL.out]; rfl, HB4.out⟩
  · rw [if_neg hd] at HL
    have d1 : (d != 1) = true := bne_iff_ne.2 hd
    have d2 : (d == 1) = false := beq_eq_false_iff_ne.2 hd
    obtain ⟨D, hD⟩ : ∃ D : Nat, d = (D : Int) := ⟨d.toNat, by omega⟩
    subst hD
    have HI := Lib.hid (fun W h => itoa_any (W := W) D h (by omega))
    have HDl := Lib.hid (show (Lib.decDigits D).length ≤ 7 from dec_len_le (by omega) (by omega))
    simp only [Int.natAbs_natCast] at HL
    clear hd hd1 hd2
    have r1 : ¬ (9223372036854775807 : Int) < 1 + (t.length : Int) := by have := Htl.out; omega
    have r2 : ¬ (9223372036854775807 : Int) < 1 + (t.length : Int) + 2 := by have := Htl.out; omega
    have r3 : ¬ (9223372036854775807 : Int) < 1 + (t.length : Int) + 2 + ((Lib.decDigits D).length : Int) := by have := Htl.out; have := HDl.out; omega
    go_wp2_with fail
    refine (HI.out _ (HT.out.at HB4.out)).mono ?_
    rintro e1 w5 ⟨rfl, hbb⟩
    have HB5 := Lib.hid (HB4.out.trans (hbb.mono HB4.out.size))
    clear hbb HB4
    go_wp2_with fail
    go_ret2
    exact ⟨by rw [HL.out, ← fmt_val]; rfl, HB5.out⟩
set_option maxHeartbeats 4000000 in
set_option maxRecDepth 100000 in
theorem Format_bad (a0 a1 a2 a3 a4 : Int) (w : World)
    (hN : ∀ w, Calls Tryz.prog 47 #[.agg #[.int .i64 a0, .int .i64 a1, .int .i64 a2, .int .i64 a3, .int .i64 a4]] w fun r w' => r = .returned (.tuple #[.agg #[.int .i64 0, .int .i64 0, .int .i64 0, .int .i64 0, .int .i64 0], .int .i64 3]) ∧ Below w.heap.size w w') :
    Calls Tryz.prog 16 #[.agg #[.int .i64 a0, .int .i64 a1, .int .i64 a2, .int .i64 a3, .int .i64 a4]] w fun e w' => e = .returned (.tuple #[.string ⟨#[]⟩, .int .i64 3]) ∧ Below w.heap.size w w' := by
  have HN := Lib.hid hN; clear hN
  go_enter Tryz.func16, Tryz.ntmps16
  go_wp2_with fail
  refine (HN.out _).mono ?_
  rintro e1 w1 ⟨rfl, hbb⟩
  have HB1 := Lib.hid (((Below.refl w.heap.size w).alloc (Nat.le_refl _) _).trans (hbb.mono (by simp)))
  have hC := show Cells w1 w.heap.size #[.int .i64 a0, .int .i64 a1, .int .i64 a2, .int .i64 a3, .int .i64 a4] from (Cells.new w _ _ rfl).keep hbb
  have HC := Lib.hid hC
  obtain ⟨z0, z1, z2, z3, z4⟩ := hC.five
  obtain ⟨f0, f1, f2, f3, f4⟩ := hC.fr
  clear hbb hC HN
  go_upto_region 2 with fail
  obtain ⟨W2, e2, B2, C2, K2, S2⟩ := store5 HB1.out (Nat.le_refl _) HC.out (.int .i64 0) (.int .i64 0) (.int .i64 0) (.int .i64 0) (.int .i64 0)
  rw [e2]
  have HB2 := Lib.hid B2
  have HC2 := Lib.hid C2
  obtain ⟨y0, y1, y2, y3, y4⟩ := C2.five
  clear z0 z1 z2 z3 z4 f0 f1 f2 f3 f4 e2 B2 C2 K2 S2 HB1 HC
  go_wp2_with fail
  go_ret2
  exact ⟨rfl, HB2.out⟩
theorem qFormat_any (q : Qt) (w : World) (htab : Ptab w) :
    Calls Tryz.prog 16 #[qv q] w fun e w' => e = .returned (.tuple #[.string ⟨(fmtV q).toArray⟩, .int .i64 (qE q)]) ∧ Below w.heap.size w w' := by
  have hN := fun w => qNormal_any q w
  cases h : qB q
  · obtain ⟨e1, e2⟩ := resQ_bad h
    rw [e1, e2] at hN
    have e : qE q = 3 := by unfold qE; rw [h]; rfl
    have e' : fmtV q = [] := by unfold fmtV; rw [h]; rfl
    rw [e, e']
    exact Format_bad q.w q.x q.y q.z q.d w hN
  · obtain ⟨e1, e2⟩ := resQ_good h
    rw [e1, e2] at hN
    have hm := qB_nrm h
    have e : qE q = 0 := qE_zero.2 h
    have e' : fmtV q = fmtN (nrm q) := by unfold fmtV; rw [if_pos h]; rfl
    rw [e, e']
    obtain ⟨-, -, -, -, hd1, hd2⟩ := qB_iff.1 hm
    refine Format_good q.w q.x q.y q.z q.d (nrm q).w (nrm q).x (nrm q).y (nrm q).z (nrm q).d (txt0 (nrm q)) _ w htab hN (fun w h => text_cf _ _ _ _ _ w h (cf4_bnd hm) rfl) rfl ?_ hd1 hd2
    have := fmtN_len hm
    unfold fmtN at this
    split at this
    · exact this
    · simp at this; omega
end Go.Proofs.YtimdkjbmeogpoaaGreatDoor
