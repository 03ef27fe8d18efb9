/- Texts of elements: what the reference writes. -/
import Derived.Test.YtimdkjbmeogpoaaGreatDoorTTxf
import Derived.Test.YtimdkjbmeogpoaaGreatDoorTSym0
namespace Go.Proofs.YtimdkjbmeogpoaaGreatDoor
open Go.RowKit FF
def DecRel (M m : Nat) (s : List UInt8) : Prop := (s = [] ∧ m = M) ∨ (s ≠ [] ∧ Lib.decDigits M = (if m = 0 then [] else Lib.decDigits m) ++ s)
def dch (d : Nat) : UInt8 := UInt8.ofNat (48 + d)
theorem DecRel.step {M m : Nat} {s : List UInt8} (h : DecRel M m s) (hn : s = [] ∨ m ≠ 0) : DecRel M (m / 10) (dch (m % 10) :: s) := by
  refine .inr ⟨by simp, ?_⟩
  have key : Lib.decDigits m = (if m / 10 = 0 then [] else Lib.decDigits (m / 10)) ++ [dch (m % 10)] := by
    rcases Nat.lt_or_ge m 10 with h10 | h10
    · rw [dec_small h10, if_pos (by omega), Nat.mod_eq_of_lt h10]; rfl
    · rw [if_neg (by omega)]; exact dec_big h10
  rcases h with ⟨rfl, rfl⟩ | ⟨h1, h2⟩
  · rw [key]
  · rcases hn with hn | hn
    · exact absurd hn h1
    · rw [h2, if_neg hn, key]; simp
theorem DecRel.done {M : Nat} {s : List UInt8} (h : DecRel M 0 s) (hs : s ≠ []) : s = Lib.decDigits M := by
  rcases h with ⟨h1, -⟩ | ⟨-, h2⟩
  · exact absurd h1 hs
  · rw [h2]; simp
def sgI (ng : Bool) (m : Nat) : Int := if ng then -(m : Int) else m
theorem DecRel.len {M m : Nat} {s : List UInt8} (h : DecRel M m s) (hM : M ≤ 1000000000) : s.length ≤ 10 := by
  rcases h with ⟨rfl, -⟩ | ⟨-, h2⟩
  · simp
  · have := dec_len_le (k := 10) (n := M) (by omega) (by omega)
    rw [h2] at this
    simp at this; omega
theorem bstr_one (c : UInt8) (s : List UInt8) : Value.string ((⟨#[c]⟩ : ByteArray) ++ ⟨s.toArray⟩) = .string ⟨(c :: s).toArray⟩ := by
  exact congrArg Value.string (by apply ByteArray.ext; simp)
theorem bstr_app2 (a s : List UInt8) : ((⟨a.toArray⟩ : ByteArray) ++ ⟨s.toArray⟩) = ⟨(a ++ s).toArray⟩ := by
  apply ByteArray.ext; simp
theorem dec_meas (ng : Bool) (m : Nat) (s : List UInt8) (c : UInt8) (h : s = [] ∨ m ≠ 0) : (sgI ng (m / 10)).natAbs + (if (ByteArray.mk (c :: s).toArray).size = 0 then 1 else 0) < (sgI ng m).natAbs + (if (ByteArray.mk s.toArray).size = 0 then 1 else 0) := by
  have e : ∀ k : Nat, (sgI ng k).natAbs = k := fun k => by unfold sgI; split <;> omega
  rw [e, e, if_neg (by show ¬ (c :: s).toArray.size = 0; simp)]
  by_cases hs : s = []
  · rw [if_pos (by rw [hs]; rfl)]; omega
  · rcases h with h | h
    · exact absurd h hs
    · rw [if_neg (by show ¬ s.toArray.size = 0; simpa using hs)]; omega
theorem slice_dig (d : Nat) (h : d < 10) : (ByteArray.mk #[48, 49, 50, 51, 52, 53, 54, 55, 56, 57]).extract d (d + 1) = ⟨#[dch d]⟩ := by
  obtain rfl | rfl | rfl | rfl | rfl | rfl | rfl | rfl | rfl | rfl : d = 0 ∨ d = 1 ∨ d = 2 ∨ d = 3 ∨ d = 4 ∨ d = 5 ∨ d = 6 ∨ d = 7 ∨ d = 8 ∨ d = 9 := by omega
  all_goals rfl
theorem sgI_mod (ng : Bool) (m : Nat) : ((sgI ng m).tmod 10).natAbs = m % 10 := by
  unfold sgI
  cases ng
  · simp only [Bool.false_eq_true, if_false]
    rw [Int.tmod_eq_emod_of_nonneg (by omega)]; omega
  · simp only [if_true]
    rw [Int.neg_tmod, Int.tmod_eq_emod_of_nonneg (by omega)]; omega
theorem sgI_div (ng : Bool) (m : Nat) : (sgI ng m).tdiv 10 = sgI ng (m / 10) := by
  unfold sgI
  cases ng
  · simp only [Bool.false_eq_true, if_false]
    rw [Int.tdiv_eq_ediv_of_nonneg (by omega)]; omega
  · simp only [if_true]
    rw [Int.neg_tdiv, Int.tdiv_eq_ediv_of_nonneg (by omega)]; omega
set_option maxHeartbeats 4000000 in
set_option maxRecDepth 100000 in
theorem Decimal_any (n : Int) (w : World) (h : -1000000000 ≤ n ∧ n ≤ 1000000000) :
    Calls Tryz.prog 58 #[.int .i64 n] w fun e w' => e = .returned (.string ⟨(Lib.itoa n).toArray⟩) ∧ Below w.heap.size w w' := by
  obtain ⟨ng, M, rfl, hM, hng⟩ : ∃ (ng : Bool) (M : Nat), n = sgI ng M ∧ M ≤ 1000000000 ∧ decide (sgI ng M < 0) = ng := by
    by_cases h0 : n < 0
    · exact ⟨true, n.natAbs, by unfold sgI; simp; omega, by omega, by unfold sgI; simp; omega⟩
    · exact ⟨false, n.natAbs, by unfold sgI; simp; omega, by omega, by unfold sgI; simp⟩
  have HE := Lib.hid (show Lib.itoa (sgI ng M) = (if ng then [45] else []) ++ Lib.decDigits M by
    unfold Lib.itoa
    cases ng
    · rw [if_neg (by simpa using hng)]; simp [sgI]
    · rw [if_pos (by simpa using hng)]; simp [sgI])
  have HM := Lib.hid hM
  clear h hM
  go_enter Tryz.func58, Tryz.ntmps58
  cases ng
  · go_wp2_with fail
    go_loopw [0, 4, 5] (fun s0 s4 _ wr => ∃ (m : Nat) (s : List UInt8), s0 = .int .i64 (sgI false m) ∧ s4 = .string ⟨s.toArray⟩ ∧ DecRel M m s ∧ m ≤ M ∧ Below w.heap.size w wr) (fun s0 s4 _ _ => (intOf s0).natAbs + (match s4 with | .string b => if b.size = 0 then 1 else 0 | _ => 0))
    case atStart => exact ⟨M, [], rfl, rfl, .inl ⟨rfl, rfl⟩, Nat.le_refl _, Below.refl _ _⟩
    case round =>
      obtain ⟨m, s, rfl, rfl, hr, hm, hb⟩ := hrel
      have HR := Lib.hid hr; have HB := Lib.hid hb; have HMm := Lib.hid hm
      clear hr hb hm
      by_cases hs : s = []
      · subst hs
        have HMs := Lib.hid (show ([] : List UInt8) = [] ∨ m ≠ 0 from .inl rfl)
        have HNX := Lib.hid (HR.out.step (.inl rfl))
        have HSl := Lib.hid (show ([] : List UInt8).length ≤ 10 from HR.out.len HM.out)
        obtain ⟨z, hz⟩ : ∃ z, z = (sgI false m).tmod 10 := ⟨_, rfl⟩
        have hzm := sgI_mod false m
        rw [← hz] at hzm
        have HA := Lib.hid (fun W => hzm ▸ bAbs_any z W (by omega) (by omega))
        have hq := sgI_div false m
        have hq1 : IntKind.i64.wrap (sgI false (m / 10)) = sgI false (m / 10) := by unfold sgI; exact wrap_id _ (by have := HMm.out; have := HM.out; simp; omega) (by have := HMm.out; have := HM.out; simp; omega)
        obtain ⟨d, hd⟩ : ∃ d, d = m % 10 := ⟨_, rfl⟩
        have hd9 : d ≤ 9 := by omega
        have hsd := slice_dig d (by omega)
        rw [← hd] at HA HNX
        have hz' : (sgI false m).tmod 10 = z := hz.symm
        clear hz hd hzm
        go_wp2_with fail
        refine (HA.out _).mono ?_
        rintro _ _ ⟨rfl, n1, rfl⟩
        have q1 : ¬ (9223372036854775807 : Int) < 1 + (([] : List UInt8).length : Int) := by have := HSl.out; omega
        go_wp2_with fail
        have HB1 := Lib.hid (below_drewN HB.out n1)
        exact ⟨⟨m / 10, dch d :: [], rfl, bstr_one _ [], HNX.out, by have := HMm.out; omega, HB1.out⟩, dec_meas false m [] (dch d) (.inl rfl)⟩
      have e1 : s.isEmpty = false := by simpa using hs
      have HS0 := Lib.hid hs
      by_cases hm0 : m = 0
      · have HD := Lib.hid (show s = Lib.decDigits M from (hm0 ▸ HR.out).done HS0.out)
        have e2 : (sgI false m == 0) = true := by rw [hm0]; rfl
        have e3 : (sgI false m != 0) = false := by rw [hm0]; rfl
        have q1 : ¬ (9223372036854775807 : Int) < 1 + (s.length : Int) := by have := HR.out.len HM.out; omega
        have q2 : ¬ (9223372036854775807 : Int) < (s.length : Int) := by have := HR.out.len HM.out; omega
        clear hm0
        go_wp2_with fail
        go_ret
        exact ⟨by rw [HE.out, ← HD.out]; exact congrArg (fun x => Ending.returned (Value.string x)) (bstr_app2 _ s), HB.out⟩
      have e2 : (sgI false m == 0) = false := beq_eq_false_iff_ne.2 (by unfold sgI; simp; omega)
      have e3 : (sgI false m != 0) = true := bne_iff_ne.2 (by unfold sgI; simp; omega)
      have HMs := Lib.hid (show s = [] ∨ m ≠ 0 from .inr hm0)
      clear hm0
      have HNX := Lib.hid (HR.out.step HMs.out)
      have HSl := Lib.hid (show (s : List UInt8).length ≤ 10 from HR.out.len HM.out)
      obtain ⟨z, hz⟩ : ∃ z, z = (sgI false m).tmod 10 := ⟨_, rfl⟩
      have hzm := sgI_mod false m
      rw [← hz] at hzm
      have HA := Lib.hid (fun W => hzm ▸ bAbs_any z W (by omega) (by omega))
      have hq := sgI_div false m
      have hq1 : IntKind.i64.wrap (sgI false (m / 10)) = sgI false (m / 10) := by unfold sgI; exact wrap_id _ (by have := HMm.out; have := HM.out; simp; omega) (by have := HMm.out; have := HM.out; simp; omega)
      obtain ⟨d, hd⟩ : ∃ d, d = m % 10 := ⟨_, rfl⟩
      have hd9 : d ≤ 9 := by omega
      have hsd := slice_dig d (by omega)
      rw [← hd] at HA HNX
      have hz' : (sgI false m).tmod 10 = z := hz.symm
      clear hz hd hzm
      go_wp2_with fail
      refine (HA.out _).mono ?_
      rintro _ _ ⟨rfl, n1, rfl⟩
      have q1 : ¬ (9223372036854775807 : Int) < 1 + ((s : List UInt8).length : Int) := by have := HSl.out; omega
      go_wp2_with fail
      have HB1 := Lib.hid (below_drewN HB.out n1)
      exact ⟨⟨m / 10, dch d :: s, rfl, bstr_one _ s, HNX.out, by have := HMm.out; omega, HB1.out⟩, dec_meas false m s (dch d) HMs.out⟩
  · go_wp2_with fail
    go_loopw [0, 4, 5] (fun s0 s4 _ wr => ∃ (m : Nat) (s : List UInt8), s0 = .int .i64 (sgI true m) ∧ s4 = .string ⟨s.toArray⟩ ∧ DecRel M m s ∧ m ≤ M ∧ Below w.heap.size w wr) (fun s0 s4 _ _ => (intOf s0).natAbs + (match s4 with | .string b => if b.size = 0 then 1 else 0 | _ => 0))
    case atStart => exact ⟨M, [], rfl, rfl, .inl ⟨rfl, rfl⟩, Nat.le_refl _, Below.refl _ _⟩
    case round =>
      obtain ⟨m, s, rfl, rfl, hr, hm, hb⟩ := hrel
      have HR := Lib.hid hr; have HB := Lib.hid hb; have HMm := Lib.hid hm
      clear hr hb hm
      by_cases hs : s = []
      · subst hs
        have HMs := Lib.hid (show ([] : List UInt8) = [] ∨ m ≠ 0 from .inl rfl)
        have HNX := Lib.hid (HR.out.step (.inl rfl))
        have HSl := Lib.hid (show ([] : List UInt8).length ≤ 10 from HR.out.len HM.out)
        obtain ⟨z, hz⟩ : ∃ z, z = (sgI true m).tmod 10 := ⟨_, rfl⟩
        have hzm := sgI_mod true m
        rw [← hz] at hzm
        have HA := Lib.hid (fun W => hzm ▸ bAbs_any z W (by omega) (by omega))
        have hq := sgI_div true m
        have hq1 : IntKind.i64.wrap (sgI true (m / 10)) = sgI true (m / 10) := by unfold sgI; exact wrap_id _ (by have := HMm.out; have := HM.out; simp; omega) (by have := HMm.out; have := HM.out; simp; omega)
        obtain ⟨d, hd⟩ : ∃ d, d = m % 10 := ⟨_, rfl⟩
        have hd9 : d ≤ 9 := by omega
        have hsd := slice_dig d (by omega)
        rw [← hd] at HA HNX
        have hz' : (sgI true m).tmod 10 = z := hz.symm
        clear hz hd hzm
        go_wp2_with fail
        refine (HA.out _).mono ?_
        rintro _ _ ⟨rfl, n1, rfl⟩
        have q1 : ¬ (9223372036854775807 : Int) < 1 + (([] : List UInt8).length : Int) := by have := HSl.out; omega
        go_wp2_with fail
        have HB1 := Lib.hid (below_drewN HB.out n1)
        exact ⟨⟨m / 10, dch d :: [], rfl, bstr_one _ [], HNX.out, by have := HMm.out; omega, HB1.out⟩, dec_meas true m [] (dch d) (.inl rfl)⟩
      have e1 : s.isEmpty = false := by simpa using hs
      have HS0 := Lib.hid hs
      by_cases hm0 : m = 0
      · have HD := Lib.hid (show s = Lib.decDigits M from (hm0 ▸ HR.out).done HS0.out)
        have e2 : (sgI true m == 0) = true := by rw [hm0]; rfl
        have e3 : (sgI true m != 0) = false := by rw [hm0]; rfl
        have q1 : ¬ (9223372036854775807 : Int) < 1 + (s.length : Int) := by have := HR.out.len HM.out; omega
        have q2 : ¬ (9223372036854775807 : Int) < (s.length : Int) := by have := HR.out.len HM.out; omega
        clear hm0
        go_wp2_with fail
        go_ret
        exact ⟨by rw [HE.out, ← HD.out]; exact congrArg (fun x => Ending.returned (Value.string x)) (bstr_app2 _ s), HB.out⟩
      have e2 : (sgI true m == 0) = false := beq_eq_false_iff_ne.2 (by unfold sgI; simp; omega)
      have e3 : (sgI true m != 0) = true := bne_iff_ne.2 (by unfold sgI; simp; omega)
      have HMs := Lib.hid (show s = [] ∨ m ≠ 0 from .inr hm0)
      clear hm0
      have HNX := Lib.hid (HR.out.step HMs.out)
      have HSl := Lib.hid (show (s : List UInt8).length ≤ 10 from HR.out.len HM.out)
      obtain ⟨z, hz⟩ : ∃ z, z = (sgI true m).tmod 10 := ⟨_, rfl⟩
      have hzm := sgI_mod true m
      rw [← hz] at hzm
      have HA := Lib.hid (fun W => hzm ▸ bAbs_any z W (by omega) (by omega))
      have hq := sgI_div true m
      have hq1 : IntKind.i64.wrap (sgI true (m / 10)) = sgI true (m / 10) := by unfold sgI; exact wrap_id _ (by have := HMm.out; have := HM.out; simp; omega) (by have := HMm.out; have := HM.out; simp; omega)
      obtain ⟨d, hd⟩ : ∃ d, d = m % 10 := ⟨_, rfl⟩
      have hd9 : d ≤ 9 := by omega
      have hsd := slice_dig d (by omega)
      rw [← hd] at HA HNX
      have hz' : (sgI true m).tmod 10 = z := hz.symm
      clear hz hd hzm
      go_wp2_with fail
      refine (HA.out _).mono ?_
      rintro _ _ ⟨rfl, n1, rfl⟩
      have q1 : ¬ (9223372036854775807 : Int) < 1 + ((s : List UInt8).length : Int) := by have := HSl.out; omega
      go_wp2_with fail
      have HB1 := Lib.hid (below_drewN HB.out n1)
      exact ⟨⟨m / 10, dch d :: s, rfl, bstr_one _ s, HNX.out, by have := HMm.out; omega, HB1.out⟩, dec_meas true m s (dch d) HMs.out⟩
end Go.Proofs.YtimdkjbmeogpoaaGreatDoor
