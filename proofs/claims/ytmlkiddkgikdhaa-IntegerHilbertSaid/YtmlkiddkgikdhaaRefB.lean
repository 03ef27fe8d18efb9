/- Contracts of the reference's functions on machine integers, part B: the Hilbert symbol. -/
import Derived.Test.YtmlkiddkgikdhaaRefA
namespace Go.Proofs.Ytmlkiddkgikdhaa
open Go.RowKit FF

set_option maxHeartbeats 1000000 in
theorem rCheckHilbert_any (a b p : Int) (w : World) :
    Calls Try.prog 85 #[.int .i64 a, .int .i64 b, .int .i64 p] w (Ret w (.int .i64 (hilE a b p))) := by
  by_cases ha : a = 0
  · have hF := Lib.hid (show hilE a b p = 10 by unfold hilE; rw [if_pos (Or.inl ha)])
    subst ha
    go_enter Try.func85, Try.ntmps85
    go_wp2
    go_ret
    exact Ret.eq0 (ret_int hF.out.symm)
  by_cases hb : b = 0
  · have hF := Lib.hid (show hilE a b p = 10 by unfold hilE; rw [if_pos (Or.inr hb)])
    subst hb
    have d1 := f_beq ha
    go_enter Try.func85, Try.ntmps85
    go_wp2
    go_ret
    exact Ret.eq0 (ret_int hF.out.symm)
  have d1 := f_beq ha
  have d2 := f_beq hb
  have iA := fun w => rWithin_any a (-1000000000) 1000000000 w
  have iB := fun w => rWithin_any b (-1000000000) 1000000000 w
  change ∀ w, Calls _ _ _ w (Ret w (.bool (inB a))) at iA
  change ∀ w, Calls _ _ _ w (Ret w (.bool (inB b))) at iB
  cases ca : inB a
  · have hF := Lib.hid (show hilE a b p = 2 by unfold hilE; rw [if_neg (by rintro (h | h); exact ha h; exact hb h), if_pos (Or.inl ca)])
    rw [ca] at iA
    have IA := Lib.hid iA
    clear iA iB ca ha hb
    go_enter Try.func85, Try.ntmps85
    go_wp2_with fail
    refine (IA.out _).mono ?_
    rintro e w' ⟨rfl, n1, rfl⟩
    go_wp2
    go_ret
    exact Ret.eq _ (ret_int hF.out.symm)
  cases cb : inB b
  · have hF := Lib.hid (show hilE a b p = 2 by unfold hilE; rw [if_neg (by rintro (h | h); exact ha h; exact hb h), if_pos (Or.inr cb)])
    rw [ca] at iA
    rw [cb] at iB
    have IA := Lib.hid iA
    have IB := Lib.hid iB
    clear iA iB ca cb ha hb
    go_enter Try.func85, Try.ntmps85
    go_wp2_with fail
    refine (IA.out _).mono ?_
    rintro e w' ⟨rfl, n1, rfl⟩
    go_wp2_with fail
    refine (IB.out _).mono ?_
    rintro e w' ⟨rfl, n2, rfl⟩
    go_wp2
    go_ret
    exact Ret.eq _ (ret_int hF.out.symm)
  have hE := Lib.hid (show hilE a b p = if p ≠ 0 ∧ isPB p = false then 11 else 0 by
    unfold hilE; rw [if_neg (by rintro (h | h); exact ha h; exact hb h), if_neg (by rw [ca, cb]; simp)])
  have ra := inB_iff.1 ca
  have rb := inB_iff.1 cb
  rw [ca] at iA
  rw [cb] at iB
  have IA := Lib.hid iA
  have IB := Lib.hid iB
  have iP := fun w => rIsPrime_any p w
  by_cases hp : p = 0
  · have hF := Lib.hid (show hilE a b p = 0 by rw [hE.out, if_neg (fun h => h.1 hp)])
    clear hE iA iB ca cb ha hb iP ra rb
    subst hp
    go_enter Try.func85, Try.ntmps85
    go_wp2_with fail
    refine (IA.out _).mono ?_
    rintro e w' ⟨rfl, n1, rfl⟩
    go_wp2_with fail
    refine (IB.out _).mono ?_
    rintro e w' ⟨rfl, n2, rfl⟩
    go_wp2
    go_ret
    exact Ret.eq _ (ret_int hF.out.symm)
  have d3 : (p != 0) = true := bne_iff_ne.2 hp
  cases cp : isPB p
  · have hF := Lib.hid (show hilE a b p = 11 by rw [hE.out, if_pos ⟨hp, cp⟩])
    rw [cp] at iP
    have IP := Lib.hid iP
    clear hE iA iB ca cb ha hb iP cp hp
    go_enter Try.func85, Try.ntmps85
    go_wp2_with fail
    refine (IA.out _).mono ?_
    rintro e w' ⟨rfl, n1, rfl⟩
    go_wp2_with fail
    refine (IB.out _).mono ?_
    rintro e w' ⟨rfl, n2, rfl⟩
    go_wp2_with fail
    refine (IP.out _).mono ?_
    rintro e w' ⟨rfl, n3, rfl⟩
    go_wp2
    go_ret
    exact Ret.eq _ (ret_int hF.out.symm)
  · have hF := Lib.hid (show hilE a b p = 0 by rw [hE.out, if_neg (fun h => by rw [cp] at h; exact absurd h.2 (by simp))])
    rw [cp] at iP
    have IP := Lib.hid iP
    clear hE iA iB ca cb ha hb iP cp hp ra rb
    go_enter Try.func85, Try.ntmps85
    go_wp2_with fail
    refine (IA.out _).mono ?_
    rintro e w' ⟨rfl, n1, rfl⟩
    go_wp2_with fail
    refine (IB.out _).mono ?_
    rintro e w' ⟨rfl, n2, rfl⟩
    go_wp2_with fail
    refine (IP.out _).mono ?_
    rintro e w' ⟨rfl, n3, rfl⟩
    go_wp2
    go_ret
    exact Ret.eq _ (ret_int hF.out.symm)

theorem hil_at2 (a b : Int) (ha : a ≠ 0) (hb : b ≠ 0) : Hil a b 2 =
    if ((rest 2 a % 8 - 1) / 2 * ((rest 2 b % 8 - 1) / 2) + (vp 2 a : Int) * ((rest 2 b % 8 * (rest 2 b % 8) - 1) / 8) + (vp 2 b : Int) * ((rest 2 a % 8 * (rest 2 a % 8) - 1) / 8)) % 2 = 1 then -1 else 1 := by
  rw [← hil2_sum (odd_rest_two ha) (odd_rest_two hb)]
  unfold Hil; rw [if_neg (by omega), if_pos rfl]

theorem hil_atp {a b p : Int} (ha : a ≠ 0) (hb : b ≠ 0) (hp : IsP p.toNat) (hp2 : 2 < p) : Hil a b p =
    if ((vp p a : Int) * (vp p b) * ((p - 1) / 2) + (if leg (rest p a) p.toNat < 0 then (vp p b : Int) else 0) + (if leg (rest p b) p.toNat < 0 then (vp p a : Int) else 0)) % 2 = 1 then -1 else 1 := by
  have h1 : Hil a b p = hilp (oddB (vp p a)) (oddB (vp p b)) (three p) (leg (rest p a) p.toNat) (leg (rest p b) p.toNat) := by
    unfold Hil; rw [if_neg (by omega), if_neg (by omega)]
  have e1 : ((p.toNat : Nat) : Int) = p := by omega
  have n1 : ¬ ((p.toNat : Nat) : Int) ∣ rest p a := by rw [e1]; exact not_dvd_rest (by omega) ha
  have n2 : ¬ ((p.toNat : Nat) : Int) ∣ rest p b := by rw [e1]; exact not_dvd_rest (by omega) hb
  have hodd := hp.odd (by omega)
  rw [h1, hilp_sum (h := ((p - 1) / 2).toNat) (leg_ne n1) (leg_ne n2) (by unfold three; rw [beq_iff_eq]; omega)]
  generalize leg (rest p a) p.toNat = x at *
  generalize leg (rest p b) p.toNat = y at *
  have e2 : ((vp p a * vp p b * ((p - 1) / 2).toNat : Nat) : Int) = (vp p a : Int) * (vp p b) * ((p - 1) / 2) := by
    push_cast; rw [show ((((p - 1) / 2).toNat : Nat) : Int) = (p - 1) / 2 by omega]
  rw [← e2]
  generalize vp p a * vp p b * ((p - 1) / 2).toNat = q
  by_cases c1 : x < 0 <;> by_cases c2 : y < 0 <;> simp only [c1, c2, if_true, if_false] <;>
    (congr 1; rw [eq_iff_iff]; omega)
end Go.Proofs.Ytmlkiddkgikdhaa
