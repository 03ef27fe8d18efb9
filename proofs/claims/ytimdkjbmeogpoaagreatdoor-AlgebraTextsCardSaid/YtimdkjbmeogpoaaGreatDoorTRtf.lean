/- Texts of elements: what the reference writes. -/
import Derived.Test.YtimdkjbmeogpoaaGreatDoorTRtx
import Derived.Test.YtimdkjbmeogpoaaGreatDoorTQj0
import Derived.Test.YtimdkjbmeogpoaaGreatDoorTRpg
namespace Go.Proofs.YtimdkjbmeogpoaaGreatDoor
open Go.RowKit FF
def trmL (s : List UInt8) (n : Int) (lt : List UInt8) : List UInt8 := if n = 0 then s else s ++ ((if s = [] then (if n < 0 then [45] else []) else sepT n) ++ ((if lt = [] ∨ n.natAbs ≠ 1 then Lib.decDigits n.natAbs else []) ++ lt))
theorem trmL_eq (s : List UInt8) (n : Int) (i : Nat) : trmL s n (ltr i) = trm s n i := by
  have e : (ltr i = [] ∨ n.natAbs ≠ 1) ↔ (i = 0 ∨ n.natAbs ≠ 1) := by
    have : ltr i = [] ↔ i = 0 := by
      match i with
      | 0 => simp [ltr]
      | 1 => simp [ltr]
      | 2 => simp [ltr]
      | k + 3 => simp [ltr]
    rw [this]
  unfold trmL trm bodyT
  by_cases h : i = 0 ∨ n.natAbs ≠ 1
  · rw [if_pos h, if_pos (e.2 h)]
  · rw [if_neg h, if_neg (fun k => h (e.1 k))]
theorem dec_nat (m : Nat) : Lib.itoa (m : Int) = Lib.decDigits m := Lib.itoa_nonneg m
set_option maxHeartbeats 4000000 in
set_option maxRecDepth 100000 in
theorem term_lt (s lt : List UInt8) (n : Int) (w : World) (hn : -1000000 ≤ n ∧ n ≤ 1000000) (hs : s.length ≤ 100) (hlt : lt.length ≤ 1) :
    Calls Tryz.prog 57 #[.string ⟨s.toArray⟩, .int .i64 n, .string ⟨lt.toArray⟩] w fun e w' => e = .returned (.string ⟨(trmL s n lt).toArray⟩) ∧ Below w.heap.size w w' := by
  have HA := Lib.hid (fun W => bAbs_any n W (by omega) (by omega))
  have HD := Lib.hid (fun W => (Decimal_any (n.natAbs : Int) W (by omega)))
  rw [dec_nat] at HD
  have HE := Lib.hid (show trmL s n lt = (if n = 0 then s else s ++ ((if s = [] then (if n < 0 then [45] else []) else sepT n) ++ ((if lt = [] ∨ n.natAbs ≠ 1 then Lib.decDigits n.natAbs else []) ++ lt))) from rfl)
  generalize trmL s n lt = R at *
  have hdl : (Lib.decDigits n.natAbs).length ≤ 7 := dec_len_le (by omega) (by omega)
  generalize Lib.decDigits n.natAbs = D at *
  go_enter Tryz.func57, Tryz.ntmps57
  by_cases hn0 : n = 0
  · rw [if_pos hn0] at HE
    have e0 : (n == 0) = true := by rw [hn0]; rfl
    clear hn0
    go_wp2_with fail
    go_ret
    exact ⟨by rw [HE.out]; rfl, Below.refl _ _⟩
  have e0 : (n == 0) = false := beq_eq_false_iff_ne.2 hn0
  rw [if_neg hn0] at HE
  have q1 : ¬ (9223372036854775807 : Int) < (D.length : Int) + (lt.length : Int) := by omega
  have q2 : ¬ (9223372036854775807 : Int) < 1 + ((D.length : Int) + (lt.length : Int)) := by omega
  have q3 : ¬ (9223372036854775807 : Int) < (s.length : Int) + 3 := by omega
  have q4 : ¬ (9223372036854775807 : Int) < (s.length : Int) + 3 + ((D.length : Int) + (lt.length : Int)) := by omega
  have q5 : ¬ (9223372036854775807 : Int) < 1 + (lt.length : Int) := by omega
  have q6 : ¬ (9223372036854775807 : Int) < (s.length : Int) + 3 + (lt.length : Int) := by omega
  by_cases ha : n.natAbs = 1
  · have ea : ((n.natAbs : Int) != 1) = false := by rw [ha]; rfl
    by_cases hl : lt = []
    · have el : lt.isEmpty = true := by simpa using hl
      rw [if_pos (show lt = [] ∨ n.natAbs ≠ 1 from .inl hl)] at HE
      subst hl
      clear ha
      by_cases hs : s = []
      · rw [if_pos hs] at HE
        subst hs
        by_cases hng : n < 0
        · rw [if_pos hng] at HE
          have sg : decide (n < 0) = true := decide_eq_true hng
          have HNg := Lib.hid hng; clear hng
          go_wp2_with fail
          refine (HA.out _).mono ?_
          rintro _ _ ⟨rfl, k1, rfl⟩
          go_wp2_with fail
          refine (HA.out _).mono ?_
          rintro _ _ ⟨rfl, k2, rfl⟩
          go_wp2_with fail
          refine (HD.out _).mono ?_
          rintro _ wd ⟨rfl, hbd⟩
          go_wp2_with fail
          go_ret
          exact ⟨by rw [HE.out]; exact congrArg (fun x => Ending.returned (Value.string x)) (by apply ByteArray.ext; simp), (below_drewN (Below.refl w.heap.size w) (k1 + k2)).trans (hbd.mono (below_drewN (Below.refl w.heap.size w) (k1 + k2)).size)⟩
        · rw [if_neg hng] at HE
          have sg : decide (n < 0) = false := decide_eq_false hng
          have HNg := Lib.hid hng; clear hng
          go_wp2_with fail
          refine (HA.out _).mono ?_
          rintro _ _ ⟨rfl, k1, rfl⟩
          go_wp2_with fail
          refine (HA.out _).mono ?_
          rintro _ _ ⟨rfl, k2, rfl⟩
          go_wp2_with fail
          refine (HD.out _).mono ?_
          rintro _ wd ⟨rfl, hbd⟩
          go_wp2_with fail
          go_ret
          exact ⟨by rw [HE.out]; exact congrArg (fun x => Ending.returned (Value.string x)) (by apply ByteArray.ext; simp), (below_drewN (Below.refl w.heap.size w) (k1 + k2)).trans (hbd.mono (below_drewN (Below.refl w.heap.size w) (k1 + k2)).size)⟩
      · rw [if_neg hs] at HE
        have es : s.isEmpty = false := by simpa using hs
        by_cases hng : n < 0
        · rw [show sepT n = [32, 45, 32] from if_pos hng] at HE
          have sg : decide (n < 0) = true := decide_eq_true hng
          have HNg := Lib.hid hng; clear hng
          go_wp2_with fail
          refine (HA.out _).mono ?_
          rintro _ _ ⟨rfl, k1, rfl⟩
          go_wp2_with fail
          refine (HA.out _).mono ?_
          rintro _ _ ⟨rfl, k2, rfl⟩
          go_wp2_with fail
          refine (HD.out _).mono ?_
          rintro _ wd ⟨rfl, hbd⟩
          go_wp2_with fail
          go_ret
          exact ⟨by rw [HE.out]; exact congrArg (fun x => Ending.returned (Value.string x)) (by apply ByteArray.ext; simp), (below_drewN (Below.refl w.heap.size w) (k1 + k2)).trans (hbd.mono (below_drewN (Below.refl w.heap.size w) (k1 + k2)).size)⟩
        · rw [show sepT n = [32, 43, 32] from if_neg hng] at HE
          have sg : decide (n < 0) = false := decide_eq_false hng
          have HNg := Lib.hid hng; clear hng
          go_wp2_with fail
          refine (HA.out _).mono ?_
          rintro _ _ ⟨rfl, k1, rfl⟩
          go_wp2_with fail
          refine (HA.out _).mono ?_
          rintro _ _ ⟨rfl, k2, rfl⟩
          go_wp2_with fail
          refine (HD.out _).mono ?_
          rintro _ wd ⟨rfl, hbd⟩
          go_wp2_with fail
          go_ret
          exact ⟨by rw [HE.out]; exact congrArg (fun x => Ending.returned (Value.string x)) (by apply ByteArray.ext; simp), (below_drewN (Below.refl w.heap.size w) (k1 + k2)).trans (hbd.mono (below_drewN (Below.refl w.heap.size w) (k1 + k2)).size)⟩
    · have el : lt.isEmpty = false := by simpa using hl
      rw [if_neg (show ¬ (lt = [] ∨ n.natAbs ≠ 1) from fun h => h.elim hl (fun h => h ha)), List.nil_append] at HE
      clear ha
      by_cases hs : s = []
      · rw [if_pos hs] at HE
        subst hs
        by_cases hng : n < 0
        · rw [if_pos hng] at HE
          have sg : decide (n < 0) = true := decide_eq_true hng
          have HNg := Lib.hid hng; clear hng
          go_wp2_with fail
          refine (HA.out _).mono ?_
          rintro _ _ ⟨rfl, k1, rfl⟩
          go_wp2_with fail
          go_ret
          exact ⟨by rw [HE.out]; exact congrArg (fun x => Ending.returned (Value.string x)) (by apply ByteArray.ext; simp), below_drewN (Below.refl _ _) _⟩
        · rw [if_neg hng] at HE
          have sg : decide (n < 0) = false := decide_eq_false hng
          have HNg := Lib.hid hng; clear hng
          go_wp2_with fail
          refine (HA.out _).mono ?_
          rintro _ _ ⟨rfl, k1, rfl⟩
          go_wp2_with fail
          go_ret
          exact ⟨by rw [HE.out]; exact congrArg (fun x => Ending.returned (Value.string x)) (by apply ByteArray.ext; simp), below_drewN (Below.refl _ _) _⟩
      · rw [if_neg hs] at HE
        have es : s.isEmpty = false := by simpa using hs
        by_cases hng : n < 0
        · rw [show sepT n = [32, 45, 32] from if_pos hng] at HE
          have sg : decide (n < 0) = true := decide_eq_true hng
          have HNg := Lib.hid hng; clear hng
          go_wp2_with fail
          refine (HA.out _).mono ?_
          rintro _ _ ⟨rfl, k1, rfl⟩
          go_wp2_with fail
          go_ret
          exact ⟨by rw [HE.out]; exact congrArg (fun x => Ending.returned (Value.string x)) (by apply ByteArray.ext; simp), below_drewN (Below.refl _ _) _⟩
        · rw [show sepT n = [32, 43, 32] from if_neg hng] at HE
          have sg : decide (n < 0) = false := decide_eq_false hng
          have HNg := Lib.hid hng; clear hng
          go_wp2_with fail
          refine (HA.out _).mono ?_
          rintro _ _ ⟨rfl, k1, rfl⟩
          go_wp2_with fail
          go_ret
          exact ⟨by rw [HE.out]; exact congrArg (fun x => Ending.returned (Value.string x)) (by apply ByteArray.ext; simp), below_drewN (Below.refl _ _) _⟩
  · have ea : ((n.natAbs : Int) != 1) = true := bne_iff_ne.2 (by omega)
    rw [if_pos (show lt = [] ∨ n.natAbs ≠ 1 from .inr ha)] at HE
    clear ha
    by_cases hs : s = []
    · rw [if_pos hs] at HE
      subst hs
      by_cases hng : n < 0
      · rw [if_pos hng] at HE
        have sg : decide (n < 0) = true := decide_eq_true hng
        have HNg := Lib.hid hng; clear hng
        go_wp2_with fail
        refine (HA.out _).mono ?_
        rintro _ _ ⟨rfl, k1, rfl⟩
        go_wp2_with fail
        refine (HA.out _).mono ?_
        rintro _ _ ⟨rfl, k2, rfl⟩
        go_wp2_with fail
        refine (HD.out _).mono ?_
        rintro _ wd ⟨rfl, hbd⟩
        go_wp2_with fail
        go_ret
        exact ⟨by rw [HE.out]; exact congrArg (fun x => Ending.returned (Value.string x)) (by apply ByteArray.ext; simp), (below_drewN (Below.refl w.heap.size w) (k1 + k2)).trans (hbd.mono (below_drewN (Below.refl w.heap.size w) (k1 + k2)).size)⟩
      · rw [if_neg hng] at HE
        have sg : decide (n < 0) = false := decide_eq_false hng
        have HNg := Lib.hid hng; clear hng
        go_wp2_with fail
        refine (HA.out _).mono ?_
        rintro _ _ ⟨rfl, k1, rfl⟩
        go_wp2_with fail
        refine (HA.out _).mono ?_
        rintro _ _ ⟨rfl, k2, rfl⟩
        go_wp2_with fail
        refine (HD.out _).mono ?_
        rintro _ wd ⟨rfl, hbd⟩
        go_wp2_with fail
        go_ret
        exact ⟨by rw [HE.out]; exact congrArg (fun x => Ending.returned (Value.string x)) (by apply ByteArray.ext; simp), (below_drewN (Below.refl w.heap.size w) (k1 + k2)).trans (hbd.mono (below_drewN (Below.refl w.heap.size w) (k1 + k2)).size)⟩
    · rw [if_neg hs] at HE
      have es : s.isEmpty = false := by simpa using hs
      by_cases hng : n < 0
      · rw [show sepT n = [32, 45, 32] from if_pos hng] at HE
        have sg : decide (n < 0) = true := decide_eq_true hng
        have HNg := Lib.hid hng; clear hng
        go_wp2_with fail
        refine (HA.out _).mono ?_
        rintro _ _ ⟨rfl, k1, rfl⟩
        go_wp2_with fail
        refine (HA.out _).mono ?_
        rintro _ _ ⟨rfl, k2, rfl⟩
        go_wp2_with fail
        refine (HD.out _).mono ?_
        rintro _ wd ⟨rfl, hbd⟩
        go_wp2_with fail
        go_ret
        exact ⟨by rw [HE.out]; exact congrArg (fun x => Ending.returned (Value.string x)) (by apply ByteArray.ext; simp), (below_drewN (Below.refl w.heap.size w) (k1 + k2)).trans (hbd.mono (below_drewN (Below.refl w.heap.size w) (k1 + k2)).size)⟩
      · rw [show sepT n = [32, 43, 32] from if_neg hng] at HE
        have sg : decide (n < 0) = false := decide_eq_false hng
        have HNg := Lib.hid hng; clear hng
        go_wp2_with fail
        refine (HA.out _).mono ?_
        rintro _ _ ⟨rfl, k1, rfl⟩
        go_wp2_with fail
        refine (HA.out _).mono ?_
        rintro _ _ ⟨rfl, k2, rfl⟩
        go_wp2_with fail
        refine (HD.out _).mono ?_
        rintro _ wd ⟨rfl, hbd⟩
        go_wp2_with fail
        go_ret
        exact ⟨by rw [HE.out]; exact congrArg (fun x => Ending.returned (Value.string x)) (by apply ByteArray.ext; simp), (below_drewN (Below.refl w.heap.size w) (k1 + k2)).trans (hbd.mono (below_drewN (Below.refl w.heap.size w) (k1 + k2)).size)⟩
end Go.Proofs.YtimdkjbmeogpoaaGreatDoor
