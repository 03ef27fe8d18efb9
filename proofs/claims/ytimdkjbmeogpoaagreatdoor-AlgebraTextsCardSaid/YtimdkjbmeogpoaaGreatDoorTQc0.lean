/- Checks of algebras and elements, in the program and in the reference. Checks of elements and of lists of elements, in the program and in the reference. Checks of lists of elements, in the program and in the reference. -/
import Derived.Test.YtimdkjbmeogpoaaGreatDoorTQa0
import Derived.Test.YtimdkjbmeogpoaaGreatDoorTSym0
import Derived.Test.YtimdkjbmeogpoaaGreatDoorTQn0
namespace Go.Proofs.YtimdkjbmeogpoaaGreatDoor
open Go.RowKit FF
theorem aE_cases (a b : Int) : (a = 0 ∧ aE a b = 10) ∨ (a ≠ 0 ∧ b = 0 ∧ aE a b = 10) ∨ (a ≠ 0 ∧ b ≠ 0 ∧ a < -1000 ∧ aE a b = 2) ∨ (a ≠ 0 ∧ b ≠ 0 ∧ -1000 ≤ a ∧ 1000 < a ∧ aE a b = 2) ∨
    (a ≠ 0 ∧ b ≠ 0 ∧ -1000 ≤ a ∧ a ≤ 1000 ∧ b < -1000 ∧ aE a b = 2) ∨ (a ≠ 0 ∧ b ≠ 0 ∧ -1000 ≤ a ∧ a ≤ 1000 ∧ -1000 ≤ b ∧ 1000 < b ∧ aE a b = 2) ∨ (a ≠ 0 ∧ b ≠ 0 ∧ -1000 ≤ a ∧ a ≤ 1000 ∧ -1000 ≤ b ∧ b ≤ 1000 ∧ aE a b = 0) := by
  unfold aE aB; simp only [decide_eq_true_iff]; split
  · omega
  · split <;> omega
set_option maxHeartbeats 2000000 in
theorem qCheck_any (a b : Int) (w : World) :
    Calls Tryz.prog 23 #[.agg #[.int .i64 a, .int .i64 b]] w fun e w' => e = .returned (.int .i64 (aE a b)) ∧ Below w.heap.size w w' := by
  have HB := Lib.hid (fun o => (Below.refl w.heap.size w).alloc (Nat.le_refl _) o)
  rcases aE_cases a b with ⟨h1, he⟩ | ⟨h1, h2, he⟩ | ⟨h1, h2, h3, he⟩ | ⟨h1, h2, h3, h4, he⟩ | ⟨h1, h2, h3, h4, h5, he⟩ | ⟨h1, h2, h3, h4, h5, h6, he⟩ | ⟨h1, h2, h3, h4, h5, h6, he⟩
  all_goals (rw [he]; clear he)
  · have d1 : (a == 0) = true := t_beq h1
    go_enter Tryz.func23, Tryz.ntmps23
    go_wp2_with fail
    go_ret; exact ⟨rfl, HB.out _⟩
  · have d1 : (a == 0) = false := f_beq h1
    have d2 : (b == 0) = true := t_beq h2
    go_enter Tryz.func23, Tryz.ntmps23
    go_wp2_with fail
    go_ret; exact ⟨rfl, HB.out _⟩
  all_goals (
    have d1 : (a == 0) = false := f_beq h1
    have d2 : (b == 0) = false := f_beq h2
    go_enter Tryz.func23, Tryz.ntmps23
    go_wp2_with fail
    go_ret; exact ⟨rfl, HB.out _⟩)
end Go.Proofs.YtimdkjbmeogpoaaGreatDoor
namespace Go.Proofs.YtimdkjbmeogpoaaGreatDoor
open Go.RowKit FF
theorem cB_win (n : Int) : cB n = winB n (-1000000) 1000000 := by unfold cB winB; simp
theorem dB_win (n : Int) : dB n = winB n 1 1000000 := by unfold dB winB; simp
theorem rcoord_any (n : Int) (w : World) : Calls Tryz.prog 43 #[.int .i64 n] w (Ret w (.bool (cB n))) := by
  have HW := Lib.hid (fun w => bWithin_any n (-1000000) 1000000 w)
  rw [← cB_win] at HW
  generalize cB n = X at *
  go_enter Tryz.func43, Tryz.ntmps43
  go_wp2_with fail
  refine (HW.out _).mono ?_
  rintro e w' ⟨rfl, n1, rfl⟩
  go_wp2_with fail
  go_ret
  exact Ret.mk _
set_option maxHeartbeats 2000000 in
theorem rCheckQuat_any (q : Qt) (w : World) :
    Calls Tryz.prog 13 #[qv q] w fun e w' => e = .returned (.int .i64 (qE q)) ∧ Below w.heap.size w w' := by
  obtain ⟨a, b, c, d, e⟩ := q
  have HB := Lib.hid (fun o n => below_drewN ((Below.refl w.heap.size w).alloc (Nat.le_refl _) o) n)
  have HE := Lib.hid (show qE ⟨a, b, c, d, e⟩ = if (cB a && cB b && cB c && cB d && dB e) then 0 else 3 from rfl)
  have Ha := Lib.hid (fun w => rcoord_any a w)
  have Hb := Lib.hid (fun w => rcoord_any b w)
  have Hc := Lib.hid (fun w => rcoord_any c w)
  have Hd := Lib.hid (fun w => rcoord_any d w)
  have He := Lib.hid (fun w => bWithin_any e 1 1000000 w)
  rw [← dB_win] at He
  generalize qE ⟨a, b, c, d, e⟩ = E at *
  generalize cB a = A' at *
  generalize cB b = B' at *
  generalize cB c = C' at *
  generalize cB d = D' at *
  generalize dB e = E' at *
  unfold qv
  go_enter Tryz.func13, Tryz.ntmps13
  go_wp2_with fail
  refine (Ha.out _).mono ?_
  rintro e1 w1 ⟨rfl, n1, rfl⟩
  clear Ha
  cases A'
  · obtain rfl : E = 3 := HE.out
    go_wp2_with fail
    go_ret; exact ⟨rfl, HB.out _ _⟩
  go_wp2_with fail
  refine (Hb.out _).mono ?_
  rintro e1 w1 ⟨rfl, n2, rfl⟩
  clear Hb
  rw [World.drewN_drewN]
  cases B'
  · obtain rfl : E = 3 := HE.out
    go_wp2_with fail
    go_ret; exact ⟨rfl, HB.out _ _⟩
  go_wp2_with fail
  refine (Hc.out _).mono ?_
  rintro e1 w1 ⟨rfl, n3, rfl⟩
  clear Hc
  rw [World.drewN_drewN]
  cases C'
  · obtain rfl : E = 3 := HE.out
    go_wp2_with fail
    go_ret; exact ⟨rfl, HB.out _ _⟩
  go_wp2_with fail
  refine (Hd.out _).mono ?_
  rintro e1 w1 ⟨rfl, n4, rfl⟩
  clear Hd
  rw [World.drewN_drewN]
  cases D'
  · obtain rfl : E = 3 := HE.out
    go_wp2_with fail
    go_ret; exact ⟨rfl, HB.out _ _⟩
  go_wp2_with fail
  refine (He.out _).mono ?_
  rintro e1 w1 ⟨rfl, n5, rfl⟩
  clear He
  rw [World.drewN_drewN]
  cases E'
  · obtain rfl : E = 3 := HE.out
    go_wp2_with fail
    go_ret; exact ⟨rfl, HB.out _ _⟩
  · obtain rfl : E = 0 := HE.out
    go_wp2_with fail
    go_ret; exact ⟨rfl, HB.out _ _⟩
end Go.Proofs.YtimdkjbmeogpoaaGreatDoor
namespace Go.Proofs.YtimdkjbmeogpoaaGreatDoor
open Go.RowKit FF
set_option maxHeartbeats 2000000 in
theorem qchecks_any (A : Option Addr) (l : List Qt) (n c : Nat) (w : World) (hx : ShowsI w A (flatQ l)) (hn : l.length = n) (hn9 : n ≤ 100) :
    Calls Tryz.prog 101 #[.slice A n c] w fun e w' => e = .returned (.int .i64 (qsE l)) ∧ Below w.heap.size w w' := by
  have HN := Lib.hid hn
  have HX := Lib.hid hx
  have HC := Lib.hid qcheck_any
  have H0 := Lib.hid (Below.refl w.heap.size w)
  clear hx hn
  go_enter Tryz.func101, Tryz.ntmps101
  go_wp2_with fail
  go_loopw [8] (fun s8 wr => ∃ (k : Nat), s8 = .int .i64 k ∧ k ≤ n ∧ (∀ j, j < k → qB (l.getD j Qt.zero) = true) ∧ Below w.heap.size w wr) (fun s _ => n - (intOf s).toNat)
  case atStart => exact ⟨0, rfl, by omega, fun j hj => absurd hj (by omega), H0.out⟩
  case round =>
    obtain ⟨k, rfl, hk, hall, hb⟩ := hrel
    have HA := Lib.hid hall; clear hall
    have HB := Lib.hid hb; clear hb
    by_cases h0 : k < n
    · obtain ⟨b1, o1, rfl, hb1, hc1⟩ := (HX.out.below HB.out) (by rw [flatQ_len, HN.out]; omega)
      obtain ⟨f0, f1, f2, f3, f4⟩ := flatQ_get (l := l) (i := k) (by rw [HN.out]; exact h0)
      have x0 := hc1 (5 * k) (by rw [flatQ_len, HN.out]; omega)
      have x1 := hc1 (5 * k + 1) (by rw [flatQ_len, HN.out]; omega)
      have x2 := hc1 (5 * k + 2) (by rw [flatQ_len, HN.out]; omega)
      have x3 := hc1 (5 * k + 3) (by rw [flatQ_len, HN.out]; omega)
      have x4 := hc1 (5 * k + 4) (by rw [flatQ_len, HN.out]; omega)
      rw [f0, show o1 + 5 * k = o1 + k * 5 by omega] at x0
      rw [f1, show o1 + (5 * k + 1) = o1 + k * 5 + 1 by omega] at x1
      rw [f2, show o1 + (5 * k + 2) = o1 + k * 5 + 2 by omega] at x2
      rw [f3, show o1 + (5 * k + 3) = o1 + k * 5 + 3 by omega] at x3
      rw [f4, show o1 + (5 * k + 4) = o1 + k * 5 + 4 by omega] at x4
      clear hc1 f0 f1 f2 f3 f4
      have HE := Lib.hid (fun (h : qB (l.getD k Qt.zero) = false) => qsE_take (l := l) (k := k) (by rw [HN.out]; exact h0) HA.out h)
      have HS := Lib.hid (fun (h : qB (l.getD k Qt.zero) = true) => (show ∀ j, j < k + 1 → qB (l.getD j Qt.zero) = true from fun j hj => by
        rcases Nat.lt_or_ge j k with g | g
        · exact HA.out j g
        · rw [show j = k by omega]; exact h))
      clear HA
      generalize l.getD k Qt.zero = q at *
      have HQ := Lib.hid (fun w => HC.out q w)
      have HD := Lib.hid (qE_cases q)
      generalize qE q = E at *
      simp only [qv] at HQ
      generalize q.w = a at *
      generalize q.x = b at *
      generalize q.y = cc at *
      generalize q.z = d at *
      generalize q.d = e at *
      go_wp2_with fail
      refine (HQ.out _).mono ?_
      rintro e1 w1 ⟨rfl, hbb⟩
      have HB1 := Lib.hid ((HB.out.alloc HB.out.size _).trans (hbb.mono (by have := HB.out.size; simp; omega)))
      clear hbb HB HQ HC x0 x1 x2 x3 x4 hb1
      rcases HD.out with ⟨hq, rfl⟩ | ⟨hq, rfl⟩
      · have HS2 := Lib.hid (HS.out hq)
        clear HS HE HD hq
        go_wp2_with fail
        exact ⟨⟨k + 1, by go_num, by omega, HS2.out, HB1.out⟩, by simp [intOf]; omega⟩
      · have HS2 := Lib.hid (HE.out hq)
        clear HS HE HD hq
        go_wp2_with fail
        go_ret
        exact ⟨ret_int HS2.out.symm, HB1.out⟩
    · obtain rfl : k = n := by omega
      have HQ := Lib.hid (show 0 = qsE l from (qsE_done (fun j hj => HA.out j (by rw [HN.out] at hj; exact hj))).symm)
      clear HA
      go_wp2_with fail
      go_ret
      exact ⟨ret_int HQ.out, HB.out⟩
set_option maxHeartbeats 1000000 in
theorem qboth_any (a b : Int) (A : Option Addr) (l : List Qt) (n c : Nat) (w : World) (hx : ShowsI w A (flatQ l)) (hn : l.length = n) (hn9 : n ≤ 100) :
    Calls Tryz.prog 62 #[.agg #[.int .i64 a, .int .i64 b], .slice A n c] w fun e w' => e = .returned (.int .i64 (allE a b l)) ∧ Below w.heap.size w w' := by
  have HC := Lib.hid (fun w => qCheck_any a b w)
  have HL := Lib.hid (fun (w' : World) (hb : Below w.heap.size w w') => qchecks_any A l n c w' (hx.below hb) hn hn9)
  have HE := Lib.hid (show allE a b l = if aE a b = 0 then qsE l else aE a b from rfl)
  have H0 := Lib.hid (Below.refl w.heap.size w)
  clear hx hn hn9
  generalize aE a b = E at *
  generalize allE a b l = F at *
  go_enter Tryz.func62, Tryz.ntmps62
  go_wp2_with fail
  refine (HC.out _).mono ?_
  rintro e1 w1 ⟨rfl, hbb⟩
  have HB1 := Lib.hid ((H0.out.alloc (Nat.le_refl _) _).trans (hbb.mono (by simp)))
  clear hbb HC H0
  by_cases h : E = 0
  · subst h
    have HF := Lib.hid (HE.out.trans (if_pos rfl))
    clear HE
    generalize qsE l = G at *
    go_wp2_with fail
    refine (HL.out _ HB1.out).mono ?_
    rintro e1 w2 ⟨rfl, hbb⟩
    have HB2 := Lib.hid (HB1.out.trans (hbb.mono HB1.out.size))
    clear hbb HL HB1
    go_wp2_with fail
    go_ret
    exact ⟨ret_int HF.out.symm, HB2.out⟩
  · have HF := Lib.hid (HE.out.trans (if_neg h))
    have d1 : (E == 0) = false := f_beq h
    clear HE HL
    go_wp2_with fail
    go_ret
    exact ⟨ret_int HF.out.symm, HB1.out⟩
end Go.Proofs.YtimdkjbmeogpoaaGreatDoor
