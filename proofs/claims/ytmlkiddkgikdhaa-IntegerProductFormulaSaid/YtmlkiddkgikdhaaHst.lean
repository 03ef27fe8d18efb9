/- Factor of the program; Has of the base. -/
import Derived.Test.YtmlkiddkgikdhaaFacs
import Derived.Test.YtmlkiddkgikdhaaCmp
namespace Go.Proofs.Ytmlkiddkgikdhaa
open Go.RowKit FF

theorem Factor_any (n : Int) (w : World) (h1 : 1 ≤ n) (h2 : n ≤ 1000000000) :
    Calls Try.prog 67 #[.int .i64 n] w fun e w' => ∃ v, e = .returned (.tuple #[v, .int .i64 0]) ∧ Got w 45 2 v (facs n).length (flatP (facs n)) w' := by
  have hM := Lib.hid (fun w => (modB_true (m := n)).2 ⟨h1, h2⟩ ▸ modulus_any n w)
  have hF := Lib.hid (fun w => factors_any n w h1 h2)
  go_enter Try.func67, Try.ntmps67
  go_wp2_with fail
  refine (hM.out _).mono ?_
  rintro e w' ⟨rfl, n1, rfl⟩
  go_wp2_with fail
  refine (hF.out _).mono ?_
  rintro e w' ⟨v, rfl, hG⟩
  have HG := Lib.hid hG
  clear hG
  go_wp2_with fail
  go_ret2
  exact ⟨v, rfl, HG.out.1, (below_drewN (Below.refl w.heap.size w) n1).trans HG.out.2⟩

set_option maxHeartbeats 1000000 in
theorem bHas_any (A : Option Addr) (xs : List Int) (c : Nat) (x : Int) (w : World) (hx : ShowsI w A xs) (hn : xs.length ≤ maxLen) :
    Calls Try.prog 68 #[.slice A xs.length c, .int .i64 x] w (Ret w (.bool (decide (x ∈ xs)))) := by
  unfold maxLen at hn
  obtain ⟨n, hn'⟩ : ∃ n, xs.length = n := ⟨_, rfl⟩
  have HN := Lib.hid hn'
  have HX := Lib.hid hx
  rw [hn'] at hn ⊢
  clear hx hn'
  go_enter Try.func68, Try.ntmps68
  go_wp2_with fail
  go_loopw [5] (fun s wr => ∃ k : Nat, s = .int .i64 k ∧ k ≤ n ∧ (∀ j, j < k → xs.getD j 0 ≠ x) ∧ ∃ m, wr = w.drewN m) (fun s _ => n - (intOf s).toNat)
  case atStart => exact ⟨0, rfl, by omega, fun j hj => absurd hj (by omega), 0, rfl⟩
  case round =>
    obtain ⟨k, rfl, hk, hd, m, rfl⟩ := hrel
    have HD := Lib.hid hd; clear hd
    by_cases h0 : k < n
    · obtain ⟨b1, o1, rfl, hb1, hc1⟩ := HX.out (by rw [HN.out]; omega)
      have x1 := hc1 k (by rw [HN.out]; omega)
      have HM := Lib.hid (show xs.getD k 0 ∈ xs by rw [List.getD_eq_getElem?_getD, List.getElem?_eq_getElem (by rw [HN.out]; omega)]; exact List.getElem_mem _)
      have HE := Lib.hid (fun h : xs.getD k 0 ≠ x => (show ∀ j, j < k + 1 → xs.getD j 0 ≠ x from fun j hj => by
        rcases Nat.lt_or_ge j k with g | g
        · exact HD.out j g
        · rw [show j = k by omega]; exact h))
      clear hc1
      generalize xs.getD k 0 = y at *
      by_cases hxy : y = x
      · have HQ := Lib.hid (show true = decide (x ∈ xs) by rw [hxy] at HM; exact (decide_eq_true HM.out).symm)
        subst hxy
        clear HM HE HD
        generalize decide (y ∈ xs) = R at *
        have d1 : (y == y) = true := by simp
        go_wp2_with fail
        go_ret
        exact Ret.eq _ (ret_bool HQ.out)
      · have HQ := Lib.hid (HE.out hxy)
        have d1 : (y == x) = false := f_beq hxy
        clear HM HE
        go_wp2_with fail
        exact ⟨⟨k + 1, by go_num, by omega, HQ.out, _, rfl⟩, by simp [intOf]; omega⟩
    · obtain rfl : k = n := by omega
      have HQ := Lib.hid (show false = decide (x ∈ xs) from (decide_eq_false (fun hm => by
        obtain ⟨j, hj, he⟩ := List.mem_iff_getElem.1 hm
        refine HD.out j (by rw [HN.out] at hj; exact hj) ?_
        rw [List.getD_eq_getElem?_getD, List.getElem?_eq_getElem hj, ← he]; rfl)).symm)
      generalize decide (x ∈ xs) = R at *
      clear HD
      go_wp2_with fail
      go_ret
      exact Ret.eq _ (ret_bool HQ.out)
end Go.Proofs.Ytmlkiddkgikdhaa
