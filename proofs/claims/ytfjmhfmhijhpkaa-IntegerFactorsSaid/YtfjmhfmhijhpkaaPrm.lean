/- The reference's primitive: whether a number is a primitive root, so far as the primes tell. -/
import Derived.Test.YtfjmhfmhijhpkaaCks
import Derived.Test.YtfjmhfmhijhpkaaSym0
namespace Go.Proofs.Ytfjmhfmhijhpkaa
open Go.RowKit FF

theorem one_mod {n : Int} (h : 2 ≤ n) : 1 % n = 1 := Int.emod_eq_of_lt (by omega) (by omega)
theorem gen1_one {r n q : Int} (h : 2 ≤ n) : gen1 r n q = (r ^ ((n - 1) / q).toNat % n == 1) := by unfold gen1; rw [one_mod h]

set_option maxHeartbeats 1000000 in
theorem rPrimitive_any (A : Option Addr) (qs : List Int) (c : Nat) (r n : Int) (w : World) (hs : ShowsI w A qs) (hr : I64 r) (h1 : 2 ≤ n) (h2 : n ≤ 1000000000) (hq : ∀ i, i < qs.length → 1 ≤ qs.getD i 0 ∧ qs.getD i 0 ≤ 9223372036854775807) (hl : qs.length ≤ maxLen) :
    Calls Try.prog 62 #[.int .i64 r, .int .i64 n, .slice A qs.length c] w (Ret w (.bool ((r ^ (n - 1).toNat % n == 1) && genB r n qs))) := by
  unfold maxLen at hl
  obtain ⟨l, hl'⟩ : ∃ l, qs.length = l := ⟨_, rfl⟩
  have HL := Lib.hid hl'
  have HQ := Lib.hid hq; have HS := Lib.hid hs
  have HP := Lib.hid (fun w => rPower_any r (n - 1) n w hr (by omega) ⟨by omega, by omega⟩ (by omega) h2)
  have HG := Lib.hid (fun q w (h : 1 ≤ q) => rPower_any r ((n - 1) / q) n w hr (Int.ediv_nonneg (by omega) (by omega)) ⟨by have := Int.ediv_nonneg (a := n - 1) (b := q) (by omega) (by omega); omega, by have := Int.ediv_le_self q (show 0 ≤ n - 1 by omega); omega⟩ (by omega) h2)
  rw [hl'] at hl ⊢
  obtain ⟨v, hv⟩ : ∃ v, r ^ (n - 1).toNat % n = v := ⟨_, rfl⟩
  rw [hv] at HP ⊢
  clear hl' hq hs hv
  by_cases hv1 : v = 1
  · have d1 : (v != 1) = false := by rw [hv1]; rfl
    have HR := Lib.hid (show ∀ B, genB r n qs = B → ((v == 1) && genB r n qs) = B from fun B hB => by rw [hB, hv1]; simp)
    clear hv1
    go_enter Try.func62, Try.ntmps62
    go_wp2_with fail
    refine (HP.out _).mono ?_
    rintro e w' ⟨rfl, n0, rfl⟩
    go_wp2_with fail
    go_loopw [7] (fun s7 wr => ∃ k : Nat, s7 = .int .i64 k ∧ k ≤ l ∧ (∀ j, j < k → gen1 r n (qs.getD j 0) = false) ∧ ∃ m, wr = w.drewN m) (fun s _ => l - (intOf s).toNat)
    case atStart => exact ⟨0, rfl, by omega, fun j hj => absurd hj (by omega), n0, rfl⟩
    case round =>
      obtain ⟨k, rfl, hk, hd, m, rfl⟩ := hrel
      have HD := Lib.hid hd; clear hd
      by_cases h0 : k < l
      · obtain ⟨bb, o1, rfl, hb1, hcell⟩ := HS.out (by rw [HL.out]; omega)
        have x1 := hcell k (by rw [HL.out]; omega)
        obtain ⟨q1, q2⟩ := HQ.out k (by rw [HL.out]; omega)
        have HC := Lib.hid (HG.out (qs.getD k 0) (w.drewN m) q1)
        have HM := Lib.hid (show qs.getD k 0 ∈ qs by rw [List.getD_eq_getElem?_getD, List.getElem?_eq_getElem (by rw [HL.out]; omega)]; exact List.getElem_mem _)
        have HE := Lib.hid (fun h : gen1 r n (qs.getD k 0) = false => (show ∀ j, j < k + 1 → gen1 r n (qs.getD j 0) = false from fun j hj => by
          rcases Nat.lt_or_ge j k with g | g
          · exact HD.out j g
          · rw [show j = k by omega]; exact h))
        have HT := Lib.hid (fun h : gen1 r n (qs.getD k 0) = true => HR.out false (show genB r n qs = false by
          unfold genB
          rw [List.all_eq_false]
          exact ⟨_, HM.out, by rw [h]; simp⟩))
        rw [gen1_one h1] at HE HT
        clear hcell HM HG
        generalize qs.getD k 0 = q at *
        obtain ⟨u, hu⟩ : ∃ u, r ^ ((n - 1) / q).toNat % n = u := ⟨_, rfl⟩
        rw [hu] at HC HE HT
        clear hu
        by_cases hu1 : u = 1
        · have d2 := t_beq hu1
          have HN := Lib.hid (HT.out d2)
          clear HE HT hu1 HD HR
          generalize ((v == 1) && genB r n qs) = G at *
          go_wp2_with fail
          refine HC.out.mono ?_
          rintro e w' ⟨rfl, n2, rfl⟩
          go_wp2_with fail
          go_ret
          exact Ret.eq _ (ret_bool HN.out.symm)
        · have d2 := f_beq hu1
          have HN := Lib.hid (HE.out d2)
          clear HE HT hu1
          go_wp2_with fail
          refine HC.out.mono ?_
          rintro e w' ⟨rfl, n2, rfl⟩
          go_wp2_with fail
          exact ⟨⟨k + 1, by go_num, by omega, HN.out, _, rfl⟩, by simp [intOf]; omega⟩
      · obtain rfl : k = l := by omega
        have HN := Lib.hid (HR.out true (by
          unfold genB
          rw [List.all_eq_true]
          intro x hx
          obtain ⟨j, hj, he⟩ := List.mem_iff_getElem.1 hx
          have := HD.out j (by rw [HL.out] at hj; exact hj)
          rw [List.getD_eq_getElem?_getD, List.getElem?_eq_getElem hj] at this
          rw [← he]
          show (!gen1 r n qs[j]) = true
          rw [show gen1 r n qs[j] = false from this]; rfl))
        clear HG HD HR
        generalize ((v == 1) && genB r n qs) = G at *
        go_wp2_with fail
        go_ret
        exact Ret.eq _ (ret_bool HN.out.symm)
  · have d1 : (v != 1) = true := bne_iff_ne.2 hv1
    have HR := Lib.hid (show ((v == 1) && genB r n qs) = false by rw [f_beq hv1]; rfl)
    generalize ((v == 1) && genB r n qs) = G at *
    clear hv1 HG HQ
    go_enter Try.func62, Try.ntmps62
    go_wp2_with fail
    refine (HP.out _).mono ?_
    rintro e w' ⟨rfl, n0, rfl⟩
    go_wp2_with fail
    go_ret
    exact Ret.eq _ (ret_bool HR.out.symm)
end Go.Proofs.Ytfjmhfmhijhpkaa
