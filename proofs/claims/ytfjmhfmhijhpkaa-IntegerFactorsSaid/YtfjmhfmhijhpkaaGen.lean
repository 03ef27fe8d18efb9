/- generates: whether no power of a number at the quotients by primes is 1. -/
import Derived.Test.YtfjmhfmhijhpkaaIntA
import Derived.Test.YtfjmhfmhijhpkaaCmp
namespace Go.Proofs.Ytfjmhfmhijhpkaa
open Go.RowKit FF

/-- the closure's answer at one prime -/
def gen1 (r n q : Int) : Bool := r ^ ((n - 1) / q).toNat % n == 1 % n
/-- no power of r at the quotients by these primes is 1 -/
def genB (r n : Int) (qs : List Int) : Bool := qs.all fun q => !(gen1 r n q)

set_option maxHeartbeats 1000000 in
theorem gen1_any (r n q : Int) (b1 b2 : Nat) (w : World) (hr : I64 r) (h1 : 1 ≤ n) (h2 : n ≤ 1000000000) (hq : 1 ≤ q) (hq2 : q ≤ 9223372036854775807)
    (hc1 : w.cell? ⟨b1, 0, none⟩ = some (.int .i64 r)) (hc2 : w.cell? ⟨b2, 0, none⟩ = some (.int .i64 n)) :
    Calls Try.prog 99 #[.int .i64 q, .pointer (some ⟨b1, 0, none⟩), .pointer (some ⟨b2, 0, none⟩)] w (Ret w (.bool (gen1 r n q))) := by
  have hd : 0 ≤ (n - 1) / q := Int.ediv_nonneg (by omega) (by omega)
  have hd2 : (n - 1) / q ≤ n - 1 := Int.ediv_le_self _ (by omega)
  have hP := Lib.hid (fun w => power_any r ((n - 1) / q) n w hr hd ⟨by omega, by omega⟩ h1 h2)
  have hF := Lib.hid (show (r ^ ((n - 1) / q).toNat % n == 1 % n) = gen1 r n q from rfl)
  generalize r ^ ((n - 1) / q).toNat % n = V at *
  go_enter Try.func99, Try.ntmps99
  go_wp2
  go_big_quiet ((go_at_call 100; exact Calls.quiet_of (hP.out _)))
  go_wp2
  go_ret
  exact Ret.eq _ (ret_bool hF.out)

set_option maxHeartbeats 1000000 in
theorem IndexFunc_gen (A : Option Addr) (qs : List Int) (c : Nat) (r n : Int) (b1 b2 : Nat) (w : World) (hs : ShowsI w A qs) (hr : I64 r) (h1 : 1 ≤ n) (h2 : n ≤ 1000000000) (hq : ∀ i, i < qs.length → 1 ≤ qs.getD i 0 ∧ qs.getD i 0 ≤ 9223372036854775807) (hl : qs.length ≤ maxLen)
    (hc1 : w.cell? ⟨b1, 0, none⟩ = some (.int .i64 r)) (hc2 : w.cell? ⟨b2, 0, none⟩ = some (.int .i64 n)) :
    Calls Try.prog 132 #[.slice A qs.length c, .func (.func 99) #[] #[.pointer (some ⟨b1, 0, none⟩), .pointer (some ⟨b2, 0, none⟩)]] w
      fun e w' => ∃ k : Int, e = .returned (.int .i64 k) ∧ (decide (0 ≤ k) = !genB r n qs) ∧ ∃ m, w' = w.drewN m := by
  unfold maxLen at hl
  obtain ⟨l, hl'⟩ : ∃ l, qs.length = l := ⟨_, rfl⟩
  have HL := Lib.hid hl'
  have HQ := Lib.hid hq; have HS := Lib.hid hs
  have HG := Lib.hid (fun q m (h : 1 ≤ q) (h' : q ≤ 9223372036854775807) => gen1_any r n q b1 b2 (w.drewN m) hr h1 h2 h h' hc1 hc2)
  rw [hl'] at hl ⊢
  clear hl' hq hs hc1 hc2
  go_enter Try.func132, Try.ntmps132
  go_wp2_with fail
  go_loopw [5, 8] (fun _ s8 wr => ∃ k : Nat, s8 = .int .i64 k ∧ k ≤ l ∧ (∀ j, j < k → gen1 r n (qs.getD j 0) = false) ∧ ∃ m, wr = w.drewN m) (fun _ s _ => l - (intOf s).toNat)
  case atStart => exact ⟨0, rfl, by omega, fun j hj => absurd hj (by omega), 0, rfl⟩
  case round =>
    obtain ⟨k, rfl, hk, hd, m, rfl⟩ := hrel
    have HD := Lib.hid hd; clear hd
    by_cases h0 : k < l
    · obtain ⟨bb, o1, rfl, hb1, hcell⟩ := HS.out (by rw [HL.out]; omega)
      have x1 := hcell k (by rw [HL.out]; omega)
      obtain ⟨q1, q2⟩ := HQ.out k (by rw [HL.out]; omega)
      have HC := Lib.hid (HG.out (qs.getD k 0) m q1 q2)
      have HM := Lib.hid (show qs.getD k 0 ∈ qs by rw [List.getD_eq_getElem?_getD, List.getElem?_eq_getElem (by rw [HL.out]; omega)]; exact List.getElem_mem _)
      have HE := Lib.hid (fun h : gen1 r n (qs.getD k 0) = false => (show ∀ j, j < k + 1 → gen1 r n (qs.getD j 0) = false from fun j hj => by
        rcases Nat.lt_or_ge j k with g | g
        · exact HD.out j g
        · rw [show j = k by omega]; exact h))
      have HT := Lib.hid (fun h : gen1 r n (qs.getD k 0) = true => (show genB r n qs = false by
        unfold genB
        rw [List.all_eq_false]
        exact ⟨_, HM.out, by rw [h]; simp⟩))
      clear hcell HM HG
      generalize qs.getD k 0 = q at *
      cases hg : gen1 r n q
      · have HN := Lib.hid (HE.out hg)
        rw [hg] at HC
        clear HE HT hg
        go_wp2_with fail
        refine HC.out.mono ?_
        rintro e w' ⟨rfl, n2, rfl⟩
        go_wp2_with fail
        exact ⟨⟨k + 1, by go_num, by omega, HN.out, _, rfl⟩, by simp [intOf]; omega⟩
      · have HN := Lib.hid (HT.out hg)
        rw [hg] at HC
        clear HE HT hg
        go_wp2_with fail
        refine HC.out.mono ?_
        rintro e w' ⟨rfl, n2, rfl⟩
        go_wp2_with fail
        go_ret
        exact ⟨k, rfl, by rw [HN.out]; exact decide_eq_true (by omega), _, rfl⟩
    · obtain rfl : k = l := by omega
      have HN := Lib.hid (show genB r n qs = true by
        unfold genB
        rw [List.all_eq_true]
        intro x hx
        obtain ⟨j, hj, he⟩ := List.mem_iff_getElem.1 hx
        have := HD.out j (by rw [HL.out] at hj; exact hj)
        rw [List.getD_eq_getElem?_getD, List.getElem?_eq_getElem hj] at this
        rw [← he]
        show (!gen1 r n qs[j]) = true
        rw [show gen1 r n qs[j] = false from this]; rfl)
      clear HG HD
      go_wp2_with fail
      go_ret
      exact ⟨-1, rfl, by rw [HN.out]; rfl, _, rfl⟩

set_option maxHeartbeats 1000000 in
theorem ContainsFunc_gen (A : Option Addr) (qs : List Int) (c : Nat) (r n : Int) (b1 b2 : Nat) (w : World) (hs : ShowsI w A qs) (hr : I64 r) (h1 : 1 ≤ n) (h2 : n ≤ 1000000000) (hq : ∀ i, i < qs.length → 1 ≤ qs.getD i 0 ∧ qs.getD i 0 ≤ 9223372036854775807) (hl : qs.length ≤ maxLen)
    (hc1 : w.cell? ⟨b1, 0, none⟩ = some (.int .i64 r)) (hc2 : w.cell? ⟨b2, 0, none⟩ = some (.int .i64 n)) :
    Calls Try.prog 98 #[.slice A qs.length c, .func (.func 99) #[] #[.pointer (some ⟨b1, 0, none⟩), .pointer (some ⟨b2, 0, none⟩)]] w (Ret w (.bool (!genB r n qs))) := by
  have HI := Lib.hid (IndexFunc_gen A qs c r n b1 b2 w hs hr h1 h2 hq hl hc1 hc2)
  clear hs hq hl hc1 hc2
  generalize qs.length = l at *
  generalize genB r n qs = R at *
  go_enter Try.func98, Try.ntmps98
  go_wp2_with fail
  refine HI.out.mono ?_
  rintro e w' ⟨k, rfl, hk, m, rfl⟩
  have HK := Lib.hid hk
  clear hk HI
  go_wp2_with fail
  go_ret
  exact Ret.eq _ (ret_bool HK.out)

set_option maxHeartbeats 1000000 in
theorem generates_any (A : Option Addr) (qs : List Int) (c : Nat) (r n : Int) (w : World) (hs : ShowsI w A qs) (hr : I64 r) (h1 : 1 ≤ n) (h2 : n ≤ 1000000000) (hq : ∀ i, i < qs.length → 1 ≤ qs.getD i 0 ∧ qs.getD i 0 ≤ 9223372036854775807) (hl : qs.length ≤ maxLen) :
    Calls Try.prog 58 #[.int .i64 r, .int .i64 n, .slice A qs.length c] w fun e w' => e = .returned (.bool (genB r n qs)) ∧ Below w.heap.size w w' := by
  have HI := Lib.hid (fun (b1 b2 : Nat) w' (h : ShowsI w' A qs) hc1 hc2 => ContainsFunc_gen A qs c r n b1 b2 w' h hr h1 h2 hq hl hc1 hc2)
  have HS := Lib.hid hs
  clear hs hq hl
  generalize qs.length = l at *
  generalize genB r n qs = R at *
  go_enter Try.func58, Try.ntmps58
  go_wp2_with fail
  refine (HI.out w.heap.size (w.heap.size + 1) _ ((HS.out.alloc _).alloc _) (by simp [go_sem]) (by simp [go_sem])).mono ?_
  rintro e w' ⟨rfl, m, rfl⟩
  go_wp2_with fail
  go_ret
  exact ⟨rfl, below_drewN (((Below.refl _ _).alloc (Nat.le_refl _) _).alloc (by simp) _) _⟩
end Go.Proofs.Ytfjmhfmhijhpkaa
