/- free and root: a number without its greatest square, and the root of a square. -/
import Derived.Test.YtfjmhfmhijhpkaaLsv
import Derived.Test.YtfjmhfmhijhpkaaQa0
namespace Go.Proofs.Ytfjmhfmhijhpkaa
open Go.RowKit FF

theorem wrapF (x : Int) (h1 : -4611686018427387904 ≤ x) (h2 : x ≤ 4611686018427387904) : IntKind.i64.wrap x = x := by rw [IntKind.wrap_i64]; omega
/-- what free holds -/
structure FreeR (n r s d : Int) : Prop where
  eq : n = r * (s * s)
  s1 : 1 ≤ s
  r0 : r ≠ 0
  d2 : 2 ≤ d
  nd : ∀ e : Int, 2 ≤ e → e < d → ¬ e * e ∣ r
theorem FreeR.start {n : Int} (h : n ≠ 0) : FreeR n n 1 2 := ⟨by omega, by omega, h, by omega, fun e h1 h2 => by omega⟩
theorem FreeR.bnd {n r s d : Int} (h : FreeR n r s d) (hn : -1000 ≤ n ∧ n ≤ 1000) : (-1000 ≤ r ∧ r ≤ 1000) ∧ s ≤ 31 := by
  have e : n.natAbs = r.natAbs * (s * s).natAbs := by rw [← Int.natAbs_mul, ← h.eq]
  have r1 : 1 ≤ r.natAbs := by have := h.r0; omega
  have hs : 0 < s * s := Int.mul_pos (by have := h.s1; omega) (by have := h.s1; omega)
  have s1 : 1 ≤ (s * s).natAbs := by omega
  have h1 : r.natAbs ≤ n.natAbs := by rw [e]; exact Nat.le_mul_of_pos_right _ s1
  have h2 : (s * s).natAbs ≤ n.natAbs := by rw [e]; exact Nat.le_mul_of_pos_left _ r1
  refine ⟨by omega, ?_⟩
  apply Classical.byContradiction; intro hh
  have := Int.mul_le_mul (show (32 : Int) ≤ s by omega) (show (32 : Int) ≤ s by omega) (by omega) (by omega)
  omega
theorem FreeR.done {n r s d : Int} (h : FreeR n r s d) (hl : (r.natAbs : Int) < d * d) : SF r := fun q hq hd => by
  have hq2 := hq.two_le
  have h1 := Int.le_of_dvd (show (0 : Int) < r.natAbs by have := h.r0; omega) (Int.dvd_natAbs.2 hd)
  refine h.nd q (by omega) ?_ hd
  apply Classical.byContradiction; intro hh
  have := h.d2
  have := Int.mul_le_mul (show d ≤ (q : Int) by omega) (show d ≤ (q : Int) by omega) (by omega) (by omega)
  omega
theorem FreeR.skip {n r s d : Int} (h : FreeR n r s d) (hd : r.tmod (d * d) ≠ 0) : FreeR n r s (d + 1) :=
  ⟨h.eq, h.s1, h.r0, by have := h.d2; omega, fun e h1 h2 g => by
    by_cases he : e = d
    · subst he; exact hd (Int.tmod_eq_zero_of_dvd g)
    · exact h.nd e h1 (by omega) g⟩
theorem FreeR.take {n r s d : Int} (h : FreeR n r s d) (hd : r.tmod (d * d) = 0) : FreeR n (r.tdiv (d * d)) (s * d) d ∧ (r.tdiv (d * d)).natAbs < r.natAbs := by
  have h4 : 2 * 2 ≤ d * d := Int.mul_le_mul h.d2 h.d2 (by omega) (by have := h.d2; omega)
  obtain ⟨k, hk⟩ := Int.dvd_of_tmod_eq_zero hd
  have e : r.tdiv (d * d) = k := by rw [hk]; exact Int.mul_tdiv_cancel_left _ (by omega)
  rw [e]
  have hr := h.r0
  have k0 : k ≠ 0 := fun g => hr (by rw [hk, g, Int.mul_zero])
  have s1 : 1 * 1 ≤ s * d := Int.mul_le_mul h.s1 (by have := h.d2; omega) (by omega) (by have := h.s1; omega)
  refine ⟨⟨by rw [h.eq, hk]; grind, by omega, k0, h.d2, fun e h1 h2 g => h.nd e h1 h2 (Int.dvd_trans g ⟨d * d, by rw [hk, Int.mul_comm]⟩)⟩, ?_⟩
  rw [hk, Int.natAbs_mul]
  have h5 : 4 ≤ (d * d).natAbs := by omega
  have h6 : 4 * k.natAbs ≤ (d * d).natAbs * k.natAbs := Nat.mul_le_mul_right _ h5
  omega

set_option maxHeartbeats 1000000 in
theorem free_any (n : Int) (w : World) (h0 : n ≠ 0) (hn : -1000 ≤ n ∧ n ≤ 1000) :
    Calls Try.prog 112 #[.int .i64 n] w fun e w' => ∃ p s : Int, n = p * (s * s) ∧ SF p ∧ 1 ≤ s ∧ e = .returned (.tuple #[.int .i64 p, .int .i64 s]) ∧ ∃ m, w' = w.drewN m := by
  have hAbs := Lib.hid qabs_any
  have HN := Lib.hid hn
  have H0 := Lib.hid (FreeR.start h0)
  clear hn h0
  go_enter Try.func112, Try.ntmps112
  go_wp2_with fail
  go_loopw [2, 3, 4] (fun s2 s3 s4 wr => ∃ r s d : Int, s2 = .int .i64 r ∧ s3 = .int .i64 s ∧ s4 = .int .i64 d ∧ FreeR n r s d ∧ d ≤ 40 ∧ ∃ m, wr = w.drewN m) (fun _ _ s4 _ => 100 - (intOf s4).toNat)
  case atStart => exact ⟨n, 1, 2, rfl, rfl, rfl, H0.out, by omega, 0, rfl⟩
  case round =>
    clear H0
    obtain ⟨r, s, d, rfl, rfl, rfl, hR, d9, m, rfl⟩ := hrel
    have HR := Lib.hid hR
    obtain ⟨⟨r1, r2⟩, s2⟩ := hR.bnd HN.out
    have s1 := hR.s1; have d2 := hR.d2
    clear hR
    obtain ⟨-, q2⟩ := mulb (x := d) (y := d) (m := 40) (n := 40) (by omega) (by omega)
    have q1 : 0 ≤ d * d := Int.mul_nonneg (by omega) (by omega)
    simp only [Int.reduceMul] at q2
    have HA := Lib.hid (fun w => hAbs.out r w (by omega) (by omega))
    obtain ⟨z, hz⟩ : ∃ z : Int, (r.natAbs : Int) = z := ⟨_, rfl⟩
    have HZ := Lib.hid hz
    have z0 : 0 ≤ z := by omega
    have z9 : z ≤ 1000 := by omega
    rw [hz] at HA
    clear hz
    by_cases hc : d * d ≤ z
    · have HD := Lib.hid (show d ≤ 31 by
        apply Classical.byContradiction; intro hh
        have := Int.mul_le_mul (show (32 : Int) ≤ d by omega) (show (32 : Int) ≤ d by omega) (by omega) (by omega)
        omega)
      go_wp2_with fail
      refine (HA.out _).mono ?_
      rintro e w' ⟨rfl, n1, rfl⟩
      clear HA
      go_wp2_with fail
      go_loopw [2, 3] (fun s2 s3 wr => ∃ r' s' : Int, s2 = .int .i64 r' ∧ s3 = .int .i64 s' ∧ FreeR n r' s' d ∧ ∃ m, wr = w.drewN m) (fun s2 _ _ => (intOf s2).natAbs)
      case atStart => exact ⟨r, s, rfl, rfl, HR.out, _, rfl⟩
      case round =>
        clear HR HZ z0 z9 hc s1 s2 r1 r2
        obtain ⟨r', s', rfl, rfl, hR', m2, rfl⟩ := hrel
        have HR' := Lib.hid hR'
        obtain ⟨⟨r1, r2⟩, s2⟩ := hR'.bnd HN.out
        have s1 := hR'.s1
        clear hR'
        have q4 : d * d ≠ 0 := by
          have := Int.mul_pos (show 0 < d by omega) (show 0 < d by omega)
          omega
        by_cases ht : r'.tmod (d * d) = 0
        · have t1 : (r'.tmod (d * d) == 0) = true := beq_iff_eq.2 ht
          have HT := Lib.hid (HR'.out.take ht)
          obtain ⟨⟨u1, u2⟩, -⟩ := HT.out.1.bnd HN.out
          obtain ⟨v1, v2⟩ := mulb (x := s') (y := d) (m := 31) (n := 40) (by omega) (by omega)
          simp only [Int.reduceMul] at v1 v2
          have v3 : IntKind.i64.wrap (s' * d) = s' * d := wrapF _ (by omega) (by omega)
          have u3 : IntKind.i64.wrap (r'.tdiv (d * d)) = r'.tdiv (d * d) := wrapF _ (by omega) (by omega)
          clear ht
          go_wp2_with fail
          exact ⟨⟨_, _, rfl, rfl, HT.out.1, _, rfl⟩, by simp only [intOf]; exact HT.out.2⟩
        · have t1 : (r'.tmod (d * d) == 0) = false := beq_eq_false_iff_ne.2 ht
          have HT := Lib.hid (HR'.out.skip ht)
          clear ht
          go_wp2_with fail
          have := HD.out
          exact ⟨⟨r', s', d + 1, rfl, rfl, rfl, HT.out, by omega, _, rfl⟩, by simp only [intOf]; omega⟩
    · have HS := Lib.hid (show SF r from HR.out.done (by rw [HZ.out]; omega))
      go_wp2_with fail
      refine (HA.out _).mono ?_
      rintro e w' ⟨rfl, n1, rfl⟩
      clear HA
      go_wp2_with fail
      go_ret2
      exact ⟨r, s, HR.out.eq, HS.out, HR.out.s1, rfl, _, rfl⟩

def RootPost (n : Int) (w : World) (e : Ending) (w' : World) : Prop := ∃ (r : Int) (b : Bool), 0 ≤ r ∧ r ≤ 2001 ∧ (b = true → r * r = n) ∧ (b = false → ∀ k : Int, 0 ≤ k → k * k ≠ n) ∧ e = .returned (.tuple #[.int .i64 r, .bool b]) ∧ ∃ m, w' = w.drewN m
set_option maxHeartbeats 1000000 in
theorem root_any (n : Int) (w : World) (h0 : 0 ≤ n) (h9 : n ≤ 4000000) :
    Calls Try.prog 113 #[.int .i64 n] w (RootPost n w) := by
  have HN := Lib.hid h0
  have HN9 := Lib.hid h9
  go_enter Try.func113, Try.ntmps113
  go_wp2_with fail
  go_loopw [4] (fun s4 wr => ∃ r : Int, s4 = .int .i64 r ∧ 0 ≤ r ∧ r ≤ 2001 ∧ (∀ k : Int, 0 ≤ k → k < r → k * k < n) ∧ ∃ m, wr = w.drewN m) (fun s4 _ => 3000 - (intOf s4).toNat)
  case atStart => exact ⟨0, rfl, by omega, by omega, fun k h1 h2 => by omega, 0, rfl⟩
  case round =>
    obtain ⟨r, rfl, r0, r9, hk, m, rfl⟩ := hrel
    have HK := Lib.hid hk
    clear hk
    obtain ⟨-, q2⟩ := mulb (x := r) (y := r) (m := 2001) (n := 2001) (by omega) (by omega)
    have q1 : 0 ≤ r * r := Int.mul_nonneg (by omega) (by omega)
    simp only [Int.reduceMul] at q2
    by_cases hc : r * r < n
    · have HR := Lib.hid (show r ≤ 2000 by
        apply Classical.byContradiction; intro hh
        have := Int.mul_le_mul (show (2001 : Int) ≤ r by omega) (show (2001 : Int) ≤ r by omega) (by omega) (by omega)
        omega)
      go_wp2_with fail
      have := HR.out
      exact ⟨⟨r + 1, rfl, by omega, by omega, fun k h1 h2 => by
        by_cases h : k = r
        · subst h; exact hc
        · exact HK.out k h1 (by omega), _, rfl⟩, by simp only [intOf]; omega⟩
    · go_wp2_with fail
      go_ret2
      refine ⟨r, r * r == n, r0, r9, fun h => beq_iff_eq.1 h, fun h k k0 hkn => ?_, rfl, _, rfl⟩
      have hne := beq_eq_false_iff_ne.1 h
      by_cases hkr : k < r
      · have := HK.out k k0 hkr; omega
      · have := Int.mul_le_mul (show r ≤ k by omega) (show r ≤ k by omega) r0 (by omega)
        omega
end Go.Proofs.Ytfjmhfmhijhpkaa
