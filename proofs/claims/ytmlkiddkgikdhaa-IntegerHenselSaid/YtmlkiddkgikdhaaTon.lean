/- rootModulo and lift of the program. -/
import Derived.Test.YtmlkiddkgikdhaaIntA
import Derived.Test.YtmlkiddkgikdhaaRt2
namespace Go.Proofs.Ytmlkiddkgikdhaa
open Go.RowKit FF

/-- it returns some number of which P holds, and has at most drawn -/
def RetI (P : Int → Prop) (w : World) (e : Ending) (w' : World) : Prop := ∃ x : Int, P x ∧ e = .returned (.int .i64 x) ∧ ∃ n, w' = w.drewN n
theorem RetI.mk {P : Int → Prop} {w : World} {x : Int} (n : Nat) (h : P x) : RetI P w (.returned (.int .i64 x)) (w.drewN n) := ⟨x, h, rfl, n, rfl⟩

theorem vp2_small {p : Int} (h2 : 2 < p) (hp : p ≤ 1000000000) : vp 2 (p - 1) ≤ 40 := by
  have h1 := vp_lt (p := 2) (n := p - 1) (by omega) (by omega)
  rcases Nat.lt_or_ge 40 (vp 2 (p - 1)) with g | g
  · exfalso
    have h2 : 2 ^ 41 ≤ 2 ^ vp 2 (p - 1) := Nat.pow_le_pow_right (by omega) g
    omega
  · exact g

set_option maxHeartbeats 4000000 in
set_option maxRecDepth 100000 in
theorem rootModulo_any (a : Int) (P : Nat) (w : World) (ha : I64 a) (hp : IsP P) (h2 : 2 < P) (hpl : P ≤ 1000000000) (hl : leg a P = 1) :
    Calls Try.prog 135 #[.int .i64 a, .int .i64 (P : Int)] w (RetI (fun x => 0 ≤ x ∧ x < P ∧ Cg P (x * x) a) w) := by
  have hV := Lib.hid (fun w => valuation_any ((P : Int) - 1) 2 w ⟨by omega, by omega⟩ (by omega) (by omega) (by omega))
  have ho : P % 2 = 1 := hp.odd (by omega)
  have hJ := Lib.hid (fun (z : Int) (w : World) (hz : I64 z) => by
    have := jacobi_any z (P : Int) w hz (by omega) (by omega) (by omega)
    rw [Int.toNat_natCast, jac_prime hp] at this
    exact this)
  have hPw := Lib.hid (fun (b n : Int) (w : World) (hb : I64 b) (hn : 0 ≤ n) (hn' : I64 n) => power_any b n (P : Int) w hb hn hn' (by omega) (by omega))
  have hS := Lib.hid (fun (z : Int) (hz : leg z P = -1) => Ton.start hp (by omega) hl hz)
  obtain ⟨Z, z1, z2, z3⟩ := nonresidue hp (by omega)
  have hZ := Lib.hid z3
  have hr1 := rest_pos (p := 2) (n := (P : Int) - 1) (by omega) (by omega)
  have hr2 := rest_natAbs_le (p := 2) (n := (P : Int) - 1) (by omega) (by omega)
  have hv2 := vp2_small (p := (P : Int)) (by omega) (by omega)
  have hemb := Lib.hid (fun x : Int => (show 0 ≤ x % (P : Int) ∧ x % (P : Int) < P from ⟨Int.emod_nonneg _ (by omega), Int.emod_lt_of_pos _ (by omega)⟩))
  have HP := Lib.hid hp
  clear hl z3 ho hp
  generalize hr : rest 2 ((P : Int) - 1) = o at *
  generalize hk : vp 2 ((P : Int) - 1) = K at *
  clear hr hk
  go_enter Try.func135, Try.ntmps135
  go_wp2_with fail
  refine (hV.out _).mono ?_
  rintro e w' ⟨rfl, n1, rfl⟩
  clear hV
  go_wp2_with fail
  go_loopw [7] (fun s7 wr => ∃ z : Int, s7 = .int .i64 z ∧ 2 ≤ z ∧ z ≤ Z ∧ ∃ n, wr = w.drewN n) (fun s7 _ => (Z - intOf s7).toNat)
  case atStart => exact ⟨2, rfl, by omega, by omega, _, rfl⟩
  case round =>
    obtain ⟨z, rfl, y1, y2, n2, rfl⟩ := hrel
    by_cases hz : leg z P = -1
    · have hJ1 := Lib.hid (fun w => hz ▸ hJ.out z w ⟨by omega, by omega⟩)
      have hT := Lib.hid (hS.out z hz)
      clear hz hZ hJ hS
      go_wp2_with fail
      refine (hJ1.out _).mono ?_
      rintro e w' ⟨rfl, n3, rfl⟩
      go_wp2_with fail
      refine (hPw.out _ _ _ ⟨by omega, by omega⟩ (by omega) ⟨by omega, by omega⟩).mono ?_
      rintro e w' ⟨rfl, n4, rfl⟩
      go_wp2_with fail
      refine (hPw.out _ _ _ ha (by omega) ⟨by omega, by omega⟩).mono ?_
      rintro e w' ⟨rfl, n5, rfl⟩
      go_wp2_with fail
      refine (hPw.out _ _ _ ha (by omega) ⟨by omega, by omega⟩).mono ?_
      rintro e w' ⟨rfl, n6, rfl⟩
      have hT2 := Lib.hid (hT.out.congr (Cg.emod P _) (Cg.emod P _) (Cg.emod P _))
      rw [show (o.toNat + 1) / 2 = ((o + 1) / 2).toNat by omega] at hT2
      clear hT hPw
      obtain ⟨b1, b2⟩ := hemb.out (z ^ o.toNat)
      obtain ⟨b3, b4⟩ := hemb.out (a ^ ((o + 1) / 2).toNat)
      obtain ⟨b5, b6⟩ := hemb.out (a ^ o.toNat)
      generalize z ^ o.toNat % (P : Int) = c0 at *
      generalize a ^ ((o + 1) / 2).toNat % (P : Int) = x0 at *
      generalize a ^ o.toNat % (P : Int) = t0 at *
      go_wp2_with fail
      go_loop [5, 8, 9, 10, 11, 12] (fun s5 s8 s9 s10 _ _ => ∃ (k : Nat) (c x t : Int), s5 = .int .i64 k ∧ s8 = .int .i64 c ∧ s9 = .int .i64 x ∧ s10 = .int .i64 t ∧ k ≤ 40 ∧ 0 ≤ c ∧ c < P ∧ 0 ≤ x ∧ x < P ∧ 0 ≤ t ∧ t < P ∧ Ton P a k x c t) (fun s5 _ _ _ _ _ => (intOf s5).toNat)
      case atStart => exact ⟨K, c0, x0, t0, rfl, rfl, rfl, rfl, hv2, b1, b2, b3, b4, b5, b6, hT2.out⟩
      case round =>
        obtain ⟨k, c, x, t, rfl, rfl, rfl, rfl, hk, e1, e2, e3, e4, e5, e6, hT⟩ := hrel
        have HT := Lib.hid hT; clear hT
        by_cases ht : t = 1
        · subst ht
          have HX := Lib.hid (HT.out.xx)
          clear HT
          go_wp2_with fail
          go_ret
          exact RetI.mk _ ⟨e3, e4, by have := HX.out; rwa [Int.mul_one] at this⟩
        · have d := bne_iff_ne.2 ht
          have Ht := Lib.hid ht
          clear ht
          go_wp2_with fail
          go_loop [11, 12] (fun s11 s12 => ∃ (i : Nat) (s : Int), s11 = .int .i64 i ∧ s12 = .int .i64 s ∧ 0 ≤ s ∧ s < P ∧ i + 1 ≤ k ∧ OrdRel P t i s) (fun s11 _ => k - (intOf s11).toNat)
          case atStart => exact ⟨0, t, rfl, rfl, e5, e6, by have := HT.out.k1; omega, OrdRel.start _ _⟩
          case round =>
            obtain ⟨i, s, rfl, rfl, s0, s1, hik, hO⟩ := hrel
            have HO := Lib.hid hO; clear hO
            by_cases hs : s = 1
            · subst hs
              have hi1 : 1 ≤ i := by
                rcases Nat.lt_or_ge 0 i with g | g
                · exact g
                · exfalso
                  obtain rfl : i = 0 := by omega
                  have h5 := HO.out.1
                  rw [show t ^ (2 ^ 0) = t by show t ^ 1 = t; rw [Int.pow_succ, Int.pow_zero, Int.one_mul]] at h5
                  exact Ht.out (h5.symm.eq_of_bounds e5 e6 (by omega) (by omega))
              have HK := Lib.hid (HT.out.cc)
              go_wp2_with fail
              go_loop [5, 8] (fun s5 s8 => ∃ (k' : Nat) (c' : Int), s5 = .int .i64 k' ∧ s8 = .int .i64 c' ∧ 0 ≤ c' ∧ c' < P ∧ i + 1 ≤ k' ∧ k' ≤ 40 ∧ DownRel P c' k') (fun s5 _ => (intOf s5).toNat)
              case atStart => exact ⟨k, c, rfl, rfl, e1, e2, hik, hk, HK.out⟩
              case round =>
                obtain ⟨k', c', rfl, rfl, f1, f2, f3, f4, hD⟩ := hrel
                have HD := Lib.hid hD; clear hD
                obtain ⟨g1, g2⟩ := mul_le_sq f1 f2 f1 f2 (by omega)
                by_cases hkk : i + 1 < k'
                · have HN := Lib.hid (HD.out.next (by omega) (Cg.emod P (c' * c')))
                  obtain ⟨m1, m2⟩ := hemb.out (c' * c')
                  go_wp2_with fail
                  exact ⟨⟨k' - 1, c' * c' % P, by go_num, rfl, m1, m2, by omega, by omega, HN.out⟩, by simp [intOf]; omega⟩
                · obtain rfl : k' = i + 1 := by omega
                  obtain ⟨g3, g4⟩ := mul_le_sq e3 e4 f1 f2 (by omega)
                  obtain ⟨m1, m2⟩ := hemb.out (x * c')
                  obtain ⟨m3, m4⟩ := hemb.out (c' * c')
                  obtain ⟨g5, g6⟩ := mul_le_sq e5 e6 m3 m4 (by omega)
                  obtain ⟨m5, m6⟩ := hemb.out (t * (c' * c' % P))
                  have HN := Lib.hid ((Ton.step HP.out HT.out hi1 HO.out.1.symm (HO.out.2 (i - 1) (by omega)) HD.out).congr (Cg.emod P (x * c')) (Cg.emod P (c' * c')) ((Cg.emod P _).trans ((Cg.emod P (c' * c')).mul_left t)))
                  go_wp2_with fail
                  exact ⟨⟨i, c' * c' % P, x * c' % P, t * (c' * c' % P) % P, rfl, rfl, rfl, rfl, by omega, m3, m4, m1, m2, m5, m6, HN.out⟩, by simp [intOf]; omega⟩
            · have d2 := bne_iff_ne.2 hs
              have hne := Lib.hid (HO.out.ne (by omega) s0 s1 hs)
              have hik2 : i + 1 < k := by
                rcases Nat.lt_or_ge (i + 1) k with g | g
                · exact g
                · exfalso
                  have h5 := HT.out.tt
                  rw [show k - 1 = i by omega] at h5
                  exact hne.out h5
              obtain ⟨g1, g2⟩ := mul_le_sq s0 s1 s0 s1 (by omega)
              obtain ⟨m1, m2⟩ := hemb.out (s * s)
              have HN := Lib.hid (HO.out.next (by omega) s0 s1 hs (Cg.emod P (s * s)))
              clear hs
              go_wp2_with fail
              exact ⟨⟨i + 1, s * s % P, by go_num, rfl, m1, m2, by omega, HN.out⟩, by simp [intOf]; omega⟩
    · have d := bne_iff_ne.2 hz
      have hzZ : z ≠ Z := fun e => hz (e ▸ hZ.out)
      have hJ1 := Lib.hid (fun w => hJ.out z w ⟨by omega, by omega⟩)
      have hz2 : z + 1 ≤ Z := by omega
      clear hz hJ hZ hS hPw hzZ
      generalize leg z P = L at *
      go_wp2_with fail
      refine (hJ1.out _).mono ?_
      rintro e w' ⟨rfl, n3, rfl⟩
      go_wp2_with fail
      exact ⟨⟨z + 1, rfl, by omega, hz2, _, rfl⟩, by show (Z - (z + 1)).toNat < (Z - z).toNat; omega⟩
end Go.Proofs.Ytmlkiddkgikdhaa
namespace Go.Proofs.Ytmlkiddkgikdhaa
open Go.RowKit FF
set_option maxHeartbeats 2000000 in
theorem lift_any (a r q : Int) (P k : Nat) (w : World) (ha : I64 a) (hr : I64 r) (hp : IsP P) (h2 : 2 < P) (hk : 1 ≤ k) (hq : (P : Int) ^ k = q) (hq9 : q ≤ 1000000000) (hrr : Cg P (r * r) a) (hna : ¬ (P : Int) ∣ a) :
    Calls Try.prog 103 #[.int .i64 a, .int .i64 (P : Int), .int .i64 q, .int .i64 r] w (RetI (fun x => 0 ≤ x ∧ x < q ∧ Cg q (x * x) a ∧ Cg P x r) w) := by
  have hPq : (P : Int) ≤ q := by
    rw [← hq]
    have h3 : P ^ 1 ≤ P ^ k := Nat.pow_le_pow_right (by omega) hk
    have h4 : ((P ^ 1 : Nat) : Int) ≤ ((P ^ k : Nat) : Int) := by omega
    push_cast at h4
    rwa [Int.pow_succ, Int.pow_zero, Int.one_mul] at h4
  have HS := Lib.hid (LiftRel.start hp hk hrr)
  have HM := Lib.hid (fun m x (h : LiftRel P k a r m x) (hlt : m < q) => (show m * P ≤ q ∧ 1 ≤ m ∧ 2 * m ≤ m * P from by have := LiftRel.mul hp h (hq.symm ▸ hlt); rw [hq] at this; exact this))
  have HG := Lib.hid (fun m x (h : LiftRel P k a r m x) => LiftRel.gcd hp (by omega) h hna)
  have HN := Lib.hid (fun m x (h : LiftRel P k a r m x) (hlt : m < q) => LiftRel.next hp (by omega) h hna (hq.symm ▸ hlt))
  have HD := Lib.hid (fun m x (h : LiftRel P k a r m x) (hlt : ¬ m < q) => (show m = q from hq ▸ LiftRel.done hp h (hq.symm ▸ hlt)))
  have hMd := Lib.hid (fun (b m : Int) (w : World) (h1 : I64 b) (h2 : 1 ≤ m) (h3 : m ≤ 1000000000) => mod_any b m w h1 (by omega) ⟨by omega, by omega⟩)
  have hIv := Lib.hid (fun (b m : Int) (w : World) (h1 : I64 b) (h2 : 1 ≤ m) (h3 : m ≤ 1000000000) (h4 : Int.gcd b m = 1) => inverse_any b m w h1 h2 h3 h4)
  have hIs := Lib.hid (fun (b m : Int) (h2 : 1 ≤ m) (h4 : Int.gcd b m = 1) => invM_spec (a := b) (m := m) (by omega) h4)
  have hE := Lib.hid (fun (b m : Int) (h : 1 ≤ m) => (show 0 ≤ b % m ∧ b % m < m from ⟨Int.emod_nonneg _ (by omega), Int.emod_lt_of_pos _ (by omega)⟩))
  clear hrr hq hp hna
  go_enter Try.func103, Try.ntmps103
  go_wp2_with fail
  refine (hMd.out _ _ _ hr (by omega) (by omega)).mono ?_
  rintro e w' ⟨rfl, n1, rfl⟩
  go_wp2_with fail
  go_loopw [9, 10] (fun s9 s10 wr => ∃ x m : Int, s9 = .int .i64 x ∧ s10 = .int .i64 m ∧ 1 ≤ m ∧ m ≤ q ∧ LiftRel P k a r m x ∧ ∃ n, wr = w.drewN n) (fun _ s10 _ => (q - intOf s10).toNat)
  case atStart => exact ⟨r % P, P, rfl, rfl, by omega, hPq, HS.out, _, rfl⟩
  case round =>
    obtain ⟨x, m, rfl, rfl, m1, m2, hL, n2, rfl⟩ := hrel
    have HL := Lib.hid hL; clear hL
    have x0 := HL.out.x0; have xm := HL.out.xm
    by_cases hlt : m < q
    · obtain ⟨q1, q2, q3⟩ := HM.out m x HL.out hlt
      have hg := Lib.hid (HG.out m x HL.out)
      obtain ⟨i0, i1, _⟩ := hIs.out (2 * x) (m * P) (by omega) hg.out
      have HL2 := Lib.hid (HN.out m x HL.out hlt)
      obtain ⟨e1, e2⟩ := hE.out a (m * P) (by omega)
      obtain ⟨g1, g2⟩ := mul_le_sq x0 xm x0 xm (by omega)
      obtain ⟨e3, e4⟩ := hE.out (x * x - a) (m * P) (by omega)
      obtain ⟨g3, g4⟩ := mul_le_sq e3 e4 i0 i1 (by omega)
      have hP0 : (0 : Int) ≤ m * P := by omega
      go_wp2_with fail
      refine (hMd.out _ _ _ ha (by omega) (by omega)).mono ?_
      rintro e w' ⟨rfl, n3, rfl⟩
      go_wp2_with fail
      refine (hMd.out _ _ _ ⟨by omega, by omega⟩ (by omega) (by omega)).mono ?_
      rintro e w' ⟨rfl, n4, rfl⟩
      go_wp2_with fail
      refine (hIv.out _ _ _ ⟨by omega, by omega⟩ (by omega) (by omega) hg.out).mono ?_
      rintro e w' ⟨rfl, n5, rfl⟩
      go_wp2_with fail
      refine (hMd.out _ _ _ ⟨by omega, by omega⟩ (by omega) (by omega)).mono ?_
      rintro e w' ⟨rfl, n6, rfl⟩
      go_wp2_with fail
      exact ⟨⟨_, m * P, rfl, rfl, by omega, q1, HL2.out, _, rfl⟩, by show (q - m * P).toNat < (q - m).toNat; omega⟩
    · have HQ := Lib.hid (HD.out m x HL.out (by omega))
      have x1 : x < q := by have := HQ.out; omega
      have HX := Lib.hid (show Cg q (x * x) a from HQ.out ▸ HL.out.xx)
      go_wp2_with fail
      go_ret
      exact RetI.mk _ ⟨x0, x1, HX.out, HL.out.xr⟩
end Go.Proofs.Ytmlkiddkgikdhaa
