/- rootModulo and lift of the program. Sorting and compacting what a call has built. units of the program: the roots of a unit modulo a prime power. -/
import Derived.Test.YtfjmhfmhijhpkaaGreatDoorIntA
import Derived.Test.YtfjmhfmhijhpkaaGreatDoorLag0
import Derived.Test.YtfjmhfmhijhpkaaGreatDoorOwn0
import Derived.Test.YtfjmhfmhijhpkaaGreatDoorShelf
import Derived.Sort.OwnSortedInts
import Derived.Lib.OwnBridge
import Derived.Laws.IdiomCopy
namespace Go.Proofs.YtfjmhfmhijhpkaaGreatDoor
open Go.RowKit FF

/-- it returns some number of which P holds, and has at most drawn -/
def RetI (P : Int → Prop) (w : World) (e : Ending) (w' : World) : Prop := ∃ x : Int, P x ∧ e = .returned (.int .i64 x) ∧ ∃ n, w' = w.drewN n
theorem RetI.mk {P : Int → Prop} {w : World} {x : Int} (n : Nat) (h : P x) : RetI P w (.returned (.int .i64 x)) (w.drewN n) := ⟨x, h, rfl, n, rfl⟩

theorem vp2_small {p : Int} (h2 : 2 < p) (hp : p ≤ 1000000000) : vp 2 (p - 1) ≤ 40 := by
  have h1 := vp_lt (p := 2) (n := p - 1) (by omega) (by omega)
  rcases Nat.lt_or_ge 40 (vp 2 (p - 1)) with g | g
  · exfalso
    have h2 : 2 ^ 41 ≤ 2 ^ vp 2 (p - 1) := Nat.pow_le_pow_right (by omega) g
    omega
  · exact g

set_option maxHeartbeats 4000000 in
set_option maxRecDepth 100000 in
theorem rootModulo_any (a : Int) (P : Nat) (w : World) (ha : I64 a) (hp : IsP P) (h2 : 2 < P) (hpl : P ≤ 1000000000) (hl : leg a P = 1) :
    Calls Tryz.prog 190 #[.int .i64 a, .int .i64 (P : Int)] w (RetI (fun x => 0 ≤ x ∧ x < P ∧ Cg P (x * x) a) w) := by
  have hV := Lib.hid (fun w => valuation_any ((P : Int) - 1) 2 w ⟨by omega, by omega⟩ (by omega) (by omega) (by omega))
  have ho : P % 2 = 1 := hp.odd (by omega)
  have hJ := Lib.hid (fun (z : Int) (w : World) (hz : I64 z) => by
    have := jacobi_any z (P : Int) w hz (by omega) (by omega) (by omega)
    rw [Int.toNat_natCast, jac_prime hp] at this
    exact this)
  have hPw := Lib.hid (fun (b n : Int) (w : World) (hb : I64 b) (hn : 0 ≤ n) (hn' : I64 n) => power_any b n (P : Int) w hb hn hn' (by omega) (by omega))
  have hS := Lib.hid (fun (z : Int) (hz : leg z P = -1) => Ton.start hp (by omega) hl hz)
  obtain ⟨Z, z1, z2, z3⟩ := nonresidue hp (by omega)
  have hZ := Lib.hid z3
  have hr1 := rest_pos (p := 2) (n := (P : Int) - 1) (by omega) (by omega)
  have hr2 := rest_natAbs_le (p := 2) (n := (P : Int) - 1) (by omega) (by omega)
  have hv2 := vp2_small (p := (P : Int)) (by omega) (by omega)
  have hemb := Lib.hid (fun x : Int => (show 0 ≤ x % (P : Int) ∧ x % (P : Int) < P from ⟨Int.emod_nonneg _ (by omega), Int.emod_lt_of_pos _ (by omega)⟩))
  have HP := Lib.hid hp
  clear hl z3 ho hp
  generalize hr : rest 2 ((P : Int) - 1) = o at *
  generalize hk : vp 2 ((P : Int) - 1) = K at *
  clear hr hk
  go_enter Tryz.func190, Tryz.ntmps190
  go_wp2_with fail
  refine (hV.out _).mono ?_
  rintro e w' ⟨rfl, n1, rfl⟩
  clear hV
  go_wp2_with fail
  go_loopw [7] (fun s7 wr => ∃ z : Int, s7 = .int .i64 z ∧ 2 ≤ z ∧ z ≤ Z ∧ ∃ n, wr = w.drewN n) (fun s7 _ => (Z - intOf s7).toNat)
  case atStart => exact ⟨2, rfl, by omega, by omega, _, rfl⟩
  case round =>
    obtain ⟨z, rfl, y1, y2, n2, rfl⟩ := hrel
    by_cases hz : leg z P = -1
    · have hJ1 := Lib.hid (fun w => hz ▸ hJ.out z w ⟨by omega, by omega⟩)
      have hT := Lib.hid (hS.out z hz)
      clear hz hZ hJ hS
      go_wp2_with fail
      refine (hJ1.out _).mono ?_
      rintro e w' ⟨rfl, n3, rfl⟩
      go_wp2_with fail
      refine (hPw.out _ _ _ ⟨by omega, by omega⟩ (by omega) ⟨by omega, by omega⟩).mono ?_
      rintro e w' ⟨rfl, n4, rfl⟩
      go_wp2_with fail
      refine (hPw.out _ _ _ ha (by omega) ⟨by omega, by omega⟩).mono ?_
      rintro e w' ⟨rfl, n5, rfl⟩
      go_wp2_with fail
      refine (hPw.out _ _ _ ha (by omega) ⟨by omega, by omega⟩).mono ?_
      rintro e w' ⟨rfl, n6, rfl⟩
      have hT2 := Lib.hid (hT.out.congr (Cg.emod P _) (Cg.emod P _) (Cg.emod P _))
      rw [show (o.toNat + 1) / 2 = ((o + 1) / 2).toNat by omega] at hT2
      clear hT hPw
      obtain ⟨b1, b2⟩ := hemb.out (z ^ o.toNat)
      obtain ⟨b3, b4⟩ := hemb.out (a ^ ((o + 1) / 2).toNat)
      obtain ⟨b5, b6⟩ := hemb.out (a ^ o.toNat)
      generalize z ^ o.toNat % (P : Int) = c0 at *
      generalize a ^ ((o + 1) / 2).toNat % (P : Int) = x0 at *
      generalize a ^ o.toNat % (P : Int) = t0 at *
      go_wp2_with fail
      go_loop [5, 8, 9, 10, 11, 12] (fun s5 s8 s9 s10 _ _ => ∃ (k : Nat) (c x t : Int), s5 = .int .i64 k ∧ s8 = .int .i64 c ∧ s9 = .int .i64 x ∧ s10 = .int .i64 t ∧ k ≤ 40 ∧ 0 ≤ c ∧ c < P ∧ 0 ≤ x ∧ x < P ∧ 0 ≤ t ∧ t < P ∧ Ton P a k x c t) (fun s5 _ _ _ _ _ => (intOf s5).toNat)
      case atStart => exact ⟨K, c0, x0, t0, rfl, rfl, rfl, rfl, hv2, b1, b2, b3, b4, b5, b6, hT2.out⟩
      case round =>
        obtain ⟨k, c, x, t, rfl, rfl, rfl, rfl, hk, e1, e2, e3, e4, e5, e6, hT⟩ := hrel
        have HT := Lib.hid hT; clear hT
        by_cases ht : t = 1
        · subst ht
          have HX := Lib.hid (HT.out.xx)
          clear HT
          go_wp2_with fail
          go_ret
          exact RetI.mk _ ⟨e3, e4, by have := HX.out; rwa [Int.mul_one] at this⟩
        · have d := bne_iff_ne.2 ht
          have Ht := Lib.hid ht
          clear ht
          go_wp2_with fail
          go_loop [11, 12] (fun s11 s12 => ∃ (i : Nat) (s : Int), s11 = .int .i64 i ∧ s12 = .int .i64 s ∧ 0 ≤ s ∧ s < P ∧ i + 1 ≤ k ∧ OrdRel P t i s) (fun s11 _ => k - (intOf s11).toNat)
          case atStart => exact ⟨0, t, rfl, rfl, e5, e6, by have := HT.out.k1; omega, OrdRel.start _ _⟩
          case round =>
            obtain ⟨i, s, rfl, rfl, s0, s1, hik, hO⟩ := hrel
            have HO := Lib.hid hO; clear hO
            by_cases hs : s = 1
            · subst hs
              have hi1 : 1 ≤ i := by
                rcases Nat.lt_or_ge 0 i with g | g
                · exact g
                · exfalso
                  obtain rfl : i = 0 := by omega
                  have h5 := HO.out.1
                  rw [show t ^ (2 ^ 0) = t by show t ^ 1 = t; rw [Int.pow_succ, Int.pow_zero, Int.one_mul]] at h5
                  exact Ht.out (h5.symm.eq_of_bounds e5 e6 (by omega) (by omega))
              have HK := Lib.hid (HT.out.cc)
              go_wp2_with fail
              go_loop [5, 8] (fun s5 s8 => ∃ (k' : Nat) (c' : Int), s5 = .int .i64 k' ∧ s8 = .int .i64 c' ∧ 0 ≤ c' ∧ c' < P ∧ i + 1 ≤ k' ∧ k' ≤ 40 ∧ DownRel P c' k') (fun s5 _ => (intOf s5).toNat)
              case atStart => exact ⟨k, c, rfl, rfl, e1, e2, hik, hk, HK.out⟩
              case round =>
                obtain ⟨k', c', rfl, rfl, f1, f2, f3, f4, hD⟩ := hrel
                have HD := Lib.hid hD; clear hD
                obtain ⟨g1, g2⟩ := mul_le_sq f1 f2 f1 f2 (by omega)
                by_cases hkk : i + 1 < k'
                · have HN := Lib.hid (HD.out.next (by omega) (Cg.emod P (c' * c')))
                  obtain ⟨m1, m2⟩ := hemb.out (c' * c')
                  go_wp2_with fail
                  exact ⟨⟨k' - 1, c' * c' % P, by go_num, rfl, m1, m2, by omega, by omega, HN.out⟩, by simp [intOf]; omega⟩
                · obtain rfl : k' = i + 1 := by omega
                  obtain ⟨g3, g4⟩ := mul_le_sq e3 e4 f1 f2 (by omega)
                  obtain ⟨m1, m2⟩ := hemb.out (x * c')
                  obtain ⟨m3, m4⟩ := hemb.out (c' * c')
                  obtain ⟨g5, g6⟩ := mul_le_sq e5 e6 m3 m4 (by omega)
                  obtain ⟨m5, m6⟩ := hemb.out (t * (c' * c' % P))
                  have HN := Lib.hid ((Ton.step HP.out HT.out hi1 HO.out.1.symm (HO.out.2 (i - 1) (by omega)) HD.out).congr (Cg.emod P (x * c')) (Cg.emod P (c' * c')) ((Cg.emod P _).trans ((Cg.emod P (c' * c')).mul_left t)))
                  go_wp2_with fail
                  exact ⟨⟨i, c' * c' % P, x * c' % P, t * (c' * c' % P) % P, rfl, rfl, rfl, rfl, by omega, m3, m4, m1, m2, m5, m6, HN.out⟩, by simp [intOf]; omega⟩
            · have d2 := bne_iff_ne.2 hs
              have hne := Lib.hid (HO.out.ne (by omega) s0 s1 hs)
              have hik2 : i + 1 < k := by
                rcases Nat.lt_or_ge (i + 1) k with g | g
                · exact g
                · exfalso
                  have h5 := HT.out.tt
                  rw [show k - 1 = i by omega] at h5
                  exact hne.out h5
              obtain ⟨g1, g2⟩ := mul_le_sq s0 s1 s0 s1 (by omega)
              obtain ⟨m1, m2⟩ := hemb.out (s * s)
              have HN := Lib.hid (HO.out.next (by omega) s0 s1 hs (Cg.emod P (s * s)))
              clear hs
              go_wp2_with fail
              exact ⟨⟨i + 1, s * s % P, by go_num, rfl, m1, m2, by omega, HN.out⟩, by simp [intOf]; omega⟩
    · have d := bne_iff_ne.2 hz
      have hzZ : z ≠ Z := fun e => hz (e ▸ hZ.out)
      have hJ1 := Lib.hid (fun w => hJ.out z w ⟨by omega, by omega⟩)
      have hz2 : z + 1 ≤ Z := by omega
      clear hz hJ hZ hS hPw hzZ
      generalize leg z P = L at *
      go_wp2_with fail
      refine (hJ1.out _).mono ?_
      rintro e w' ⟨rfl, n3, rfl⟩
      go_wp2_with fail
      exact ⟨⟨z + 1, rfl, by omega, hz2, _, rfl⟩, by show (Z - (z + 1)).toNat < (Z - z).toNat; omega⟩
end Go.Proofs.YtfjmhfmhijhpkaaGreatDoor
namespace Go.Proofs.YtfjmhfmhijhpkaaGreatDoor
open Go.RowKit FF
set_option maxHeartbeats 2000000 in
theorem lift_any (a r q : Int) (P k : Nat) (w : World) (ha : I64 a) (hr : I64 r) (hp : IsP P) (h2 : 2 < P) (hk : 1 ≤ k) (hq : (P : Int) ^ k = q) (hq9 : q ≤ 1000000000) (hrr : Cg P (r * r) a) (hna : ¬ (P : Int) ∣ a) :
    Calls Tryz.prog 189 #[.int .i64 a, .int .i64 (P : Int), .int .i64 q, .int .i64 r] w (RetI (fun x => 0 ≤ x ∧ x < q ∧ Cg q (x * x) a ∧ Cg P x r) w) := by
  have hPq : (P : Int) ≤ q := by
    rw [← hq]
    have h3 : P ^ 1 ≤ P ^ k := Nat.pow_le_pow_right (by omega) hk
    have h4 : ((P ^ 1 : Nat) : Int) ≤ ((P ^ k : Nat) : Int) := by omega
    push_cast at h4
    rwa [Int.pow_succ, Int.pow_zero, Int.one_mul] at h4
  have HS := Lib.hid (LiftRel.start hp hk hrr)
  have HM := Lib.hid (fun m x (h : LiftRel P k a r m x) (hlt : m < q) => (show m * P ≤ q ∧ 1 ≤ m ∧ 2 * m ≤ m * P from by have := LiftRel.mul hp h (hq.symm ▸ hlt); rw [hq] at this; exact this))
  have HG := Lib.hid (fun m x (h : LiftRel P k a r m x) => LiftRel.gcd hp (by omega) h hna)
  have HN := Lib.hid (fun m x (h : LiftRel P k a r m x) (hlt : m < q) => LiftRel.next hp (by omega) h hna (hq.symm ▸ hlt))
  have HD := Lib.hid (fun m x (h : LiftRel P k a r m x) (hlt : ¬ m < q) => (show m = q from hq ▸ LiftRel.done hp h (hq.symm ▸ hlt)))
  have hMd := Lib.hid (fun (b m : Int) (w : World) (h1 : I64 b) (h2 : 1 ≤ m) (h3 : m ≤ 1000000000) => mod_any b m w h1 (by omega) ⟨by omega, by omega⟩)
  have hIv := Lib.hid (fun (b m : Int) (w : World) (h1 : I64 b) (h2 : 1 ≤ m) (h3 : m ≤ 1000000000) (h4 : Int.gcd b m = 1) => inverse_any b m w h1 h2 h3 h4)
  have hIs := Lib.hid (fun (b m : Int) (h2 : 1 ≤ m) (h4 : Int.gcd b m = 1) => invM_spec (a := b) (m := m) (by omega) h4)
  have hE := Lib.hid (fun (b m : Int) (h : 1 ≤ m) => (show 0 ≤ b % m ∧ b % m < m from ⟨Int.emod_nonneg _ (by omega), Int.emod_lt_of_pos _ (by omega)⟩))
  clear hrr hq hp hna
  go_enter Tryz.func189, Tryz.ntmps189
  go_wp2_with fail
  refine (hMd.out _ _ _ hr (by omega) (by omega)).mono ?_
  rintro e w' ⟨rfl, n1, rfl⟩
  go_wp2_with fail
  go_loopw [9, 10] (fun s9 s10 wr => ∃ x m : Int, s9 = .int .i64 x ∧ s10 = .int .i64 m ∧ 1 ≤ m ∧ m ≤ q ∧ LiftRel P k a r m x ∧ ∃ n, wr = w.drewN n) (fun _ s10 _ => (q - intOf s10).toNat)
  case atStart => exact ⟨r % P, P, rfl, rfl, by omega, hPq, HS.out, _, rfl⟩
  case round =>
    obtain ⟨x, m, rfl, rfl, m1, m2, hL, n2, rfl⟩ := hrel
    have HL := Lib.hid hL; clear hL
    have x0 := HL.out.x0; have xm := HL.out.xm
    by_cases hlt : m < q
    · obtain ⟨q1, q2, q3⟩ := HM.out m x HL.out hlt
      have hg := Lib.hid (HG.out m x HL.out)
      obtain ⟨i0, i1, _⟩ := hIs.out (2 * x) (m * P) (by omega) hg.out
      have HL2 := Lib.hid (HN.out m x HL.out hlt)
      obtain ⟨e1, e2⟩ := hE.out a (m * P) (by omega)
      obtain ⟨g1, g2⟩ := mul_le_sq x0 xm x0 xm (by omega)
      obtain ⟨e3, e4⟩ := hE.out (x * x - a) (m * P) (by omega)
      obtain ⟨g3, g4⟩ := mul_le_sq e3 e4 i0 i1 (by omega)
      have hP0 : (0 : Int) ≤ m * P := by omega
      go_wp2_with fail
      refine (hMd.out _ _ _ ha (by omega) (by omega)).mono ?_
      rintro e w' ⟨rfl, n3, rfl⟩
      go_wp2_with fail
      refine (hMd.out _ _ _ ⟨by omega, by omega⟩ (by omega) (by omega)).mono ?_
      rintro e w' ⟨rfl, n4, rfl⟩
      go_wp2_with fail
      refine (hIv.out _ _ _ ⟨by omega, by omega⟩ (by omega) (by omega) hg.out).mono ?_
      rintro e w' ⟨rfl, n5, rfl⟩
      go_wp2_with fail
      refine (hMd.out _ _ _ ⟨by omega, by omega⟩ (by omega) (by omega)).mono ?_
      rintro e w' ⟨rfl, n6, rfl⟩
      go_wp2_with fail
      exact ⟨⟨_, m * P, rfl, rfl, by omega, q1, HL2.out, _, rfl⟩, by show (q - m * P).toNat < (q - m).toNat; omega⟩
    · have HQ := Lib.hid (HD.out m x HL.out (by omega))
      have x1 : x < q := by have := HQ.out; omega
      have HX := Lib.hid (show Cg q (x * x) a from HQ.out ▸ HL.out.xx)
      go_wp2_with fail
      go_ret
      exact RetI.mk _ ⟨x0, x1, HX.out, HL.out.xr⟩
end Go.Proofs.YtfjmhfmhijhpkaaGreatDoor
namespace Go.Proofs.YtfjmhfmhijhpkaaGreatDoor
open Go.RowKit FF

/-- ascending -/
def sortI (xs : List Int) : List Int := xs.mergeSort fun x y => decide (x ≤ y)
theorem sortI_length (xs : List Int) : (sortI xs).length = xs.length := List.length_mergeSort xs

theorem Sort_own {B : Nat} (v : Value) (xs : List Int) (w : World) (h : w.ownsRow B 3 1 v xs.length (cellsI xs)) (hl : xs.length < 4611686018427387904) :
    Calls Tryz.prog 149 #[v] w fun e w' => e = .returned (.tuple #[]) ∧ w'.ownsRow B 3 1 v xs.length (cellsI (sortI xs)) ∧ w.grownBy w' v.ownBlock := by
  rcases h.2 with ⟨rfl, h0⟩ | ⟨g, cap, cur, rfl, hb, hg, hnc, hcm, hcs, ht⟩
  · have hx : xs = [] := List.eq_nil_of_length_eq_zero h0
    subst hx
    refine (Tryz.slices_Sort_int_none none 0 w).mono ?_
    rintro e w' ⟨rfl, rfl⟩
    refine ⟨rfl, ?_, ⟨rfl, rfl, rfl, Nat.le_refl _, fun _ _ _ => rfl⟩⟩
    have : sortI [] = [] := List.eq_nil_of_length_eq_zero (sortI_length [])
    rw [this]; exact h
  · obtain ⟨g', cap', hv, _, hgl, _, _, _, hH⟩ := Lib.holds_of_ownsRow (enc := Value.int .i64) h (by simp)
    cases hv
    refine (Tryz.slices_Sort_int g 0 cap xs w hH hgl hl).mono ?_
    rintro e w' ⟨rfl, n, os, rfl⟩
    exact ⟨rfl, _root_.Go.ownsRow_sortedI (sortI_length xs) hb hg hnc hcm hcs, _root_.Go.grownBy_sortedI _⟩
end Go.Proofs.YtfjmhfmhijhpkaaGreatDoor
namespace Go.Proofs.YtfjmhfmhijhpkaaGreatDoor
open Go.RowKit FF

theorem below_setCells {B b : Nat} (hb : B ≤ b) {a : World} : ∀ (vs : List Value) (o : Nat) (w : World), Below B a w → Below B a (w.setCells b o vs)
  | [], _, _, h => h
  | v :: r, o, w, h => below_setCells hb r (o + 1) (w.setCell ⟨b, o, none⟩ v) (h.setCell hb v)
theorem Compact_own {B : Nat} (v : Value) (xs : List Int) (w : World) (h : w.ownsRow B 3 1 v xs.length (cellsI xs)) (hl : xs.length < 4611686018427387904) (h0 : 0 < xs.length) :
    Calls Tryz.prog 173 #[v] w fun e w' => ∃ A c, e = .returned (.slice A (Lib.compact xs).length c) ∧ ShowsI w' A (Lib.compact xs) ∧ (Lib.compact xs).length ≤ c ∧ c ≤ maxLen ∧ Below B w w' := by
  rcases h.2 with ⟨rfl, hn⟩ | ⟨g, cap, cur, rfl, hb, hg, hnc, hcm, hcs, ht⟩
  · omega
  · have hcell : ∀ j, j < xs.length → w.cell? ⟨g, 0 + j, none⟩ = some (.int .i64 (xs.getD j 0)) := fun j hj => by
      have := h.cellAt j (by omega)
      rw [Nat.zero_add, this, cellsI_get hj]
    have hfr : ∀ j, j < xs.length → w.frozen? ⟨g, 0 + j, none⟩ = false := fun j _ => h.frozenAt _
    have hle := Lib.compact_length_le xs
    refine (Tryz.slices_Compact_int_cells g 0 xs.length cap xs w (Nat.le_refl _) (by omega) hnc hcell hfr).mono ?_
    rw [List.take_length]
    rintro e w' ⟨rfl, q, rfl⟩
    have hlt : g < w.heap.size := (Array.getElem?_eq_some_iff.1 hg).1
    refine ⟨some ⟨g, 0, none⟩, cap, rfl, fun _ => ⟨g, 0, rfl, ?_, fun i hi => ?_⟩, by omega, hcm, below_setCells hb _ _ _ (below_drewN (Below.refl _ _) q)⟩
    · exact Nat.lt_of_lt_of_le (show g < (w.drewN q).heap.size from hlt) (below_setCells (B := 0) (b := g) (Nat.zero_le _) (a := w.drewN q) ((Lib.compact xs ++ List.replicate (xs.length - (Lib.compact xs).length) 0).map (Value.int .i64)) 0 (w.drewN q) (Below.refl _ _)).size
    · have hlen : ((Lib.compact xs ++ List.replicate (xs.length - (Lib.compact xs).length) 0).map (Value.int .i64)).length = xs.length := by simp; omega
      rw [World.cell?_setCells_in g _ 0 (w.drewN q) (fun j hj => by rw [hlen] at hj; rw [World.cell?_drewN, hcell j hj]; rfl) i (by rw [hlen]; omega)]
      rw [List.getElem_map, List.getElem_append_left hi, List.getD_eq_getElem?_getD, List.getElem?_eq_getElem hi]
      rfl

/-- a new block of integers is a row of the call's own -/
theorem own_new (w : World) (xs : List Int) (n : Nat) (vs : Array Value) (hn : xs.length = n) (hv : vs.toList = cellsI xs) (hm : n ≤ maxLen) :
    (w.alloc (.cells vs 3)).ownsRow w.heap.size 3 1 (.slice (some ⟨w.heap.size, 0, none⟩) n n) n (cellsI xs) := by
  have hs : vs.size = n := by rw [← Array.length_toList, hv, cellsI_length, hn]
  refine ⟨by rw [cellsI_length, hn, Nat.mul_one], .inr ⟨w.heap.size, n, vs, rfl, Nat.le_refl _, ?_, Nat.le_refl _, hm, by omega, ?_⟩⟩
  · exact (MapKept.heap_alloc w _).1
  · rw [hv, Nat.mul_one, List.take_of_length_le (by rw [cellsI_length]; omega)]
theorem compact_asc {l : List Int} (h : l.Pairwise (· < ·)) : Lib.compact l = l := by
  refine Lib.compact_all l fun j hj => ?_
  by_cases h0 : j = 0
  · subst h0; simp [Lib.keeps]
  · refine Lib.keeps_pos ?_
    have h1 := List.pairwise_iff_getElem.1 h (j - 1) j (by omega) hj (by omega)
    rw [getElem!_pos _ j (by simpa using hj), getElem!_pos _ (j - 1) (by simp; omega)]
    simp
    omega
theorem sortI_roots {l : List Int} {u q : Int} (h : IsRoots l u q) : IsRoots (sortI l) u q ∧ (sortI l).Pairwise (· < ·) := by
  have hp := List.mergeSort_perm l (fun x y => decide (x ≤ y))
  have hs := List.pairwise_mergeSort (le := fun x y : Int => decide (x ≤ y)) (fun a b c h1 h2 => by simp at *; omega) (fun a b => by simp; omega) l
  have hnd : (sortI l).Nodup := hp.nodup_iff.2 h.1
  exact ⟨⟨hnd, fun y => by rw [← h.2 y]; exact hp.mem_iff⟩, List.Pairwise.imp₂ (R := fun x y => decide (x ≤ y) = true) (S := fun x y => x ≠ y) (fun {a b} h1 h2 => by simp at h1; omega) hs hnd⟩
theorem four_roots : sortI [1, 3, 3, 1] = [1, 1, 3, 3] ∧ Lib.compact [(1 : Int), 1, 3, 3] = [1, 3] := by
  refine ⟨?_, by decide⟩
  simp [sortI, List.mergeSort, List.MergeSort.Internal.splitInTwo]

/-- what units hands back -/
def UnitsPost (u q : Int) (w : World) (e : Ending) (w' : World) : Prop := ∃ (B : List Int) (A : Option Addr) (c : Nat), IsRoots B u q ∧ B.length ≤ 4 ∧ e = .returned (.slice A B.length c) ∧ ShowsI w' A B ∧ B.length ≤ c ∧ c ≤ maxLen ∧ Below w.heap.size w w'

set_option maxHeartbeats 2000000 in
set_option maxRecDepth 100000 in
theorem units_odd (u : Int) (P k : Nat) (q : Int) (w : World) (hu : I64 u) (hp : IsP P) (h2 : 2 < P) (hk : 1 ≤ k) (hq : (P : Int) ^ k = q) (hq9 : q ≤ 1000000000) (hna : ¬ (P : Int) ∣ u) :
    Calls Tryz.prog 148 #[.int .i64 u, .int .i64 (P : Int), .int .i64 (k : Int), .int .i64 q] w (UnitsPost u q w) := by
  have hPq : (P : Int) ≤ q := by
    rw [← hq]
    have h3 : P ^ 1 ≤ P ^ k := Nat.pow_le_pow_right (by omega) hk
    have h4 : ((P ^ 1 : Nat) : Int) ≤ ((P ^ k : Nat) : Int) := by omega
    push_cast at h4
    rwa [Int.pow_succ, Int.pow_zero, Int.one_mul] at h4
  have ho : P % 2 = 1 := hp.odd (by omega)
  have hJ := Lib.hid (fun (w : World) => by
    have := jacobi_any u (P : Int) w hu (by omega) (by omega) (by omega)
    rw [Int.toNat_natCast, jac_prime hp] at this
    exact this)
  have hM := Lib.hid (fun w => mod_any u (P : Int) w hu (by omega) ⟨by omega, by omega⟩)
  by_cases hl : leg u P = 1
  · have hleg : leg (u % P) P = 1 := by rw [← hl]; exact leg_congr (Cg.emod _ _)
    have e1 := Int.emod_nonneg u (b := (P : Int)) (by omega)
    have e2 := Int.emod_lt_of_pos u (b := (P : Int)) (by omega)
    have hR := Lib.hid (fun w => rootModulo_any (u % P) P w ⟨by omega, by omega⟩ hp h2 (by omega) hleg)
    have hL := Lib.hid (fun r w hr hrr => lift_any u r q P k w hu hr hp h2 hk hq hq9 hrr hna)
    have hB := Lib.hid (fun (x : Int) (h0 : 0 ≤ x) (h1 : x < q) (h3 : Cg q (x * x) u) => (show IsRoots [x, q - x] u q from hq ▸ unit_list hp (by omega) hk hna (x := x) (by rw [hq]; exact h3) h0 (by rw [hq]; exact h1)))
    rw [hl] at hJ
    clear hq hna hl hleg hp hu
    go_enter Tryz.func148, Tryz.ntmps148
    go_wp2_with fail
    refine (hJ.out _).mono ?_
    rintro e w' ⟨rfl, n1, rfl⟩
    go_wp2_with fail
    refine (hM.out _).mono ?_
    rintro e w' ⟨rfl, n2, rfl⟩
    go_wp2_with fail
    refine (hR.out _).mono ?_
    rintro e w' ⟨r, ⟨r0, r1, r2⟩, rfl, n3, rfl⟩
    have R2 := Lib.hid (r2.trans (Cg.emod _ _)); clear r2
    go_wp2_with fail
    refine (hL.out _ _ ⟨by omega, by omega⟩ R2.out).mono ?_
    rintro e w' ⟨x, ⟨x0, x1, x2, _⟩, rfl, n4, rfl⟩
    have HB := Lib.hid (hB.out x x0 x1 x2); clear x2 hB
    go_wp2_with fail
    go_ret
    refine ⟨[x, q - x], some ⟨w.heap.size, 0, none⟩, 2, HB.out, by simp, rfl, ?_, Nat.le_refl _, by decide, ?_⟩
    · exact ShowsI.new (w := w.drewN _) fun i hi => by match i, hi with | 0, _ => rfl | 1, _ => rfl
    · exact (below_drewN (Below.refl _ _) _).alloc (Nat.le_refl _) _
  · have hl1 : leg u P = -1 := by rcases leg_ne hna with e | e; exact absurd e hl; exact e
    have HB := Lib.hid (hq ▸ unit_none hp (by omega) hk hl1)
    have d := bne_iff_ne.2 hl
    clear hq hna hl hl1 hp hu hM
    generalize leg u P = L at *
    go_enter Tryz.func148, Tryz.ntmps148
    go_wp2_with fail
    refine (hJ.out _).mono ?_
    rintro e w' ⟨rfl, n1, rfl⟩
    go_wp2_with fail
    go_ret
    exact ⟨[], none, 0, HB.out, by decide, rfl, ShowsI.nil, Nat.le_refl _, by decide, below_drewN (Below.refl _ _) _⟩
end Go.Proofs.YtfjmhfmhijhpkaaGreatDoor
namespace Go.Proofs.YtfjmhfmhijhpkaaGreatDoor
open Go.RowKit FF
theorem two_bounds {j k : Nat} (h : j ≤ k) (hk : k ≤ 29) : (1 : Int) ≤ 2 ^ j ∧ (2 : Int) ^ j ≤ 536870912 := by
  have h1 : 2 ^ j ≤ 2 ^ 29 := Nat.pow_le_pow_right (by omega) (by omega)
  have h2 : ((2 ^ j : Nat) : Int) = 2 ^ j := by push_cast; rfl
  have h3 := two_pow_pos j
  omega
/-- what holds in the loop over powers of 2 -/
def TwoRel (u : Int) (j : Nat) (x : Int) : Prop := Cg ((2 : Int) ^ j) (x * x) u ∧ x % 2 = 1 ∧ 0 ≤ x ∧ x < (2 : Int) ^ (j - 1)

set_option maxHeartbeats 2000000 in
set_option maxRecDepth 100000 in
theorem units_two3 (u : Int) (k : Nat) (q : Int) (w : World) (hu1 : 1 ≤ u) (hu2 : u ≤ 1000000000) (ho : u % 2 = 1) (hk : 3 ≤ k) (hq : (2 : Int) ^ k = q) (hq9 : q ≤ 1000000000) :
    Calls Tryz.prog 148 #[.int .i64 u, .int .i64 2, .int .i64 (k : Int), .int .i64 q] w (UnitsPost u q w) := by
  have hqn : ((2 ^ k : Nat) : Int) = q := by rw [← hq]; push_cast; rfl
  have q8 : 8 ≤ q := by
    have h3 : 2 ^ 3 ≤ 2 ^ k := Nat.pow_le_pow_right (by omega) hk
    omega
  have hk30 : k ≤ 29 := by
    rcases Nat.lt_or_ge 29 k with g | g
    · exfalso
      have h3 : 2 ^ 30 ≤ 2 ^ k := Nat.pow_le_pow_right (by omega) g
      omega
    · exact g
  have hmin : min q 8 = 8 := by omega
  have hmin2 : min (2 ^ k : Int) 8 = 8 := by rw [hq]; exact hmin
  have hM := Lib.hid (fun (b m : Int) (w : World) (h1 : I64 b) (h2 : 1 ≤ m) (h3 : m ≤ 1000000000) => mod_any b m w h1 (by omega) ⟨by omega, by omega⟩)
  by_cases h8 : u % 8 = 1
  · have d1 := t_beq h8
    have d2 : (u % 8 != 1) = false := by rw [bne_eq_false_iff_eq]; exact h8
    have d4 := f_beq (a := q) (b := 2) (by omega)
    have HT := Lib.hid (show TwoRel u 3 1 from ⟨Cg.of_emod (by rw [show (2 : Int) ^ 3 = 8 by decide]; omega), by omega, by omega, by decide⟩)
    clear h8
    go_enter Tryz.func148, Tryz.ntmps148
    go_wp2_with fail
    refine (hM.out _ _ _ ⟨by omega, by omega⟩ (by omega) (by omega)).mono ?_
    rintro e w' ⟨rfl, n1, rfl⟩
    go_wp2_with fail
    go_loopw [10, 11] (fun s10 s11 wr => ∃ (x : Int) (j : Nat), s10 = .int .i64 x ∧ s11 = .int .i64 j ∧ 3 ≤ j ∧ j ≤ k ∧ TwoRel u j x ∧ ∃ n, wr = w.drewN n) (fun _ s11 _ => k - (intOf s11).toNat)
    case atStart => exact ⟨1, 3, rfl, rfl, by omega, hk, HT.out, _, rfl⟩
    case round =>
      obtain ⟨x, j, rfl, rfl, j3, jk, hT, n2, rfl⟩ := hrel
      have HT := Lib.hid hT; clear hT
      by_cases hlt : j < k
      · obtain ⟨b1, b2⟩ := two_bounds (j := j) (k := k) (by omega) hk30
        obtain ⟨b3, b4⟩ := two_bounds (j := j + 1) (k := k) (by omega) hk30
        obtain ⟨b5, b6⟩ := two_bounds (j := j - 1) (k := k) (by omega) hk30
        have x0 := HT.out.2.2.1; have x1 := HT.out.2.2.2
        have x2 : x < 1000000000 := by omega
        obtain ⟨g1, g2⟩ := mul_le_sq x0 x2 x0 x2 (by omega)
        have hex : Cg ((2 : Int) ^ (j + 1)) (x * x) u ↔ (x * x - u) % (2 : Int) ^ (j + 1) = 0 := ⟨fun h => Int.emod_eq_zero_of_dvd h, fun h => Int.dvd_of_emod_eq_zero h⟩
        have HS := Lib.hid (two_step j3 HT.out.1 HT.out.2.1)
        by_cases hz : (x * x - u) % (2 : Int) ^ (j + 1) = 0
        · have HN := Lib.hid (show TwoRel u (j + 1) x from ⟨hex.2 hz, HT.out.2.1, x0, by rw [show j + 1 - 1 = j - 1 + 1 by omega, Int.pow_succ]; omega⟩)
          have d3 : ((x * x - u) % (2 : Int) ^ (j + 1) != 0) = false := by rw [bne_eq_false_iff_eq]; exact hz
          clear hz hex HS
          go_wp2_with fail
          refine (hM.out _ _ _ ⟨by omega, by omega⟩ (by omega) (by omega)).mono ?_
          rintro e w' ⟨rfl, n3, rfl⟩
          go_wp2_with fail
          exact ⟨⟨x, j + 1, rfl, by go_num, by omega, by omega, HN.out, _, rfl⟩, by simp [intOf]; omega⟩
        · have HN := Lib.hid (show TwoRel u (j + 1) (x + 2 ^ (j - 1)) from by
            rcases HS.out with h | ⟨_, h, h'⟩
            · exact absurd (hex.1 h) hz
            · exact ⟨h, h', by omega, by rw [show j + 1 - 1 = j - 1 + 1 by omega, Int.pow_succ]; omega⟩)
          have d3 := bne_iff_ne.2 hz
          clear hz hex HS
          go_wp2_with fail
          refine (hM.out _ _ _ ⟨by omega, by omega⟩ (by omega) (by omega)).mono ?_
          rintro e w' ⟨rfl, n3, rfl⟩
          go_wp2_with fail
          exact ⟨⟨_, j + 1, rfl, by go_num, by omega, by omega, HN.out, _, rfl⟩, by simp [intOf]; omega⟩
      · obtain rfl : j = k := by omega
        have x0 := HT.out.2.2.1; have x1 := HT.out.2.2.2; have xo := HT.out.2.1
        have hh : (2 : Int) ^ (j - 1) = q / 2 := by
          have := pow_two_split (k := j) (by omega)
          omega
        rw [hh] at x1
        have HL := Lib.hid (show IsRoots [x, q - x, x + q / 2, q / 2 - x] u q from by
          have := two_list hk HT.out.1 xo x0 (by rw [hh]; exact x1)
          rw [hq, hh] at this; exact this)
        have M1 := Lib.hid (show (x + q / 2) % q = x + q / 2 from Int.emod_eq_of_lt (by omega) (by omega))
        have M2 := Lib.hid (show (q / 2 - x) % q = q / 2 - x from Int.emod_eq_of_lt (by omega) (by omega))
        clear hh hq hqn xo
        go_wp2_with fail
        refine (hM.out _ _ _ ⟨by omega, by omega⟩ (by omega) (by omega)).mono ?_
        rintro e w' ⟨rfl, n3, rfl⟩
        go_wp2_with fail
        refine (hM.out _ _ _ ⟨by omega, by omega⟩ (by omega) (by omega)).mono ?_
        rintro e w' ⟨rfl, n4, rfl⟩
        rw [M1.out, M2.out]
        go_wp2_with fail
        have HW := Lib.hid (own_new (w.drewN (n2 + n3 + n4)) [x, q - x, x + q / 2, q / 2 - x] 4 #[.int .i64 x, .int .i64 (q - x), .int .i64 (x + q / 2), .int .i64 (q / 2 - x)] rfl rfl (by decide))
        obtain ⟨r1, r2⟩ := sortI_roots HL.out
        refine (Sort_own _ [x, q - x, x + q / 2, q / 2 - x] _ HW.out (by simp)).mono ?_
        rintro e w5 ⟨rfl, hown5, hg5⟩
        have B5 := Lib.hid (Below.grown (B := w.heap.size) ((below_drewN (Below.refl w.heap.size w) (n2 + n3 + n4)).alloc (by simp) (.cells #[.int .i64 x, .int .i64 (q - x), .int .i64 (x + q / 2), .int .i64 (q / 2 - x)] 3)) hg5 (by simp) (fun k hk => by simp [Value.ownBlock] at hk; omega))
        have hl4 := sortI_length [x, q - x, x + q / 2, q / 2 - x]
        have HC := Lib.hid (Compact_own _ (sortI [x, q - x, x + q / 2, q / 2 - x]) w5 (by rw [hl4]; exact hown5) (by rw [hl4]; simp) (by rw [hl4]; simp))
        rw [compact_asc r2] at HC
        clear hown5 hg5 HW
        rw [show [x, q - x, x + q / 2, q / 2 - x].length = 4 from rfl] at hl4
        have HR := Lib.hid r1
        have HL4 := Lib.hid hl4
        clear r1 r2 hl4
        go_wp2_with fail
        refine HC.out.mono ?_
        rintro e w6 ⟨A, c, rfl, hs, hc1, hc2, hb6⟩
        have HS6 := Lib.hid hs; have HB6 := Lib.hid hb6; clear hs hb6
        go_wp2_with fail
        go_ret
        exact ⟨_, A, c, HR.out, by rw [HL4.out]; omega, rfl, HS6.out, hc1, hc2, B5.out.trans (HB6.out.mono (by simp))⟩
  · have HB := Lib.hid (hq ▸ two_none (k := k) (by omega) ho (by rw [hmin2]; exact h8))
    have d2 := bne_iff_ne.2 h8
    clear h8
    go_enter Tryz.func148, Tryz.ntmps148
    go_wp2_with fail
    refine (hM.out _ _ _ ⟨by omega, by omega⟩ (by omega) (by omega)).mono ?_
    rintro e w' ⟨rfl, n1, rfl⟩
    go_wp2_with fail
    go_ret
    exact ⟨[], none, 0, HB.out, by decide, rfl, ShowsI.nil, Nat.le_refl _, by decide, below_drewN (Below.refl _ _) _⟩
end Go.Proofs.YtfjmhfmhijhpkaaGreatDoor
namespace Go.Proofs.YtfjmhfmhijhpkaaGreatDoor
open Go.RowKit FF
set_option maxHeartbeats 2000000 in
set_option maxRecDepth 100000 in
theorem units_two1 (u : Int) (w : World) (hu1 : 1 ≤ u) (hu2 : u ≤ 1000000000) (ho : u % 2 = 1) :
    Calls Tryz.prog 148 #[.int .i64 u, .int .i64 2, .int .i64 1, .int .i64 2] w (UnitsPost u 2 w) := by
  have hM := Lib.hid (fun (w : World) => mod_any u 2 w ⟨by omega, by omega⟩ (by omega) ⟨by omega, by omega⟩)
  rw [ho] at hM
  have HB := Lib.hid (two_one ho)
  clear ho
  go_enter Tryz.func148, Tryz.ntmps148
  go_wp2_with fail
  refine (hM.out _).mono ?_
  rintro e w' ⟨rfl, n1, rfl⟩
  go_wp2_with fail
  go_ret
  refine ⟨[1], some ⟨w.heap.size, 0, none⟩, 1, HB.out, by decide, rfl, ?_, Nat.le_refl _, by decide, ?_⟩
  · exact ShowsI.new (w := w.drewN _) fun i hi => by match i, hi with | 0, _ => rfl
  · exact (below_drewN (Below.refl _ _) _).alloc (Nat.le_refl _) _

set_option maxHeartbeats 2000000 in
set_option maxRecDepth 100000 in
theorem units_two2 (u : Int) (w : World) (hu1 : 1 ≤ u) (hu2 : u ≤ 1000000000) (ho : u % 2 = 1) :
    Calls Tryz.prog 148 #[.int .i64 u, .int .i64 2, .int .i64 2, .int .i64 4] w (UnitsPost u 4 w) := by
  have hM := Lib.hid (fun (b : Int) (w : World) (h : I64 b) => mod_any b 4 w h (by omega) ⟨by omega, by omega⟩)
  by_cases h4 : u % 4 = 1
  · have d2 : (u % 4 != 1) = false := by rw [bne_eq_false_iff_eq]; exact h4
    have HB := Lib.hid (two_two h4)
    have d3 : ((2 : Int) != 2) = false := rfl
    clear h4
    go_enter Tryz.func148, Tryz.ntmps148
    go_wp2_with fail
    refine (hM.out _ _ ⟨by omega, by omega⟩).mono ?_
    rintro e w' ⟨rfl, n1, rfl⟩
    go_wp2_with fail
    refine wp_loop_rounds 1 ?_
    rw [rounds_succ]
    go_wp2_with fail
    refine (hM.out _ _ ⟨by omega, by omega⟩).mono ?_
    rintro e w' ⟨rfl, n3, rfl⟩
    go_wp2_with fail
    refine (hM.out _ _ ⟨by omega, by omega⟩).mono ?_
    rintro e w' ⟨rfl, n4, rfl⟩
    go_wp2_with fail
    have HW := Lib.hid (own_new (w.drewN (n1 + n3 + n4)) [1, 3, 3, 1] 4 #[.int .i64 1, .int .i64 3, .int .i64 3, .int .i64 1] rfl rfl (by decide))
    refine (Sort_own _ [1, 3, 3, 1] _ HW.out (by simp)).mono ?_
    rintro e w5 ⟨rfl, hown5, hg5⟩
    rw [four_roots.1] at hown5
    have B5 := Lib.hid (Below.grown (B := w.heap.size) ((below_drewN (Below.refl w.heap.size w) (n1 + n3 + n4)).alloc (by simp) (.cells #[.int .i64 1, .int .i64 3, .int .i64 3, .int .i64 1] 3)) hg5 (by simp) (fun k hk => by simp [Value.ownBlock] at hk; omega))
    have HC := Lib.hid (Compact_own _ [1, 1, 3, 3] w5 hown5 (by simp) (by simp))
    rw [four_roots.2] at HC
    clear hown5 hg5 HW
    go_wp2_with fail
    refine HC.out.mono ?_
    rintro e w6 ⟨A, c, rfl, hs, hc1, hc2, hb6⟩
    have HS6 := Lib.hid hs; have HB6 := Lib.hid hb6; clear hs hb6
    go_wp2_with fail
    go_ret
    exact ⟨_, A, c, HB.out, by simp, rfl, HS6.out, hc1, hc2, B5.out.trans (HB6.out.mono (by simp))⟩
  · have HB := Lib.hid (show IsRoots [] u 4 from two_none (k := 2) (by omega) ho (by rw [show min ((2 : Int) ^ 2) 8 = 4 by decide]; exact h4))
    have d2 := bne_iff_ne.2 h4
    clear h4
    go_enter Tryz.func148, Tryz.ntmps148
    go_wp2_with fail
    refine (hM.out _ _ ⟨by omega, by omega⟩).mono ?_
    rintro e w' ⟨rfl, n1, rfl⟩
    go_wp2_with fail
    go_ret
    exact ⟨[], none, 0, HB.out, by decide, rfl, ShowsI.nil, Nat.le_refl _, by decide, below_drewN (Below.refl _ _) _⟩

/-- units, for all units modulo prime powers -/
theorem units_any (u : Int) (P k : Nat) (q : Int) (w : World) (hu1 : 1 ≤ u) (hu2 : u ≤ 1000000000) (hp : IsP P) (hk : 1 ≤ k) (hq : (P : Int) ^ k = q) (hq9 : q ≤ 1000000000) (hna : ¬ (P : Int) ∣ u) :
    Calls Tryz.prog 148 #[.int .i64 u, .int .i64 (P : Int), .int .i64 (k : Int), .int .i64 q] w (UnitsPost u q w) := by
  by_cases h2 : P = 2
  · subst h2
    have ho : u % 2 = 1 := by
      rcases Int.emod_two_eq u with e | e
      · exact absurd (Int.dvd_of_emod_eq_zero e) hna
      · exact e
    rcases (show k = 1 ∨ k = 2 ∨ 3 ≤ k by omega) with rfl | rfl | hk3
    · have : q = 2 := by rw [← hq]; decide
      subst this; exact units_two1 u w hu1 hu2 ho
    · have : q = 4 := by rw [← hq]; decide
      subst this; exact units_two2 u w hu1 hu2 ho
    · exact units_two3 u k q w hu1 hu2 ho hk3 hq hq9
  · exact units_odd u P k q w ⟨by omega, by omega⟩ hp (by have := hp.1; omega) hk hq hq9 hna
end Go.Proofs.YtfjmhfmhijhpkaaGreatDoor
