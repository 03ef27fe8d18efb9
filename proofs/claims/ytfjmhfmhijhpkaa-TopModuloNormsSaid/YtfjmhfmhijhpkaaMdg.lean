/- Modulo of the program: the matrices that it finds. -/
import Derived.Test.YtfjmhfmhijhpkaaMdq
import Derived.Test.YtfjmhfmhijhpkaaRin
namespace Go.Proofs.Ytfjmhfmhijhpkaa
open Go.RowKit FF
open Go.Maps (Keyed int_keyed keyOf_int_mk)

/-- what Modulo leaves where the prime is right -/
def ModPost (w : World) (a b p : Int) (r : Ending) (w' : World) : Prop :=
  ∃ u v x y m n : Int, Mats a b p u v x y m n ∧ x = a % p ∧ y = b % p ∧ r = .returned (.tuple #[.agg #[.int .i64 0, .int .i64 x, .int .i64 1, .int .i64 0], .agg #[.int .i64 u, .int .i64 m, .int .i64 v, .int .i64 n], .int .i64 0]) ∧ Below w.heap.size w w'
theorem Bx.grown {w W W' : World} {L : List (Nat × Array Value)} {g : Nat} (h : Bx w L W) (hg : W.grownBy W' (some g)) (hw : w.heap.size ≤ g) (hne : ∀ x ∈ L, x.1 ≠ g) : Bx w L W' :=
  ⟨h.below.grown hg h.below.size (fun k hk => by injection hk with hk; omega), fun x hx => ⟨(h.own x hx).1, (h.own x hx).2.of_block hg.size (hg.block _ (h.own x hx).2.1 (fun e => by injection e with e; exact hne x hx e))⟩⟩
set_option maxRecDepth 100000 in
theorem sq_look {w : World} {b n t : Nat} {p q : Int} (hS : SqMap w b n p t) (hq : I64 q) (hyes : ∃ u : Nat, u < t ∧ ((u : Int) * u).tmod p = q) :
    ∃ u : Nat, u < t ∧ ((u : Int) * u).tmod p = q ∧ ∀ W, Below w.heap.size w W → Sem.run Try.prog (Instr.lookup 93 (.map (some b)) (.int .i64 q) true) W = .ok (.tuple #[.int .i64 u, .bool true]) W := by
  obtain ⟨D, h1, h2, h3⟩ := hS
  rcases h3 q with ⟨k1, u, k2, k3, k4⟩ | ⟨_, k2⟩
  · refine ⟨u, k2, k3, fun W hb => ?_⟩
    have h1' : W.ownsMap Try.prog 3 (plainElem Try.prog 3) b n D := by
      obtain ⟨es, clock, g1, g2⟩ := h1
      exact ⟨es, clock, by rw [hb.block b (Array.getElem?_eq_some_iff.1 g1).1]; exact g1, g2⟩
    obtain ⟨v, ps, hrun, hv⟩ := h1'.look_ok intKey Try.underlying93 (zeroInt W) (plainElem_int Try.underlying3 (by decide)) (keyOf_int_mk Try.underlying3 (WalkArith.wf_i64 hq))
    obtain ⟨c, rfl, hc, hwc⟩ := plainElem_int_inv Try.underlying3 hv
    have hc := congrArg Prod.fst hc
    simp only at hc
    rw [k4] at hc
    injection hc with hc
    injection hc with _ hc
    rw [k1, ← hc] at hrun
    exact hrun
  · obtain ⟨u, g1, g2⟩ := hyes
    exact absurd g2 (k2 u g1)
set_option maxRecDepth 100000 in
theorem sq_miss {w : World} {b n t : Nat} {p q : Int} (hS : SqMap w b n p t) (hq : I64 q) (hno : ¬ ∃ u : Nat, u < t ∧ ((u : Int) * u).tmod p = q) :
    ∃ c : Int, ∀ W, Below w.heap.size w W → Sem.run Try.prog (Instr.lookup 93 (.map (some b)) (.int .i64 q) true) W = .ok (.tuple #[.int .i64 c, .bool false]) W := by
  obtain ⟨D, h1, h2, h3⟩ := hS
  rcases h3 q with ⟨k1, u, k2, k3, k4⟩ | ⟨k1, k2⟩
  · exact absurd ⟨u, k2, k3⟩ hno
  · have key : ∀ W, Below w.heap.size w W → ∃ c : Int, Sem.run Try.prog (Instr.lookup 93 (.map (some b)) (.int .i64 q) true) W = .ok (.tuple #[.int .i64 c, .bool false]) W ∧ D.atKey (.int .i64 q) (.lit (.int .i64 0)) = .lit (.int .i64 c) := by
      intro W hb
      have h1' : W.ownsMap Try.prog 3 (plainElem Try.prog 3) b n D := by
        obtain ⟨es, clock, g1, g2⟩ := h1
        exact ⟨es, clock, by rw [hb.block b (Array.getElem?_eq_some_iff.1 g1).1]; exact g1, g2⟩
      obtain ⟨v, ps, hrun, hv⟩ := h1'.look_ok intKey Try.underlying93 (zeroInt W) (plainElem_int Try.underlying3 (by decide)) (keyOf_int_mk Try.underlying3 (WalkArith.wf_i64 hq))
      obtain ⟨c, rfl, hc, hwc⟩ := plainElem_int_inv Try.underlying3 hv
      rw [k1] at hrun
      exact ⟨c, hrun, congrArg Prod.fst hc⟩
    obtain ⟨c, -, hc⟩ := key w (Below.refl _ _)
    refine ⟨c, fun W hb => ?_⟩
    obtain ⟨c', h5, h6⟩ := key W hb
    rw [hc] at h6
    injection h6 with h6
    injection h6 with _ h6
    rw [h6]; exact h5
/-- a square is found at v -/
def HitAt (a b : Int) (P v : Nat) : Prop := ∃ u : Nat, u < P ∧ ((u : Int) * u).tmod P = (b + a * (((v : Int) * v).tmod P)) % P
theorem sq_any {w : World} {b n t : Nat} {p q : Int} (hS : SqMap w b n p t) (hq : I64 q) :
    ∃ (c : Int) (f : Bool), (∀ W, Below w.heap.size w W → Sem.run Try.prog (Instr.lookup 93 (.map (some b)) (.int .i64 q) true) W = .ok (.tuple #[.int .i64 c, .bool f]) W) ∧
      ((f = true ∧ ∃ u : Nat, u < t ∧ c = u ∧ ((u : Int) * u).tmod p = q) ∨ (f = false ∧ ¬ ∃ u : Nat, u < t ∧ ((u : Int) * u).tmod p = q)) := by
  by_cases hh : ∃ u : Nat, u < t ∧ ((u : Int) * u).tmod p = q
  · obtain ⟨u, h1, h2, h3⟩ := sq_look hS hq hh
    exact ⟨u, true, h3, .inl ⟨rfl, u, h1, rfl, h2⟩⟩
  · obtain ⟨c, h1⟩ := sq_miss hS hq hh
    exact ⟨c, false, h1, .inr ⟨rfl, hh⟩⟩
theorem hit_ex {a b : Int} {P : Nat} (hp : IsP P) (h2 : 2 < P) (ha : ¬ (P : Int) ∣ a) : ∃ v, 2 * v < P ∧ HitAt a b P v := by
  obtain ⟨v, u, h3, h4, h5⟩ := exists_square hp h2 b ha
  refine ⟨v, h3, u, by omega, ?_⟩
  rw [Int.tmod_eq_emod_of_nonneg (Int.mul_nonneg (by omega) (by omega)), Int.tmod_eq_emod_of_nonneg (Int.mul_nonneg (by omega) (by omega)), h5]
  rw [Int.add_emod, Int.mul_emod]
  conv => rhs; rw [Int.add_emod, Int.mul_emod, Int.emod_emod]
theorem hit_mats {a b : Int} {P v u : Nat} (h2 : 2 < P) (h9 : P ≤ 10000) (hv : v < P) (hu : u < P) (h : ((u : Int) * u).tmod P = (b + a * (((v : Int) * v).tmod P)) % P) :
    Mats a b P u v (a % P) (b % P) ((-a * v) % P) ((-u) % P) := by
  refine Mats.of (by omega) (by omega) (by omega) (by omega) ?_
  rw [Int.tmod_eq_emod_of_nonneg (Int.mul_nonneg (by omega) (by omega)), Int.tmod_eq_emod_of_nonneg (Int.mul_nonneg (by omega) (by omega))] at h
  rw [h, Int.add_emod, Int.mul_emod]
  conv => rhs; rw [Int.add_emod, Int.mul_emod]
  rw [Int.emod_emod]
theorem amod_b (a m : Int) (w : World) (h3 : 0 < m) (hm : m ≤ 1000000) :
    Calls Try.prog 45 #[.int .i64 a, .int .i64 m] w fun r w' => r = .returned (.int .i64 (a % m)) ∧ Below w.heap.size w w' := by
  refine (amod_any a m w h3 hm).mono ?_
  rintro e w' ⟨rfl, n, rfl⟩
  exact ⟨rfl, below_drewN (Below.refl _ _) n⟩

set_option maxHeartbeats 4000000 in
set_option maxRecDepth 100000 in
theorem qModulo_good (a b p : Int) (w : World) (hE : aE a b = 0) (hp : modP a b p = true) :
    Calls Try.prog 12 #[.agg #[.int .i64 a, .int .i64 b], .int .i64 p] w (ModPost w a b p) := by
  have hC := fun w => qCheck_any a b w
  rw [hE] at hC
  have HC := Lib.hid hC
  have hPr := fun w => isPrime_any p w
  obtain ⟨ha0, hb0, ha1, hb1⟩ := aE_zero.1 hE
  unfold modP at hp
  simp only [Bool.and_eq_true, Bool.not_eq_true'] at hp
  obtain ⟨hw, hpb, hx, hy⟩ := hp
  obtain ⟨hw1, hw2⟩ := winB_iff.1 hw
  obtain ⟨P, rfl⟩ : ∃ P : Nat, p = (P : Int) := ⟨p.toNat, by omega⟩
  have hIsP : IsP P := (by have := isPB_iff.1 hpb; rw [Int.toNat_natCast] at this; exact this.1)
  rw [hpb] at hPr
  have HPr := Lib.hid hPr
  have hxa : ¬ (P : Int) ∣ a := fun h => by rw [Int.tmod_eq_zero_of_dvd h] at hx; simp at hx
  obtain ⟨v0, hv1, hv0⟩ := hit_ex (b := b) hIsP (by omega) hxa
  have HV0 := Lib.hid hv0; have HV1 := Lib.hid hv1
  have HM0 := Lib.hid (fun w => amod_any b P w (by omega) (by omega))
  have HM1 := Lib.hid (show (b + a * ((((0 : Nat) : Int) * ((0 : Nat) : Int)).tmod P)) % P = b % P by simp)
  have hI0 : I64 (b % (P : Int)) := by have h5 := Int.emod_nonneg b (show (P : Int) ≠ 0 by omega); have h6 := Int.emod_lt_of_pos b (show (0 : Int) < P by omega); exact ⟨by omega, by omega⟩
  have HI0 := Lib.hid hI0
  have HA := Lib.hid ha1; have HBb := Lib.hid hb1
  have HP3 := Lib.hid (show 2 < P by omega); have HP9 := Lib.hid (show P ≤ 10000 by omega)
  have hP9 : P ≤ 10000 := by omega
  have hP3 : 2 < P := by omega
  have d3 : ¬ (P : Int) < 3 := by omega
  have d4 : ¬ (10000 : Int) < P := by omega
  have hk0 : (P : Int) ≠ 0 := by omega
  clear hE hC hPr hpb hw hIsP hxa hv0 hv1 hI0 ha0 hb0 ha1 hb1 hw1 hw2
  go_enter Try.func12, Try.ntmps12
  go_upto_region 1 with fail
  obtain ⟨W0, hW0⟩ : ∃ W0 : World, W0 = ((w.alloc (.cells #[.int .i64 a, .int .i64 b] 23)).alloc (.cells #[.int .i64 0, .int .i64 0, .int .i64 0, .int .i64 0] 31)).alloc (.cells #[.int .i64 0, .int .i64 0, .int .i64 0, .int .i64 0] 31) := ⟨_, rfl⟩
  rw [← hW0]
  have HB0 := Lib.hid (show Bx w [(w.heap.size + 2, #[.int .i64 0, .int .i64 0, .int .i64 0, .int .i64 0]), (w.heap.size + 1, #[.int .i64 0, .int .i64 0, .int .i64 0, .int .i64 0]), (w.heap.size, #[.int .i64 a, .int .i64 b])] W0 by rw [hW0]; simpa using (((Bx.nil (Below.refl w.heap.size w)).new #[.int .i64 a, .int .i64 b] 23).new #[.int .i64 0, .int .i64 0, .int .i64 0, .int .i64 0] 31).new #[.int .i64 0, .int .i64 0, .int .i64 0, .int .i64 0] 31)
  clear hW0
  obtain ⟨c2_0, c2_1⟩ := HB0.out.two (List.mem_cons_of_mem _ (List.mem_cons_of_mem _ (List.mem_cons_self ..)))
  go_wp2_with fail
  refine (HC.out _).mono ?_
  rintro e1 w1 ⟨rfl, hbb⟩
  have HB1 := Lib.hid (HB0.out.keep hbb)
  clear c2_0 c2_1
  clear hbb HB0
  obtain ⟨c2_0, c2_1⟩ := HB1.out.two (List.mem_cons_of_mem _ (List.mem_cons_of_mem _ (List.mem_cons_self ..)))
  go_wp2_with fail
  refine (HPr.out _).mono ?_
  rintro e2 w2 ⟨rfl, n2, rfl⟩
  obtain ⟨W2, hW2⟩ : ∃ W2 : World, W2 = w1.drewN n2 := ⟨_, rfl⟩
  rw [← hW2]
  have HB2 := Lib.hid (show Bx w [(w.heap.size + 2, #[.int .i64 0, .int .i64 0, .int .i64 0, .int .i64 0]), (w.heap.size + 1, #[.int .i64 0, .int .i64 0, .int .i64 0, .int .i64 0]), (w.heap.size, #[.int .i64 a, .int .i64 b])] W2 from hW2 ▸ HB1.out.drewN n2)
  clear c2_0 c2_1
  clear hW2 HB1
  obtain ⟨c2_0, c2_1⟩ := HB2.out.two (List.mem_cons_of_mem _ (List.mem_cons_of_mem _ (List.mem_cons_self ..)))
  have hmm := @run_makeMap Try.prog
  go_wp2_with fail
  clear c2_0 c2_1
  clear hmm
  have hlt := HB2.out.lt (List.mem_cons_self ..)
  obtain ⟨g, hg⟩ : ∃ g, W2.heap.size = g := ⟨_, rfl⟩
  have HS0 := Lib.hid (SqMap.made W2 (P : Int))
  have HB3 := Lib.hid (HB2.out.keep ((Below.refl _ _).alloc (Nat.le_refl _) (.map #[] 0)))
  rw [hg] at hlt HS0 ⊢
  obtain ⟨W3, hW3⟩ : ∃ W3 : World, W3 = W2.alloc (.map #[] 0) := ⟨_, rfl⟩
  rw [← hW3] at HB3 HS0 ⊢
  clear hW3 hg HB2
  go_loopw [49] (fun s49 wr => ∃ k : Nat, s49 = .int .i64 k ∧ k ≤ P ∧ SqMap wr g k (P : Int) k ∧ Bx w [(w.heap.size + 2, #[.int .i64 0, .int .i64 0, .int .i64 0, .int .i64 0]), (w.heap.size + 1, #[.int .i64 0, .int .i64 0, .int .i64 0, .int .i64 0]), (w.heap.size, #[.int .i64 a, .int .i64 b])] wr) (fun s _ => P - (intOf s).toNat)
  case atStart => exact ⟨0, rfl, Nat.zero_le _, HS0.out, HB3.out⟩
  case round =>
    obtain ⟨k, rfl, hk, hS, hb⟩ := hrel
    have HS := Lib.hid hS; have HB := Lib.hid hb
    clear hS hb HS0 HB3
    by_cases h0 : k < P
    · obtain ⟨q1, q2⟩ := mulb (x := (k : Int)) (y := (k : Int)) (m := 10000) (n := 10000) (by omega) (by omega)
      simp only [Int.reduceMul] at q1 q2
      have q3 : IntKind.i64.wrap ((k : Int) * k) = (k : Int) * k := wrap_id _ (by omega) (by omega)
      have q4 : (0 : Int) ≤ ((k : Int) * k).tmod P := Int.tmod_nonneg _ (Int.mul_nonneg (by omega) (by omega))
      have q5 := Int.tmod_lt_of_pos ((k : Int) * k) (show (0 : Int) < P by omega)
      have hI : I64 (((k : Int) * k).tmod P) := ⟨by omega, by omega⟩
      clear q1 q2 q4 q5
      go_wp2_with (at_mapUpdate; refine wpList_update_sq _ rfl (.tmp 52) (.tmp 57) (.tmp 58) rfl g k P k rfl HS.out (by unfold maxLen; omega) rfl rfl hI ⟨by omega, by omega⟩ ?_; intro w3 hs3 hg3)
      refine ⟨⟨k + 1, by go_num, by omega, hs3, HB.out.grown hg3 (by omega) (fun x hx => ?_)⟩, by simp [intOf]; omega⟩
      simp only [List.mem_cons, List.not_mem_nil, or_false] at hx
      rcases hx with rfl | rfl | rfl <;> simp only <;> omega
    obtain rfl : k = P := by omega
    clear hk h0
    obtain ⟨c2_0, c2_1⟩ := HB.out.two (List.mem_cons_of_mem _ (List.mem_cons_of_mem _ (List.mem_cons_self ..)))
    go_wp2_with fail
    refine (HM0.out _).mono ?_
    rintro e4 w4 ⟨rfl, n4, rfl⟩
    clear c2_0 c2_1
    have HS4 := Lib.hid (HS.out.keep (below_drewN (Below.refl _ _) n4))
    have HB4 := Lib.hid (HB.out.drewN n4)
    clear HS HB
    obtain ⟨W4, hW4⟩ : ∃ W4 : World, W4 = wr.drewN n4 := ⟨_, rfl⟩
    rw [← hW4] at HS4 HB4 ⊢
    clear hW4
    obtain ⟨c0, f0, hlk, hor⟩ := sq_any HS4.out HI0.out
    have HOr := Lib.hid (show (f0 = true ∧ ∃ u : Nat, u < k ∧ c0 = u ∧ ((u : Int) * u).tmod k = (b + a * ((((0 : Nat) : Int) * ((0 : Nat) : Int)).tmod k)) % k) ∨ (f0 = false ∧ 0 < v0) from by
      rcases hor with ⟨h1, u, h2, h3, h4⟩ | ⟨h1, h2⟩
      · exact .inl ⟨h1, u, h2, h3, by rw [HM1.out]; exact h4⟩
      · exact .inr ⟨h1, Nat.pos_of_ne_zero (fun e => h2 (by have := HV0.out; rw [e] at this; unfold HitAt at this; rwa [HM1.out] at this))⟩)
    have hl := hlk _ (Below.refl _ _)
    clear hlk hor
    go_wp2_with fail
    clear hl
    go_loopw [10, 11, 12] (fun s10 s11 s12 wx => ∃ (v : Nat) (c : Int) (f : Bool), s10 = .int .i64 v ∧ v ≤ v0 ∧ s11 = .int .i64 c ∧ s12 = .bool f ∧ ((f = true ∧ ∃ u : Nat, u < k ∧ c = u ∧ ((u : Int) * u).tmod k = (b + a * (((v : Int) * v).tmod k)) % k) ∨ (f = false ∧ v < v0)) ∧ SqMap wx g k (k : Int) k ∧ Bx w [(w.heap.size + 2, #[.int .i64 0, .int .i64 0, .int .i64 0, .int .i64 0]), (w.heap.size + 1, #[.int .i64 0, .int .i64 0, .int .i64 0, .int .i64 0]), (w.heap.size, #[.int .i64 a, .int .i64 b])] wx) (fun s _ _ _ => v0 - (intOf s).toNat)
    case atStart => exact ⟨0, c0, f0, rfl, Nat.zero_le _, rfl, rfl, HOr.out, HS4.out, HB4.out⟩
    case round =>
      obtain ⟨W6, hW6⟩ : ∃ W6 : World, W6 = wr := ⟨_, rfl⟩
      subst hW6
      obtain ⟨v, c, f, rfl, hv, rfl, rfl, hor, hS, hb⟩ := hrel
      have HS := Lib.hid hS; have HB := Lib.hid hb
      clear hS hb HS4 HB4 HOr
      rcases hor with ⟨rfl, u, hu, rfl, hsq⟩ | ⟨rfl, hv1⟩
      · have HMt := Lib.hid (hit_mats HP3.out HP9.out (show v < k by have := HV1.out; omega) hu hsq)
        clear hsq
        have b1 := HA.out
        have v9 := HP9.out
        have v8 := HV1.out
        obtain ⟨m1, m2⟩ := mulb (x := -a) (y := (v : Int)) (m := 1000) (n := 10000) (by omega) (by omega)
        simp only [Int.reduceMul, Int.reduceNeg] at m1 m2
        have u1 : IntKind.i64.wrap (-a) = -a := wrap_id _ (by omega) (by omega)
        have u2 : IntKind.i64.wrap (-a * v) = -a * v := wrap_id _ (by omega) (by omega)
        have u3 : IntKind.i64.wrap (-(u : Int)) = -(u : Int) := wrap_id _ (by omega) (by omega)
        clear m1 m2 b1
        have hM1 := fun w => amod_b a k w (by omega) (by omega)
        have hM2 := fun w => amod_b (-a * v) k w (by omega) (by omega)
        have hM3 := fun w => amod_b (-(u : Int)) k w (by omega) (by omega)
        have HM1 := Lib.hid hM1; have HM2 := Lib.hid hM2; have HM3 := Lib.hid hM3
        clear hM1 hM2 hM3 v9 v8
        generalize hx1 : a % (k : Int) = x1 at HM1 HMt
        generalize hx2 : (-a * (v : Int)) % (k : Int) = x2 at HM2 HMt
        generalize hx3 : (-(u : Int)) % (k : Int) = x3 at HM3 HMt
        generalize hx4 : b % (k : Int) = x4 at HMt
        have HX1 := Lib.hid hx1.symm; have HX4 := Lib.hid hx4.symm
        clear hx1 hx2 hx3 hx4
        go_upto_region 17 with fail
        refine wp_region_inv (w.heap.size) [(0, 91, .pointer (some ⟨w.heap.size, 0, none⟩)), (1, 92, .int .i64 a), (2, 93, .int .i64 k), (3, 94, .int .i64 x1), (4, 95, .agg #[.int .i64 0, .int .i64 x1, .int .i64 1, .int .i64 0]), (5, 96, .int .i64 u), (6, 97, .pointer (some ⟨w.heap.size, 0, none⟩)), (7, 98, .int .i64 a), (8, 99, .int .i64 (-a)), (9, 100, .int .i64 v), (10, 101, .int .i64 (-a * v)), (11, 102, .int .i64 k), (12, 103, .int .i64 x2), (13, 104, .int .i64 v), (14, 105, .int .i64 u), (15, 106, .int .i64 (-(u : Int))), (16, 107, .int .i64 k), (17, 108, .int .i64 x3), (18, 109, .agg #[.int .i64 u, .int .i64 x2, .int .i64 v, .int .i64 x3]), (21, 6, .int .i64 0)] [] [⟨w.heap.size + 2, 20, #[.int .i64 0, .int .i64 0, .int .i64 0, .int .i64 0], #[.int .i64 u, .int .i64 x2, .int .i64 v, .int .i64 x3]⟩, ⟨w.heap.size + 1, 19, #[.int .i64 0, .int .i64 0, .int .i64 0, .int .i64 0], #[.int .i64 0, .int .i64 x1, .int .i64 1, .int .i64 0]⟩, ⟨w.heap.size, 999, #[.int .i64 a, .int .i64 b], #[.int .i64 a, .int .i64 b]⟩] [91, 92, 93, 94, 95, 96, 97, 98, 99, 100, 101, 102, 103, 104, 105, 106, 107, 108, 109, 6] ?_ (by kernel_rfl) (by kernel_rfl) (by kernel_rfl) ?_ (forall_ops ⟨?_, ?_, ?_, ?_, ?_, ?_, ?_, ?_, ?_, ?_, ?_, ?_, ?_, ?_, ?_, ?_, ?_, ?_, ?_, ?_, ?_, ?_, trivial⟩) ?_
        · exact HB.out.below.size
        · intro c hc
          simp only [List.mem_cons, List.not_mem_nil, or_false] at hc
          rcases hc with rfl | rfl | rfl
          · exact ⟨(HB.out.own _ (List.mem_cons_self ..)).2, .inl (by simp)⟩
          · exact ⟨(HB.out.own _ (List.mem_cons_of_mem _ (List.mem_cons_self ..))).2, .inl (by simp)⟩
          · exact ⟨(HB.out.own _ (List.mem_cons_of_mem _ (List.mem_cons_of_mem _ (List.mem_cons_self ..)))).2, .inr rfl⟩
        · refine .inl ⟨.inl rfl, .inl ⟨.pointer (some ⟨w.heap.size, 0, none⟩), by simp, by simp, by simp, fun y W hB hO hV K Q' hK => ?_⟩⟩
          simp only [fr, putAll, List.foldl_cons, List.foldl_nil, List.setIfInBounds_toArray, List.set_cons_zero, List.set_cons_succ] at hK ⊢
          go_simp
          exact hK W (Below.refl _ _)
        · refine .inl ⟨.inl rfl, .inl ⟨.int .i64 a, by simp, by simp, by simp, fun y W hB hO hV K Q' hK => ?_⟩⟩
          have y91 := hV _ (List.mem_cons_self ..) (by kernel_rfl)
          have hc : Cells W (w.heap.size) #[.int .i64 a, .int .i64 b] := hO _ (List.mem_cons_of_mem _ (List.mem_cons_of_mem _ (List.mem_cons_self ..))) rfl
          have kk := hc.two
          have k0 := kk.1
          have k1 := kk.2
          clear kk
          simp only [fr, putAll, List.foldl_cons, List.foldl_nil, List.setIfInBounds_toArray, List.set_cons_zero, List.set_cons_succ] at hK ⊢
          simp only [y91] at hK ⊢
          go_simp
          exact hK W (Below.refl _ _)
        · refine .inl ⟨.inl rfl, .inl ⟨.int .i64 k, by simp, by simp, by simp, fun y W hB hO hV K Q' hK => ?_⟩⟩
          simp only [fr, putAll, List.foldl_cons, List.foldl_nil, List.setIfInBounds_toArray, List.set_cons_zero, List.set_cons_succ] at hK ⊢
          go_simp
          exact hK W (Below.refl _ _)
        · refine .inl ⟨.inl rfl, .inl ⟨.int .i64 x1, by simp, by simp, by simp, fun y W hB hO hV K Q' hK => ?_⟩⟩
          have y92 := hV _ (List.mem_cons_of_mem _ (List.mem_cons_self ..)) (by kernel_rfl)
          have y93 := hV _ (List.mem_cons_of_mem _ (List.mem_cons_of_mem _ (List.mem_cons_self ..))) (by kernel_rfl)
          simp only [fr, putAll, List.foldl_cons, List.foldl_nil, List.setIfInBounds_toArray, List.set_cons_zero, List.set_cons_succ] at hK ⊢
          simp only [y92, y93] at hK ⊢
          go_simp
          refine (HM1.out _).mono ?_
          intro e w' h
          rw [h.1]
          exact hK w' h.2
        · refine .inl ⟨.inl rfl, .inl ⟨.agg #[.int .i64 0, .int .i64 x1, .int .i64 1, .int .i64 0], by simp, by simp, by simp, fun y W hB hO hV K Q' hK => ?_⟩⟩
          have y94 := hV _ (List.mem_cons_of_mem _ (List.mem_cons_of_mem _ (List.mem_cons_of_mem _ (List.mem_cons_self ..)))) (by kernel_rfl)
          simp only [fr, putAll, List.foldl_cons, List.foldl_nil, List.setIfInBounds_toArray, List.set_cons_zero, List.set_cons_succ] at hK ⊢
          simp only [y94] at hK ⊢
          go_simp
          exact hK W (Below.refl _ _)
        · refine .inl ⟨.inl rfl, .inl ⟨.int .i64 u, by simp, by simp, by simp, fun y W hB hO hV K Q' hK => ?_⟩⟩
          simp only [fr, putAll, List.foldl_cons, List.foldl_nil, List.setIfInBounds_toArray, List.set_cons_zero, List.set_cons_succ] at hK ⊢
          go_simp
          exact hK W (Below.refl _ _)
        · refine .inl ⟨.inl rfl, .inl ⟨.pointer (some ⟨w.heap.size, 0, none⟩), by simp, by simp, by simp, fun y W hB hO hV K Q' hK => ?_⟩⟩
          simp only [fr, putAll, List.foldl_cons, List.foldl_nil, List.setIfInBounds_toArray, List.set_cons_zero, List.set_cons_succ] at hK ⊢
          go_simp
          exact hK W (Below.refl _ _)
        · refine .inl ⟨.inl rfl, .inl ⟨.int .i64 a, by simp, by simp, by simp, fun y W hB hO hV K Q' hK => ?_⟩⟩
          have y97 := hV _ (List.mem_cons_of_mem _ (List.mem_cons_of_mem _ (List.mem_cons_of_mem _ (List.mem_cons_of_mem _ (List.mem_cons_of_mem _ (List.mem_cons_of_mem _ (List.mem_cons_self ..))))))) (by kernel_rfl)
          have hc : Cells W (w.heap.size) #[.int .i64 a, .int .i64 b] := hO _ (List.mem_cons_of_mem _ (List.mem_cons_of_mem _ (List.mem_cons_self ..))) rfl
          have kk := hc.two
          have k0 := kk.1
          have k1 := kk.2
          clear kk
          simp only [fr, putAll, List.foldl_cons, List.foldl_nil, List.setIfInBounds_toArray, List.set_cons_zero, List.set_cons_succ] at hK ⊢
          simp only [y97] at hK ⊢
          go_simp
          exact hK W (Below.refl _ _)
        · refine .inl ⟨.inl rfl, .inl ⟨.int .i64 (-a), by simp, by simp, by simp, fun y W hB hO hV K Q' hK => ?_⟩⟩
          have y98 := hV _ (List.mem_cons_of_mem _ (List.mem_cons_of_mem _ (List.mem_cons_of_mem _ (List.mem_cons_of_mem _ (List.mem_cons_of_mem _ (List.mem_cons_of_mem _ (List.mem_cons_of_mem _ (List.mem_cons_self ..)))))))) (by kernel_rfl)
          simp only [fr, putAll, List.foldl_cons, List.foldl_nil, List.setIfInBounds_toArray, List.set_cons_zero, List.set_cons_succ] at hK ⊢
          simp only [y98] at hK ⊢
          go_simp
          exact hK W (Below.refl _ _)
        · refine .inl ⟨.inl rfl, .inl ⟨.int .i64 v, by simp, by simp, by simp, fun y W hB hO hV K Q' hK => ?_⟩⟩
          simp only [fr, putAll, List.foldl_cons, List.foldl_nil, List.setIfInBounds_toArray, List.set_cons_zero, List.set_cons_succ] at hK ⊢
          go_simp
          exact hK W (Below.refl _ _)
        · refine .inl ⟨.inl rfl, .inl ⟨.int .i64 (-a * v), by simp, by simp, by simp, fun y W hB hO hV K Q' hK => ?_⟩⟩
          have y99 := hV _ (List.mem_cons_of_mem _ (List.mem_cons_of_mem _ (List.mem_cons_of_mem _ (List.mem_cons_of_mem _ (List.mem_cons_of_mem _ (List.mem_cons_of_mem _ (List.mem_cons_of_mem _ (List.mem_cons_of_mem _ (List.mem_cons_self ..))))))))) (by kernel_rfl)
          have y100 := hV _ (List.mem_cons_of_mem _ (List.mem_cons_of_mem _ (List.mem_cons_of_mem _ (List.mem_cons_of_mem _ (List.mem_cons_of_mem _ (List.mem_cons_of_mem _ (List.mem_cons_of_mem _ (List.mem_cons_of_mem _ (List.mem_cons_of_mem _ (List.mem_cons_self ..)))))))))) (by kernel_rfl)
          simp only [fr, putAll, List.foldl_cons, List.foldl_nil, List.setIfInBounds_toArray, List.set_cons_zero, List.set_cons_succ] at hK ⊢
          simp only [y99, y100] at hK ⊢
          go_simp
          exact hK W (Below.refl _ _)
        · refine .inl ⟨.inl rfl, .inl ⟨.int .i64 k, by simp, by simp, by simp, fun y W hB hO hV K Q' hK => ?_⟩⟩
          simp only [fr, putAll, List.foldl_cons, List.foldl_nil, List.setIfInBounds_toArray, List.set_cons_zero, List.set_cons_succ] at hK ⊢
          go_simp
          exact hK W (Below.refl _ _)
        · refine .inl ⟨.inl rfl, .inl ⟨.int .i64 x2, by simp, by simp, by simp, fun y W hB hO hV K Q' hK => ?_⟩⟩
          have y101 := hV _ (List.mem_cons_of_mem _ (List.mem_cons_of_mem _ (List.mem_cons_of_mem _ (List.mem_cons_of_mem _ (List.mem_cons_of_mem _ (List.mem_cons_of_mem _ (List.mem_cons_of_mem _ (List.mem_cons_of_mem _ (List.mem_cons_of_mem _ (List.mem_cons_of_mem _ (List.mem_cons_self ..))))))))))) (by kernel_rfl)
          have y102 := hV _ (List.mem_cons_of_mem _ (List.mem_cons_of_mem _ (List.mem_cons_of_mem _ (List.mem_cons_of_mem _ (List.mem_cons_of_mem _ (List.mem_cons_of_mem _ (List.mem_cons_of_mem _ (List.mem_cons_of_mem _ (List.mem_cons_of_mem _ (List.mem_cons_of_mem _ (List.mem_cons_of_mem _ (List.mem_cons_self ..)))))))))))) (by kernel_rfl)
          simp only [fr, putAll, List.foldl_cons, List.foldl_nil, List.setIfInBounds_toArray, List.set_cons_zero, List.set_cons_succ] at hK ⊢
          simp only [y101, y102] at hK ⊢
          go_simp
          refine (HM2.out _).mono ?_
          intro e w' h
          rw [h.1]
          exact hK w' h.2
        · refine .inl ⟨.inl rfl, .inl ⟨.int .i64 v, by simp, by simp, by simp, fun y W hB hO hV K Q' hK => ?_⟩⟩
          simp only [fr, putAll, List.foldl_cons, List.foldl_nil, List.setIfInBounds_toArray, List.set_cons_zero, List.set_cons_succ] at hK ⊢
          go_simp
          exact hK W (Below.refl _ _)
        · refine .inl ⟨.inl rfl, .inl ⟨.int .i64 u, by simp, by simp, by simp, fun y W hB hO hV K Q' hK => ?_⟩⟩
          simp only [fr, putAll, List.foldl_cons, List.foldl_nil, List.setIfInBounds_toArray, List.set_cons_zero, List.set_cons_succ] at hK ⊢
          go_simp
          exact hK W (Below.refl _ _)
        · refine .inl ⟨.inl rfl, .inl ⟨.int .i64 (-(u : Int)), by simp, by simp, by simp, fun y W hB hO hV K Q' hK => ?_⟩⟩
          have y105 := hV _ (List.mem_cons_of_mem _ (List.mem_cons_of_mem _ (List.mem_cons_of_mem _ (List.mem_cons_of_mem _ (List.mem_cons_of_mem _ (List.mem_cons_of_mem _ (List.mem_cons_of_mem _ (List.mem_cons_of_mem _ (List.mem_cons_of_mem _ (List.mem_cons_of_mem _ (List.mem_cons_of_mem _ (List.mem_cons_of_mem _ (List.mem_cons_of_mem _ (List.mem_cons_of_mem _ (List.mem_cons_self ..))))))))))))))) (by kernel_rfl)
          simp only [fr, putAll, List.foldl_cons, List.foldl_nil, List.setIfInBounds_toArray, List.set_cons_zero, List.set_cons_succ] at hK ⊢
          simp only [y105] at hK ⊢
          go_simp
          exact hK W (Below.refl _ _)
        · refine .inl ⟨.inl rfl, .inl ⟨.int .i64 k, by simp, by simp, by simp, fun y W hB hO hV K Q' hK => ?_⟩⟩
          simp only [fr, putAll, List.foldl_cons, List.foldl_nil, List.setIfInBounds_toArray, List.set_cons_zero, List.set_cons_succ] at hK ⊢
          go_simp
          exact hK W (Below.refl _ _)
        · refine .inl ⟨.inl rfl, .inl ⟨.int .i64 x3, by simp, by simp, by simp, fun y W hB hO hV K Q' hK => ?_⟩⟩
          have y106 := hV _ (List.mem_cons_of_mem _ (List.mem_cons_of_mem _ (List.mem_cons_of_mem _ (List.mem_cons_of_mem _ (List.mem_cons_of_mem _ (List.mem_cons_of_mem _ (List.mem_cons_of_mem _ (List.mem_cons_of_mem _ (List.mem_cons_of_mem _ (List.mem_cons_of_mem _ (List.mem_cons_of_mem _ (List.mem_cons_of_mem _ (List.mem_cons_of_mem _ (List.mem_cons_of_mem _ (List.mem_cons_of_mem _ (List.mem_cons_self ..)))))))))))))))) (by kernel_rfl)
          have y107 := hV _ (List.mem_cons_of_mem _ (List.mem_cons_of_mem _ (List.mem_cons_of_mem _ (List.mem_cons_of_mem _ (List.mem_cons_of_mem _ (List.mem_cons_of_mem _ (List.mem_cons_of_mem _ (List.mem_cons_of_mem _ (List.mem_cons_of_mem _ (List.mem_cons_of_mem _ (List.mem_cons_of_mem _ (List.mem_cons_of_mem _ (List.mem_cons_of_mem _ (List.mem_cons_of_mem _ (List.mem_cons_of_mem _ (List.mem_cons_of_mem _ (List.mem_cons_self ..))))))))))))))))) (by kernel_rfl)
          simp only [fr, putAll, List.foldl_cons, List.foldl_nil, List.setIfInBounds_toArray, List.set_cons_zero, List.set_cons_succ] at hK ⊢
          simp only [y106, y107] at hK ⊢
          go_simp
          refine (HM3.out _).mono ?_
          intro e w' h
          rw [h.1]
          exact hK w' h.2
        · refine .inl ⟨.inl rfl, .inl ⟨.agg #[.int .i64 u, .int .i64 x2, .int .i64 v, .int .i64 x3], by simp, by simp, by simp, fun y W hB hO hV K Q' hK => ?_⟩⟩
          have y96 := hV _ (List.mem_cons_of_mem _ (List.mem_cons_of_mem _ (List.mem_cons_of_mem _ (List.mem_cons_of_mem _ (List.mem_cons_of_mem _ (List.mem_cons_self ..)))))) (by kernel_rfl)
          have y103 := hV _ (List.mem_cons_of_mem _ (List.mem_cons_of_mem _ (List.mem_cons_of_mem _ (List.mem_cons_of_mem _ (List.mem_cons_of_mem _ (List.mem_cons_of_mem _ (List.mem_cons_of_mem _ (List.mem_cons_of_mem _ (List.mem_cons_of_mem _ (List.mem_cons_of_mem _ (List.mem_cons_of_mem _ (List.mem_cons_of_mem _ (List.mem_cons_self ..))))))))))))) (by kernel_rfl)
          have y104 := hV _ (List.mem_cons_of_mem _ (List.mem_cons_of_mem _ (List.mem_cons_of_mem _ (List.mem_cons_of_mem _ (List.mem_cons_of_mem _ (List.mem_cons_of_mem _ (List.mem_cons_of_mem _ (List.mem_cons_of_mem _ (List.mem_cons_of_mem _ (List.mem_cons_of_mem _ (List.mem_cons_of_mem _ (List.mem_cons_of_mem _ (List.mem_cons_of_mem _ (List.mem_cons_self ..)))))))))))))) (by kernel_rfl)
          have y108 := hV _ (List.mem_cons_of_mem _ (List.mem_cons_of_mem _ (List.mem_cons_of_mem _ (List.mem_cons_of_mem _ (List.mem_cons_of_mem _ (List.mem_cons_of_mem _ (List.mem_cons_of_mem _ (List.mem_cons_of_mem _ (List.mem_cons_of_mem _ (List.mem_cons_of_mem _ (List.mem_cons_of_mem _ (List.mem_cons_of_mem _ (List.mem_cons_of_mem _ (List.mem_cons_of_mem _ (List.mem_cons_of_mem _ (List.mem_cons_of_mem _ (List.mem_cons_of_mem _ (List.mem_cons_self ..)))))))))))))))))) (by kernel_rfl)
          simp only [fr, putAll, List.foldl_cons, List.foldl_nil, List.setIfInBounds_toArray, List.set_cons_zero, List.set_cons_succ] at hK ⊢
          simp only [y96, y103, y104, y108] at hK ⊢
          go_simp
          exact hK W (Below.refl _ _)
        · refine .inl ⟨.inl rfl, .inr (.inr (.inr ⟨by simp, by simp, _, (List.mem_cons_of_mem _ (List.mem_cons_self ..)), rfl, ?_, by simp, fun y W hB hV hc K Q' hK => ?_⟩))⟩
          · first | exact Nat.le_refl _ | assumption | omega | (simp; done)
          have y95 := hV _ (List.mem_cons_of_mem _ (List.mem_cons_of_mem _ (List.mem_cons_of_mem _ (List.mem_cons_of_mem _ (List.mem_cons_self ..))))) (by kernel_rfl)
          have kk := hc.four
          have k0 := kk.1
          have k1 := kk.2.1
          have k2 := kk.2.2.1
          have k3 := kk.2.2.2
          clear kk
          have kk := hc.fr
          have f0 := kk.1
          have f1 := kk.2.1
          have f2 := kk.2.2.1
          have f3 := kk.2.2.2.1
          have f4 := kk.2.2.2.2
          clear kk
          dsimp only at k0
          simp only [fr, putAll, List.foldl_cons, List.foldl_nil, List.setIfInBounds_toArray, List.set_cons_zero, List.set_cons_succ] at hK ⊢
          simp only [y95] at hK ⊢
          go_simp
          exact hK _ (hc.put4 (.int .i64 0) (.int .i64 x1) (.int .i64 1) (.int .i64 0)) (Only.put4 ..)
        · refine .inl ⟨.inl rfl, .inr (.inr (.inr ⟨by simp, by simp, _, (List.mem_cons_self ..), rfl, ?_, by simp, fun y W hB hV hc K Q' hK => ?_⟩))⟩
          · first | exact Nat.le_refl _ | assumption | omega | (simp; done)
          have y109 := hV _ (List.mem_cons_of_mem _ (List.mem_cons_of_mem _ (List.mem_cons_of_mem _ (List.mem_cons_of_mem _ (List.mem_cons_of_mem _ (List.mem_cons_of_mem _ (List.mem_cons_of_mem _ (List.mem_cons_of_mem _ (List.mem_cons_of_mem _ (List.mem_cons_of_mem _ (List.mem_cons_of_mem _ (List.mem_cons_of_mem _ (List.mem_cons_of_mem _ (List.mem_cons_of_mem _ (List.mem_cons_of_mem _ (List.mem_cons_of_mem _ (List.mem_cons_of_mem _ (List.mem_cons_of_mem _ (List.mem_cons_self ..))))))))))))))))))) (by kernel_rfl)
          have kk := hc.four
          have k0 := kk.1
          have k1 := kk.2.1
          have k2 := kk.2.2.1
          have k3 := kk.2.2.2
          clear kk
          have kk := hc.fr
          have f0 := kk.1
          have f1 := kk.2.1
          have f2 := kk.2.2.1
          have f3 := kk.2.2.2.1
          have f4 := kk.2.2.2.2
          clear kk
          dsimp only at k0
          simp only [fr, putAll, List.foldl_cons, List.foldl_nil, List.setIfInBounds_toArray, List.set_cons_zero, List.set_cons_succ] at hK ⊢
          simp only [y109] at hK ⊢
          go_simp
          exact hK _ (hc.put4 (.int .i64 u) (.int .i64 x2) (.int .i64 v) (.int .i64 x3)) (Only.put4 ..)
        · refine .inl ⟨.inl rfl, .inl ⟨.int .i64 0, by simp, by simp, by simp, fun y W hB hO hV K Q' hK => ?_⟩⟩
          simp only [fr, putAll, List.foldl_cons, List.foldl_nil, List.setIfInBounds_toArray, List.set_cons_zero, List.set_cons_succ] at hK ⊢
          go_simp
          exact hK W (Below.refl _ _)
        intro y W hB hO hV hX hA
        have y91 := hV _ (List.mem_cons_self ..)
        dsimp only at y91
        have y92 := hV _ (List.mem_cons_of_mem _ (List.mem_cons_self ..))
        dsimp only at y92
        have y93 := hV _ (List.mem_cons_of_mem _ (List.mem_cons_of_mem _ (List.mem_cons_self ..)))
        dsimp only at y93
        have y94 := hV _ (List.mem_cons_of_mem _ (List.mem_cons_of_mem _ (List.mem_cons_of_mem _ (List.mem_cons_self ..))))
        dsimp only at y94
        have y95 := hV _ (List.mem_cons_of_mem _ (List.mem_cons_of_mem _ (List.mem_cons_of_mem _ (List.mem_cons_of_mem _ (List.mem_cons_self ..)))))
        dsimp only at y95
        have y96 := hV _ (List.mem_cons_of_mem _ (List.mem_cons_of_mem _ (List.mem_cons_of_mem _ (List.mem_cons_of_mem _ (List.mem_cons_of_mem _ (List.mem_cons_self ..))))))
        dsimp only at y96
        have y97 := hV _ (List.mem_cons_of_mem _ (List.mem_cons_of_mem _ (List.mem_cons_of_mem _ (List.mem_cons_of_mem _ (List.mem_cons_of_mem _ (List.mem_cons_of_mem _ (List.mem_cons_self ..)))))))
        dsimp only at y97
        have y98 := hV _ (List.mem_cons_of_mem _ (List.mem_cons_of_mem _ (List.mem_cons_of_mem _ (List.mem_cons_of_mem _ (List.mem_cons_of_mem _ (List.mem_cons_of_mem _ (List.mem_cons_of_mem _ (List.mem_cons_self ..))))))))
        dsimp only at y98
        have y99 := hV _ (List.mem_cons_of_mem _ (List.mem_cons_of_mem _ (List.mem_cons_of_mem _ (List.mem_cons_of_mem _ (List.mem_cons_of_mem _ (List.mem_cons_of_mem _ (List.mem_cons_of_mem _ (List.mem_cons_of_mem _ (List.mem_cons_self ..)))))))))
        dsimp only at y99
        have y100 := hV _ (List.mem_cons_of_mem _ (List.mem_cons_of_mem _ (List.mem_cons_of_mem _ (List.mem_cons_of_mem _ (List.mem_cons_of_mem _ (List.mem_cons_of_mem _ (List.mem_cons_of_mem _ (List.mem_cons_of_mem _ (List.mem_cons_of_mem _ (List.mem_cons_self ..))))))))))
        dsimp only at y100
        have y101 := hV _ (List.mem_cons_of_mem _ (List.mem_cons_of_mem _ (List.mem_cons_of_mem _ (List.mem_cons_of_mem _ (List.mem_cons_of_mem _ (List.mem_cons_of_mem _ (List.mem_cons_of_mem _ (List.mem_cons_of_mem _ (List.mem_cons_of_mem _ (List.mem_cons_of_mem _ (List.mem_cons_self ..)))))))))))
        dsimp only at y101
        have y102 := hV _ (List.mem_cons_of_mem _ (List.mem_cons_of_mem _ (List.mem_cons_of_mem _ (List.mem_cons_of_mem _ (List.mem_cons_of_mem _ (List.mem_cons_of_mem _ (List.mem_cons_of_mem _ (List.mem_cons_of_mem _ (List.mem_cons_of_mem _ (List.mem_cons_of_mem _ (List.mem_cons_of_mem _ (List.mem_cons_self ..))))))))))))
        dsimp only at y102
        have y103 := hV _ (List.mem_cons_of_mem _ (List.mem_cons_of_mem _ (List.mem_cons_of_mem _ (List.mem_cons_of_mem _ (List.mem_cons_of_mem _ (List.mem_cons_of_mem _ (List.mem_cons_of_mem _ (List.mem_cons_of_mem _ (List.mem_cons_of_mem _ (List.mem_cons_of_mem _ (List.mem_cons_of_mem _ (List.mem_cons_of_mem _ (List.mem_cons_self ..)))))))))))))
        dsimp only at y103
        have y104 := hV _ (List.mem_cons_of_mem _ (List.mem_cons_of_mem _ (List.mem_cons_of_mem _ (List.mem_cons_of_mem _ (List.mem_cons_of_mem _ (List.mem_cons_of_mem _ (List.mem_cons_of_mem _ (List.mem_cons_of_mem _ (List.mem_cons_of_mem _ (List.mem_cons_of_mem _ (List.mem_cons_of_mem _ (List.mem_cons_of_mem _ (List.mem_cons_of_mem _ (List.mem_cons_self ..))))))))))))))
        dsimp only at y104
        have y105 := hV _ (List.mem_cons_of_mem _ (List.mem_cons_of_mem _ (List.mem_cons_of_mem _ (List.mem_cons_of_mem _ (List.mem_cons_of_mem _ (List.mem_cons_of_mem _ (List.mem_cons_of_mem _ (List.mem_cons_of_mem _ (List.mem_cons_of_mem _ (List.mem_cons_of_mem _ (List.mem_cons_of_mem _ (List.mem_cons_of_mem _ (List.mem_cons_of_mem _ (List.mem_cons_of_mem _ (List.mem_cons_self ..)))))))))))))))
        dsimp only at y105
        have y106 := hV _ (List.mem_cons_of_mem _ (List.mem_cons_of_mem _ (List.mem_cons_of_mem _ (List.mem_cons_of_mem _ (List.mem_cons_of_mem _ (List.mem_cons_of_mem _ (List.mem_cons_of_mem _ (List.mem_cons_of_mem _ (List.mem_cons_of_mem _ (List.mem_cons_of_mem _ (List.mem_cons_of_mem _ (List.mem_cons_of_mem _ (List.mem_cons_of_mem _ (List.mem_cons_of_mem _ (List.mem_cons_of_mem _ (List.mem_cons_self ..))))))))))))))))
        dsimp only at y106
        have y107 := hV _ (List.mem_cons_of_mem _ (List.mem_cons_of_mem _ (List.mem_cons_of_mem _ (List.mem_cons_of_mem _ (List.mem_cons_of_mem _ (List.mem_cons_of_mem _ (List.mem_cons_of_mem _ (List.mem_cons_of_mem _ (List.mem_cons_of_mem _ (List.mem_cons_of_mem _ (List.mem_cons_of_mem _ (List.mem_cons_of_mem _ (List.mem_cons_of_mem _ (List.mem_cons_of_mem _ (List.mem_cons_of_mem _ (List.mem_cons_of_mem _ (List.mem_cons_self ..)))))))))))))))))
        dsimp only at y107
        have y108 := hV _ (List.mem_cons_of_mem _ (List.mem_cons_of_mem _ (List.mem_cons_of_mem _ (List.mem_cons_of_mem _ (List.mem_cons_of_mem _ (List.mem_cons_of_mem _ (List.mem_cons_of_mem _ (List.mem_cons_of_mem _ (List.mem_cons_of_mem _ (List.mem_cons_of_mem _ (List.mem_cons_of_mem _ (List.mem_cons_of_mem _ (List.mem_cons_of_mem _ (List.mem_cons_of_mem _ (List.mem_cons_of_mem _ (List.mem_cons_of_mem _ (List.mem_cons_of_mem _ (List.mem_cons_self ..))))))))))))))))))
        dsimp only at y108
        have y109 := hV _ (List.mem_cons_of_mem _ (List.mem_cons_of_mem _ (List.mem_cons_of_mem _ (List.mem_cons_of_mem _ (List.mem_cons_of_mem _ (List.mem_cons_of_mem _ (List.mem_cons_of_mem _ (List.mem_cons_of_mem _ (List.mem_cons_of_mem _ (List.mem_cons_of_mem _ (List.mem_cons_of_mem _ (List.mem_cons_of_mem _ (List.mem_cons_of_mem _ (List.mem_cons_of_mem _ (List.mem_cons_of_mem _ (List.mem_cons_of_mem _ (List.mem_cons_of_mem _ (List.mem_cons_of_mem _ (List.mem_cons_self ..)))))))))))))))))))
        dsimp only at y109
        have y6 := hV _ (List.mem_cons_of_mem _ (List.mem_cons_of_mem _ (List.mem_cons_of_mem _ (List.mem_cons_of_mem _ (List.mem_cons_of_mem _ (List.mem_cons_of_mem _ (List.mem_cons_of_mem _ (List.mem_cons_of_mem _ (List.mem_cons_of_mem _ (List.mem_cons_of_mem _ (List.mem_cons_of_mem _ (List.mem_cons_of_mem _ (List.mem_cons_of_mem _ (List.mem_cons_of_mem _ (List.mem_cons_of_mem _ (List.mem_cons_of_mem _ (List.mem_cons_of_mem _ (List.mem_cons_of_mem _ (List.mem_cons_of_mem _ (List.mem_cons_self ..))))))))))))))))))))
        dsimp only at y6
        have ho0 := hO _ (List.mem_cons_self ..)
        have ho1 := hO _ (List.mem_cons_of_mem _ (List.mem_cons_self ..))
        have ho2 := hO _ (List.mem_cons_of_mem _ (List.mem_cons_of_mem _ (List.mem_cons_self ..)))
        dsimp only at ho0 ho1 ho2
        have HB7 := Lib.hid (show Bx w [(w.heap.size + 2, #[.int .i64 u, .int .i64 x2, .int .i64 v, .int .i64 x3]), (w.heap.size + 1, #[.int .i64 0, .int .i64 x1, .int .i64 1, .int .i64 0]), (w.heap.size, #[.int .i64 a, .int .i64 b])] W from ((((Bx.nil (HB.out.below.trans hB)).cons (HB.out.own _ (List.mem_cons_of_mem _ (List.mem_cons_of_mem _ (List.mem_cons_self ..)))).1 ho2).cons (HB.out.own _ (List.mem_cons_of_mem _ (List.mem_cons_self ..))).1 ho1).cons (HB.out.own _ (List.mem_cons_self ..)).1 ho0))
        simp only [fr, putAll, List.foldl_cons, List.foldl_nil, List.setIfInBounds_toArray, List.set_cons_zero, List.set_cons_succ]
        simp only [y91, y92, y93, y94, y95, y96, y97, y98, y99, y100, y101, y102, y103, y104, y105, y106, y107, y108, y109, y6]
        clear y91 y92 y93 y94 y95 y96 y97 y98 y99 y100 y101 y102 y103 y104 y105 y106 y107 y108 y109 y6  hB hO hV hX hA ho0 ho1 ho2
        obtain ⟨i0, i1, i2, i3⟩ := HB7.out.four (List.mem_cons_of_mem _ (List.mem_cons_self ..))
        obtain ⟨j0, j1, j2, j3⟩ := HB7.out.four (List.mem_cons_self ..)
        go_wp2_with fail
        refine bodyPost_ret (v := .tuple #[.agg #[.int .i64 0, .int .i64 x1, .int .i64 1, .int .i64 0], .agg #[.int .i64 u, .int .i64 x2, .int .i64 v, .int .i64 x3], .int .i64 0]) (by simp [results, Try.results12, go_sem, i0, i1, i2, i3, j0, j1, j2, j3]) rfl ?_
        exact ⟨_, _, _, _, _, _, HMt.out, HX1.out, HX4.out, rfl, HB7.out.below⟩
      · have b1 := HA.out
        have b2 := HBb.out
        have v9 := HP9.out
        have v8 := HV1.out
        obtain ⟨q1, q2⟩ := mulb (x := (((v + 1 : Nat) : Int))) (y := ((v + 1 : Nat) : Int)) (m := 10000) (n := 10000) (by omega) (by omega)
        simp only [Int.reduceMul] at q1 q2
        have q3 : (0 : Int) ≤ (((v + 1 : Nat) : Int) * ((v + 1 : Nat) : Int)).tmod k := Int.tmod_nonneg _ (Int.mul_nonneg (by omega) (by omega))
        have q4 := Int.tmod_lt_of_pos (((v + 1 : Nat) : Int) * ((v + 1 : Nat) : Int)) (show (0 : Int) < k by omega)
        have e0 : IntKind.i64.wrap ((v : Int) + 1) = ((v + 1 : Nat) : Int) := wrap_id _ (by omega) (by omega)
        have HHit := Lib.hid (show HitAt a b k (v + 1) ↔ ∃ u : Nat, u < k ∧ ((u : Int) * u).tmod k = (b + a * ((((v + 1 : Nat) : Int) * ((v + 1 : Nat) : Int)).tmod k)) % k from Iff.rfl)
        have hz1 : ((v + 1 : Nat) : Int) ≤ 10000 ∧ (0 : Int) ≤ ((v + 1 : Nat) : Int) := ⟨by omega, by omega⟩
        have hvv : v + 1 ≤ v0 := by omega
        have hmz : v0 - (v + 1) < v0 - v := by omega
        generalize v + 1 = z at *
        have e1 : IntKind.i64.wrap ((z : Int) * z) = (z : Int) * z := wrap_id _ (by omega) (by omega)
        obtain ⟨r, hr⟩ : ∃ r : Int, ((z : Int) * z).tmod k = r := ⟨_, rfl⟩
        rw [hr] at q3 q4 HHit
        have HR := Lib.hid hr
        obtain ⟨m1, m2⟩ := mulb (x := a) (y := r) (m := 1000) (n := 10000) (by omega) (by omega)
        simp only [Int.reduceMul, Int.reduceNeg] at m1 m2
        have e2 : IntKind.i64.wrap (a * r) = a * r := wrap_id _ (by omega) (by omega)
        have e3 : IntKind.i64.wrap (b + a * r) = b + a * r := wrap_id _ (by omega) (by omega)
        have hM := fun w => amod_b (b + a * r) k w (by omega) (by omega)
        have hI : I64 ((b + a * r) % (k : Int)) := by have h5 := Int.emod_nonneg (b + a * r) (show (k : Int) ≠ 0 by omega); have h6 := Int.emod_lt_of_pos (b + a * r) (show (0 : Int) < k by omega); exact ⟨by omega, by omega⟩
        have HM := Lib.hid hM; have HI := Lib.hid hI
        clear hM hI m1 m2 q1 q2 q3 q4 b1 b2 v9 v8 hz1
        generalize hQe : (b + a * r) % (k : Int) = Q at *
        have HQe := Lib.hid hQe
        clear hQe
        have hk0 : ((k : Int) == 0) = false := f_beq (by omega)
        obtain ⟨c2, f2, hlk, ho⟩ := sq_any HS.out HI.out
        have HL := Lib.hid hlk
        have HO := Lib.hid (show (f2 = true ∧ ∃ u : Nat, u < k ∧ c2 = u ∧ ((u : Int) * u).tmod k = (b + a * (((z : Int) * z).tmod k)) % k) ∨ (f2 = false ∧ z < v0) from by
          rcases ho with ⟨h1, u, h2, h3, h4⟩ | ⟨h1, h2⟩
          · exact .inl ⟨h1, u, h2, h3, by rw [HR.out, HQe.out]; exact h4⟩
          · exact .inr ⟨h1, Nat.lt_of_le_of_ne hvv (fun e => h2 (HHit.out.1 (by rw [e]; exact HV0.out)))⟩)
        clear hlk ho HI
        go_upto_region 16 with fail
        refine wp_region_inv (W6.heap.size) [(0, 74, .map (some g)), (1, 75, .pointer (some ⟨w.heap.size, 1, none⟩)), (2, 76, .int .i64 b), (3, 77, .pointer (some ⟨w.heap.size, 0, none⟩)), (4, 78, .int .i64 a), (5, 79, .int .i64 z), (6, 80, .int .i64 z), (7, 81, .int .i64 (z * z)), (8, 82, .int .i64 k), (9, 83, .int .i64 r), (10, 84, .int .i64 (a * r)), (11, 85, .int .i64 (b + a * r)), (12, 86, .int .i64 k), (13, 87, .int .i64 Q), (14, 88, .tuple #[.int .i64 c2, .bool f2]), (15, 73, .tuple #[.int .i64 c2, .bool f2]), (16, 89, .int .i64 c2), (17, 90, .bool f2), (18, 11, .int .i64 c2), (19, 12, .bool f2)] [] [⟨w.heap.size + 2, 999, #[.int .i64 0, .int .i64 0, .int .i64 0, .int .i64 0], #[.int .i64 0, .int .i64 0, .int .i64 0, .int .i64 0]⟩, ⟨w.heap.size + 1, 999, #[.int .i64 0, .int .i64 0, .int .i64 0, .int .i64 0], #[.int .i64 0, .int .i64 0, .int .i64 0, .int .i64 0]⟩, ⟨w.heap.size, 999, #[.int .i64 a, .int .i64 b], #[.int .i64 a, .int .i64 b]⟩] [74, 75, 76, 77, 78, 79, 80, 81, 82, 83, 84, 85, 86, 87, 88, 73, 89, 90, 11, 12] ?_ (by kernel_rfl) (by kernel_rfl) (by kernel_rfl) ?_ (forall_ops ⟨?_, ?_, ?_, ?_, ?_, ?_, ?_, ?_, ?_, ?_, ?_, ?_, ?_, ?_, ?_, ?_, ?_, ?_, ?_, ?_, trivial⟩) ?_
        · exact Nat.le_refl _
        · intro c hc
          simp only [List.mem_cons, List.not_mem_nil, or_false] at hc
          rcases hc with rfl | rfl | rfl
          · exact ⟨(HB.out.own _ (List.mem_cons_self ..)).2, .inr rfl⟩
          · exact ⟨(HB.out.own _ (List.mem_cons_of_mem _ (List.mem_cons_self ..))).2, .inr rfl⟩
          · exact ⟨(HB.out.own _ (List.mem_cons_of_mem _ (List.mem_cons_of_mem _ (List.mem_cons_self ..)))).2, .inr rfl⟩
        · refine .inl ⟨.inl rfl, .inl ⟨.map (some g), by simp, by simp, by simp, fun y W hB hO hV K Q' hK => ?_⟩⟩
          simp only [fr, putAll, List.foldl_cons, List.foldl_nil, List.setIfInBounds_toArray, List.set_cons_zero, List.set_cons_succ] at hK ⊢
          go_simp
          exact hK W (Below.refl _ _)
        · refine .inl ⟨.inl rfl, .inl ⟨.pointer (some ⟨w.heap.size, 1, none⟩), by simp, by simp, by simp, fun y W hB hO hV K Q' hK => ?_⟩⟩
          simp only [fr, putAll, List.foldl_cons, List.foldl_nil, List.setIfInBounds_toArray, List.set_cons_zero, List.set_cons_succ] at hK ⊢
          go_simp
          exact hK W (Below.refl _ _)
        · refine .inl ⟨.inl rfl, .inl ⟨.int .i64 b, by simp, by simp, by simp, fun y W hB hO hV K Q' hK => ?_⟩⟩
          have y75 := hV _ (List.mem_cons_of_mem _ (List.mem_cons_self ..)) (by kernel_rfl)
          have hc : Cells W (w.heap.size) #[.int .i64 a, .int .i64 b] := hO _ (List.mem_cons_of_mem _ (List.mem_cons_of_mem _ (List.mem_cons_self ..))) rfl
          have kk := hc.two
          have k0 := kk.1
          have k1 := kk.2
          clear kk
          simp only [fr, putAll, List.foldl_cons, List.foldl_nil, List.setIfInBounds_toArray, List.set_cons_zero, List.set_cons_succ] at hK ⊢
          simp only [y75] at hK ⊢
          go_simp
          exact hK W (Below.refl _ _)
        · refine .inl ⟨.inl rfl, .inl ⟨.pointer (some ⟨w.heap.size, 0, none⟩), by simp, by simp, by simp, fun y W hB hO hV K Q' hK => ?_⟩⟩
          simp only [fr, putAll, List.foldl_cons, List.foldl_nil, List.setIfInBounds_toArray, List.set_cons_zero, List.set_cons_succ] at hK ⊢
          go_simp
          exact hK W (Below.refl _ _)
        · refine .inl ⟨.inl rfl, .inl ⟨.int .i64 a, by simp, by simp, by simp, fun y W hB hO hV K Q' hK => ?_⟩⟩
          have y77 := hV _ (List.mem_cons_of_mem _ (List.mem_cons_of_mem _ (List.mem_cons_of_mem _ (List.mem_cons_self ..)))) (by kernel_rfl)
          have hc : Cells W (w.heap.size) #[.int .i64 a, .int .i64 b] := hO _ (List.mem_cons_of_mem _ (List.mem_cons_of_mem _ (List.mem_cons_self ..))) rfl
          have kk := hc.two
          have k0 := kk.1
          have k1 := kk.2
          clear kk
          simp only [fr, putAll, List.foldl_cons, List.foldl_nil, List.setIfInBounds_toArray, List.set_cons_zero, List.set_cons_succ] at hK ⊢
          simp only [y77] at hK ⊢
          go_simp
          exact hK W (Below.refl _ _)
        · refine .inl ⟨.inl rfl, .inl ⟨.int .i64 z, by simp, by simp, by simp, fun y W hB hO hV K Q' hK => ?_⟩⟩
          simp only [fr, putAll, List.foldl_cons, List.foldl_nil, List.setIfInBounds_toArray, List.set_cons_zero, List.set_cons_succ] at hK ⊢
          go_simp
          exact hK W (Below.refl _ _)
        · refine .inl ⟨.inl rfl, .inl ⟨.int .i64 z, by simp, by simp, by simp, fun y W hB hO hV K Q' hK => ?_⟩⟩
          simp only [fr, putAll, List.foldl_cons, List.foldl_nil, List.setIfInBounds_toArray, List.set_cons_zero, List.set_cons_succ] at hK ⊢
          go_simp
          exact hK W (Below.refl _ _)
        · refine .inl ⟨.inl rfl, .inl ⟨.int .i64 (z * z), by simp, by simp, by simp, fun y W hB hO hV K Q' hK => ?_⟩⟩
          have y79 := hV _ (List.mem_cons_of_mem _ (List.mem_cons_of_mem _ (List.mem_cons_of_mem _ (List.mem_cons_of_mem _ (List.mem_cons_of_mem _ (List.mem_cons_self ..)))))) (by kernel_rfl)
          have y80 := hV _ (List.mem_cons_of_mem _ (List.mem_cons_of_mem _ (List.mem_cons_of_mem _ (List.mem_cons_of_mem _ (List.mem_cons_of_mem _ (List.mem_cons_of_mem _ (List.mem_cons_self ..))))))) (by kernel_rfl)
          simp only [fr, putAll, List.foldl_cons, List.foldl_nil, List.setIfInBounds_toArray, List.set_cons_zero, List.set_cons_succ] at hK ⊢
          simp only [y79, y80] at hK ⊢
          go_simp
          exact hK W (Below.refl _ _)
        · refine .inl ⟨.inl rfl, .inl ⟨.int .i64 k, by simp, by simp, by simp, fun y W hB hO hV K Q' hK => ?_⟩⟩
          simp only [fr, putAll, List.foldl_cons, List.foldl_nil, List.setIfInBounds_toArray, List.set_cons_zero, List.set_cons_succ] at hK ⊢
          go_simp
          exact hK W (Below.refl _ _)
        · refine .inl ⟨.inl rfl, .inl ⟨.int .i64 r, by simp, by simp, by simp, fun y W hB hO hV K Q' hK => ?_⟩⟩
          have y81 := hV _ (List.mem_cons_of_mem _ (List.mem_cons_of_mem _ (List.mem_cons_of_mem _ (List.mem_cons_of_mem _ (List.mem_cons_of_mem _ (List.mem_cons_of_mem _ (List.mem_cons_of_mem _ (List.mem_cons_self ..)))))))) (by kernel_rfl)
          have y82 := hV _ (List.mem_cons_of_mem _ (List.mem_cons_of_mem _ (List.mem_cons_of_mem _ (List.mem_cons_of_mem _ (List.mem_cons_of_mem _ (List.mem_cons_of_mem _ (List.mem_cons_of_mem _ (List.mem_cons_of_mem _ (List.mem_cons_self ..))))))))) (by kernel_rfl)
          simp only [fr, putAll, List.foldl_cons, List.foldl_nil, List.setIfInBounds_toArray, List.set_cons_zero, List.set_cons_succ] at hK ⊢
          simp only [y81, y82] at hK ⊢
          go_simp
          exact hK W (Below.refl _ _)
        · refine .inl ⟨.inl rfl, .inl ⟨.int .i64 (a * r), by simp, by simp, by simp, fun y W hB hO hV K Q' hK => ?_⟩⟩
          have y78 := hV _ (List.mem_cons_of_mem _ (List.mem_cons_of_mem _ (List.mem_cons_of_mem _ (List.mem_cons_of_mem _ (List.mem_cons_self ..))))) (by kernel_rfl)
          have y83 := hV _ (List.mem_cons_of_mem _ (List.mem_cons_of_mem _ (List.mem_cons_of_mem _ (List.mem_cons_of_mem _ (List.mem_cons_of_mem _ (List.mem_cons_of_mem _ (List.mem_cons_of_mem _ (List.mem_cons_of_mem _ (List.mem_cons_of_mem _ (List.mem_cons_self ..)))))))))) (by kernel_rfl)
          simp only [fr, putAll, List.foldl_cons, List.foldl_nil, List.setIfInBounds_toArray, List.set_cons_zero, List.set_cons_succ] at hK ⊢
          simp only [y78, y83] at hK ⊢
          go_simp
          exact hK W (Below.refl _ _)
        · refine .inl ⟨.inl rfl, .inl ⟨.int .i64 (b + a * r), by simp, by simp, by simp, fun y W hB hO hV K Q' hK => ?_⟩⟩
          have y76 := hV _ (List.mem_cons_of_mem _ (List.mem_cons_of_mem _ (List.mem_cons_self ..))) (by kernel_rfl)
          have y84 := hV _ (List.mem_cons_of_mem _ (List.mem_cons_of_mem _ (List.mem_cons_of_mem _ (List.mem_cons_of_mem _ (List.mem_cons_of_mem _ (List.mem_cons_of_mem _ (List.mem_cons_of_mem _ (List.mem_cons_of_mem _ (List.mem_cons_of_mem _ (List.mem_cons_of_mem _ (List.mem_cons_self ..))))))))))) (by kernel_rfl)
          simp only [fr, putAll, List.foldl_cons, List.foldl_nil, List.setIfInBounds_toArray, List.set_cons_zero, List.set_cons_succ] at hK ⊢
          simp only [y76, y84] at hK ⊢
          go_simp
          exact hK W (Below.refl _ _)
        · refine .inl ⟨.inl rfl, .inl ⟨.int .i64 k, by simp, by simp, by simp, fun y W hB hO hV K Q' hK => ?_⟩⟩
          simp only [fr, putAll, List.foldl_cons, List.foldl_nil, List.setIfInBounds_toArray, List.set_cons_zero, List.set_cons_succ] at hK ⊢
          go_simp
          exact hK W (Below.refl _ _)
        · refine .inl ⟨.inl rfl, .inl ⟨.int .i64 Q, by simp, by simp, by simp, fun y W hB hO hV K Q' hK => ?_⟩⟩
          have y85 := hV _ (List.mem_cons_of_mem _ (List.mem_cons_of_mem _ (List.mem_cons_of_mem _ (List.mem_cons_of_mem _ (List.mem_cons_of_mem _ (List.mem_cons_of_mem _ (List.mem_cons_of_mem _ (List.mem_cons_of_mem _ (List.mem_cons_of_mem _ (List.mem_cons_of_mem _ (List.mem_cons_of_mem _ (List.mem_cons_self ..)))))))))))) (by kernel_rfl)
          have y86 := hV _ (List.mem_cons_of_mem _ (List.mem_cons_of_mem _ (List.mem_cons_of_mem _ (List.mem_cons_of_mem _ (List.mem_cons_of_mem _ (List.mem_cons_of_mem _ (List.mem_cons_of_mem _ (List.mem_cons_of_mem _ (List.mem_cons_of_mem _ (List.mem_cons_of_mem _ (List.mem_cons_of_mem _ (List.mem_cons_of_mem _ (List.mem_cons_self ..))))))))))))) (by kernel_rfl)
          simp only [fr, putAll, List.foldl_cons, List.foldl_nil, List.setIfInBounds_toArray, List.set_cons_zero, List.set_cons_succ] at hK ⊢
          simp only [y85, y86] at hK ⊢
          go_simp
          refine (HM.out _).mono ?_
          intro e w' h
          rw [h.1]
          exact hK w' h.2
        · refine .inl ⟨.inl rfl, .inl ⟨.tuple #[.int .i64 c2, .bool f2], by simp, by simp, by simp, fun y W hB hO hV K Q' hK => ?_⟩⟩
          have y74 := hV _ (List.mem_cons_self ..) (by kernel_rfl)
          have y87 := hV _ (List.mem_cons_of_mem _ (List.mem_cons_of_mem _ (List.mem_cons_of_mem _ (List.mem_cons_of_mem _ (List.mem_cons_of_mem _ (List.mem_cons_of_mem _ (List.mem_cons_of_mem _ (List.mem_cons_of_mem _ (List.mem_cons_of_mem _ (List.mem_cons_of_mem _ (List.mem_cons_of_mem _ (List.mem_cons_of_mem _ (List.mem_cons_of_mem _ (List.mem_cons_self ..)))))))))))))) (by kernel_rfl)
          have hl := HL.out W hB
          simp only [fr, putAll, List.foldl_cons, List.foldl_nil, List.setIfInBounds_toArray, List.set_cons_zero, List.set_cons_succ] at hK ⊢
          simp only [y74, y87] at hK ⊢
          go_simp
          exact hK W (Below.refl _ _)
        · refine .inl ⟨.inl rfl, .inl ⟨.tuple #[.int .i64 c2, .bool f2], by simp, by simp, by simp, fun y W hB hO hV K Q' hK => ?_⟩⟩
          have y88 := hV _ (List.mem_cons_of_mem _ (List.mem_cons_of_mem _ (List.mem_cons_of_mem _ (List.mem_cons_of_mem _ (List.mem_cons_of_mem _ (List.mem_cons_of_mem _ (List.mem_cons_of_mem _ (List.mem_cons_of_mem _ (List.mem_cons_of_mem _ (List.mem_cons_of_mem _ (List.mem_cons_of_mem _ (List.mem_cons_of_mem _ (List.mem_cons_of_mem _ (List.mem_cons_of_mem _ (List.mem_cons_self ..))))))))))))))) (by kernel_rfl)
          simp only [fr, putAll, List.foldl_cons, List.foldl_nil, List.setIfInBounds_toArray, List.set_cons_zero, List.set_cons_succ] at hK ⊢
          simp only [y88] at hK ⊢
          go_simp
          exact hK W (Below.refl _ _)
        · refine .inl ⟨.inl rfl, .inl ⟨.int .i64 c2, by simp, by simp, by simp, fun y W hB hO hV K Q' hK => ?_⟩⟩
          have y73 := hV _ (List.mem_cons_of_mem _ (List.mem_cons_of_mem _ (List.mem_cons_of_mem _ (List.mem_cons_of_mem _ (List.mem_cons_of_mem _ (List.mem_cons_of_mem _ (List.mem_cons_of_mem _ (List.mem_cons_of_mem _ (List.mem_cons_of_mem _ (List.mem_cons_of_mem _ (List.mem_cons_of_mem _ (List.mem_cons_of_mem _ (List.mem_cons_of_mem _ (List.mem_cons_of_mem _ (List.mem_cons_of_mem _ (List.mem_cons_self ..)))))))))))))))) (by kernel_rfl)
          simp only [fr, putAll, List.foldl_cons, List.foldl_nil, List.setIfInBounds_toArray, List.set_cons_zero, List.set_cons_succ] at hK ⊢
          simp only [y73] at hK ⊢
          go_simp
          exact hK W (Below.refl _ _)
        · refine .inl ⟨.inl rfl, .inl ⟨.bool f2, by simp, by simp, by simp, fun y W hB hO hV K Q' hK => ?_⟩⟩
          have y73 := hV _ (List.mem_cons_of_mem _ (List.mem_cons_of_mem _ (List.mem_cons_of_mem _ (List.mem_cons_of_mem _ (List.mem_cons_of_mem _ (List.mem_cons_of_mem _ (List.mem_cons_of_mem _ (List.mem_cons_of_mem _ (List.mem_cons_of_mem _ (List.mem_cons_of_mem _ (List.mem_cons_of_mem _ (List.mem_cons_of_mem _ (List.mem_cons_of_mem _ (List.mem_cons_of_mem _ (List.mem_cons_of_mem _ (List.mem_cons_self ..)))))))))))))))) (by kernel_rfl)
          simp only [fr, putAll, List.foldl_cons, List.foldl_nil, List.setIfInBounds_toArray, List.set_cons_zero, List.set_cons_succ] at hK ⊢
          simp only [y73] at hK ⊢
          go_simp
          exact hK W (Below.refl _ _)
        · refine .inl ⟨.inl rfl, .inl ⟨.int .i64 c2, by simp, by simp, by simp, fun y W hB hO hV K Q' hK => ?_⟩⟩
          have y89 := hV _ (List.mem_cons_of_mem _ (List.mem_cons_of_mem _ (List.mem_cons_of_mem _ (List.mem_cons_of_mem _ (List.mem_cons_of_mem _ (List.mem_cons_of_mem _ (List.mem_cons_of_mem _ (List.mem_cons_of_mem _ (List.mem_cons_of_mem _ (List.mem_cons_of_mem _ (List.mem_cons_of_mem _ (List.mem_cons_of_mem _ (List.mem_cons_of_mem _ (List.mem_cons_of_mem _ (List.mem_cons_of_mem _ (List.mem_cons_of_mem _ (List.mem_cons_self ..))))))))))))))))) (by kernel_rfl)
          simp only [fr, putAll, List.foldl_cons, List.foldl_nil, List.setIfInBounds_toArray, List.set_cons_zero, List.set_cons_succ] at hK ⊢
          simp only [y89] at hK ⊢
          go_simp
          exact hK W (Below.refl _ _)
        · refine .inl ⟨.inl rfl, .inl ⟨.bool f2, by simp, by simp, by simp, fun y W hB hO hV K Q' hK => ?_⟩⟩
          have y90 := hV _ (List.mem_cons_of_mem _ (List.mem_cons_of_mem _ (List.mem_cons_of_mem _ (List.mem_cons_of_mem _ (List.mem_cons_of_mem _ (List.mem_cons_of_mem _ (List.mem_cons_of_mem _ (List.mem_cons_of_mem _ (List.mem_cons_of_mem _ (List.mem_cons_of_mem _ (List.mem_cons_of_mem _ (List.mem_cons_of_mem _ (List.mem_cons_of_mem _ (List.mem_cons_of_mem _ (List.mem_cons_of_mem _ (List.mem_cons_of_mem _ (List.mem_cons_of_mem _ (List.mem_cons_self ..)))))))))))))))))) (by kernel_rfl)
          simp only [fr, putAll, List.foldl_cons, List.foldl_nil, List.setIfInBounds_toArray, List.set_cons_zero, List.set_cons_succ] at hK ⊢
          simp only [y90] at hK ⊢
          go_simp
          exact hK W (Below.refl _ _)
        intro y W7 hB hO hV hX hA
        have y74 := hV _ (List.mem_cons_self ..)
        dsimp only at y74
        have y75 := hV _ (List.mem_cons_of_mem _ (List.mem_cons_self ..))
        dsimp only at y75
        have y76 := hV _ (List.mem_cons_of_mem _ (List.mem_cons_of_mem _ (List.mem_cons_self ..)))
        dsimp only at y76
        have y77 := hV _ (List.mem_cons_of_mem _ (List.mem_cons_of_mem _ (List.mem_cons_of_mem _ (List.mem_cons_self ..))))
        dsimp only at y77
        have y78 := hV _ (List.mem_cons_of_mem _ (List.mem_cons_of_mem _ (List.mem_cons_of_mem _ (List.mem_cons_of_mem _ (List.mem_cons_self ..)))))
        dsimp only at y78
        have y79 := hV _ (List.mem_cons_of_mem _ (List.mem_cons_of_mem _ (List.mem_cons_of_mem _ (List.mem_cons_of_mem _ (List.mem_cons_of_mem _ (List.mem_cons_self ..))))))
        dsimp only at y79
        have y80 := hV _ (List.mem_cons_of_mem _ (List.mem_cons_of_mem _ (List.mem_cons_of_mem _ (List.mem_cons_of_mem _ (List.mem_cons_of_mem _ (List.mem_cons_of_mem _ (List.mem_cons_self ..)))))))
        dsimp only at y80
        have y81 := hV _ (List.mem_cons_of_mem _ (List.mem_cons_of_mem _ (List.mem_cons_of_mem _ (List.mem_cons_of_mem _ (List.mem_cons_of_mem _ (List.mem_cons_of_mem _ (List.mem_cons_of_mem _ (List.mem_cons_self ..))))))))
        dsimp only at y81
        have y82 := hV _ (List.mem_cons_of_mem _ (List.mem_cons_of_mem _ (List.mem_cons_of_mem _ (List.mem_cons_of_mem _ (List.mem_cons_of_mem _ (List.mem_cons_of_mem _ (List.mem_cons_of_mem _ (List.mem_cons_of_mem _ (List.mem_cons_self ..)))))))))
        dsimp only at y82
        have y83 := hV _ (List.mem_cons_of_mem _ (List.mem_cons_of_mem _ (List.mem_cons_of_mem _ (List.mem_cons_of_mem _ (List.mem_cons_of_mem _ (List.mem_cons_of_mem _ (List.mem_cons_of_mem _ (List.mem_cons_of_mem _ (List.mem_cons_of_mem _ (List.mem_cons_self ..))))))))))
        dsimp only at y83
        have y84 := hV _ (List.mem_cons_of_mem _ (List.mem_cons_of_mem _ (List.mem_cons_of_mem _ (List.mem_cons_of_mem _ (List.mem_cons_of_mem _ (List.mem_cons_of_mem _ (List.mem_cons_of_mem _ (List.mem_cons_of_mem _ (List.mem_cons_of_mem _ (List.mem_cons_of_mem _ (List.mem_cons_self ..)))))))))))
        dsimp only at y84
        have y85 := hV _ (List.mem_cons_of_mem _ (List.mem_cons_of_mem _ (List.mem_cons_of_mem _ (List.mem_cons_of_mem _ (List.mem_cons_of_mem _ (List.mem_cons_of_mem _ (List.mem_cons_of_mem _ (List.mem_cons_of_mem _ (List.mem_cons_of_mem _ (List.mem_cons_of_mem _ (List.mem_cons_of_mem _ (List.mem_cons_self ..))))))))))))
        dsimp only at y85
        have y86 := hV _ (List.mem_cons_of_mem _ (List.mem_cons_of_mem _ (List.mem_cons_of_mem _ (List.mem_cons_of_mem _ (List.mem_cons_of_mem _ (List.mem_cons_of_mem _ (List.mem_cons_of_mem _ (List.mem_cons_of_mem _ (List.mem_cons_of_mem _ (List.mem_cons_of_mem _ (List.mem_cons_of_mem _ (List.mem_cons_of_mem _ (List.mem_cons_self ..)))))))))))))
        dsimp only at y86
        have y87 := hV _ (List.mem_cons_of_mem _ (List.mem_cons_of_mem _ (List.mem_cons_of_mem _ (List.mem_cons_of_mem _ (List.mem_cons_of_mem _ (List.mem_cons_of_mem _ (List.mem_cons_of_mem _ (List.mem_cons_of_mem _ (List.mem_cons_of_mem _ (List.mem_cons_of_mem _ (List.mem_cons_of_mem _ (List.mem_cons_of_mem _ (List.mem_cons_of_mem _ (List.mem_cons_self ..))))))))))))))
        dsimp only at y87
        have y88 := hV _ (List.mem_cons_of_mem _ (List.mem_cons_of_mem _ (List.mem_cons_of_mem _ (List.mem_cons_of_mem _ (List.mem_cons_of_mem _ (List.mem_cons_of_mem _ (List.mem_cons_of_mem _ (List.mem_cons_of_mem _ (List.mem_cons_of_mem _ (List.mem_cons_of_mem _ (List.mem_cons_of_mem _ (List.mem_cons_of_mem _ (List.mem_cons_of_mem _ (List.mem_cons_of_mem _ (List.mem_cons_self ..)))))))))))))))
        dsimp only at y88
        have y73 := hV _ (List.mem_cons_of_mem _ (List.mem_cons_of_mem _ (List.mem_cons_of_mem _ (List.mem_cons_of_mem _ (List.mem_cons_of_mem _ (List.mem_cons_of_mem _ (List.mem_cons_of_mem _ (List.mem_cons_of_mem _ (List.mem_cons_of_mem _ (List.mem_cons_of_mem _ (List.mem_cons_of_mem _ (List.mem_cons_of_mem _ (List.mem_cons_of_mem _ (List.mem_cons_of_mem _ (List.mem_cons_of_mem _ (List.mem_cons_self ..))))))))))))))))
        dsimp only at y73
        have y89 := hV _ (List.mem_cons_of_mem _ (List.mem_cons_of_mem _ (List.mem_cons_of_mem _ (List.mem_cons_of_mem _ (List.mem_cons_of_mem _ (List.mem_cons_of_mem _ (List.mem_cons_of_mem _ (List.mem_cons_of_mem _ (List.mem_cons_of_mem _ (List.mem_cons_of_mem _ (List.mem_cons_of_mem _ (List.mem_cons_of_mem _ (List.mem_cons_of_mem _ (List.mem_cons_of_mem _ (List.mem_cons_of_mem _ (List.mem_cons_of_mem _ (List.mem_cons_self ..)))))))))))))))))
        dsimp only at y89
        have y90 := hV _ (List.mem_cons_of_mem _ (List.mem_cons_of_mem _ (List.mem_cons_of_mem _ (List.mem_cons_of_mem _ (List.mem_cons_of_mem _ (List.mem_cons_of_mem _ (List.mem_cons_of_mem _ (List.mem_cons_of_mem _ (List.mem_cons_of_mem _ (List.mem_cons_of_mem _ (List.mem_cons_of_mem _ (List.mem_cons_of_mem _ (List.mem_cons_of_mem _ (List.mem_cons_of_mem _ (List.mem_cons_of_mem _ (List.mem_cons_of_mem _ (List.mem_cons_of_mem _ (List.mem_cons_self ..))))))))))))))))))
        dsimp only at y90
        have y11 := hV _ (List.mem_cons_of_mem _ (List.mem_cons_of_mem _ (List.mem_cons_of_mem _ (List.mem_cons_of_mem _ (List.mem_cons_of_mem _ (List.mem_cons_of_mem _ (List.mem_cons_of_mem _ (List.mem_cons_of_mem _ (List.mem_cons_of_mem _ (List.mem_cons_of_mem _ (List.mem_cons_of_mem _ (List.mem_cons_of_mem _ (List.mem_cons_of_mem _ (List.mem_cons_of_mem _ (List.mem_cons_of_mem _ (List.mem_cons_of_mem _ (List.mem_cons_of_mem _ (List.mem_cons_of_mem _ (List.mem_cons_self ..)))))))))))))))))))
        dsimp only at y11
        have y12 := hV _ (List.mem_cons_of_mem _ (List.mem_cons_of_mem _ (List.mem_cons_of_mem _ (List.mem_cons_of_mem _ (List.mem_cons_of_mem _ (List.mem_cons_of_mem _ (List.mem_cons_of_mem _ (List.mem_cons_of_mem _ (List.mem_cons_of_mem _ (List.mem_cons_of_mem _ (List.mem_cons_of_mem _ (List.mem_cons_of_mem _ (List.mem_cons_of_mem _ (List.mem_cons_of_mem _ (List.mem_cons_of_mem _ (List.mem_cons_of_mem _ (List.mem_cons_of_mem _ (List.mem_cons_of_mem _ (List.mem_cons_of_mem _ (List.mem_cons_self ..))))))))))))))))))))
        dsimp only at y12
        have ho0 := hO _ (List.mem_cons_self ..)
        have ho1 := hO _ (List.mem_cons_of_mem _ (List.mem_cons_self ..))
        have ho2 := hO _ (List.mem_cons_of_mem _ (List.mem_cons_of_mem _ (List.mem_cons_self ..)))
        dsimp only at ho0 ho1 ho2
        have HB7 := Lib.hid (show Bx w [(w.heap.size + 2, #[.int .i64 0, .int .i64 0, .int .i64 0, .int .i64 0]), (w.heap.size + 1, #[.int .i64 0, .int .i64 0, .int .i64 0, .int .i64 0]), (w.heap.size, #[.int .i64 a, .int .i64 b])] W7 from ((((Bx.nil (HB.out.below.trans (hB.mono HB.out.below.size))).cons (HB.out.own _ (List.mem_cons_of_mem _ (List.mem_cons_of_mem _ (List.mem_cons_self ..)))).1 ho2).cons (HB.out.own _ (List.mem_cons_of_mem _ (List.mem_cons_self ..))).1 ho1).cons (HB.out.own _ (List.mem_cons_self ..)).1 ho0))
        simp only [fr, putAll, List.foldl_cons, List.foldl_nil, List.setIfInBounds_toArray, List.set_cons_zero, List.set_cons_succ]
        simp only [y74, y75, y76, y77, y78, y79, y80, y81, y82, y83, y84, y85, y86, y87, y88, y73, y89, y90, y11, y12]
        have hB7 := hB
        clear y74 y75 y76 y77 y78 y79 y80 y81 y82 y83 y84 y85 y86 y87 y88 y73 y89 y90 y11 y12  hB hO hV hX hA ho0 ho1 ho2
        have HS7 := Lib.hid (HS.out.keep hB7)
        clear hB7 HB HS
        go_wp2_with fail
        exact ⟨⟨z, c2, f2, rfl, hvv, rfl, rfl, HO.out, HS7.out, HB7.out⟩, hmz⟩


end Go.Proofs.Ytfjmhfmhijhpkaa
