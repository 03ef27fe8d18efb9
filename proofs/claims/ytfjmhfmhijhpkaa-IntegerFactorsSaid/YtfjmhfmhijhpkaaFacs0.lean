/- The lists of prime powers of the program and of the reference. Factor of the program; Has of the base. -/
import Derived.Test.YtfjmhfmhijhpkaaOwn0
import Derived.Test.YtfjmhfmhijhpkaaIntA
import Derived.Test.YtfjmhfmhijhpkaaCrt0
import Derived.Test.YtfjmhfmhijhpkaaCmp
namespace Go.Proofs.Ytfjmhfmhijhpkaa
open Go.RowKit FF

/-- a list of prime powers as its cells show it -/
def flatP (l : List (Int × Nat)) : List Int := l.flatMap fun x => [x.1, (x.2 : Int)]
theorem flatP_snoc (l : List (Int × Nat)) (p : Int) (k : Nat) : flatP l ++ [p, (k : Int)] = flatP (l ++ [(p, k)]) := by simp [flatP]
theorem flatP_get {l : List (Int × Nat)} {i : Nat} (h : i < l.length) : (flatP l).getD (2 * i) 0 = (l.getD i (0, 0)).1 ∧ (flatP l).getD (2 * i + 1) 0 = ((l.getD i (0, 0)).2 : Int) := by
  induction l generalizing i with
  | nil => simp at h
  | cons x l ih =>
    cases i with
    | zero => exact ⟨rfl, rfl⟩
    | succ i =>
      have := ih (i := i) (by simpa using h)
      rw [show 2 * (i + 1) = 2 * i + 1 + 1 by omega]
      exact this
theorem flatP_len (l : List (Int × Nat)) : (flatP l).length = 2 * l.length := by
  induction l with
  | nil => rfl
  | cons x l ih => show (flatP l).length + 1 + 1 = _; rw [ih, List.length_cons]; omega
theorem info_power : (Try.prog.info? 90).map (fun i => (i.zero, i.size, i.bytes)) = some (some (.agg #[.int .i64 0, .int .i64 0]), 2, 16) := by kernel_rfl
/-- the loops' relation, as the walk keeps it -/
def facW (w : World) (N : Int) (l : List (Int × Nat)) (p n : Int) (v : Value) (wr : World) : Prop := FacRel N l p n ∧ Got w 90 2 v l.length (flatP l) wr

theorem facW.app {w : World} {v : Value} {l : List (Int × Nat)} {p : Int} {k : Nat} {w2 : World} (h : Got w 90 2 v (l.length + 1) (flatP l ++ [p, (k : Int)]) w2) :
    Got w 90 2 v (l ++ [(p, k)]).length (flatP (l ++ [(p, k)])) w2 := by
  rw [flatP_snoc] at h; rw [List.length_append]; exact h
theorem vp_small {p n : Int} (hp : 2 ≤ p) (hn : 1 ≤ n) (h : n ≤ 1000000000) : vp p n ≤ 30 := by
  have h1 := vp_lt hp (show n ≠ 0 by omega)
  rcases Nat.lt_or_ge 30 (vp p n) with g | g
  · exfalso
    have h2 : 2 ^ 31 ≤ 2 ^ vp p n := Nat.pow_le_pow_right (by omega) g
    omega
  · exact g

set_option maxHeartbeats 1000000 in
theorem factors_any (n : Int) (w : World) (h1 : 1 ≤ n) (h2 : n ≤ 1000000000) :
    Calls Try.prog 57 #[.int .i64 n] w fun e w' => ∃ v, e = .returned v ∧ Got w 90 2 v (facs n).length (flatP (facs n)) w' := by
  obtain ⟨i0, hi, hz0, hz1, hz2⟩ := info_parts info_power
  have HI := Lib.hid hi; have HZ0 := Lib.hid hz0; have HZ1 := Lib.hid hz1; have HZ2 := Lib.hid hz2
  clear hi hz0 hz1 hz2
  have hV := Lib.hid (fun (p x : Int) (w : World) (hp : 2 ≤ p) (hp2 : p ≤ 31622) (hx : 1 ≤ x) (hx2 : x ≤ 1000000000) => valuation_any x p w ⟨by omega, by omega⟩ (by omega) hp (by omega))
  go_enter Try.func57, Try.ntmps57
  go_wp2_with fail
  go_loopw [0, 3, 4, 5, 6] (fun s0 s3 s4 _ _ wr => ∃ (x p : Int) (l : List (Int × Nat)), s0 = .int .i64 x ∧ s4 = .int .i64 p ∧ p ≤ 31623 ∧ facW w n l p x s3 wr) (fun _ _ s4 _ _ _ => (31625 - intOf s4).toNat)
  case atStart => exact ⟨n, 2, [], rfl, rfl, by omega, FacRel.start h1, Got.start (Below.refl _ _)⟩
  case round =>
    obtain ⟨x, p, l, rfl, rfl, hp3, hF, hG⟩ := hrel
    have hl := hF.len h2
    have HF := Lib.hid hF; have HG := Lib.hid hG
    obtain ⟨_, p2, x1, x2, _⟩ := hF
    clear hG
    by_cases hsq : p * p ≤ x
    · have hp4 := sq_bound (by omega) hsq (by omega)
      have hpp : 0 ≤ p * p := Int.mul_nonneg (by omega) (by omega)
      by_cases hm : x % p = 0
      · have hd := t_beq hm
        have HN := Lib.hid (HF.out.go hsq hm)
        have hk := vp_small p2 x1 (by omega)
        obtain ⟨r1, r2⟩ := rest_le p2 x1
        clear hm HF
        go_wp2_with fail
        refine (hV.out p x _ p2 hp4 x1 (by omega)).mono ?_
        rintro e w' ⟨rfl, n1, rfl⟩
        have HG1 := Lib.hid (HG.out.drewN n1)
        clear HG
        generalize rest p x = r at *
        generalize vp p x = k at *
        go_wp2_with (at_builtin; refine wpList_append_got rfl (.tmp 24) (.tmp 28) 77 rfl 90 i0 _ 2 16 Try.underlying77 HI.out HZ0.out HZ1.out HZ2.out rfl (by decide) _ l.length (flatP l) rfl HG1.out _ _ [p, (k : Int)] rfl rfl 1 rfl (by omega) (by unfold maxLen; omega) ?_; intro v' w2 hg2; have HG2 := Lib.hid hg2; clear hg2)
        exact ⟨⟨r, p + 1, _, rfl, rfl, by omega, HN.out, facW.app HG2.out⟩, by show (31625 - (p + 1)).toNat < (31625 - p).toNat; omega⟩
      · have hd := f_beq hm
        have HN := Lib.hid (HF.out.skip hsq hm)
        clear hm HF
        go_wp2_with fail
        exact ⟨⟨x, p + 1, l, rfl, rfl, by omega, HN.out, HG.out⟩, by show (31625 - (p + 1)).toNat < (31625 - p).toNat; omega⟩
    · have hpp : p * p ≤ 1000000000000 := by
        have := Int.mul_le_mul hp3 hp3 (by omega) (by omega)
        omega
      have hsq' : x < p * p := by omega
      by_cases hx : 1 < x
      · have HN := Lib.hid (HF.out.last hsq' hx)
        clear HF
        go_wp2_with (at_builtin; refine wpList_append_got rfl (.tmp 33) (.tmp 36) 77 rfl 90 i0 _ 2 16 Try.underlying77 HI.out HZ0.out HZ1.out HZ2.out rfl (by decide) _ l.length (flatP l) rfl HG.out _ _ [x, 1] rfl rfl 1 rfl (by omega) (by unfold maxLen; omega) ?_; intro v' w2 hg2; have HG2 := Lib.hid hg2; clear hg2)
        go_ret
        exact ⟨v', rfl, HN.out ▸ facW.app (k := 1) HG2.out⟩
      · have HN := Lib.hid (HF.out.done hsq' hx)
        clear HF
        go_wp2_with fail
        go_ret
        exact ⟨_, rfl, HN.out ▸ HG.out⟩

set_option maxHeartbeats 2000000 in
set_option maxRecDepth 100000 in
theorem rFactors_any (n : Int) (w : World) (h1 : 1 ≤ n) (h2 : n ≤ 1000000000) :
    Calls Try.prog 41 #[.int .i64 n] w fun e w' => ∃ v, e = .returned v ∧ Got w 90 2 v (facs n).length (flatP (facs n)) w' := by
  obtain ⟨i0, hi, hz0, hz1, hz2⟩ := info_parts info_power
  have HI := Lib.hid hi; have HZ0 := Lib.hid hz0; have HZ1 := Lib.hid hz1; have HZ2 := Lib.hid hz2
  clear hi hz0 hz1 hz2
  go_enter Try.func41, Try.ntmps41
  go_wp2_with fail
  go_loopw [0, 3, 4, 5] (fun s0 s3 s4 _ wr => ∃ (x p : Int) (l : List (Int × Nat)), s0 = .int .i64 x ∧ s4 = .int .i64 p ∧ p ≤ 31623 ∧ facW w n l p x s3 wr) (fun _ _ s4 _ _ => (31625 - intOf s4).toNat)
  case atStart => exact ⟨n, 2, [], rfl, rfl, by omega, FacRel.start h1, Got.start (Below.refl _ _)⟩
  case round =>
    obtain ⟨x, p, l, rfl, rfl, hp3, hF, hG⟩ := hrel
    have hl := hF.len h2
    have HF := Lib.hid hF; have HG := Lib.hid hG
    obtain ⟨_, p2, x1, x2, _⟩ := hF
    clear hG
    by_cases hsq : p * p ≤ x
    · have hp4 := sq_bound (by omega) hsq (by omega)
      have hpp : 0 ≤ p * p := Int.mul_nonneg (by omega) (by omega)
      go_wp2_with fail
      obtain ⟨wo, rfl⟩ : ∃ wo : World, wo = wr := ⟨_, rfl⟩
      go_loop [0, 5] (fun s0 s5 => ∃ (y : Int) (k : Nat), s0 = .int .i64 y ∧ s5 = .int .i64 k ∧ 1 ≤ y ∧ y ≤ x ∧ k ≤ 30 ∧ vp p y + k = vp p x ∧ rest p y = rest p x) (fun s0 _ => (intOf s0).toNat)
      case atStart => exact ⟨x, 0, rfl, rfl, x1, Int.le_refl _, by omega, rfl, rfl⟩
      case round =>
        obtain ⟨y, k, rfl, rfl, y1, y2, hk, hv, hr⟩ := hrel
        have hkx := vp_small p2 x1 (by omega)
        by_cases hm : y % p = 0
        · have hdv := Int.dvd_of_emod_eq_zero hm
          have hv2 := Lib.hid (vp_dvd p2 (show y ≠ 0 by omega) hdv)
          have hr2 := Lib.hid (rest_dvd p2 (show y ≠ 0 by omega) hdv)
          have HV := Lib.hid hv; have HR := Lib.hid hr
          have hd := t_beq hm
          obtain ⟨q, rfl⟩ := hdv
          have hq : p * q / p = q := Int.mul_ediv_cancel_left _ (by omega)
          rw [hq] at hv2 hr2
          have q1 : 1 ≤ q := by
            rcases Int.lt_or_le q 1 with g | g
            · have := Int.mul_le_mul_of_nonneg_left (show q ≤ 0 by omega) (show 0 ≤ p by omega)
              omega
            · exact g
          have q2 : 2 * q ≤ p * q := Int.mul_le_mul_of_nonneg_right p2 (by omega)
          have hk2 : k + 1 ≤ 30 := by have := hv2.out; have := HV.out; omega
          clear hv hr hm HF HG
          have HQ := Lib.hid hq
          clear hq
          go_wp2_with fail
          refine ⟨⟨q, k + 1, by rw [HQ.out], by go_num, q1, by omega, hk2, by have := hv2.out; have := HV.out; omega, by rw [← HR.out, hr2.out]⟩, ?_⟩
          rw [HQ.out]; show q.toNat < (p * q).toNat; omega
        · have hnd : ¬ p ∣ y := fun h => hm (Int.emod_eq_zero_of_dvd h)
          rw [vp_not hnd, Nat.zero_add] at hv
          rw [rest_not hnd] at hr
          subst hv
          subst hr
          have hd := f_beq hm
          by_cases hk0 : x % p = 0
          · have hk1 := vp_pos p2 x1 hk0
            have HN := Lib.hid (HF.out.go hsq hk0)
            obtain ⟨r1, r2⟩ := rest_le p2 x1
            clear hk0 hm hnd HF
            generalize rest p x = r at *
            generalize vp p x = k at *
            go_wp2_with (at_builtin; refine wpList_append_got rfl (.tmp 24) (.tmp 28) 77 rfl 90 i0 _ 2 16 Try.underlying77 HI.out HZ0.out HZ1.out HZ2.out rfl (by decide) _ l.length (flatP l) rfl HG.out _ _ [p, (k : Int)] rfl rfl 1 rfl (by omega) (by unfold maxLen; omega) ?_; intro v' w2 hg2; have HG2 := Lib.hid hg2; clear hg2)
            exact ⟨⟨r, p + 1, _, rfl, rfl, by omega, HN.out, facW.app HG2.out⟩, by show (31625 - (p + 1)).toNat < (31625 - p).toNat; omega⟩
          · have HN := Lib.hid (HF.out.skip hsq hk0)
            have hnx : ¬ p ∣ x := fun h => hk0 (Int.emod_eq_zero_of_dvd h)
            have e1 : vp p x = 0 := vp_not hnx
            have e2 : rest p x = x := rest_not hnx
            clear hk0 hm hnd HF hnx hkx
            generalize rest p x = r at *
            generalize vp p x = k at *
            subst e1
            subst e2
            go_wp2_with fail
            exact ⟨⟨_, p + 1, l, rfl, rfl, by omega, HN.out, HG.out⟩, by show (31625 - (p + 1)).toNat < (31625 - p).toNat; omega⟩
    · have hpp : p * p ≤ 1000000000000 := by
        have := Int.mul_le_mul hp3 hp3 (by omega) (by omega)
        omega
      have hsq' : x < p * p := by omega
      by_cases hx : 1 < x
      · have HN := Lib.hid (HF.out.last hsq' hx)
        clear HF
        go_wp2_with (at_builtin; refine wpList_append_got rfl (.tmp 32) (.tmp 35) 77 rfl 90 i0 _ 2 16 Try.underlying77 HI.out HZ0.out HZ1.out HZ2.out rfl (by decide) _ l.length (flatP l) rfl HG.out _ _ [x, 1] rfl rfl 1 rfl (by omega) (by unfold maxLen; omega) ?_; intro v' w2 hg2; have HG2 := Lib.hid hg2; clear hg2)
        go_ret
        exact ⟨v', rfl, HN.out ▸ facW.app (k := 1) HG2.out⟩
      · have HN := Lib.hid (HF.out.done hsq' hx)
        clear HF
        go_wp2_with fail
        go_ret
        exact ⟨_, rfl, HN.out ▸ HG.out⟩
end Go.Proofs.Ytfjmhfmhijhpkaa
namespace Go.Proofs.Ytfjmhfmhijhpkaa
open Go.RowKit FF

theorem Factor_any (n : Int) (w : World) (h1 : 1 ≤ n) (h2 : n ≤ 1000000000) :
    Calls Try.prog 35 #[.int .i64 n] w fun e w' => ∃ v, e = .returned (.tuple #[v, .int .i64 0]) ∧ Got w 90 2 v (facs n).length (flatP (facs n)) w' := by
  have hM := Lib.hid (fun w => (modB_true (m := n)).2 ⟨h1, h2⟩ ▸ modulus_any n w)
  have hF := Lib.hid (fun w => factors_any n w h1 h2)
  go_enter Try.func35, Try.ntmps35
  go_wp2_with fail
  refine (hM.out _).mono ?_
  rintro e w' ⟨rfl, n1, rfl⟩
  go_wp2_with fail
  refine (hF.out _).mono ?_
  rintro e w' ⟨v, rfl, hG⟩
  have HG := Lib.hid hG
  clear hG
  go_wp2_with fail
  go_ret2
  exact ⟨v, rfl, HG.out.1, (below_drewN (Below.refl w.heap.size w) n1).trans HG.out.2⟩

set_option maxHeartbeats 1000000 in
theorem bHas_any (A : Option Addr) (xs : List Int) (c : Nat) (x : Int) (w : World) (hx : ShowsI w A xs) (hn : xs.length ≤ maxLen) :
    Calls Try.prog 28 #[.slice A xs.length c, .int .i64 x] w (Ret w (.bool (decide (x ∈ xs)))) := by
  unfold maxLen at hn
  obtain ⟨n, hn'⟩ : ∃ n, xs.length = n := ⟨_, rfl⟩
  have HN := Lib.hid hn'
  have HX := Lib.hid hx
  rw [hn'] at hn ⊢
  clear hx hn'
  go_enter Try.func28, Try.ntmps28
  go_wp2_with fail
  go_loopw [5] (fun s wr => ∃ k : Nat, s = .int .i64 k ∧ k ≤ n ∧ (∀ j, j < k → xs.getD j 0 ≠ x) ∧ ∃ m, wr = w.drewN m) (fun s _ => n - (intOf s).toNat)
  case atStart => exact ⟨0, rfl, by omega, fun j hj => absurd hj (by omega), 0, rfl⟩
  case round =>
    obtain ⟨k, rfl, hk, hd, m, rfl⟩ := hrel
    have HD := Lib.hid hd; clear hd
    by_cases h0 : k < n
    · obtain ⟨b1, o1, rfl, hb1, hc1⟩ := HX.out (by rw [HN.out]; omega)
      have x1 := hc1 k (by rw [HN.out]; omega)
      have HM := Lib.hid (show xs.getD k 0 ∈ xs by rw [List.getD_eq_getElem?_getD, List.getElem?_eq_getElem (by rw [HN.out]; omega)]; exact List.getElem_mem _)
      have HE := Lib.hid (fun h : xs.getD k 0 ≠ x => (show ∀ j, j < k + 1 → xs.getD j 0 ≠ x from fun j hj => by
        rcases Nat.lt_or_ge j k with g | g
        · exact HD.out j g
        · rw [show j = k by omega]; exact h))
      clear hc1
      generalize xs.getD k 0 = y at *
      by_cases hxy : y = x
      · have HQ := Lib.hid (show true = decide (x ∈ xs) by rw [hxy] at HM; exact (decide_eq_true HM.out).symm)
        subst hxy
        clear HM HE HD
        generalize decide (y ∈ xs) = R at *
        have d1 : (y == y) = true := by simp
        go_wp2_with fail
        go_ret
        exact Ret.eq _ (ret_bool HQ.out)
      · have HQ := Lib.hid (HE.out hxy)
        have d1 : (y == x) = false := f_beq hxy
        clear HM HE
        go_wp2_with fail
        exact ⟨⟨k + 1, by go_num, by omega, HQ.out, _, rfl⟩, by simp [intOf]; omega⟩
    · obtain rfl : k = n := by omega
      have HQ := Lib.hid (show false = decide (x ∈ xs) from (decide_eq_false (fun hm => by
        obtain ⟨j, hj, he⟩ := List.mem_iff_getElem.1 hm
        refine HD.out j (by rw [HN.out] at hj; exact hj) ?_
        rw [List.getD_eq_getElem?_getD, List.getElem?_eq_getElem hj, ← he]; rfl)).symm)
      generalize decide (x ∈ xs) = R at *
      clear HD
      go_wp2_with fail
      go_ret
      exact Ret.eq _ (ret_bool HQ.out)
end Go.Proofs.Ytfjmhfmhijhpkaa
