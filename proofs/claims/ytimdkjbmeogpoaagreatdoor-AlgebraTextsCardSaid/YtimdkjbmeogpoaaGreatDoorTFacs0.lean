/- The lists of prime powers of the program and of the reference. Factor of the program; Has of the base. -/
import Derived.Test.YtimdkjbmeogpoaaGreatDoorTOwn0
import Derived.Test.YtimdkjbmeogpoaaGreatDoorTIntA
import Derived.Test.YtimdkjbmeogpoaaGreatDoorTCrt0
import Derived.Test.YtimdkjbmeogpoaaGreatDoorTCmp
namespace Go.Proofs.YtimdkjbmeogpoaaGreatDoor
open Go.RowKit FF
def flatP (l : List (Int × Nat)) : List Int := l.flatMap fun x => [x.1, (x.2 : Int)]
theorem flatP_snoc (l : List (Int × Nat)) (p : Int) (k : Nat) : flatP l ++ [p, (k : Int)] = flatP (l ++ [(p, k)]) := by simp [flatP]
theorem flatP_get {l : List (Int × Nat)} {i : Nat} (h : i < l.length) : (flatP l).getD (2 * i) 0 = (l.getD i (0, 0)).1 ∧ (flatP l).getD (2 * i + 1) 0 = ((l.getD i (0, 0)).2 : Int) := by
  induction l generalizing i with
  | nil => simp at h
  | cons x l ih =>
    cases i with
    | zero => exact ⟨rfl, rfl⟩
    | succ i =>
      have := ih (i := i) (by simpa using h)
      rw [show 2 * (i + 1) = 2 * i + 1 + 1 by omega]
      exact this
theorem flatP_len (l : List (Int × Nat)) : (flatP l).length = 2 * l.length := by
  induction l with
  | nil => rfl
  | cons x l ih => show (flatP l).length + 1 + 1 = _; rw [ih, List.length_cons]; omega
theorem info_power : (Tryz.prog.info? 152).map (fun i => (i.zero, i.size, i.bytes)) = some (some (.agg #[.int .i64 0, .int .i64 0]), 2, 16) := by kernel_rfl
def facW (w : World) (N : Int) (l : List (Int × Nat)) (p n : Int) (v : Value) (wr : World) : Prop := FacRel N l p n ∧ Got w 152 2 v l.length (flatP l) wr
theorem facW.app {w : World} {v : Value} {l : List (Int × Nat)} {p : Int} {k : Nat} {w2 : World} (h : Got w 152 2 v (l.length + 1) (flatP l ++ [p, (k : Int)]) w2) :
    Got w 152 2 v (l ++ [(p, k)]).length (flatP (l ++ [(p, k)])) w2 := by
  rw [flatP_snoc] at h; rw [List.length_append]; exact h
theorem vp_small {p n : Int} (hp : 2 ≤ p) (hn : 1 ≤ n) (h : n ≤ 1000000000) : vp p n ≤ 30 := by
  have h1 := vp_lt hp (show n ≠ 0 by omega)
  rcases Nat.lt_or_ge 30 (vp p n) with g | g
  · exfalso
    have h2 : 2 ^ 31 ≤ 2 ^ vp p n := Nat.pow_le_pow_right (by omega) g
    omega
  · exact g
set_option maxHeartbeats 1000000 in
theorem factors_any (n : Int) (w : World) (h1 : 1 ≤ n) (h2 : n ≤ 1000000000) :
    Calls Tryz.prog 141 #[.int .i64 n] w fun e w' => ∃ v, e = .returned v ∧ Got w 152 2 v (facs n).length (flatP (facs n)) w' := by
  obtain ⟨i0, hi, hz0, hz1, hz2⟩ := info_parts info_power
  have HI := Lib.hid hi; have HZ0 := Lib.hid hz0; have HZ1 := Lib.hid hz1; have HZ2 := Lib.hid hz2
  clear hi hz0 hz1 hz2
  have hV := Lib.hid (fun (p x : Int) (w : World) (hp : 2 ≤ p) (hp2 : p ≤ 31622) (hx : 1 ≤ x) (hx2 : x ≤ 1000000000) => valuation_any x p w ⟨by omega, by omega⟩ (by omega) hp (by omega))
  go_enter Tryz.func141, Tryz.ntmps141
  go_wp2_with fail
  go_loopw [0, 3, 4, 5, 6] (fun s0 s3 s4 _ _ wr => ∃ (x p : Int) (l : List (Int × Nat)), s0 = .int .i64 x ∧ s4 = .int .i64 p ∧ p ≤ 31623 ∧ facW w n l p x s3 wr) (fun _ _ s4 _ _ _ => (31625 - intOf s4).toNat)
  case atStart => exact ⟨n, 2, [], rfl, rfl, by omega, FacRel.start h1, Got.start (Below.refl _ _)⟩
  case round =>
    obtain ⟨x, p, l, rfl, rfl, hp3, hF, hG⟩ := hrel
    have hl := hF.len h2
    have HF := Lib.hid hF; have HG := Lib.hid hG
    obtain ⟨_, p2, x1, x2, _⟩ := hF
    clear hG
    by_cases hsq : p * p ≤ x
    · have hp4 := sq_bound (by omega) hsq (by omega)
      have hpp : 0 ≤ p * p := Int.mul_nonneg (by omega) (by omega)
      by_cases hm : x % p = 0
      · have hd := t_beq hm
        have HN := Lib.hid (HF.out.go hsq hm)
        have hk := vp_small p2 x1 (by omega)
        obtain ⟨r1, r2⟩ := rest_le p2 x1
        clear hm HF
        go_wp2_with fail
        refine (hV.out p x _ p2 hp4 x1 (by omega)).mono ?_
        rintro e w' ⟨rfl, n1, rfl⟩
        have HG1 := Lib.hid (HG.out.drewN n1)
        clear HG
        generalize rest p x = r at *
        generalize vp p x = k at *
        go_wp2_with (at_builtin; refine wpList_append_got rfl (.tmp 24) (.tmp 28) 148 rfl 152 i0 _ 2 16 Tryz.underlying148 HI.out HZ0.out HZ1.out HZ2.out rfl (by decide) _ l.length (flatP l) rfl HG1.out _ _ [p, (k : Int)] rfl rfl 1 rfl (by omega) (by unfold maxLen; omega) ?_; intro v' w2 hg2; have HG2 := Lib.hid hg2; clear hg2)
        exact ⟨⟨r, p + 1, _, rfl, rfl, by omega, HN.out, facW.app HG2.out⟩, by show (31625 - (p + 1)).toNat < (31625 - p).toNat; omega⟩
      · have hd := f_beq hm
        have HN := Lib.hid (HF.out.skip hsq hm)
        clear hm HF
        go_wp2_with fail
        exact ⟨⟨x, p + 1, l, rfl, rfl, by omega, HN.out, HG.out⟩, by show (31625 - (p + 1)).toNat < (31625 - p).toNat; omega⟩
    · have hpp : p * p ≤ 1000000000000 := by
        have := Int.mul_le_mul hp3 hp3 (by omega) (by omega)
        omega
      have hsq' : x < p * p := by omega
      by_cases hx : 1 < x
      · have HN := Lib.hid (HF.out.last hsq' hx)
        clear HF
        go_wp2_with (at_builtin; refine wpList_append_got rfl (.tmp 33) (.tmp 36) 148 rfl 152 i0 _ 2 16 Tryz.underlying148 HI.out HZ0.out HZ1.out HZ2.out rfl (by decide) _ l.length (flatP l) rfl HG.out _ _ [x, 1] rfl rfl 1 rfl (by omega) (by unfold maxLen; omega) ?_; intro v' w2 hg2; have HG2 := Lib.hid hg2; clear hg2)
        go_ret
        exact ⟨v', rfl, HN.out ▸ facW.app (k := 1) HG2.out⟩
      · have HN := Lib.hid (HF.out.done hsq' hx)
        clear HF
        go_wp2_with fail
        go_ret
        exact ⟨_, rfl, HN.out ▸ HG.out⟩
end Go.Proofs.YtimdkjbmeogpoaaGreatDoor
namespace Go.Proofs.YtimdkjbmeogpoaaGreatDoor
open Go.RowKit FF
theorem Factor_any (n : Int) (w : World) (h1 : 1 ≤ n) (h2 : n ≤ 1000000000) :
    Calls Tryz.prog 106 #[.int .i64 n] w fun e w' => ∃ v, e = .returned (.tuple #[v, .int .i64 0]) ∧ Got w 152 2 v (facs n).length (flatP (facs n)) w' := by
  have hM := Lib.hid (fun w => (modB_true (m := n)).2 ⟨h1, h2⟩ ▸ modulus_any n w)
  have hF := Lib.hid (fun w => factors_any n w h1 h2)
  go_enter Tryz.func106, Tryz.ntmps106
  go_wp2_with fail
  refine (hM.out _).mono ?_
  rintro e w' ⟨rfl, n1, rfl⟩
  go_wp2_with fail
  refine (hF.out _).mono ?_
  rintro e w' ⟨v, rfl, hG⟩
  have HG := Lib.hid hG
  clear hG
  go_wp2_with fail
  go_ret2
  exact ⟨v, rfl, HG.out.1, (below_drewN (Below.refl w.heap.size w) n1).trans HG.out.2⟩
end Go.Proofs.YtimdkjbmeogpoaaGreatDoor
