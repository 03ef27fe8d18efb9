/- Which algebras are isomorphic: the program. -/
import Derived.Test.YtfjmhfmhijhpkaaIsc
import Derived.Test.YtfjmhfmhijhpkaaIsr
import Derived.Test.YtfjmhfmhijhpkaaShelf
namespace Go.Proofs.Ytfjmhfmhijhpkaa
open Go.RowKit FF

theorem qEqual_any (A A' : Option Addr) (xs ys : List Int) (c c' : Nat) (w : World) (hx : ShowsI w A xs) (hy : ShowsI w A' ys) (h1 : xs.length ≤ 1000) (h2 : ys.length ≤ 1000) :
    Calls Try.prog 75 #[.slice A xs.length c, .slice A' ys.length c'] w (Ret w (.bool (decide (xs = ys)))) := by
  by_cases hl : xs.length = ys.length
  · by_cases h0 : xs.length = 0
    · have e1 : xs = [] := List.eq_nil_of_length_eq_zero h0
      have e2 : ys = [] := List.eq_nil_of_length_eq_zero (by omega)
      subst e1 e2
      refine (Try.slices_Equal_int_empty A A' c 0 c' w (by omega)).mono ?_
      rintro e w' ⟨rfl, rfl⟩
      exact Ret.same
    · obtain ⟨b1, o1, rfl, hb1, c1⟩ := hx (by omega)
      obtain ⟨b2, o2, rfl, hb2, c2⟩ := hy (by omega)
      refine (Try.slices_Equal_int b1 o1 xs.length c b2 o2 ys.length c' xs ys w (Nat.le_refl _) (Nat.le_refl _) (by omega) (by omega) c1 c2).mono ?_
      rintro e w' ⟨rfl, m, rfl⟩
      rw [List.take_length, List.take_length]
      refine ⟨?_, m, rfl⟩
      congr 2
      exact Bool.eq_iff_iff.2 (by simp)
  · refine (Try.slices_Equal_int_lens A A' xs.length c ys.length c' w hl).mono ?_
    rintro e w' ⟨rfl, rfl⟩
    refine ⟨?_, 0, rfl⟩
    rw [decide_eq_false (fun h => hl (by rw [h]))]

def isoIE (a b c d : Int) : Int := if aE a b = 0 then aE c d else aE a b
theorem isoIE_bad1 {a b c d : Int} (h : aE a b ≠ 0) : isoIE a b c d = aE a b := if_neg h
theorem isoIE_bad2 {a b c d : Int} (h : aE a b = 0) : isoIE a b c d = aE c d := if_pos h
theorem isoIE_zero {a b c d : Int} (h : isoIE a b c d = 0) : aE a b = 0 ∧ aE c d = 0 := by
  unfold isoIE at h
  by_cases h1 : aE a b = 0
  · rw [if_pos h1] at h; exact ⟨h1, h⟩
  · rw [if_neg h1] at h; exact absurd h h1

set_option maxHeartbeats 4000000 in
theorem qIsomorphic_bad (a b c d : Int) (w : World) (h : isoIE a b c d ≠ 0) :
    Calls Try.prog 32 #[.agg #[.int .i64 a, .int .i64 b], .agg #[.int .i64 c, .int .i64 d]] w fun r w' => r = .returned (.tuple #[.bool false, .int .i64 (isoIE a b c d)]) ∧ Below w.heap.size w w' := by
  by_cases h1 : aE a b = 0
  · have HR1 := Lib.hid (fun w => Ramified_good a b w h1)
    have HR2 := Lib.hid (fun w => Ramified_bad c d w (by rw [← isoIE_bad2 (c := c) (d := d) h1]; exact h))
    rw [isoIE_bad2 h1] at h ⊢
    clear h1
    generalize aE c d = E at *
    have dE : (E != 0) = true := bne_iff_ne.2 h
    go_enter Try.func32, Try.ntmps32
    go_upto_region 1 with fail
    obtain ⟨W0, hW0⟩ : ∃ W0 : World, W0 = ((w.alloc (.cells #[.int .i64 a, .int .i64 b] 23)).alloc (.cells #[.int .i64 c, .int .i64 d] 23)) := ⟨_, rfl⟩
    rw [← hW0]
    have HB0 := Lib.hid (show Bx w [(w.heap.size + 1, #[.int .i64 c, .int .i64 d]), (w.heap.size, #[.int .i64 a, .int .i64 b])] W0 by rw [hW0]; simpa using (((Bx.nil (Below.refl w.heap.size w)).new #[.int .i64 a, .int .i64 b] 23).new #[.int .i64 c, .int .i64 d] 23))
    clear hW0
    obtain ⟨c0, c1⟩ := HB0.out.two (List.mem_cons_of_mem _ (List.mem_cons_self ..))
    go_wp2_with fail
    refine (HR1.out _).mono ?_
    rintro e1 w1 ⟨A, cp, rfl, -, -, -, hbb⟩
    have HB1 := Lib.hid (HB0.out.keep hbb)
    clear c0 c1 hbb HB0 HR1
    obtain ⟨c0, c1⟩ := HB1.out.two (List.mem_cons_self ..)
    go_wp2_with fail
    refine (HR2.out _).mono ?_
    rintro e2 w2 ⟨rfl, hbb⟩
    have HB2 := Lib.hid (HB1.out.keep hbb)
    clear c0 c1 hbb HB1 HR2
    go_wp2_with fail
    refine bodyPost_ret (results_tmp2 rfl _ _ _) rfl ?_
    exact ⟨rfl, HB2.out.below⟩
  · have HR1 := Lib.hid (fun w => Ramified_bad a b w h1)
    rw [isoIE_bad1 h1] at h ⊢
    clear h1
    generalize aE a b = E at *
    have dE : (E != 0) = true := bne_iff_ne.2 h
    go_enter Try.func32, Try.ntmps32
    go_upto_region 1 with fail
    obtain ⟨W0, hW0⟩ : ∃ W0 : World, W0 = ((w.alloc (.cells #[.int .i64 a, .int .i64 b] 23)).alloc (.cells #[.int .i64 c, .int .i64 d] 23)) := ⟨_, rfl⟩
    rw [← hW0]
    have HB0 := Lib.hid (show Bx w [(w.heap.size + 1, #[.int .i64 c, .int .i64 d]), (w.heap.size, #[.int .i64 a, .int .i64 b])] W0 by rw [hW0]; simpa using (((Bx.nil (Below.refl w.heap.size w)).new #[.int .i64 a, .int .i64 b] 23).new #[.int .i64 c, .int .i64 d] 23))
    clear hW0
    obtain ⟨c0, c1⟩ := HB0.out.two (List.mem_cons_of_mem _ (List.mem_cons_self ..))
    go_wp2_with fail
    refine (HR1.out _).mono ?_
    rintro e1 w1 ⟨rfl, hbb⟩
    have HB1 := Lib.hid (HB0.out.keep hbb)
    clear c0 c1 hbb HB0 HR1
    go_wp2_with fail
    refine bodyPost_ret (results_tmp2 rfl _ _ _) rfl ?_
    exact ⟨rfl, HB1.out.below⟩

set_option maxHeartbeats 4000000 in
theorem qIsomorphic_good (a b c d : Int) (w : World) (h1 : aE a b = 0) (h2 : aE c d = 0) :
    Calls Try.prog 32 #[.agg #[.int .i64 a, .int .i64 b], .agg #[.int .i64 c, .int .i64 d]] w fun r w' => r = .returned (.tuple #[.bool (isoB a b c d), .int .i64 0]) ∧ Below w.heap.size w w' := by
  have HR1 := Lib.hid (fun w => Ramified_good a b w h1)
  have HR2 := Lib.hid (fun w => Ramified_good c d w h2)
  have HI := Lib.hid (show isoB a b c d = ((defB a b == defB c d) && decide (ramL a b 999 = ramL c d 999)) from rfl)
  have hL1 := ramL_len a b 999; have hL2 := ramL_len c d 999
  clear h1 h2
  generalize isoB a b c d = F at *
  generalize defB a b = D1 at *
  generalize defB c d = D2 at *
  generalize ramL a b 999 = L1 at *
  generalize ramL c d 999 = L2 at *
  go_enter Try.func32, Try.ntmps32
  go_upto_region 1 with fail
  obtain ⟨W0, hW0⟩ : ∃ W0 : World, W0 = ((w.alloc (.cells #[.int .i64 a, .int .i64 b] 23)).alloc (.cells #[.int .i64 c, .int .i64 d] 23)) := ⟨_, rfl⟩
  rw [← hW0]
  have HB0 := Lib.hid (show Bx w [(w.heap.size + 1, #[.int .i64 c, .int .i64 d]), (w.heap.size, #[.int .i64 a, .int .i64 b])] W0 by rw [hW0]; simpa using (((Bx.nil (Below.refl w.heap.size w)).new #[.int .i64 a, .int .i64 b] 23).new #[.int .i64 c, .int .i64 d] 23))
  clear hW0
  obtain ⟨c0, c1⟩ := HB0.out.two (List.mem_cons_of_mem _ (List.mem_cons_self ..))
  go_wp2_with fail
  refine (HR1.out _).mono ?_
  rintro e1 w1 ⟨A, cp, rfl, s1, s2, s3, hbb⟩
  have HB1 := Lib.hid (HB0.out.keep hbb)
  have HS1 := Lib.hid s1
  clear c0 c1 hbb HB0 HR1 s1
  obtain ⟨c0, c1⟩ := HB1.out.two (List.mem_cons_self ..)
  go_wp2_with fail
  refine (HR2.out _).mono ?_
  rintro e2 w2 ⟨A', cp', rfl, t1, t2, t3, hbb⟩
  have HB2 := Lib.hid (HB1.out.keep hbb)
  have HS2 := Lib.hid (showsI_below HS1.out hbb)
  have HT2 := Lib.hid t1
  clear c0 c1 hbb HB1 HR2 HS1 t1
  have HE := Lib.hid (fun w' h => qEqual_any A A' L1 L2 cp cp' w' (showsI_below HS2.out h) (showsI_below HT2.out h) (by omega) (by omega))
  cases hE : D1 == D2
  · go_wp2_with fail
    refine bodyPost_ret (results_tmp2 rfl _ _ _) rfl ?_
    exact ⟨by rw [HI.out, hE]; rfl, HB2.out.below⟩
  · go_wp2_with fail
    refine (HE.out _ (Below.refl _ _)).mono ?_
    rintro e3 w3 ⟨rfl, m, rfl⟩
    go_wp2_with fail
    refine bodyPost_ret (results_tmp2 rfl _ _ _) rfl ?_
    exact ⟨by rw [HI.out, hE]; simp, below_drewN HB2.out.below m⟩

theorem roots_any (c d nn : Int) (w : World) : Calls Try.prog 73 #[.agg #[.int .i64 c, .int .i64 d], .int .i64 nn] w fun e w' =>
    e = .returned (.func (.func 116) #[] #[.pointer (some ⟨w.heap.size, 0, none⟩), .pointer (some ⟨w.heap.size + 1, 0, none⟩)]) ∧ w' = (w.alloc (.cells #[.int .i64 c, .int .i64 d] 23)).alloc (.cells #[.int .i64 nn] 3) := by
  go_enter Try.func73, Try.ntmps73
  go_wp2_with fail
  go_ret
  exact ⟨rfl, rfl⟩
end Go.Proofs.Ytfjmhfmhijhpkaa
