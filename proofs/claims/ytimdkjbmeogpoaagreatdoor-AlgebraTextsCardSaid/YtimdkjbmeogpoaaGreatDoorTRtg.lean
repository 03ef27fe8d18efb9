/- Texts of elements: the reference's Format. -/
import Derived.Test.YtimdkjbmeogpoaaGreatDoorTRtf
namespace Go.Proofs.YtimdkjbmeogpoaaGreatDoor
open Go.RowKit FF
theorem trm_len {s : List UInt8} {n : Int} {i : Nat} (hn : -1000000 ≤ n ∧ n ≤ 1000000) (hi : i ≤ 3) : (trm s n i).length ≤ s.length + 11 := by
  unfold trm
  split
  · omega
  · rename_i h0
    have hb := bodyT_len (n := n) (i := i) ⟨h0, hn, hi⟩
    have : (sepT n).length = 3 := by unfold sepT; split <;> rfl
    split
    · split <;> simp <;> omega
    · simp; omega
theorem c_term (s : List UInt8) (n : Int) (i : Nat) (lt : ByteArray) (hlt : lt = ⟨(ltr i).toArray⟩) (w : World) (hn : -1000000 ≤ n ∧ n ≤ 1000000) (hs : s.length ≤ 100) (hi : (ltr i).length ≤ 1) :
    Calls Tryz.prog 57 #[.string ⟨s.toArray⟩, .int .i64 n, .string lt] w (PostW (VC (.string ⟨(trm s n i).toArray⟩)) w) := by
  subst hlt
  have h := term_lt s (ltr i) n w hn hs hi
  rw [trmL_eq] at h
  exact h.mono fun e w' ⟨h1, h2⟩ => ⟨_, h1, rfl, h2⟩
theorem map_three {ρ : Operand → Value} {x z r : Operand} {u t v : Value} (h : ρ x = u) (k : ρ z = t) (l : ρ r = v) : (#[x, z, r] : Array Operand).map ρ = #[u, t, v] := by simp [h, k, l]
set_option maxHeartbeats 4000000 in
set_option maxRecDepth 100000 in
theorem rFormat_good (a0 a1 a2 a3 a4 n0 n1 n2 n3 d : Int) (L : List UInt8) (w : World)
    (hN : ∀ w, Calls Tryz.prog 14 #[.agg #[.int .i64 a0, .int .i64 a1, .int .i64 a2, .int .i64 a3, .int .i64 a4]] w fun r w' => r = .returned (.agg #[.int .i64 n0, .int .i64 n1, .int .i64 n2, .int .i64 n3, .int .i64 d]) ∧ Below w.heap.size w w')
    (hL : L = if d = 1 then (if (trm (trm (trm (trm [] n0 0) n1 1) n2 2) n3 3) = [] then [48] else (trm (trm (trm (trm [] n0 0) n1 1) n2 2) n3 3)) else [40] ++ (if (trm (trm (trm (trm [] n0 0) n1 1) n2 2) n3 3) = [] then [48] else (trm (trm (trm (trm [] n0 0) n1 1) n2 2) n3 3)) ++ [41, 47] ++ Lib.decDigits d.natAbs)
    (ht : (trm [] n0 0).length ≤ 100 ∧ (trm (trm [] n0 0) n1 1).length ≤ 100 ∧ (trm (trm (trm [] n0 0) n1 1) n2 2).length ≤ 100) (htl : (trm (trm (trm (trm [] n0 0) n1 1) n2 2) n3 3).length ≤ 100) (hd1 : 1 ≤ d) (hd2 : d ≤ 1000000)
    (hb : (-1000000 ≤ n0 ∧ n0 ≤ 1000000) ∧ (-1000000 ≤ n1 ∧ n1 ≤ 1000000) ∧ (-1000000 ≤ n2 ∧ n2 ≤ 1000000) ∧ (-1000000 ≤ n3 ∧ n3 ≤ 1000000)) :
    Calls Tryz.prog 18 #[.agg #[.int .i64 a0, .int .i64 a1, .int .i64 a2, .int .i64 a3, .int .i64 a4]] w fun e w' => e = .returned (.string ⟨L.toArray⟩) ∧ Below w.heap.size w w' := by
  have HN := Lib.hid hN; have HL := Lib.hid hL; have Ht := Lib.hid ht; have HD := Lib.hid (fun W => Decimal_any d W (by omega))
  have HB := Lib.hid hb; clear hN hL ht hb
  go_enter Tryz.func18, Tryz.ntmps18
  go_wp2_with fail
  refine (HN.out _).mono ?_
  rintro e1 w1 ⟨rfl, hbb⟩
  have HB1 := Lib.hid (((Below.refl w.heap.size w).alloc (Nat.le_refl _) _).trans (hbb.mono (by simp)))
  have hC := show Cells w1 w.heap.size #[.int .i64 a0, .int .i64 a1, .int .i64 a2, .int .i64 a3, .int .i64 a4] from (Cells.new w _ _ rfl).keep hbb
  have HC := Lib.hid hC
  obtain ⟨z0, z1, z2, z3, z4⟩ := hC.five
  obtain ⟨f0, f1, f2, f3, f4⟩ := hC.fr
  clear hbb hC HN
  obtain ⟨W2, e2, B2, C2, K2, S2⟩ := store5 HB1.out (Nat.le_refl _) HC.out (.int .i64 n0) (.int .i64 n1) (.int .i64 n2) (.int .i64 n3) (.int .i64 d)
  go_upto_region 2 with fail
  try rw [e2]
  have HB2 := Lib.hid B2; have HC2 := Lib.hid C2
  clear z0 z1 z2 z3 z4 f0 f1 f2 f3 f4 e2 B2 C2 K2 S2 HB1 HC
  refine wp_region_val [(0, 6, VC (.pointer (some ⟨w.heap.size, 0, none⟩))), (1, 7, VC (.int .i64 n0)), (2, 8, VC (.string ⟨(trm [] n0 0).toArray⟩)), (3, 9, VC (.pointer (some ⟨w.heap.size, 1, none⟩))), (4, 10, VC (.int .i64 n1)), (5, 11, VC (.string ⟨(trm (trm [] n0 0) n1 1).toArray⟩)), (6, 12, VC (.pointer (some ⟨w.heap.size, 2, none⟩))), (7, 13, VC (.int .i64 n2)), (8, 14, VC (.string ⟨(trm (trm (trm [] n0 0) n1 1) n2 2).toArray⟩)), (9, 15, VC (.pointer (some ⟨w.heap.size, 3, none⟩))), (10, 16, VC (.int .i64 n3)), (11, 17, VC (.string ⟨(trm (trm (trm (trm [] n0 0) n1 1) n2 2) n3 3).toArray⟩)), (12, 3, VC (.string ⟨(trm (trm (trm (trm [] n0 0) n1 1) n2 2) n3 3).toArray⟩))] (fun W => Cells W w.heap.size #[.int .i64 n0, .int .i64 n1, .int .i64 n2, .int .i64 n3, .int .i64 d]) [6, 7, 8, 9, 10, 11, 12, 13, 14, 15, 16, 17, 3] (by kernel_rfl) (by kernel_rfl) (by kernel_rfl) ⟨Keeps.vc _, Keeps.vc _, Keeps.vc _, Keeps.vc _, Keeps.vc _, Keeps.vc _, Keeps.vc _, Keeps.vc _, Keeps.vc _, Keeps.vc _, Keeps.vc _, Keeps.vc _, Keeps.vc _, trivial⟩ (fun _ _ _ h hb => h.keep hb) HC2.out (forall_ops ⟨?_, ?_, ?_, ?_, ?_, ?_, ?_, ?_, ?_, ?_, ?_, ?_, ?_, trivial⟩) ?_
  · exact .of rfl rfl fun _ _ _ _ _ _ => .fieldAddr rfl (fr_out (v := .pointer (some ⟨w.heap.size, 0, none⟩)) (by kernel_rfl) (by kernel_rfl)) (by kernel_rfl) rfl
  · exact .of rfl rfl fun _ _ _ hE hV _ => .load1 rfl ((fr_in (by kernel_rfl)).trans (hget hV 0 rfl (by kernel_rfl))) (run_load_one Tryz.underlying3 rfl (hE.2.1 0 (by simp))) rfl
  · exact .of rfl rfl fun _ W _ _ hV _ => .call Tryz.func57 (by kernel_rfl) rfl rfl rfl (map_three rfl ((fr_in (by kernel_rfl)).trans (hget hV 1 rfl (by kernel_rfl))) rfl) (c_term [] n0 0 _ rfl W HB.out.1 (by have := Ht.out; simp) (by simp [ltr]))
  · exact .of rfl rfl fun _ _ _ _ _ _ => .fieldAddr rfl (fr_out (v := .pointer (some ⟨w.heap.size, 0, none⟩)) (by kernel_rfl) (by kernel_rfl)) (by kernel_rfl) rfl
  · exact .of rfl rfl fun _ _ _ hE hV _ => .load1 rfl ((fr_in (by kernel_rfl)).trans (hget hV 3 rfl (by kernel_rfl))) (run_load_one Tryz.underlying3 rfl (hE.2.1 1 (by simp))) rfl
  · exact .of rfl rfl fun _ W _ _ hV _ => .call Tryz.func57 (by kernel_rfl) rfl rfl rfl (map_three ((fr_in (by kernel_rfl)).trans (hget hV 2 rfl (by kernel_rfl))) ((fr_in (by kernel_rfl)).trans (hget hV 4 rfl (by kernel_rfl))) rfl) (c_term (trm [] n0 0) n1 1 _ rfl W HB.out.2.1 (by have := Ht.out; exact this.1) (by simp [ltr]))
  · exact .of rfl rfl fun _ _ _ _ _ _ => .fieldAddr rfl (fr_out (v := .pointer (some ⟨w.heap.size, 0, none⟩)) (by kernel_rfl) (by kernel_rfl)) (by kernel_rfl) rfl
  · exact .of rfl rfl fun _ _ _ hE hV _ => .load1 rfl ((fr_in (by kernel_rfl)).trans (hget hV 6 rfl (by kernel_rfl))) (run_load_one Tryz.underlying3 rfl (hE.2.1 2 (by simp))) rfl
  · exact .of rfl rfl fun _ W _ _ hV _ => .call Tryz.func57 (by kernel_rfl) rfl rfl rfl (map_three ((fr_in (by kernel_rfl)).trans (hget hV 5 rfl (by kernel_rfl))) ((fr_in (by kernel_rfl)).trans (hget hV 7 rfl (by kernel_rfl))) rfl) (c_term (trm (trm [] n0 0) n1 1) n2 2 _ rfl W HB.out.2.2.1 (by have := Ht.out; exact this.2.1) (by simp [ltr]))
  · exact .of rfl rfl fun _ _ _ _ _ _ => .fieldAddr rfl (fr_out (v := .pointer (some ⟨w.heap.size, 0, none⟩)) (by kernel_rfl) (by kernel_rfl)) (by kernel_rfl) rfl
  · exact .of rfl rfl fun _ _ _ hE hV _ => .load1 rfl ((fr_in (by kernel_rfl)).trans (hget hV 9 rfl (by kernel_rfl))) (run_load_one Tryz.underlying3 rfl (hE.2.1 3 (by simp))) rfl
  · exact .of rfl rfl fun _ W _ _ hV _ => .call Tryz.func57 (by kernel_rfl) rfl rfl rfl (map_three ((fr_in (by kernel_rfl)).trans (hget hV 8 rfl (by kernel_rfl))) ((fr_in (by kernel_rfl)).trans (hget hV 10 rfl (by kernel_rfl))) rfl) (c_term (trm (trm (trm [] n0 0) n1 1) n2 2) n3 3 _ rfl W HB.out.2.2.2 (by have := Ht.out; exact this.2.2) (by simp [ltr]))
  · exact .of rfl rfl fun _ _ _ _ hV _ => .assign rfl ((fr_in (by kernel_rfl)).trans (hget hV 11 rfl (by kernel_rfl))) rfl
  intro y W hB hE hV
  have y3 : y 3 = .string ⟨(trm (trm (trm (trm [] n0 0) n1 1) n2 2) n3 3).toArray⟩ := hend hV 12 rfl
  simp only [fr, putAll, List.foldl_cons, List.foldl_nil, List.setIfInBounds_toArray, List.set_cons_zero, List.set_cons_succ]
  simp only [y3]
  have HB3 := Lib.hid (HB2.out.trans (hB.mono HB2.out.size))
  obtain ⟨c0, c1, c2, c3, c4⟩ := (show Cells W w.heap.size #[.int .i64 n0, .int .i64 n1, .int .i64 n2, .int .i64 n3, .int .i64 d] from hE).five
  obtain ⟨t, htt⟩ : ∃ t, t = (trm (trm (trm (trm [] n0 0) n1 1) n2 2) n3 3) := ⟨_, rfl⟩
  rw [← htt] at HL ⊢
  have Htl := Lib.hid (show t.length ≤ 100 from by rw [htt]; exact htl)
  clear hV hE hB y3 HB2 HC2 htt htl Ht HB
  by_cases ht0 : t = []
  · subst ht0
    simp only [if_true] at HL
    by_cases hd : d = 1
    · rw [if_pos hd] at HL
      subst hd
      go_wp2_with fail
      go_ret
      exact ⟨by rw [HL.out]; rfl, HB3.out⟩
    · rw [if_neg hd] at HL
      have d1 : (d != 1) = true := bne_iff_ne.2 hd
      have d2 : (d == 1) = false := beq_eq_false_iff_ne.2 hd
      have hdn : Lib.itoa d = Lib.decDigits d.natAbs := by unfold Lib.itoa; rw [if_neg (by omega), show d.toNat = d.natAbs by omega]
      rw [hdn] at HD
      have hdl : (Lib.decDigits d.natAbs).length ≤ 7 := dec_len_le (by omega) (by omega)
      generalize Lib.decDigits d.natAbs = D at *
      have r3 : ¬ (9223372036854775807 : Int) < 4 + (D.length : Int) := by omega
      have r4 : ¬ (9223372036854775807 : Int) < 1 + 1 + 2 + (D.length : Int) := by omega
      clear hd hdn hdl
      go_wp2_with fail
      refine (HD.out _).mono ?_
      rintro _ w5 ⟨rfl, hb5⟩
      go_wp2_with fail
      go_ret
      exact ⟨by rw [HL.out]; exact congrArg (fun x => Ending.returned (Value.string x)) (by apply ByteArray.ext; simp), HB3.out.trans (hb5.mono HB3.out.size)⟩
  · rw [if_neg ht0] at HL
    have es : t.isEmpty = false := by simpa using ht0
    by_cases hd : d = 1
    · rw [if_pos hd] at HL
      subst hd
      go_wp2_with fail
      go_ret
      exact ⟨by rw [HL.out]; rfl, HB3.out⟩
    · rw [if_neg hd] at HL
      have d1 : (d != 1) = true := bne_iff_ne.2 hd
      have d2 : (d == 1) = false := beq_eq_false_iff_ne.2 hd
      have hdn : Lib.itoa d = Lib.decDigits d.natAbs := by unfold Lib.itoa; rw [if_neg (by omega), show d.toNat = d.natAbs by omega]
      rw [hdn] at HD
      have hdl : (Lib.decDigits d.natAbs).length ≤ 7 := dec_len_le (by omega) (by omega)
      generalize Lib.decDigits d.natAbs = D at *
      have ht1 := Htl.out
      have r1 : ¬ (9223372036854775807 : Int) < 1 + (t.length : Int) := by omega
      have r2 : ¬ (9223372036854775807 : Int) < 1 + (t.length : Int) + 2 := by omega
      have r3 : ¬ (9223372036854775807 : Int) < 1 + (t.length : Int) + 2 + (D.length : Int) := by omega
      clear hd hdn hdl
      go_wp2_with fail
      refine (HD.out _).mono ?_
      rintro _ w5 ⟨rfl, hb5⟩
      go_wp2_with fail
      go_ret
      exact ⟨by rw [HL.out]; exact congrArg (fun x => Ending.returned (Value.string x)) (by apply ByteArray.ext; simp), HB3.out.trans (hb5.mono HB3.out.size)⟩
theorem rFormat_el (q : Qt) (w : World) (h : qB q = true) :
    Calls Tryz.prog 18 #[qv q] w fun e w' => e = .returned (.string ⟨(fmtQ q).toArray⟩) ∧ Below w.heap.size w w' := by
  have hm := qB_nrm h
  obtain ⟨h1, h2, h3, h4, hd1, hd2⟩ := qB_iff.1 hm
  have hd : q.d ≠ 0 := by obtain ⟨-, -, -, -, h5, -⟩ := qB_iff.1 h; omega
  have hN := fun w => rNormal_any q w (fitBound_of h) hd
  have l1 := trm_len (s := []) (i := 0) h1 (by omega)
  have l2 := trm_len (s := trm [] (nrm q).w 0) (i := 1) h2 (by omega)
  have l3 := trm_len (s := trm (trm [] (nrm q).w 0) (nrm q).x 1) (i := 2) h3 (by omega)
  have l4 := trm_len (s := trm (trm (trm [] (nrm q).w 0) (nrm q).x 1) (nrm q).y 2) (i := 3) h4 (by omega)
  simp only [List.length_nil] at l1
  exact rFormat_good q.w q.x q.y q.z q.d (nrm q).w (nrm q).x (nrm q).y (nrm q).z (nrm q).d (fmtQ q) w hN rfl ⟨by omega, by omega, by omega⟩ (by omega) hd1 hd2 ⟨h1, h2, h3, h4⟩
end Go.Proofs.YtimdkjbmeogpoaaGreatDoor
