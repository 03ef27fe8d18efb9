/- Polynomial of the constant graph. -/
import Derived.Test.YthkklilhjnpedaaGreatUMdk
import Derived.Test.YthkklilhjnpedaaGreatUGad
section
namespace Go.Proofs.YthkklilhjnpedaaGreat
open Go.RowKit FF
set_option maxRecDepth 3000 in
set_option maxHeartbeats 4000000 in
theorem least_any {w : World} {Rw k : Nat} {a b c d : Value} {x m : Int} (hL : Rw < w.heap.size) (k0 : w.cell? ⟨Rw, k, none⟩ = some a) (k1 : w.cell? ⟨Rw, k + 1, none⟩ = some b) (k2 : w.cell? ⟨Rw, k + 2, none⟩ = some c) (k3 : w.cell? ⟨Rw, k + 2 + 1, none⟩ = some d)
    (hx : IC w a b x) (hm : IC w c d m) (hx2 : Wn 4 x) (hm2 : Wn 4 m) :
    Calls Tryz.prog 78 #[.pointer (some ⟨Rw, k, none⟩)] w (PostW (VI (if 0 < sgn (x + x - m) then x - m else x)) w) := by
  obtain ⟨z, hz⟩ : ∃ z, z = if 0 < sgn (x + x - m) then x - m else x := ⟨_, rfl⟩
  rw [← hz]
  have HZ := Lib.hid hz
  clear hz
  have HX := Lib.hid hx; have HM := Lib.hid hm; have HLt := Lib.hid hL
  have HK0 := Lib.hid k0; have HK1 := Lib.hid k1; have HK2 := Lib.hid k2; have HK3 := Lib.hid k3
  have HWx := Lib.hid hx2; have HWm := Lib.hid hm2
  have HWxx := Lib.hid (hx2.add hx2)
  have HBA := Lib.hid ((Below.refl w.heap.size w).alloc (Nat.le_refl _) (.cells #[.bool false, .slice none 0 0] 47))
  have HNB := Lib.hid (IBox.new (ic_zero w))
  clear hL k0 k1 k2 k3 hx hm hx2 hm2
  go_enter Tryz.func78, Tryz.ntmps78
  go_upto_region 1 with fail
  obtain ⟨W1, hW1⟩ : ∃ W1, W1 = w.alloc (.cells #[.bool false, .slice none 0 0] 47) := ⟨_, rfl⟩
  rw [← hW1] at HBA HNB
  rw [← hW1]
  obtain ⟨Q, hQ⟩ : ∃ Q, Q = w.heap.size := ⟨_, rfl⟩
  rw [← hQ] at HNB
  rw [← hQ]
  have HQ := Lib.hid hQ
  clear hW1 hQ
  have HX1 := Lib.hid (HX.out.keep HBA.out); have HM1 := Lib.hid (HM.out.keep HBA.out)
  have HL1 := Lib.hid (Nat.lt_of_lt_of_le HLt.out HBA.out.size)
  have HC0 := Lib.hid ((HBA.out.cell (p := ⟨Rw, k, none⟩) HLt.out).trans HK0.out)
  have HC1 := Lib.hid ((HBA.out.cell (p := ⟨Rw, k + 1, none⟩) HLt.out).trans HK1.out)
  have HC2 := Lib.hid ((HBA.out.cell (p := ⟨Rw, k + 2, none⟩) HLt.out).trans HK2.out)
  have HC3 := Lib.hid ((HBA.out.cell (p := ⟨Rw, k + 2 + 1, none⟩) HLt.out).trans HK3.out)
  clear HX HM HLt HK0 HK1 HK2 HK3
  refine wp_region_val [(0, 3, VC (.pointer (some ⟨Rw, k, none⟩))), (1, 4, VC (.pointer (some ⟨Rw, k, none⟩))), (2, 5, VC (.pointer (some ⟨Rw, k, none⟩))), (3, 6, VI x), (4, 7, VC (.pointer (some ⟨Rw, k, none⟩))), (5, 8, VC (.pointer (some ⟨Rw, k, none⟩))), (6, 9, VC (.pointer (some ⟨Rw, k, none⟩))), (7, 10, VI x), (8, 11, VI (x + x)), (9, 12, VC (.pointer (some ⟨Rw, k, none⟩))), (10, 13, VC (.pointer (some ⟨Rw, k, none⟩))), (11, 14, VC (.pointer (some ⟨Rw, k + 2, none⟩))), (12, 15, VI m), (13, 16, VC (.int .i64 (sgn (x + x - m)))), (14, 17, VC (.bool (decide (0 < sgn (x + x - m)))))] (fun _ => True) [3, 4, 5, 6, 7, 8, 9, 10, 11, 12, 13, 14, 15, 16, 17] (by kernel_rfl) (by kernel_rfl) (by kernel_rfl) ⟨Keeps.vc _, Keeps.vc _, Keeps.vc _, Keeps.vi _, Keeps.vc _, Keeps.vc _, Keeps.vc _, Keeps.vi _, Keeps.vi _, Keeps.vc _, Keeps.vc _, Keeps.vc _, Keeps.vi _, Keeps.vc _, Keeps.vc _, trivial⟩ (fun _ _ _ _ _ => trivial) trivial (forall_ops ⟨?_, ?_, ?_, ?_, ?_, ?_, ?_, ?_, ?_, ?_, ?_, ?_, ?_, ?_, ?_, trivial⟩) ?_
  · exact .of rfl rfl fun y W hB hE hV hU => .move rfl (fr_out (v := (.pointer (some ⟨Rw, k, none⟩))) (by kernel_rfl) (by kernel_rfl)) rfl
  · exact .of rfl rfl fun y W hB hE hV hU => .nilCheck rfl ((fr_in (by kernel_rfl)).trans (hget hV 0 rfl (by kernel_rfl))) rfl
  · exact .of rfl rfl fun y W hB hE hV hU => .fieldAddr rfl ((fr_in (by kernel_rfl)).trans (hget hV 1 rfl (by kernel_rfl))) (by kernel_rfl) rfl
  · exact .of rfl rfl fun y W hB hE hV hU => .loadI' hB HL1.out HC0.out HC1.out HX1.out rfl ((fr_in (by kernel_rfl)).trans (hget hV 2 rfl (by kernel_rfl)))
  · exact .of rfl rfl fun y W hB hE hV hU => .move rfl (fr_out (v := (.pointer (some ⟨Rw, k, none⟩))) (by kernel_rfl) (by kernel_rfl)) rfl
  · exact .of rfl rfl fun y W hB hE hV hU => .nilCheck rfl ((fr_in (by kernel_rfl)).trans (hget hV 4 rfl (by kernel_rfl))) rfl
  · exact .of rfl rfl fun y W hB hE hV hU => .fieldAddr rfl ((fr_in (by kernel_rfl)).trans (hget hV 5 rfl (by kernel_rfl))) (by kernel_rfl) rfl
  · exact .of rfl rfl fun y W hB hE hV hU => .loadI' hB HL1.out HC0.out HC1.out HX1.out rfl ((fr_in (by kernel_rfl)).trans (hget hV 6 rfl (by kernel_rfl)))
  · exact .of rfl rfl fun y W hB hE hV hU => by obtain ⟨u3, v3, e3, h3⟩ := hget hV 3 rfl (by kernel_rfl); obtain ⟨u7, v7, e7, h7⟩ := hget hV 7 rfl (by kernel_rfl); exact .call Tryz.func55 (by kernel_rfl) rfl rfl rfl (map_two ((fr_in (by kernel_rfl)).trans e3) ((fr_in (by kernel_rfl)).trans e7)) (cAdd h3 h7 HWx.out HWx.out (by omega))
  · exact .of rfl rfl fun y W hB hE hV hU => .move rfl (fr_out (v := (.pointer (some ⟨Rw, k, none⟩))) (by kernel_rfl) (by kernel_rfl)) rfl
  · exact .of rfl rfl fun y W hB hE hV hU => .nilCheck rfl ((fr_in (by kernel_rfl)).trans (hget hV 9 rfl (by kernel_rfl))) rfl
  · exact .of rfl rfl fun y W hB hE hV hU => .fieldAddr rfl ((fr_in (by kernel_rfl)).trans (hget hV 10 rfl (by kernel_rfl))) (by kernel_rfl) rfl
  · exact .of rfl rfl fun y W hB hE hV hU => .loadI' hB HL1.out HC2.out HC3.out HM1.out rfl ((fr_in (by kernel_rfl)).trans (hget hV 11 rfl (by kernel_rfl)))
  · exact .of rfl rfl fun y W hB hE hV hU => by obtain ⟨u8, v8, e8, h8⟩ := hget hV 8 rfl (by kernel_rfl); obtain ⟨u12, v12, e12, h12⟩ := hget hV 12 rfl (by kernel_rfl); exact .call Tryz.func82 (by kernel_rfl) rfl rfl rfl (map_two ((fr_in (by kernel_rfl)).trans e8) ((fr_in (by kernel_rfl)).trans e12)) (cCmp h8 h12 HWxx.out HWm.out (by omega))
  · exact .of rfl rfl fun y W hB hE hV hU => .binOp rfl ((fr_in (by kernel_rfl)).trans (hget hV 13 rfl (by kernel_rfl))) rfl (by simp [go_sem, eqGuard]) rfl
  intro y W2 hB hE hV
  have eV : y 17 = _ := hend hV 14 rfl
  have HX2 := Lib.hid (HX1.out.keep hB); have HM2 := Lib.hid (HM1.out.keep hB)
  have HL2 := Lib.hid (Nat.lt_of_lt_of_le HL1.out hB.size)
  have HD0 := Lib.hid ((hB.cell (p := ⟨Rw, k, none⟩) HL1.out).trans HC0.out)
  have HD1 := Lib.hid ((hB.cell (p := ⟨Rw, k + 1, none⟩) HL1.out).trans HC1.out)
  have HD2 := Lib.hid ((hB.cell (p := ⟨Rw, k + 2, none⟩) HL1.out).trans HC2.out)
  have HD3 := Lib.hid ((hB.cell (p := ⟨Rw, k + 2 + 1, none⟩) HL1.out).trans HC3.out)
  have HNB2 := Lib.hid (HNB.out.keep hB)
  have HB2 := Lib.hid (HBA.out.trans (hB.mono HBA.out.size))
  clear hB hE hV HX1 HM1 HL1 HC0 HC1 HC2 HC3 HNB HBA
  generalize hact : fr _ _ y = act
  simp only [fr, putAll, List.foldl_cons, List.foldl_nil, List.setIfInBounds_toArray, List.set_cons_zero, List.set_cons_succ, eV] at hact
  subst hact
  clear eV
  by_cases hs : 0 < sgn (x + x - m)
  · rw [decide_eq_true hs]
    have HZ2 := Lib.hid (show z = x - m by rw [HZ.out, if_pos hs])
    clear hs HZ
    go_upto_region 2 with fail
    refine wp_region_tail 9 [(0, 18, VC (.pointer (some ⟨Rw, k, none⟩))), (1, 19, VC (.pointer (some ⟨Rw, k, none⟩))), (2, 20, VC (.pointer (some ⟨Rw, k, none⟩))), (3, 21, VI x), (4, 22, VC (.pointer (some ⟨Rw, k, none⟩))), (5, 23, VC (.pointer (some ⟨Rw, k, none⟩))), (6, 24, VC (.pointer (some ⟨Rw, k + 2, none⟩))), (7, 25, VI m), (8, 26, VI (x - m))] (fun _ => True) [18, 19, 20, 21, 22, 23, 24, 25, 26] (by kernel_rfl) (by kernel_rfl) (by kernel_rfl) (by kernel_rfl) (by kernel_rfl) ⟨Keeps.vc _, Keeps.vc _, Keeps.vc _, Keeps.vi _, Keeps.vc _, Keeps.vc _, Keeps.vc _, Keeps.vi _, Keeps.vi _, trivial⟩ (fun _ _ _ _ _ => trivial) trivial (by decide) (forall_lt _ ⟨?_, ?_, ?_, ?_, ?_, ?_, ?_, ?_, ?_, trivial⟩) ?_
    · exact .of rfl rfl fun y W hB hE hV hU => .move rfl (fr_out (v := (.pointer (some ⟨Rw, k, none⟩))) (by kernel_rfl) (by kernel_rfl)) rfl
    · exact .of rfl rfl fun y W hB hE hV hU => .nilCheck rfl ((fr_in (by kernel_rfl)).trans (hget hV 0 rfl (by kernel_rfl))) rfl
    · exact .of rfl rfl fun y W hB hE hV hU => .fieldAddr rfl ((fr_in (by kernel_rfl)).trans (hget hV 1 rfl (by kernel_rfl))) (by kernel_rfl) rfl
    · exact .of rfl rfl fun y W hB hE hV hU => .loadI' hB HL2.out HD0.out HD1.out HX2.out rfl ((fr_in (by kernel_rfl)).trans (hget hV 2 rfl (by kernel_rfl)))
    · exact .of rfl rfl fun y W hB hE hV hU => .move rfl (fr_out (v := (.pointer (some ⟨Rw, k, none⟩))) (by kernel_rfl) (by kernel_rfl)) rfl
    · exact .of rfl rfl fun y W hB hE hV hU => .nilCheck rfl ((fr_in (by kernel_rfl)).trans (hget hV 4 rfl (by kernel_rfl))) rfl
    · exact .of rfl rfl fun y W hB hE hV hU => .fieldAddr rfl ((fr_in (by kernel_rfl)).trans (hget hV 5 rfl (by kernel_rfl))) (by kernel_rfl) rfl
    · exact .of rfl rfl fun y W hB hE hV hU => .loadI' hB HL2.out HD2.out HD3.out HM2.out rfl ((fr_in (by kernel_rfl)).trans (hget hV 6 rfl (by kernel_rfl)))
    · exact .of rfl rfl fun y W hB hE hV hU => by obtain ⟨u3, v3, e3, h3⟩ := hget hV 3 rfl (by kernel_rfl); obtain ⟨u7, v7, e7, h7⟩ := hget hV 7 rfl (by kernel_rfl); exact .call Tryz.func54 (by kernel_rfl) rfl rfl rfl (map_two ((fr_in (by kernel_rfl)).trans e3) ((fr_in (by kernel_rfl)).trans e7)) (cSub h3 h7 HWx.out HWm.out (by omega))
    intro y W3 hB hE hV
    obtain ⟨u, v, e5, h5⟩ : VI (x - m) (y 26) W3 := hend hV 8 rfl
    have HB3 := Lib.hid (HB2.out.trans (hB.mono HB2.out.size))
    have HNB3 := Lib.hid (HNB2.out.keep hB)
    clear hB hE hV HX2 HM2 HL2 HD0 HD1 HD2 HD3 HNB2 HB2
    generalize hact : fr _ _ y = act
    simp only [fr, putAll, List.foldl_cons, List.foldl_nil, List.setIfInBounds_toArray, List.set_cons_zero, List.set_cons_succ, e5] at hact
    subst hact
    clear e5
    show wpList _ _ _ [_] _ _
    obtain ⟨s9, A9, n9, c9, hlt9, q0, q1, f9, ni, -⟩ := HNB3.out
    have f0 := f9 0; have f1 := f9 1
    obtain ⟨A5, c5, e1, e2, h6⟩ := h5
    subst e1 e2
    have HFin := Lib.hid (show PostW (VI (x - m)) w (.returned (.agg #[.bool (sgB (x - m)), .slice A5 (lnW (x - m)) c5])) ((W3.setCell ⟨Q, 0, none⟩ (.bool (sgB (x - m)))).setCell ⟨Q, 1, none⟩ (.slice A5 (lnW (x - m)) c5)) from
      ⟨_, rfl, ⟨_, _, rfl, ic_put (show IC W3 _ _ (x - m) from ⟨A5, c5, rfl, rfl, h6⟩) ni (fun k n e => by cases e)⟩, below_put HB3.out (Nat.le_of_eq HQ.out.symm) _ _⟩)
    clear f9 ni h6 hlt9
    generalize sgB (x - m) = s5 at *
    generalize lnW (x - m) = n5 at *
    go_wp2_with fail
    refine bodyPost_ret (v := .agg #[.bool s5, .slice A5 n5 c5]) (by simp [results, Tryz.results78, go_sem, q0, q1]) rfl ?_
    rw [HZ2.out]; exact HFin.out
  · rw [decide_eq_false hs]
    have HZ2 := Lib.hid (show z = x by rw [HZ.out, if_neg hs])
    clear hs HZ
    have x0 := HD0.out; have x1 := HD1.out
    obtain ⟨a1, a2, e1, e2, -⟩ := HX2.out
    subst e1 e2
    have HN := Lib.hid (cNormal HX2.out HWx.out (by omega))
    generalize sgB x = s4 at *
    generalize lnW x = n4 at *
    go_wp2_with fail
    refine HN.out.mono ?_
    rintro e W3 ⟨_, rfl, ⟨u, v, rfl, h5⟩, hB⟩
    have HB3 := Lib.hid (HB2.out.trans (hB.mono HB2.out.size))
    have HNB3 := Lib.hid (HNB2.out.keep hB)
    clear hB HX2 HM2 HL2 HD0 HD1 HD2 HD3 HNB2 HB2 x0 x1
    obtain ⟨s9, A9, n9, c9, hlt9, q0, q1, f9, ni, -⟩ := HNB3.out
    have f0 := f9 0; have f1 := f9 1
    obtain ⟨A5, c5, e1, e2, h6⟩ := h5
    subst e1 e2
    have HFin := Lib.hid (show PostW (VI x) w (.returned (.agg #[.bool (sgB x), .slice A5 (lnW x) c5])) ((W3.setCell ⟨Q, 0, none⟩ (.bool (sgB x))).setCell ⟨Q, 1, none⟩ (.slice A5 (lnW x) c5)) from
      ⟨_, rfl, ⟨_, _, rfl, ic_put (show IC W3 _ _ x from ⟨A5, c5, rfl, rfl, h6⟩) ni (fun k n e => by cases e)⟩, below_put HB3.out (Nat.le_of_eq HQ.out.symm) _ _⟩)
    clear f9 ni h6 hlt9
    generalize sgB x = s5 at *
    generalize lnW x = n5 at *
    go_wp2_with fail
    refine bodyPost_ret (v := .agg #[.bool s5, .slice A5 n5 c5]) (by simp [results, Tryz.results78, go_sem, q0, q1]) rfl ?_
    rw [HZ2.out]; exact HFin.out
end Go.Proofs.YthkklilhjnpedaaGreat
end
section
namespace Go.Proofs.YthkklilhjnpedaaGreat
open Go.RowKit FF
theorem joined_make (t : TypeId) (ht : Tryz.prog.underlying t = some (.slice 117)) (N : Nat) (hN : N ≤ 1000000) (W : World) : (Instr.makeSlice t (.int .i64 (N : Int)) (.int .i64 (N : Int))).run Tryz.prog W =
    .ok (.slice (some ⟨W.heap.size, 0, none⟩) N N) (W.alloc (.cells (madeCells #[.bool false, .slice none 0 0, .bool false, .slice none 0 0] (N * 4)) 117)) := by
  obtain ⟨i0, hi, hz0, hz1, hz2⟩ := info_parts info_joined
  have := run_make (P := Tryz.prog) W t _ i0 _ ht hi hz0 .i64 .i64 N N (by omega) (Int.le_refl _) (by rw [hz2]; omega) (by omega)
  rw [this, hz1]; rfl
theorem Own.made_joined {w W : World} {N : Nat} (hB : Below w.heap.size w W) (hN : N ≤ 1000000) : Own eJ w (.slice (some ⟨W.heap.size, 0, none⟩) N N) (List.replicate N ((0, 0), [.bool false, .slice none 0 0, .bool false, .slice none 0 0])) (W.alloc (.cells (madeCells #[.bool false, .slice none 0 0, .bool false, .slice none 0 0] (N * 4)) 117)) :=
  Own.made (e := eJ) (N := N) (x := ((0 : Int), (0 : Int))) (w := w) (W := W) (fun W => ⟨_, _, _, _, rfl, ic_zero W, ic_zero W⟩) hB (by unfold maxLen; omega)
def chkD (n : Nat) : Nat → Nat → Bool
  | 0, lo => !(Nat.beq (n % lo) 0)
  | k + 1, lo => chkD n k lo && chkD n k (lo + 2 ^ k)
theorem chkD_spec {n : Nat} : ∀ {k lo : Nat}, chkD n k lo = true → ∀ d, lo ≤ d → d < lo + 2 ^ k → n % d ≠ 0
  | 0, lo, h, d, h1, h2 => by
    obtain rfl : d = lo := by simp at h2; omega
    intro e
    simp [chkD, e] at h
  | k + 1, lo, h, d, h1, h2 => by
    simp only [chkD, Bool.and_eq_true] at h
    by_cases hd : d < lo + 2 ^ k
    · exact chkD_spec h.1 d h1 hd
    · exact chkD_spec h.2 d (by omega) (by rw [Nat.pow_succ] at h2; omega)
def fdiv (n : Nat) : Nat → Nat → Nat
  | 0, lo => bif Nat.beq (n % lo) 0 then lo else 0
  | k + 1, lo => match fdiv n k lo with
    | 0 => fdiv n k (lo + 2 ^ k)
    | d => d
theorem no_primes0 : ((List.range 63).all fun j => let n := 1000000000 - j; let d := fdiv n 15 2; Nat.ble 2 d && Nat.blt d n && Nat.beq (n % d) 0) = true := by decide +kernel
theorem no_primes (j : Nat) (hj : j < 63) : isPB (1000000000 - (j : Int)) = false := by
  have h := List.all_eq_true.1 no_primes0 j (List.mem_range.2 hj)
  simp only [Bool.and_eq_true, Nat.ble_eq, Nat.beq_eq] at h
  obtain ⟨⟨h1, h2⟩, h3⟩ := h
  have h2' : fdiv (1000000000 - j) 15 2 < 1000000000 - j := Nat.lt_of_succ_le (by simpa [Nat.blt] using h2)
  cases e : isPB (1000000000 - (j : Int)) with
  | false => rfl
  | true =>
    have hp := (isPB_iff.1 e).1
    rw [show (1000000000 - (j : Int)).toNat = 1000000000 - j by omega] at hp
    exact absurd (Nat.dvd_of_mod_eq_zero h3) (hp.not_dvd_of_lt h1 h2')
theorem one_prime0 : chkD 999999937 15 2 = true := by decide +kernel
theorem one_prime : isPB 999999937 = true := by
  refine isPB_iff.2 ⟨isP_of_trial (by decide) (fun d h1 h2 h3 => ?_), by decide⟩
  have h4 : d < 2 + 2 ^ 15 := by
    apply Nat.lt_of_not_le
    intro hd
    have := Nat.mul_le_mul hd hd
    have h5 : d * d ≤ 999999937 := h2
    omega
  exact chkD_spec one_prime0 d h1 h4 (Nat.mod_eq_zero_of_dvd h3)
theorem np_off {l : List Int} {v : Value} {W : World} {g : Nat} (h : NP l v W) (hl : 0 < l.length) (hc : Clean eInt.Bad W g) : Off g v := by
  rintro b o n c rfl rfl
  obtain ⟨b1, o1, e1, -, h1⟩ := np_at h (i := 0) (z := l[0]) (List.getElem?_eq_getElem hl)
  injection e1 with e1
  injection e1 with e2 e3
  subst e2 e3
  exact hc _ _ h1 ⟨_, _, rfl⟩
theorem np_alt {l : List Int} {v : Value} {W W' : World} {g : Nat} (h : NP l v W) (hl : 0 < l.length) (hc : Clean eInt.Bad W g) (ha : Alt (some g) W W') : NP l v W' := Sl.other h ha (fun _ _ _ hf => hf) (np_off h hl hc)
set_option maxRecDepth 3000 in
set_option maxHeartbeats 4000000 in
theorem Characteristic_c {v : Value} {w : World} (hv : Sl eRow [[1, 2], [3, 0]] v w) : Calls Tryz.prog 49 #[v] w (PostW (fun r W => ∃ l, r = .tuple #[l, .int .i64 0] ∧ VP [-6, -1, 1] l W) w) := by
  have HCm := Lib.hid (checkMatrix_c hv)
  have HV := Lib.hid hv
  obtain ⟨B, O, C, u0, u1, b0, o0, c0, b1, o1, c1, rfl, rfl, rfl, -⟩ := rows2 hv
  clear hv
  obtain ⟨i0, hi, hz0, hz1, hz2⟩ := info_parts info_Int
  have HI := Lib.hid hi; have HZ0 := Lib.hid hz0; have HZ1 := Lib.hid hz1; have HZ2 := Lib.hid hz2
  have HBA := Lib.hid (show ∀ (W : World) o, Below W.heap.size W (W.alloc o) from fun W o => (Below.refl W.heap.size W).alloc (Nat.le_refl _) o)
  clear hi hz0 hz1 hz2
  go_enter Tryz.func49, Tryz.ntmps49
  go_wp2_with fail
  refine HCm.out.mono ?_
  rintro e w1 ⟨_, rfl, rfl, hb1⟩
  have HB1 := Lib.hid hb1
  obtain ⟨B', O', C', u0, u1, b0', o0', c0', b1', o1', c1', e9, rfl, rfl, q0, q1, x0, x1, y0, y1⟩ := rows2 (HV.out.keep hb1)
  injection e9 with e9 e9a e9b
  injection e9 with e9
  injection e9 with e9c e9d
  subst e9c e9d e9b
  clear HCm hb1
  go_wp2_with fail
  refine wp_loop_rounds 3 ?_
  rw [rounds_succ]
  go_wp2_with fail
  refine wp_loop_rounds 3 ?_
  rw [rounds_succ]
  go_wp2_with fail
  rw [rounds_succ]
  go_wp2_with fail
  rw [rounds_succ]
  go_wp2_with fail
  rw [rounds_succ]
  go_wp2_with fail
  refine wp_loop_rounds 3 ?_
  rw [rounds_succ]
  go_wp2_with fail
  rw [rounds_succ]
  go_wp2_with fail
  rw [rounds_succ]
  go_wp2_with fail
  rw [rounds_succ]
  clear q0 q1 x0 x1 y0 y1
  have hmk := (show ∀ W : World, (Instr.makeSlice 115 (.int .i64 3) (.int .i64 3)).run Tryz.prog W = .ok (.slice (some ⟨W.heap.size, 0, none⟩) 3 3) (W.alloc (.cells (madeCells #[.bool false, .slice none 0 0, .bool false, .slice none 0 0] (3 * 4)) 117)) from joined_make _ Tryz.underlying115 3 (by omega))
  go_wp2_with fail
  have HM := Lib.hid (Own.made_joined (w := w1) (N := 3) (Below.refl _ _) (by omega))
  obtain ⟨Rw, hRw⟩ : ∃ Rw, Rw = w1.heap.size := ⟨_, rfl⟩
  rw [← hRw] at HM
  rw [← hRw]
  clear hRw hmk
  have HJ0 := Lib.hid (show Own eJ w1 (.slice (some ⟨Rw, 0, none⟩) 3 3) [((0, 0), [.bool false, .slice none 0 0, .bool false, .slice none 0 0]), ((0, 0), [.bool false, .slice none 0 0, .bool false, .slice none 0 0]), ((0, 0), [.bool false, .slice none 0 0, .bool false, .slice none 0 0])] _ from HM.out)
  obtain ⟨V0, hV0⟩ : ∃ V, V = w1.alloc (.cells (madeCells #[.bool false, .slice none 0 0, .bool false, .slice none 0 0] (3 * 4)) 117) := ⟨_, rfl⟩
  rw [← hV0] at HJ0
  have hV0' : V0 = w1.alloc (.cells (madeCells #[.bool false, .slice none 0 0, .bool false, .slice none 0 0] 12) 117) := hV0
  rw [← hV0']
  clear hV0 hV0' HM
  refine wp_loop_rounds 4 ?_
  rw [rounds_succ]
  go_wp2_with fail
  refine (cOf 1 V0 (by unfold I64; omega)).mono ?_
  rintro e w3 ⟨_, rfl, ⟨u, v, rfl, h3⟩, hb3⟩
  have HJb := Lib.hid (HJ0.out.keep hb3)
  obtain ⟨hc, -⟩ := HJb.out.cell (i := 0) rfl
  have k2 : w3.cell? ⟨Rw, 2, none⟩ = some (.bool false) := hc 2 _ rfl
  have k3 : w3.cell? ⟨Rw, 3, none⟩ = some (.slice none 0 0) := hc 3 _ rfl
  have k0 : w3.cell? ⟨Rw, 0 * 4, none⟩ = some (.bool false) := hc 0 _ rfl
  have k1 : w3.cell? ⟨Rw, 0 * 4 + 1, none⟩ = some (.slice none 0 0) := hc 1 _ rfl
  have f2 := HJb.out.fz 2; have f3 := HJb.out.fz 3
  obtain ⟨A0, c0, rfl, rfl, h4⟩ := h3
  have HS := Lib.hid (HJb.out.setM (y := (0, 1)) (i := 0) (by simp) ⟨_, _, _, _, rfl, ic_zero w3, (⟨A0, c0, rfl, rfl, h4⟩ : IC w3 _ _ 1)⟩ k0 k1)
  clear hc k0 k1 h4 hb3
  generalize sgB 1 = s0 at *
  generalize lnW 1 = n0 at *
  go_wp2_with fail
  clear k2 k3 f2 f3 HJb
  obtain ⟨V1, hV⟩ : ∃ V, V = (w3.setCell ⟨Rw, 2, none⟩ (.bool s0)).setCell ⟨Rw, 3, none⟩ (.slice A0 n0 c0) := ⟨_, rfl⟩
  have HJ1 := Lib.hid (show Own eJ w1 (.slice (some ⟨Rw, 0, none⟩) 3 3) [((0, 1), [.bool false, .slice none 0 0, .bool s0, .slice A0 n0 c0]), ((0, 0), [.bool false, .slice none 0 0, .bool false, .slice none 0 0]), ((0, 0), [.bool false, .slice none 0 0, .bool false, .slice none 0 0])] V1 from by rw [hV]; exact HS.out)
  rw [← hV]
  clear hV HS HJ0
  rw [rounds_succ]
  go_wp2_with fail
  refine (cOf 1 V1 (by unfold I64; omega)).mono ?_
  rintro e w3 ⟨_, rfl, ⟨u, v, rfl, h3⟩, hb3⟩
  have HJb := Lib.hid (HJ1.out.keep hb3)
  obtain ⟨hc, -⟩ := HJb.out.cell (i := 1) rfl
  have k2 : w3.cell? ⟨Rw, 6, none⟩ = some (.bool false) := hc 2 _ rfl
  have k3 : w3.cell? ⟨Rw, 7, none⟩ = some (.slice none 0 0) := hc 3 _ rfl
  have k0 : w3.cell? ⟨Rw, 1 * 4, none⟩ = some (.bool false) := hc 0 _ rfl
  have k1 : w3.cell? ⟨Rw, 1 * 4 + 1, none⟩ = some (.slice none 0 0) := hc 1 _ rfl
  have f2 := HJb.out.fz 6; have f3 := HJb.out.fz 7
  obtain ⟨A1, c1, rfl, rfl, h4⟩ := h3
  have HS := Lib.hid (HJb.out.setM (y := (0, 1)) (i := 1) (by simp) ⟨_, _, _, _, rfl, ic_zero w3, (⟨A1, c1, rfl, rfl, h4⟩ : IC w3 _ _ 1)⟩ k0 k1)
  clear hc k0 k1 h4 hb3
  generalize sgB 1 = s1 at *
  generalize lnW 1 = n1 at *
  go_wp2_with fail
  clear k2 k3 f2 f3 HJb
  obtain ⟨V2, hV⟩ : ∃ V, V = (w3.setCell ⟨Rw, 6, none⟩ (.bool s1)).setCell ⟨Rw, 7, none⟩ (.slice A1 n1 c1) := ⟨_, rfl⟩
  have HJ2 := Lib.hid (show Own eJ w1 (.slice (some ⟨Rw, 0, none⟩) 3 3) [((0, 1), [.bool false, .slice none 0 0, .bool s0, .slice A0 n0 c0]), ((0, 1), [.bool false, .slice none 0 0, .bool s1, .slice A1 n1 c1]), ((0, 0), [.bool false, .slice none 0 0, .bool false, .slice none 0 0])] V2 from by rw [hV]; exact HS.out)
  rw [← hV]
  clear hV HS HJ1
  rw [rounds_succ]
  go_wp2_with fail
  refine (cOf 1 V2 (by unfold I64; omega)).mono ?_
  rintro e w3 ⟨_, rfl, ⟨u, v, rfl, h3⟩, hb3⟩
  have HJb := Lib.hid (HJ2.out.keep hb3)
  obtain ⟨hc, -⟩ := HJb.out.cell (i := 2) rfl
  have k2 : w3.cell? ⟨Rw, 10, none⟩ = some (.bool false) := hc 2 _ rfl
  have k3 : w3.cell? ⟨Rw, 11, none⟩ = some (.slice none 0 0) := hc 3 _ rfl
  have k0 : w3.cell? ⟨Rw, 2 * 4, none⟩ = some (.bool false) := hc 0 _ rfl
  have k1 : w3.cell? ⟨Rw, 2 * 4 + 1, none⟩ = some (.slice none 0 0) := hc 1 _ rfl
  have f2 := HJb.out.fz 10; have f3 := HJb.out.fz 11
  obtain ⟨A2, c2, rfl, rfl, h4⟩ := h3
  have HS := Lib.hid (HJb.out.setM (y := (0, 1)) (i := 2) (by simp) ⟨_, _, _, _, rfl, ic_zero w3, (⟨A2, c2, rfl, rfl, h4⟩ : IC w3 _ _ 1)⟩ k0 k1)
  clear hc k0 k1 h4 hb3
  generalize sgB 1 = s2 at *
  generalize lnW 1 = n2 at *
  go_wp2_with fail
  clear k2 k3 f2 f3 HJb
  obtain ⟨V3, hV⟩ : ∃ V, V = (w3.setCell ⟨Rw, 10, none⟩ (.bool s2)).setCell ⟨Rw, 11, none⟩ (.slice A2 n2 c2) := ⟨_, rfl⟩
  have HJ3 := Lib.hid (show Own eJ w1 (.slice (some ⟨Rw, 0, none⟩) 3 3) [((0, 1), [.bool false, .slice none 0 0, .bool s0, .slice A0 n0 c0]), ((0, 1), [.bool false, .slice none 0 0, .bool s1, .slice A1 n1 c1]), ((0, 1), [.bool false, .slice none 0 0, .bool s2, .slice A2 n2 c2])] V3 from by rw [hV]; exact HS.out)
  rw [← hV]
  clear hV HS HJ2
  rw [rounds_succ]
  go_wp2_with fail
  refine (length2 V3).mono ?_
  rintro e V4 ⟨_, rfl, rfl, hb4⟩
  go_wp2_with fail
  refine (length3 V4).mono ?_
  rintro e V5 ⟨_, rfl, rfl, hb5⟩
  have HJ5 := Lib.hid ((HJ3.out.keep hb4).keep hb5)
  clear hb4 hb5 HJ3
  go_wp2_with fail
  obtain ⟨e0, e1, e2, hJ5⟩ : ∃ e0 e1 e2 : List Value, Own eJ w1 (.slice (some ⟨Rw, 0, none⟩) 3 3) [((0, 1), e0), ((0, 1), e1), ((0, 1), e2)] V5 := ⟨_, _, _, HJ5.out⟩
  have HJ5 := Lib.hid hJ5
  clear hJ5
  go_loopw [13, 14] (fun s13 s14 wr => (s13 = .int .i64 12 ∧ ∃ p : Int, s14 = .int .i64 p ∧ 999999937 ≤ p ∧ p ≤ 1000000000 ∧ Own eJ w1 (.slice (some ⟨Rw, 0, none⟩) 3 3) [((0, 1), e0), ((0, 1), e1), ((0, 1), e2)] wr) ∨ (s13 = .int .i64 (-17) ∧ ∃ d0 d1 d2 : List Value, Own eJ w1 (.slice (some ⟨Rw, 0, none⟩) 3 3) [((999999931, 999999937), d0), ((999999936, 999999937), d1), ((1, 999999937), d2)] wr)) (fun s13 s14 _ => (intOf s13 + 17).toNat * 10000000 + (intOf s14 - 999999900).toNat)
  case atStart => exact .inl ⟨rfl, 1000000000, rfl, by decide, by decide, HJ5.out⟩
  case round =>
    rcases hrel with ⟨rfl, p, rfl, hp0, hp1, hO⟩ | ⟨rfl, d0, d1, d2, hO⟩
    · have HP := Lib.hid (show 999999937 ≤ p ∧ p ≤ 1000000000 from ⟨hp0, hp1⟩)
      have HO := Lib.hid hO
      clear hp0 hp1 hO
      go_wp2_with fail
      refine (isPrime_any p wr).mono ?_
      rintro e w3 ⟨rfl, nn, rfl⟩
      have hb3 : Below wr.heap.size wr (wr.drewN nn) := below_drewN (Below.refl _ _) nn
      have HO3 := Lib.hid (HO.out.keep hb3)
      generalize wr.drewN nn = W3 at *
      clear hb3
      by_cases hq : p = 999999937
      · subst hq
        rw [one_prime]
        go_wp2_with fail
        refine (reduced_any (a := 1) (b := 2) (c := 3) (d := 0) (p := 999999937) (HV.out.keep (HB1.out.trans (HO3.out.below.mono HB1.out.size))) (by decide) (by decide) (by decide) (by decide) (by decide)).mono ?_
        rintro e W4 ⟨_, rfl, ⟨X, G, cap, r0, r1, rfl, hM, hm⟩, hb4⟩
        have HO4 := Lib.hid (HO3.out.keep hb4)
        have HCh := Lib.hid (characteristic_c hM hm)
        clear hM hm hb4
        go_wp2_with fail
        refine HCh.out.mono ?_
        rintro e W5 ⟨_, rfl, hN, hb5⟩
        have HJ0 := Lib.hid (HO4.out.keep hb5)
        obtain ⟨A, cA, rfl, l1, l2⟩ := Sl.len hN
        obtain ⟨bb, oo, rfl, -, z0⟩ := np_at hN (i := 0) rfl
        have HN0 := Lib.hid hN
        clear hN hb5 z0 l1 l2
        simp only [List.length_cons, List.length_nil] at *
        go_wp2_with fail
        refine wp_loop_rounds 4 ?_
        rw [rounds_succ]
        obtain ⟨bb9, oo9, e9, -, zz⟩ := np_at HN0.out (i := 0) rfl
        injection e9 with e9; injection e9 with e9a e9b; subst e9a e9b
        rw [Nat.add_zero] at zz
        go_wp2_with fail
        refine (join_c (i := 0) (r := 999999931) HJ0.out rfl (by decide) (by decide) rfl).mono ?_
        rintro e W6 ⟨rfl, d0, hO, hA⟩
        have HN1 := Lib.hid (np_alt HN0.out (by decide) (HJ0.out.2.2.2 Rw rfl) hA)
        have HJ1 := Lib.hid hO
        clear hO hA zz
        go_wp2_with fail
        rw [rounds_succ]
        obtain ⟨bb9, oo9, e9, -, zz⟩ := np_at HN1.out (i := 1) rfl
        injection e9 with e9; injection e9 with e9a e9b; subst e9a e9b
        go_wp2_with fail
        refine (join_c (i := 1) (r := 999999936) HJ1.out rfl (by decide) (by decide) rfl).mono ?_
        rintro e W7 ⟨rfl, d1, hO, hA⟩
        have HN2 := Lib.hid (np_alt HN1.out (by decide) (HJ1.out.2.2.2 Rw rfl) hA)
        have HJ2 := Lib.hid hO
        clear hO hA zz
        go_wp2_with fail
        rw [rounds_succ]
        obtain ⟨bb9, oo9, e9, -, zz⟩ := np_at HN2.out (i := 2) rfl
        injection e9 with e9; injection e9 with e9a e9b; subst e9a e9b
        go_wp2_with fail
        refine (join_c (i := 2) (r := 1) HJ2.out rfl (by decide) (by decide) rfl).mono ?_
        rintro e W8 ⟨rfl, d2, hO, hA⟩
        have HN3 := Lib.hid (np_alt HN2.out (by decide) (HJ2.out.2.2.2 Rw rfl) hA)
        have HJ3 := Lib.hid hO
        clear hO hA zz
        go_wp2_with fail
        rw [rounds_succ]
        go_wp2_with fail
        exact ⟨.inr ⟨rfl, d0, d1, d2, HJ3.out⟩, by simp only [intOf]; omega⟩
      · rw [show isPB p = false from by
          have hh := HP.out
          have := no_primes (1000000000 - p).toNat (by omega)
          rwa [show (1000000000 - ((1000000000 - p).toNat : Int)) = p by omega] at this]
        have hw : wrap64 (p - 1) = p - 1 := by have := HP.out; unfold wrap64; omega
        go_wp2_with fail
        refine ⟨.inl ⟨rfl, p - 1, by rw [hw], by have := HP.out; omega, by have := HP.out; omega, HO3.out⟩, ?_⟩
        have := HP.out
        rw [hw]; simp only [intOf]; omega
    · have HO := Lib.hid hO
      have HL0 := Lib.hid (Own.start eInt (Below.refl wr.heap.size wr))
      clear hO
      go_wp2_with fail
      refine wp_loop_rounds 4 ?_
      rw [rounds_succ]
      go_wp2_with fail
      obtain ⟨hc, a, b, c, d, ed, hx, hm⟩ := (HO.out.keep HL0.out.below).cell (i := 0) rfl
      dsimp only at hx hm ed
      subst ed
      refine (least_any (Rw := Rw) (k := 0) (x := 999999931) (m := 999999937) ((HO.out.keep HL0.out.below).1.lt Rw rfl).2 (hc 0 a rfl) (hc 1 b rfl) (hc 2 c rfl) (hc 3 d rfl) hx hm (by unfold Wn; decide) (by unfold Wn; decide)).mono ?_
      rintro e wl ⟨_, rfl, ⟨u0, v0, rfl, h3⟩, hb⟩
      rw [show (if 0 < sgn ((999999931 : Int) + 999999931 - 999999937) then (999999931 : Int) - 999999937 else 999999931) = -6 from by decide] at h3
      have HLb := Lib.hid (HL0.out.keep hb)
      have H3 := Lib.hid (show eInt.E (-6) [u0, v0] wl from ⟨_, _, rfl, h3⟩)
      clear hc hx hm h3 hb
      go_wp2_with (at_builtin; refine wpList_append_el rfl (.tmp 99) (.tmp 104) 41 rfl i0 Tryz.underlying41 HI.out HZ0.out HZ1.out HZ2.out (HLb.out.keep (HBA.out _ _)) (y := -6) (cs := [u0, v0]) (eInt.keep H3.out (HBA.out _ _)) ⟨wl.heap.size, 0, none⟩ 1 rfl rfl (fun d u hd => by rcases d with _ | _ | d; (injection hd with hd; subst hd; simp [go_sem]); (injection hd with hd; subst hd; simp [go_sem]); simp at hd) (by simp) ?_; intro v' w2 hg2; obtain ⟨G0, cap0, rfl, hcap, hcm, hGl, hGh⟩ := hg2.form (by simp); have HL1 := Lib.hid hg2; clear hg2 hcap hcm hGl hGh)
      obtain ⟨W9, hW9⟩ : ∃ W : World, W = w2 := ⟨_, rfl⟩
      subst hW9
      clear HLb H3
      rw [rounds_succ]
      go_wp2_with fail
      obtain ⟨hc, a, b, c, d, ed, hx, hm⟩ := (HO.out.keep HL1.out.below).cell (i := 1) rfl
      dsimp only at hx hm ed
      subst ed
      refine (least_any (Rw := Rw) (k := 4) (x := 999999936) (m := 999999937) ((HO.out.keep HL1.out.below).1.lt Rw rfl).2 (hc 0 a rfl) (hc 1 b rfl) (hc 2 c rfl) (hc 3 d rfl) hx hm (by unfold Wn; decide) (by unfold Wn; decide)).mono ?_
      rintro e wl ⟨_, rfl, ⟨u1, v1, rfl, h3⟩, hb⟩
      rw [show (if 0 < sgn ((999999936 : Int) + 999999936 - 999999937) then (999999936 : Int) - 999999937 else 999999936) = -1 from by decide] at h3
      have HLb := Lib.hid (HL1.out.keep hb)
      have H3 := Lib.hid (show eInt.E (-1) [u1, v1] wl from ⟨_, _, rfl, h3⟩)
      clear hc hx hm h3 hb
      go_wp2_with (at_builtin; refine wpList_append_el rfl (.tmp 99) (.tmp 104) 41 rfl i0 Tryz.underlying41 HI.out HZ0.out HZ1.out HZ2.out (HLb.out.keep (HBA.out _ _)) (y := -1) (cs := [u1, v1]) (eInt.keep H3.out (HBA.out _ _)) ⟨wl.heap.size, 0, none⟩ 1 rfl rfl (fun d u hd => by rcases d with _ | _ | d; (injection hd with hd; subst hd; simp [go_sem]); (injection hd with hd; subst hd; simp [go_sem]); simp at hd) (by simp) ?_; intro v' w2 hg2; obtain ⟨G1, cap1, rfl, hcap, hcm, hGl, hGh⟩ := hg2.form (by simp); have HL2 := Lib.hid hg2; clear hg2 hcap hcm hGl hGh)
      obtain ⟨W9, hW9⟩ : ∃ W : World, W = w2 := ⟨_, rfl⟩
      subst hW9
      clear HLb H3
      rw [rounds_succ]
      go_wp2_with fail
      obtain ⟨hc, a, b, c, d, ed, hx, hm⟩ := (HO.out.keep HL2.out.below).cell (i := 2) rfl
      dsimp only at hx hm ed
      subst ed
      refine (least_any (Rw := Rw) (k := 8) (x := 1) (m := 999999937) ((HO.out.keep HL2.out.below).1.lt Rw rfl).2 (hc 0 a rfl) (hc 1 b rfl) (hc 2 c rfl) (hc 3 d rfl) hx hm (by unfold Wn; decide) (by unfold Wn; decide)).mono ?_
      rintro e wl ⟨_, rfl, ⟨u2, v2, rfl, h3⟩, hb⟩
      rw [show (if 0 < sgn ((1 : Int) + 1 - 999999937) then (1 : Int) - 999999937 else 1) = 1 from by decide] at h3
      have HLb := Lib.hid (HL2.out.keep hb)
      have H3 := Lib.hid (show eInt.E (1) [u2, v2] wl from ⟨_, _, rfl, h3⟩)
      clear hc hx hm h3 hb
      go_wp2_with (at_builtin; refine wpList_append_el rfl (.tmp 99) (.tmp 104) 41 rfl i0 Tryz.underlying41 HI.out HZ0.out HZ1.out HZ2.out (HLb.out.keep (HBA.out _ _)) (y := 1) (cs := [u2, v2]) (eInt.keep H3.out (HBA.out _ _)) ⟨wl.heap.size, 0, none⟩ 1 rfl rfl (fun d u hd => by rcases d with _ | _ | d; (injection hd with hd; subst hd; simp [go_sem]); (injection hd with hd; subst hd; simp [go_sem]); simp at hd) (by simp) ?_; intro v' w2 hg2; obtain ⟨G2, cap2, rfl, hcap, hcm, hGl, hGh⟩ := hg2.form (by simp); have HL3 := Lib.hid hg2; clear hg2 hcap hcm hGl hGh)
      obtain ⟨W9, hW9⟩ : ∃ W : World, W = w2 := ⟨_, rfl⟩
      subst hW9
      clear HLb H3
      rw [rounds_succ]
      go_wp2_with fail
      go_ret2
      exact ⟨_, rfl, ⟨_, rfl, Sl.vp HL3.out.sl⟩, HB1.out.trans ((HO.out.below.trans (HL3.out.below.mono HO.out.below.size)).mono HB1.out.size)⟩
end Go.Proofs.YthkklilhjnpedaaGreat
end
section
namespace Go.Proofs.YthkklilhjnpedaaGreat
open Go.RowKit FF
def gNames : List (List UInt8) := [[48], [49]]
def gEdges : List (List Int) := [[0, 1, 1], [0, 0, 0]]
theorem g_ok : okG gNames gEdges = true := by decide +kernel
theorem g_adj : adjL gEdges = [[1, 2], [3, 0]] := by decide +kernel
set_option maxRecDepth 3000 in
set_option maxHeartbeats 4000000 in
theorem Polynomial_c {a b : Value} {w : World} (hg : GV gNames gEdges a b w) : Calls Tryz.prog 23 #[.agg #[a, b]] w (PostW (fun r W => ∃ l, r = .tuple #[l, .int .i64 0] ∧ VP [-6, -1, 1] l W) w) := by
  obtain ⟨A', c', rfl, -, -⟩ := hg.2.len
  have hB := (Below.refl w.heap.size w).alloc (Nat.le_refl _) (.cells #[a, .slice A' gEdges.length c'] 38)
  have hG := GBox.new (a := a) (b := .slice A' gEdges.length c') (W := w)
  obtain ⟨W1, hW1⟩ : ∃ W1, W1 = w.alloc (.cells #[a, .slice A' gEdges.length c'] 38) := ⟨_, rfl⟩
  rw [← hW1] at hB hG
  have HB1 := Lib.hid hB; have HG := Lib.hid hG; have HW1 := Lib.hid hW1
  have HV := Lib.hid hg
  have HSm := Lib.hid (fun (W : World) (hb : Below W1.heap.size W1 W) => small_any ((hg.keep hB).keep hb) g_ok (by decide))
  have HAd := Lib.hid (fun (W : World) (hb : Below W1.heap.size W1 W) => adjacency_any ((hg.keep hB).keep hb) (by decide) (by decide))
  clear hg hB hG hW1
  rw [show gEdges.length = 2 from rfl] at *
  go_enter Tryz.func23, Tryz.ntmps23
  go_upto_region 1 with fail
  rw [← HW1.out]
  obtain ⟨-, g0, g1⟩ := HG.out
  go_wp2_with fail
  refine (HSm.out W1 (Below.refl _ _)).mono ?_
  rintro e W2 ⟨_, rfl, rfl, hb2⟩
  have HB2 := Lib.hid hb2
  clear g0 g1 hb2
  obtain ⟨-, g0, g1⟩ := HG.out.keep HB2.out
  go_wp2_with fail
  refine (HAd.out W2 HB2.out).mono ?_
  rintro e W3 ⟨v, rfl, hv, hb3⟩
  rw [g_adj] at hv
  have HB3 := Lib.hid (HB2.out.trans (hb3.mono HB2.out.size))
  have HC := Lib.hid (Characteristic_c hv)
  clear hb3 hv g0 g1
  go_wp2_with fail
  refine HC.out.mono ?_
  rintro e W4 ⟨_, rfl, ⟨l, rfl, hl⟩, hb4⟩
  have HL := Lib.hid hl
  have HB4 := Lib.hid (HB3.out.trans (hb4.mono HB3.out.size))
  clear hl hb4
  go_wp2_with fail
  go_ret2
  exact ⟨_, rfl, ⟨_, rfl, HL.out⟩, HB1.out.trans (HB4.out.mono HB1.out.size)⟩
end Go.Proofs.YthkklilhjnpedaaGreat
end
