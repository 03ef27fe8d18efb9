/- The generators of a Cayley graph are the ideals of norm p. -/
import Derived.Test.YthkklilhjnpedaaGreatUJu
import Derived.Test.YthkklilhjnpedaaGreatUHqi
section
namespace Go.Proofs.YthkklilhjnpedaaGreat
open Go.RowKit FF
set_option maxRecDepth 3000 in
set_option maxHeartbeats 4000000 in
theorem walks_c {a b : Value} {w : World} (hg : GV gNames gEdges a b w) : Calls Tryz.prog 32 #[.agg #[a, b], .int .i64 0, .int .i64 2] w (PostW (VP [7, 2]) w) := by
  obtain ⟨A', c', rfl, -, -⟩ := hg.2.len
  have hB := (Below.refl w.heap.size w).alloc (Nat.le_refl _) (.cells #[a, .slice A' gEdges.length c'] 38)
  have hG := GBox.new (a := a) (b := .slice A' gEdges.length c') (W := w)
  obtain ⟨W1, hW1⟩ : ∃ W1, W1 = w.alloc (.cells #[a, .slice A' gEdges.length c'] 38) := ⟨_, rfl⟩
  rw [← hW1] at hB hG
  have HB1 := Lib.hid hB; have HG := Lib.hid hG; have HW1 := Lib.hid hW1
  have HV := Lib.hid (hg.keep hB)
  have hmk := (show ∀ W : World, (Instr.makeSlice 41 (.int .i64 2) (.int .i64 2)).run Tryz.prog W = .ok (.slice (some ⟨W.heap.size, 0, none⟩) 2 2) (W.alloc (.cells (madeCells #[.bool false, .slice none 0 0] (2 * 2)) 47)) from intp_make _ Tryz.underlying41 2 (by omega))
  clear hg hB hG hW1
  rw [show gEdges.length = 2 from rfl] at *
  have HM := Lib.hid (Own.made_int (w := W1) (N := 2) (Below.refl _ _) (by omega))
  go_enter Tryz.func32, Tryz.ntmps32
  go_upto_region 1 with fail
  rw [← HW1.out]
  obtain ⟨Pg, hP⟩ : ∃ X, X = w.heap.size := ⟨_, rfl⟩
  rw [← hP] at HG
  rw [← hP]
  clear hP HW1
  obtain ⟨-, g0, g1⟩ := HG.out
  go_wp2_with fail
  obtain ⟨R, hR⟩ : ∃ R, R = W1.heap.size := ⟨_, rfl⟩
  rw [← hR] at HM
  rw [← hR]
  clear hR hmk g0 g1
  obtain ⟨V0, hV0⟩ : ∃ V, V = W1.alloc (.cells (madeCells #[.bool false, .slice none 0 0] (2 * 2)) 47) := ⟨_, rfl⟩
  rw [← hV0] at HM
  have hV0' : V0 = W1.alloc (.cells (madeCells #[.bool false, .slice none 0 0] 4) 47) := hV0
  rw [← hV0']
  have HO := Lib.hid (show Own eInt W1 (.slice (some ⟨R, 0, none⟩) 2 2) [(0, [.bool false, .slice none 0 0]), (0, [.bool false, .slice none 0 0])] V0 from HM.out)
  clear hV0 hV0' HM
  refine (cOf 1 V0 (by unfold I64; omega)).mono ?_
  rintro e w3 ⟨_, rfl, ⟨u, v, rfl, h3⟩, hb3⟩
  have HO1 := Lib.hid (HO.out.keep hb3)
  obtain ⟨cu, cv, cq, p0, p1, f0, f1, -, -⟩ := own_int_cell HO1.out (i := 0) (by simp)
  have p0 : w3.cell? ⟨R, 0, none⟩ = some cu := p0
  have p1 : w3.cell? ⟨R, 1, none⟩ = some cv := p1
  have f0 : w3.frozen? ⟨R, 0, none⟩ = false := f0
  have f1 : w3.frozen? ⟨R, 1, none⟩ = false := f1
  have HS := Lib.hid (own_int_set HO1.out (i := 0) (by simp) h3)
  obtain ⟨az, cz, rfl, rfl, -⟩ := h3
  clear HO HO1 hb3
  generalize sgB 1 = sz at *
  generalize lnW 1 = nz at *
  go_wp2_with fail
  clear p0 p1 f0 f1
  obtain ⟨V1, hW⟩ : ∃ V, V = (w3.setCell ⟨R, 0, none⟩ (.bool sz)).setCell ⟨R, 1, none⟩ (.slice az nz cz) := ⟨_, rfl⟩
  have HO := Lib.hid (show Own eInt W1 (.slice (some ⟨R, 0, none⟩) 2 2) [(1, [.bool sz, .slice az nz cz]), (0, [.bool false, .slice none 0 0])] V1 from by rw [hW]; exact HS.out)
  rw [← hW]
  clear hW HS
  have HL := Lib.hid (show VP [1, 0] (.slice (some ⟨R, 0, none⟩) 2 2) V1 from Sl.vp HO.out.sl)
  refine wp_loop_rounds 3 ?_
  rw [rounds_succ]
  obtain ⟨-, g0, g1⟩ := HG.out.keep HO.out.below
  go_wp2_with fail
  refine (stepped_0 (HV.out.keep HO.out.below) HL.out).mono ?_
  rintro e V2 ⟨l2, rfl, hl2, hb2⟩
  have HL2 := Lib.hid hl2
  have HB2 := Lib.hid (HO.out.below.trans (hb2.mono HO.out.below.size))
  clear hl2 hb2 g0 g1 HO
  go_wp2_with fail
  rw [rounds_succ]
  obtain ⟨-, g0, g1⟩ := HG.out.keep HB2.out
  go_wp2_with fail
  refine (stepped_1 (HV.out.keep HB2.out) HL2.out).mono ?_
  rintro e V3 ⟨l3, rfl, hl3, hb3⟩
  have HL3 := Lib.hid hl3
  have HB3 := Lib.hid (HB2.out.trans (hb3.mono HB2.out.size))
  clear hl3 hb3 g0 g1
  go_wp2_with fail
  rw [rounds_succ]
  go_wp2_with fail
  go_ret
  exact ⟨_, rfl, HL3.out, HB1.out.trans (HB3.out.mono HB1.out.size)⟩
set_option maxRecDepth 3000 in
set_option maxHeartbeats 4000000 in
theorem Walks_c {a b : Value} {w : World} (hg : GV gNames gEdges a b w) : Calls Tryz.prog 12 #[.agg #[a, b], .int .i64 0, .int .i64 2] w (PostW (fun r W => ∃ l, r = .tuple #[l, .int .i64 0] ∧ VP [7, 2] l W) w) := by
  obtain ⟨A', c', rfl, -, -⟩ := hg.2.len
  obtain ⟨A2, c2, rfl, -, -⟩ := hg.1.len
  have hB := (Below.refl w.heap.size w).alloc (Nat.le_refl _) (.cells #[.slice A2 gNames.length c2, .slice A' gEdges.length c'] 38)
  have hG := GBox.new (a := .slice A2 gNames.length c2) (b := .slice A' gEdges.length c') (W := w)
  obtain ⟨W1, hW1⟩ : ∃ W1, W1 = w.alloc (.cells #[.slice A2 gNames.length c2, .slice A' gEdges.length c'] 38) := ⟨_, rfl⟩
  rw [← hW1] at hB hG
  have HB1 := Lib.hid hB; have HG := Lib.hid hG; have HW1 := Lib.hid hW1
  have HV := Lib.hid (hg.keep hB)
  clear hg hB hG hW1
  rw [show gEdges.length = 2 from rfl, show gNames.length = 2 from rfl] at *
  go_enter Tryz.func12, Tryz.ntmps12
  go_upto_region 1 with fail
  rw [← HW1.out]
  obtain ⟨Pg, hP⟩ : ∃ X, X = w.heap.size := ⟨_, rfl⟩
  rw [← hP] at HG
  rw [← hP]
  clear hP HW1
  obtain ⟨-, g0, g1⟩ := HG.out
  go_wp2_with fail
  refine (check_any HV.out g_ok).mono ?_
  rintro e W2 ⟨_, rfl, rfl, hb2⟩
  have HB2 := Lib.hid hb2
  clear hb2 g0 g1
  obtain ⟨-, g0, g1⟩ := HG.out.keep HB2.out
  go_wp2_with fail
  refine (has_any (by decide) (by decide) W2).mono ?_
  rintro e W3 ⟨_, rfl, rfl, hb3⟩
  have HB3 := Lib.hid (HB2.out.trans (hb3.mono HB2.out.size))
  clear hb3 g0 g1
  obtain ⟨-, g0, g1⟩ := HG.out.keep HB3.out
  go_wp2_with fail
  refine (walks_c (HV.out.keep HB3.out)).mono ?_
  rintro e W4 ⟨l, rfl, hl, hb4⟩
  have HL := Lib.hid hl
  have HB4 := Lib.hid (HB3.out.trans (hb4.mono HB3.out.size))
  clear hl hb4 g0 g1
  go_wp2_with fail
  go_ret2
  exact ⟨_, rfl, ⟨_, rfl, HL.out⟩, HB1.out.trans (HB4.out.mono HB1.out.size)⟩
end Go.Proofs.YthkklilhjnpedaaGreat
end
section
namespace Go.Proofs.YthkklilhjnpedaaGreat
open Go.RowKit FF
theorem val_inj {B : Nat} (hB : 0 < B) : ∀ {xs ys : List Nat}, xs.length = ys.length → Dig B xs → Dig B ys → val B xs = val B ys → xs = ys
  | [], [], _, _, _, _ => rfl
  | x :: xs, y :: ys, hl, hx, hy, hv => by
    have h1 : x < B := hx x (List.mem_cons_self ..)
    have h2 : y < B := hy y (List.mem_cons_self ..)
    simp only [val] at hv
    have h3 : (x + B * val B xs) % B = (y + B * val B ys) % B := by rw [hv]
    rw [Nat.add_mul_mod_self_left, Nat.add_mul_mod_self_left, Nat.mod_eq_of_lt h1, Nat.mod_eq_of_lt h2] at h3
    subst h3
    have h4 := Nat.eq_of_mul_eq_mul_left hB (Nat.add_left_cancel hv)
    rw [val_inj hB (by simpa using hl) (fun z hz => hx z (List.mem_cons_of_mem _ hz)) (fun z hz => hy z (List.mem_cons_of_mem _ hz)) h4]
theorem cSame {u v u' v' : Value} {z : Int} {w : World} (hx : IC w u v z) (hy : IC w u' v' z) : Calls Tryz.prog 33 #[.agg #[u, v], .agg #[u', v']] w (PostW (VC (.bool true)) w) := by
  obtain ⟨A, c, rfl, rfl, xs, l1, s1, d1, n1, m1, v1, -⟩ := hx
  obtain ⟨A', c', rfl, rfl, ys, l2, s2, d2, n2, m2, v2, -⟩ := hy
  have e1 : val WB xs = z.natAbs := by rw [← v1, sval_natAbs]
  have e2 : val WB ys = z.natAbs := by rw [← v2, sval_natAbs]
  have hxy := val_inj (by decide) (l1.trans l2.symm) d1 d2 (e1.trans e2.symm)
  subst hxy
  have h := SameInt_any (sgB z) (sgB z) A A' xs xs c c' w s1 s2 (by rw [l1]; exact Nat.le_trans n1 m1)
  rw [l1] at h
  refine h.mono ?_
  rintro e w' ⟨rfl, hb⟩
  exact ⟨_, rfl, by simp [VC], hb⟩
set_option maxRecDepth 3000 in
set_option maxHeartbeats 4000000 in
theorem sameInts_any {a b : Value} {l : List Int} {w : World} (ha : VP l a w) (hb : VP l b w) (hl : l.length ≤ 1000) : Calls Tryz.prog 13 #[a, b] w (PostW (VC (.bool true)) w) := by
  obtain ⟨A, c, rfl, -, -⟩ := ha.len
  obtain ⟨A', c', rfl, -, -⟩ := hb.len
  obtain ⟨i0, hi, hz0, hz1, hz2⟩ := info_parts info_Int
  have HI := Lib.hid hi; have HZ1 := Lib.hid hz1
  obtain ⟨n, hn⟩ : ∃ n, n = l.length := ⟨_, rfl⟩
  have HVA := Lib.hid ha; have HVB := Lib.hid hb; have HN := Lib.hid hn; have HL := Lib.hid (show n ≤ 1000 by omega)
  rw [← hn]
  rw [← hn] at HVA HVB
  clear ha hb hl hi hz0 hz1 hz2 hn
  go_enter Tryz.func13, Tryz.ntmps13
  go_wp2_with fail
  go_loopw [5] (fun s5 wr => ∃ i : Nat, s5 = .int .i64 i ∧ i ≤ n ∧ Below w.heap.size w wr) (fun s5 _ => (n - (intOf s5).toNat))
  case atStart => exact ⟨0, rfl, Nat.zero_le _, Below.refl _ _⟩
  case round =>
    obtain ⟨i, rfl, hin, hB⟩ := hrel
    have HB := Lib.hid hB
    clear hB
    by_cases hlt : i < n
    · have hti := decide_eq_true (p := ((i : Nat) : Int) < ((n : Nat) : Int)) (by omega)
      obtain ⟨z, hz⟩ : ∃ z, l[i]? = some z := ⟨_, List.getElem?_eq_getElem (by have := HN.out; omega)⟩
      obtain ⟨g, o, s, A1, m1, c1, rfl, q0, q1, gz, hg⟩ := (HVA.out.keep HB.out).at hz
      obtain ⟨g2, o2, s2, A2, m2, c2, rfl, r0, r1, gz2, hg2⟩ := (HVB.out.keep HB.out).at hz
      have HLt := Lib.hid hlt
      have HQ0 := Lib.hid q0; have HQ1 := Lib.hid q1; have HR0 := Lib.hid r0; have HR1 := Lib.hid r1
      have HG := Lib.hid hg; have HG2 := Lib.hid hg2; have HZ := Lib.hid gz; have HZ2 := Lib.hid gz2
      clear hz q0 q1 r0 r1 gz gz2 hg hg2
      go_upto_region 6 with fail
      obtain ⟨W5, hW5⟩ : ∃ W5 : World, W5 = wr := ⟨_, rfl⟩
      subst hW5
      refine wp_region_val [(0, 17, VC (.slice (some ⟨g, o, none⟩) n c)), (1, 18, VC (.int .i64 (i : Int))), (2, 19, VC (.pointer (some ⟨g, o + i * 2, none⟩))), (3, 20, VI z), (4, 21, VC (.slice (some ⟨g2, o2, none⟩) n c')), (5, 22, VC (.int .i64 (i : Int))), (6, 23, VC (.pointer (some ⟨g2, o2 + i * 2, none⟩))), (7, 24, VI z), (8, 25, VC (.bool true)), (9, 26, VC (.bool false))] (fun _ => True) [17, 18, 19, 20, 21, 22, 23, 24, 25, 26] (by kernel_rfl) (by kernel_rfl) (by kernel_rfl) ⟨Keeps.vc _, Keeps.vc _, Keeps.vc _, Keeps.vi _, Keeps.vc _, Keeps.vc _, Keeps.vc _, Keeps.vi _, Keeps.vc _, Keeps.vc _, trivial⟩ (fun _ _ _ _ _ => trivial) trivial (forall_ops ⟨?_, ?_, ?_, ?_, ?_, ?_, ?_, ?_, ?_, ?_, trivial⟩) ?_
      · exact .of rfl rfl fun y W hB hE hV hU => .move rfl (fr_out (v := (.slice (some ⟨g, o, none⟩) n c)) (by kernel_rfl) (by kernel_rfl)) rfl
      · exact .of rfl rfl fun y W hB hE hV hU => .move rfl (fr_out (v := (.int .i64 (i : Int))) (by kernel_rfl) (by kernel_rfl)) rfl
      · exact .of rfl rfl fun y W hB hE hV hU => .rowAt Tryz.underlying41 HI.out HZ1.out rfl ((fr_in (by kernel_rfl)).trans (hget hV 0 rfl (by kernel_rfl))) ((fr_in (by kernel_rfl)).trans (hget hV 1 rfl (by kernel_rfl))) HLt.out
      · exact .of rfl rfl fun y W hB hE hV hU => .loadI' hB HG.out HQ0.out HQ1.out HZ.out rfl ((fr_in (by kernel_rfl)).trans (hget hV 2 rfl (by kernel_rfl)))
      · exact .of rfl rfl fun y W hB hE hV hU => .move rfl (fr_out (v := (.slice (some ⟨g2, o2, none⟩) n c')) (by kernel_rfl) (by kernel_rfl)) rfl
      · exact .of rfl rfl fun y W hB hE hV hU => .move rfl (fr_out (v := (.int .i64 (i : Int))) (by kernel_rfl) (by kernel_rfl)) rfl
      · exact .of rfl rfl fun y W hB hE hV hU => .rowAt Tryz.underlying41 HI.out HZ1.out rfl ((fr_in (by kernel_rfl)).trans (hget hV 4 rfl (by kernel_rfl))) ((fr_in (by kernel_rfl)).trans (hget hV 5 rfl (by kernel_rfl))) HLt.out
      · exact .of rfl rfl fun y W hB hE hV hU => .loadI' hB HG2.out HR0.out HR1.out HZ2.out rfl ((fr_in (by kernel_rfl)).trans (hget hV 6 rfl (by kernel_rfl)))
      · exact .of rfl rfl fun y W hB hE hV hU => by obtain ⟨u3, v3, e3, h3⟩ := hget hV 3 rfl (by kernel_rfl); obtain ⟨u7, v7, e7, h7⟩ := hget hV 7 rfl (by kernel_rfl); exact .call Tryz.func33 (by kernel_rfl) rfl rfl rfl (map_two ((fr_in (by kernel_rfl)).trans e3) ((fr_in (by kernel_rfl)).trans e7)) (cSame h3 h7)
      · exact .of rfl rfl fun y W hB hE hV hU => .unOp rfl ((fr_in (by kernel_rfl)).trans (hget hV 8 rfl (by kernel_rfl))) (by kernel_rfl) rfl
      intro y W hB hE hV
      have eV : y 26 = _ := hend hV 9 rfl
      have HB2 := Lib.hid (HB.out.trans (hB.mono HB.out.size))
      clear hB hE hV
      generalize hact : fr _ _ y = act
      simp only [fr, putAll, List.foldl_cons, List.foldl_nil, List.setIfInBounds_toArray, List.set_cons_zero, List.set_cons_succ, eV] at hact
      subst hact
      clear eV
      go_wp2_with fail
      refine ⟨⟨i + 1, by rw [wrap_succ hlt (by have := HL.out; omega)], hlt, HB2.out⟩, ?_⟩
      rw [wrap_succ hlt (by have := HL.out; omega)]; simp only [intOf]; omega
    · have hti := decide_eq_false (p := ((i : Nat) : Int) < ((n : Nat) : Int)) (by omega)
      go_wp2_with fail
      go_ret
      exact ⟨_, rfl, rfl, HB.out⟩
end Go.Proofs.YthkklilhjnpedaaGreat
end
section
namespace Go.Proofs.YthkklilhjnpedaaGreat
open Go.RowKit FF
theorem Sl.laid {α : Type} {e : El α} {l : List α} {vs : Array Value} {T : TypeId} {W : World} (hl : l.length ≤ 1000) (h : ∀ i z, l[i]? = some z → ∃ cs, e.E z cs (W.alloc (.cells vs T)) ∧ ∀ d u, cs[d]? = some u → vs[i * e.n + d]? = some u) : Sl e l (.slice (some ⟨W.heap.size, 0, none⟩) l.length l.length) (W.alloc (.cells vs T)) := by
  refine ⟨_, _, rfl, Nat.le_refl _, by unfold maxLen; omega, fun _ => ⟨_, _, rfl, by simp, fun i z hz => ?_⟩⟩
  obtain ⟨cs, h1, h2⟩ := h i z hz
  exact ⟨cs, h1, fun d u hd => by rw [Nat.zero_add, cell_new_at]; exact h2 d u hd⟩
theorem laid_nums (x y z : Int) (W : World) : NP [x, y, z] (.slice (some ⟨W.heap.size, 0, none⟩) 3 3) (W.alloc (.cells #[.int .i64 x, .int .i64 y, .int .i64 z] 3)) := by
  refine Sl.laid (e := eNum) (l := [x, y, z]) (by simp) (fun i q hq => ⟨[.int .i64 q], rfl, fun d u hd => ?_⟩)
  rcases d with _ | d
  · injection hd with hd; subst hd
    show #[Value.int .i64 x, .int .i64 y, .int .i64 z][i * 1 + 0]? = _
    rcases i with _ | _ | _ | i
    · injection hq with hq; subst hq; rfl
    · injection hq with hq; subst hq; rfl
    · injection hq with hq; subst hq; rfl
    · simp at hq
  · simp at hd
theorem laid_strs (x y : List UInt8) (W : World) : Sl eStr [x, y] (.slice (some ⟨W.heap.size, 0, none⟩) 2 2) (W.alloc (.cells #[.string ⟨x.toArray⟩, .string ⟨y.toArray⟩] 9)) := by
  refine Sl.laid (e := eStr) (l := [x, y]) (by simp) (fun i q hq => ⟨[.string ⟨q.toArray⟩], rfl, fun d u hd => ?_⟩)
  rcases d with _ | d
  · injection hd with hd; subst hd
    show #[Value.string ⟨x.toArray⟩, .string ⟨y.toArray⟩][i * 1 + 0]? = _
    rcases i with _ | _ | i
    · injection hq with hq; subst hq; rfl
    · injection hq with hq; subst hq; rfl
    · simp at hq
  · simp at hd
theorem rOf_vi (n : Int) (hn : I64 n) (w : World) : Calls Tryz.prog 14 #[.int .i64 n] w (PostW (VI n) w) :=
  (rOf_any n w hn).mono fun _ _ ⟨A', c', h1, h2, h3, h4, _, h5⟩ => ⟨_, h1, ⟨_, _, rfl, A', c', rfl, rfl, AI.of_post h2 h3 h4⟩, h5⟩
theorem laid_ints {x y : Int} {u v u' v' : Value} {W : World} (h : IC W u v x) (h' : IC W u' v' y) : VP [x, y] (.slice (some ⟨W.heap.size, 0, none⟩) 2 2) (W.alloc (.cells #[u, v, u', v'] 47)) := by
  have hb := (Below.refl W.heap.size W).alloc (Nat.le_refl _) (.cells #[u, v, u', v'] 47)
  refine Sl.vp (Sl.laid (e := eInt) (l := [x, y]) (by simp) (fun i q hq => ?_))
  rcases i with _ | _ | i
  · injection hq with hq; subst hq
    refine ⟨[u, v], ⟨_, _, rfl, h.keep hb⟩, fun d z hd => ?_⟩
    rcases d with _ | _ | d
    · injection hd with hd; subst hd; rfl
    · injection hd with hd; subst hd; rfl
    · simp at hd
  · injection hq with hq; subst hq
    refine ⟨[u', v'], ⟨_, _, rfl, h'.keep hb⟩, fun d z hd => ?_⟩
    rcases d with _ | _ | d
    · injection hd with hd; subst hd; rfl
    · injection hd with hd; subst hd; rfl
    · simp at hd
  · simp at hq
theorem laid_rows {x y : List Int} {u v : Value} {W : World} (h1 : NP x u W) (h2 : NP y v W) : Sl eRow [x, y] (.slice (some ⟨W.heap.size, 0, none⟩) 2 2) (W.alloc (.cells #[u, v] 35)) := by
  have hb := (Below.refl W.heap.size W).alloc (Nat.le_refl _) (.cells #[u, v] 35)
  refine Sl.laid (e := eRow) (l := [x, y]) (by simp) (fun i q hq => ?_)
  rcases i with _ | _ | i
  · injection hq with hq; subst hq
    refine ⟨[u], ⟨u, rfl, Sl.keep h1 hb⟩, fun d w hd => ?_⟩
    rcases d with _ | d
    · injection hd with hd; subst hd; rfl
    · simp at hd
  · injection hq with hq; subst hq
    refine ⟨[v], ⟨v, rfl, Sl.keep h2 hb⟩, fun d w hd => ?_⟩
    rcases d with _ | d
    · injection hd with hd; subst hd; rfl
    · simp at hd
  · simp at hq
set_option maxRecDepth 3000 in
set_option maxHeartbeats 4000000 in
theorem walked_any (w : World) : Calls Tryz.prog 6 #[] w (PostW (VC (.bool true)) w) := by
  obtain ⟨A1, hA1⟩ : ∃ A, A = w.alloc (.cells #[.string { data := #[48] }, .string { data := #[49] }] 9) := ⟨_, rfl⟩
  obtain ⟨A2, hA2⟩ : ∃ A, A = A1.alloc (.cells #[.int .i64 0, .int .i64 1, .int .i64 1] 3) := ⟨_, rfl⟩
  obtain ⟨A3, hA3⟩ : ∃ A, A = A2.alloc (.cells #[.int .i64 0, .int .i64 0, .int .i64 0] 3) := ⟨_, rfl⟩
  obtain ⟨A4, hA4⟩ : ∃ A, A = A3.alloc (.cells #[.slice (some ⟨A1.heap.size, 0, none⟩) 3 3, .slice (some ⟨A2.heap.size, 0, none⟩) 3 3] 35) := ⟨_, rfl⟩
  obtain ⟨A5, hA5⟩ : ∃ A, A = A4.alloc (.cells #[.slice (some ⟨w.heap.size, 0, none⟩) 2 2, .slice (some ⟨A3.heap.size, 0, none⟩) 2 2] 38) := ⟨_, rfl⟩
  have s1 : A1.heap.size = w.heap.size + 1 := by rw [hA1]; simp
  have s2 : A2.heap.size = w.heap.size + 1 + 1 := by rw [hA2]; simp [s1]
  have s3 : A3.heap.size = w.heap.size + 1 + 1 + 1 := by rw [hA3]; simp [s2]
  have s4 : A4.heap.size = w.heap.size + 1 + 1 + 1 + 1 := by rw [hA4]; simp [s3]
  have b1 : Below w.heap.size w A1 := by rw [hA1]; exact (Below.refl _ _).alloc (Nat.le_refl _) _
  have b2 : Below A1.heap.size A1 A2 := by rw [hA2]; exact (Below.refl _ _).alloc (Nat.le_refl _) _
  have b3 : Below A2.heap.size A2 A3 := by rw [hA3]; exact (Below.refl _ _).alloc (Nat.le_refl _) _
  have b4 : Below A3.heap.size A3 A4 := by rw [hA4]; exact (Below.refl _ _).alloc (Nat.le_refl _) _
  have b5 : Below A4.heap.size A4 A5 := by rw [hA5]; exact (Below.refl _ _).alloc (Nat.le_refl _) _
  have g1 : Sl eStr gNames (.slice (some ⟨w.heap.size, 0, none⟩) 2 2) A1 := by rw [hA1]; exact laid_strs [48] [49] w
  have g2 : NP [0, 1, 1] (.slice (some ⟨A1.heap.size, 0, none⟩) 3 3) A2 := by rw [hA2]; exact laid_nums 0 1 1 A1
  have g3 : NP [0, 0, 0] (.slice (some ⟨A2.heap.size, 0, none⟩) 3 3) A3 := by rw [hA3]; exact laid_nums 0 0 0 A2
  have g4 : Sl eRow gEdges (.slice (some ⟨A3.heap.size, 0, none⟩) 2 2) A4 := by rw [hA4]; exact laid_rows (Sl.keep g2 b3) g3
  have HGV := Lib.hid (show GV gNames gEdges (.slice (some ⟨w.heap.size, 0, none⟩) 2 2) (.slice (some ⟨A3.heap.size, 0, none⟩) 2 2) A5 from ⟨(((g1.keep b2).keep b3).keep b4).keep b5, g4.keep b5⟩)
  have HGB := Lib.hid (show GBox A4.heap.size (.slice (some ⟨w.heap.size, 0, none⟩) 2 2) (.slice (some ⟨A3.heap.size, 0, none⟩) 2 2) A5 from by rw [hA5]; exact GBox.new)
  have HB := Lib.hid (show Below w.heap.size w A5 from b1.trans ((b2.trans ((b3.trans ((b4.trans (b5.mono b4.size)).mono b3.size)).mono b2.size)).mono b1.size))
  have HA5 := Lib.hid (show A5 = ((((w.alloc (.cells #[.string { data := #[48] }, .string { data := #[49] }] 9)).alloc (.cells #[.int .i64 0, .int .i64 1, .int .i64 1] 3)).alloc (.cells #[.int .i64 0, .int .i64 0, .int .i64 0] 3)).alloc (.cells #[.slice (some ⟨w.heap.size + 1, 0, none⟩) 3 3, .slice (some ⟨w.heap.size + 1 + 1, 0, none⟩) 3 3] 35)).alloc (.cells #[.slice (some ⟨w.heap.size, 0, none⟩) 2 2, .slice (some ⟨w.heap.size + 1 + 1 + 1, 0, none⟩) 2 2] 38) from by rw [hA5, hA4, s3, s2, s1, hA3, hA2, hA1])
  rw [s3] at HGV HGB
  rw [s4] at HGB
  clear hA1 hA2 hA3 hA4 hA5 s1 s2 s3 s4 b1 b2 b3 b4 b5 g1 g2 g3 g4
  go_enter Tryz.func6, Tryz.ntmps6
  go_upto_region 2 with fail
  rw [← HA5.out]
  obtain ⟨B0, hB0⟩ : ∃ B0, B0 = w.heap.size := ⟨_, rfl⟩
  obtain ⟨B4, hB4⟩ : ∃ B4, B4 = w.heap.size + 1 + 1 + 1 + 1 := ⟨_, rfl⟩
  obtain ⟨B3, hB3⟩ : ∃ B3, B3 = w.heap.size + 1 + 1 + 1 := ⟨_, rfl⟩
  rw [← hB4, ← hB3, ← hB0] at HGB
  rw [← hB3, ← hB0] at HGV
  rw [← hB4, ← hB3]
  simp only [← hB0]
  obtain ⟨-, q0, q1⟩ := HGB.out
  clear hB4 hB3 hB0
  go_wp2_with fail
  refine (Ramanujan_c HGV.out).mono ?_
  rintro e W2 ⟨_, rfl, rfl, hb2⟩
  have HGV2 := Lib.hid (HGV.out.keep hb2)
  have HGB2 := Lib.hid (HGB.out.keep hb2)
  have HB2 := Lib.hid (HB.out.trans (hb2.mono HB.out.size))
  clear q0 q1 hb2
  obtain ⟨-, q0, q1⟩ := HGB2.out
  go_wp2_with fail
  refine (Walks_c HGV2.out).mono ?_
  rintro e W3 ⟨_, rfl, ⟨l, rfl, hl⟩, hb3⟩
  have HL := Lib.hid hl
  have HB3 := Lib.hid (HB2.out.trans (hb3.mono HB2.out.size))
  clear q0 q1 hb3 hl
  go_wp2_with fail
  refine (rOf_vi 7 ⟨by omega, by omega⟩ _).mono ?_
  rintro e W4 ⟨_, rfl, ⟨_, _, rfl, h7⟩, hb4⟩
  have HL4 := Lib.hid (HL.out.keep hb4)
  have HB4 := Lib.hid (HB3.out.trans (hb4.mono HB3.out.size))
  have H7 := Lib.hid h7
  clear hb4 h7
  go_wp2_with fail
  refine (rOf_vi 2 ⟨by omega, by omega⟩ _).mono ?_
  rintro e W5 ⟨_, rfl, ⟨_, _, rfl, h2⟩, hb5⟩
  have HL5 := Lib.hid (HL4.out.keep hb5)
  have HB5 := Lib.hid (HB4.out.trans (hb5.mono HB4.out.size))
  have h75 := H7.out.keep hb5
  obtain ⟨A7, c7, rfl, rfl, g7⟩ := h75
  obtain ⟨A8, c8, rfl, rfl, g8⟩ := h2
  have HV := Lib.hid (laid_ints (x := 7) (y := 2) ⟨A7, c7, rfl, rfl, g7⟩ ⟨A8, c8, rfl, rfl, g8⟩)
  clear hb5 g7 g8 H7
  go_wp2_with fail
  refine (sameInts_any (HL5.out.keep ((Below.refl _ _).alloc (Nat.le_refl _) _)) HV.out (by decide)).mono ?_
  rintro e W6 ⟨_, rfl, rfl, hb6⟩
  have HB6 := Lib.hid (HB5.out.trans (((Below.refl _ _).alloc (Nat.le_refl _) _).trans (hb6.mono (by simp)) |>.mono HB5.out.size))
  clear hb6
  go_wp2_with fail
  go_ret
  exact ⟨_, rfl, rfl, HB6.out⟩
end Go.Proofs.YthkklilhjnpedaaGreat
end
section
namespace Go.Proofs.YthkklilhjnpedaaGreat
open Go.RowKit FF
theorem gd_list : ∀ n : Fin 101, 5 ≤ n.val → gdB (n.val : Int) = true → n.val ∈ [5, 13, 17, 29, 37, 41, 53, 61, 73, 89, 97] := by decide +kernel
theorem gd_ok {p : Int} (h1 : 5 ≤ p) (h2 : p ≤ 100) (h : gdB p = true) : okGen p = true := by
  obtain ⟨n, rfl⟩ : ∃ n : Nat, p = (n : Int) := ⟨p.toNat, by omega⟩
  have := gd_list ⟨n, by omega⟩ (by simp only; omega) h
  simp only [List.mem_cons, List.not_mem_nil, or_false] at this
  rcases this with rfl | rfl | rfl | rfl | rfl | rfl | rfl | rfl | rfl | rfl | rfl
  · exact ok5
  · exact ok13
  · exact ok17
  · exact ok29
  · exact ok37
  · exact ok41
  · exact ok53
  · exact ok61
  · exact ok73
  · exact ok89
  · exact ok97
theorem sqUp2_le {r B : Int} (hB : r ≤ B * B) (hB0 : 0 ≤ B) : ∀ (k : Nat) (z : Int), 0 ≤ z → z ≤ B + 1 → 0 ≤ sqUp 2 r k z ∧ sqUp 2 r k z ≤ B + 1
  | 0, z, h0, h1 => ⟨h0, h1⟩
  | k + 1, z, h0, h1 => by
    rw [sqUp]
    split
    · rename_i h
      have := sq_lt h0 hB0 (Int.lt_of_lt_of_le h hB)
      exact sqUp2_le hB hB0 k (z + 2) (by omega) (by omega)
    · exact ⟨h0, h1⟩
theorem genF_bnd {p : Int} (h2 : p ≤ 100) : ∀ (k : Nat) (u : Int), 1 ≤ u → ∀ x ∈ genF p k u, Hb 101 x
  | 0, _, _ => fun _ h => by cases h
  | k + 1, u, hu => fun h hh => by
    rw [genF] at hh
    split at hh
    · rename_i hle
      have hu11 := sq_lt (z := u) (m := 11) (by omega) (by omega) (by omega)
      rcases List.mem_append.1 hh with hh | hh
      · obtain ⟨x, hx, hh⟩ := List.mem_flatMap.1 (show h ∈ (upto (-p) (2 * p + 1).toNat).flatMap (genX p u) from hh)
        have hx := mem_upto.1 hx
        unfold genX at hh
        split at hh
        · cases hh
        · obtain ⟨t, ht, hh⟩ := List.mem_flatMap.1 hh
          have ht := mem_upto.1 ht
          obtain ⟨p1, -⟩ := sqb (m := 1000) (z := u) (by omega)
          obtain ⟨p2, -⟩ := sqb (m := 1000) (z := x) (by omega)
          obtain ⟨p3, -⟩ := sqb (m := 1000) (z := t) (by omega)
          have hS := sqUp2_le (r := p - u * u - x * x - t * t) (B := 100) (by omega) (by omega) 1000 0 (by omega) (by omega)
          unfold genAt at hh
          generalize sqUp 2 (p - u * u - x * x - t * t) 1000 0 = q at *
          split at hh
          · cases hh
          · split at hh
            · cases hh
            · rcases List.mem_append.1 hh with hh | hh
              · split at hh
                · obtain rfl := List.mem_singleton.1 hh
                  refine ⟨?_, ?_, ?_, ?_⟩ <;> simp only <;> omega
                · cases hh
              · obtain rfl := List.mem_singleton.1 hh
                refine ⟨?_, ?_, ?_, ?_⟩ <;> simp only <;> omega
      · exact genF_bnd h2 k (u + 2) (by omega) h hh
    · cases hh
theorem genL_bnd {p : Int} (h2 : p ≤ 100) : ∀ x ∈ genL p, Hb 101 x := genF_bnd h2 100 1 (by omega)
theorem dbl_norm {x : Hw} (h : Hb 101 x) : (hsum (dbl x)).tdiv 4 ≤ 1000000 := by
  obtain ⟨ha, hb, hc, hd⟩ := h
  obtain ⟨k1, l1⟩ := sqb (m := 202) (z := 2 * x.a) (by omega)
  obtain ⟨k2, l2⟩ := sqb (m := 202) (z := 2 * x.b) (by omega)
  obtain ⟨k3, l3⟩ := sqb (m := 202) (z := 2 * x.c) (by omega)
  obtain ⟨k4, l4⟩ := sqb (m := 202) (z := 2 * x.d) (by omega)
  have e : hsum (dbl x) = 2 * x.a * (2 * x.a) + 2 * x.b * (2 * x.b) + 2 * x.c * (2 * x.c) + 2 * x.d * (2 * x.d) := rfl
  rw [e, Int.tdiv_eq_ediv_of_nonneg (by omega)]
  omega
def AtI (L : List Qt) (z : Qt) (k : Nat) (a : Int) : Prop := (a = -1 ∧ ∀ j, j < k → L[j]? ≠ some z) ∨ ∃ j : Nat, a = (j : Int) ∧ j < k ∧ L[j]? = some z
theorem AtI.next {L : List Qt} {z q : Qt} {k : Nat} {a : Int} (h : AtI L z k a) (hq : L[k]? = some q) : AtI L z (k + 1) (if q = z then (k : Int) else a) := by
  by_cases hz : q = z
  · rw [if_pos hz]
    exact .inr ⟨k, rfl, by omega, by rw [hq, hz]⟩
  · rw [if_neg hz]
    rcases h with ⟨rfl, h⟩ | ⟨j, rfl, h1, h2⟩
    · refine .inl ⟨rfl, fun j hj => ?_⟩
      rcases Nat.lt_or_ge j k with h3 | h3
      · exact h j h3
      · obtain rfl : j = k := by omega
        rw [hq]
        exact fun e => hz (Option.some.inj e)
    · exact .inr ⟨j, rfl, by omega, h2⟩
theorem AtI.found {L : List Qt} {z : Qt} {a : Int} (h : AtI L z L.length a) (hz : z ∈ L) : ∃ j : Nat, a = (j : Int) ∧ j < L.length ∧ L[j]? = some z := by
  rcases h with ⟨-, h⟩ | h
  · obtain ⟨j, hj⟩ := List.mem_iff_getElem?.1 hz
    exact absurd hj (h j (List.getElem?_eq_some_iff.1 hj).1)
  · exact h
def SeenI (L C : List Qt) (i : Nat) (bs : List Bool) : Prop := ∀ k : Nat, bs[k]? = some true → ∃ j, j < i ∧ C[j]? = L[k]? ∧ j < C.length
theorem SeenI.new {L C : List Qt} {i k : Nat} {bs : List Bool} {z : Qt} (h : SeenI L C i bs) (hn : C.Nodup) (hi : C[i]? = some z) (hk : L[k]? = some z) : bs[k]? ≠ some true := fun e => by
  obtain ⟨j, h1, h2, h3⟩ := h k e
  rw [hk, ← hi] at h2
  have := (List.getElem?_inj h3 hn).1 h2
  omega
theorem SeenI.set {L C : List Qt} {i k : Nat} {bs : List Bool} {z : Qt} (h : SeenI L C i bs) (hi : C[i]? = some z) (hk : L[k]? = some z) : SeenI L C (i + 1) (bs.set k true) := fun j hj => by
  rw [List.getElem?_set] at hj
  by_cases hkj : k = j
  · subst hkj
    exact ⟨i, by omega, by rw [hi, hk], (List.getElem?_eq_some_iff.1 hi).1⟩
  · rw [if_neg hkj] at hj
    obtain ⟨q, h1, h2⟩ := h j hj
    exact ⟨q, by omega, h2⟩
theorem cells_qcs {W : World} {R : Nat} {z : Qt} (h : Cells W R #[.int .i64 z.w, .int .i64 z.x, .int .i64 z.y, .int .i64 z.z, .int .i64 z.d]) : ∀ d u, (qcs z)[d]? = some u → W.cell? ⟨R, 0 + d, none⟩ = some u := fun d u hd => by
  rw [Nat.zero_add, ← hd, h.2.1 d (by have := (List.getElem?_eq_some_iff.1 hd).1; simpa [qcs] using this)]
  rcases d with _ | _ | _ | _ | _ | d <;> rfl
set_option maxHeartbeats 8000000 in
set_option maxRecDepth 4000 in
theorem genMain (p : Int) (w : World) (h1 : 5 ≤ p) (h2 : p ≤ 100) (hg : gdB p = true) : Calls Tryz.prog 3 #[.int .i64 p] w (PostW (VC (.bool true)) w) := by
  have hok := gd_ok h1 h2 hg
  unfold okGen at hok
  simp only [Bool.and_eq_true, decide_eq_true_eq, List.all_eq_true] at hok
  obtain ⟨⟨⟨ho1, ho2⟩, hnd⟩, hmem⟩ := hok
  have HW := Lib.hid (fun W => within_any p 5 100 W)
  rw [decide_eq_true (p := 5 ≤ p ∧ p ≤ 100) ⟨h1, h2⟩] at HW
  have HI := Lib.hid (fun W => isGood_any p W)
  rw [hg] at HI
  have HG := Lib.hid (fun W => Generators_any p W hg (by omega) h2)
  have HO := Lib.hid (fun W => OfNorm_any p W (by omega) (by omega) (by omega))
  have HK := Lib.hid (fun W => walked_any W)
  have HND := Lib.hid hnd; have HMem := Lib.hid hmem
  have HCn := Lib.hid (fun (x : Hw) (hx : x ∈ genL p) (W : World) => Canonical_any x W (by have := genL_bnd h2 x hx; exact ⟨by have := this.1; omega, by have := this.2.1; omega, by have := this.2.2.1; omega, by have := this.2.2.2; omega⟩) (dbl_norm (genL_bnd h2 x hx)))
  obtain ⟨n, hn⟩ : ∃ n : Nat, n = (p + 1).toNat := ⟨_, rfl⟩
  have HNp := Lib.hid (show (n : Int) = p + 1 by omega)
  have HNb := Lib.hid (show n ≤ 101 by omega)
  have HL1 := Lib.hid (show (genL p).length = n by rw [ho2, hn])
  have HL2 := Lib.hid (show (ofL p).length = n by rw [ho1, hn])
  have HP := Lib.hid (And.intro h1 h2)
  have HCan := Lib.hid (show canG p = (genL p).map fun x => hqt (canL (dbl x)) from rfl)
  have HAll := Lib.hid (show allG p = (ofL p).map hqt from rfl)
  generalize canG p = C at *
  generalize allG p = AG at *
  generalize genL p = gl at *
  generalize ofL p = ol at *
  have b1 : -1000 ≤ p ∧ p ≤ 1000 := by omega
  clear ho1 ho2 hnd hmem hg hn h1 h2
  obtain ⟨b1, b2⟩ := b1
  go_enter Tryz.func3, Tryz.ntmps3
  go_wp2_with fail
  refine (HW.out _).mono ?_
  rintro e w1 ⟨_, rfl, rfl, hb⟩
  have HB := Lib.hid hb
  clear hb
  go_wp2_with fail
  refine (HI.out _).mono ?_
  rintro e w2 ⟨_, rfl, rfl, hb⟩
  have HB2 := Lib.hid (HB.out.trans (hb.mono HB.out.size))
  clear hb HB
  go_wp2_with fail
  refine (HG.out _).mono ?_
  rintro e w3 ⟨_, rfl, ⟨vl, rfl, hvl⟩, hb⟩
  have HB3 := Lib.hid (HB2.out.trans (hb.mono HB2.out.size)); have HVL := Lib.hid hvl
  clear hb HB2 hvl
  go_wp2_with fail
  refine (HO.out _).mono ?_
  rintro e w4 ⟨_, rfl, ⟨va, l, rfl, hp, -, hva⟩, hb⟩
  have HB4 := Lib.hid (HB3.out.trans (hb.mono HB3.out.size)); have HVL4 := Lib.hid (HVL.out.keep hb); have HPm := Lib.hid hp
  obtain ⟨AL, hAL⟩ : ∃ AL, AL = l.map hqt := ⟨_, rfl⟩
  have HALm := Lib.hid (show ∀ z ∈ C, z ∈ AL by
    intro z hz
    have h5 := HMem.out z hz
    rw [List.contains_iff_mem, HAll.out] at h5
    rw [hAL]
    obtain ⟨x, hx, rfl⟩ := List.mem_map.1 h5
    exact List.mem_map.2 ⟨x, hp.mem_iff.2 hx, rfl⟩)
  have HAn := Lib.hid (show AL.length = n by rw [hAL, List.length_map, hp.length_eq, HL2.out])
  rw [← hAL] at hva
  have HVA := Lib.hid hva
  clear hb HB3 HVL hp hva hAL HPm HMem HAll HL2 HW HI HG HO
  obtain ⟨Al, cl, rfl, e1, e2⟩ := HVL4.out.len
  obtain ⟨Aa, ca, rfl, e3, e4⟩ := HVA.out.len
  rw [List.length_map, HL1.out] at e1
  rw [HAn.out] at e3
  have HVA := Lib.hid (show Sl eQt AL (.slice Aa n ca) w4 by have := HVA.out; rw [HAn.out] at this; exact this)
  have HVL4 := Lib.hid (show Sl eQt (gl.map g1) (.slice Al n cl) w4 by have := HVL4.out; rw [List.length_map, HL1.out] at this; exact this)
  rw [List.length_map, HL1.out, HAn.out]
  have t1 : ((n : Int) != p + 1) = false := by have := HNp.out; simpa using this
  have t2 : ((n : Int) == p + 1) = true := by have := HNp.out; simpa using this
  have hmk := bool_make n (by have := HNb.out; omega) w4
  go_upto_region 9 with fail
  clear t1 t2 hmk
  have hO := Own.made_bool (w := w4) (N := n) (Below.refl _ _) (by have := HNb.out; omega)
  obtain ⟨R, hR⟩ : ∃ R, R = w4.heap.size := ⟨_, rfl⟩
  obtain ⟨W5, hW5⟩ : ∃ W5, W5 = w4.alloc (.cells (madeCells #[.bool false] n) 4) := ⟨_, rfl⟩
  rw [← hW5, ← hR] at hO ⊢
  have HO5 := Lib.hid hO
  clear hW5 hR hO
  go_loopw [8, 9, 10, 11, 12, 55, 56, 57, 58, 59, 60, 61, 62, 63, 64, 65, 66, 67, 68, 69, 70, 71, 72, 73, 74, 75, 76, 77, 78, 79, 80, 81, 82, 83, 84, 85, 86, 87, 88, 89, 90, 91, 92, 93, 94, 95, 96] (fun s8 _ _ _ _ _ _ _ _ _ _ _ _ _ _ _ _ _ _ _ _ _ _ _ _ _ _ _ _ _ _ _ _ _ _ _ _ _ _ _ _ _ _ _ _ _ _ wr => ∃ (i : Nat) (rs : List (Bool × List Value)), s8 = .int .i64 (i : Int) ∧ i ≤ n ∧ rs.length = n ∧ SeenI AL C i (rs.map (·.1)) ∧ Own eBool w4 (.slice (some ⟨R, 0, none⟩) n n) rs wr) (fun s8 _ _ _ _ _ _ _ _ _ _ _ _ _ _ _ _ _ _ _ _ _ _ _ _ _ _ _ _ _ _ _ _ _ _ _ _ _ _ _ _ _ _ _ _ _ _ _ => (n - (intOf s8).toNat))
  case atStart => exact ⟨0, _, rfl, Nat.zero_le _, by simp, fun k hk => by simp [List.getElem?_replicate] at hk, HO5.out⟩
  case round =>
    clear HO5 W5
    obtain ⟨i, rs, rfl, hil, hrl, hsn, hO⟩ := hrel
    have HO := Lib.hid hO; have HRl := Lib.hid hrl; have HSn := Lib.hid hsn
    clear hO hrl hsn
    by_cases hlt : i < n
    · have hti := decide_eq_true (p := ((i : Nat) : Int) < ((n : Nat) : Int)) (by omega)
      obtain ⟨x, hx⟩ : ∃ x, gl[i]? = some x := ⟨_, List.getElem?_eq_getElem (by have := HL1.out; omega)⟩
      obtain ⟨z, hz⟩ : ∃ z, z = hqt (canL (dbl x)) := ⟨_, rfl⟩
      have HCi := Lib.hid (show C[i]? = some z by rw [HCan.out, List.getElem?_map, hx, hz]; rfl)
      have HXm := Lib.hid (List.mem_of_getElem? hx)
      obtain ⟨b, o, rfl, hb, q0, q1, q2, q3, q4⟩ := qt_at (HVL4.out.keep HO.out.below) (i := i) (z := g1 x) (by rw [List.getElem?_map, hx]; rfl)
      simp only [g1] at q0 q1 q2 q3 q4
      have HCa := Lib.hid (fun W => HCn.out x HXm.out W)
      rw [← hz] at HCa
      clear hx hz hb
      obtain ⟨x0, x1, x2, x3⟩ := x
      simp only at q0 q1 q2 q3 q4
      unfold g1 qv at HCa
      simp only at HCa
      go_wp2_with fail
      refine (HCa.out _).mono ?_
      rintro e w5 ⟨_, rfl, rfl, hb5⟩
      have HO6 := Lib.hid (HO.out.keep hb5)
      clear q0 q1 q2 q3 q4 hb5 hti HO HCa
      go_upto_region 14 with fail
      have hN := Cells.new w5 #[.int .i64 z.w, .int .i64 z.x, .int .i64 z.y, .int .i64 z.z, .int .i64 z.d] 31 rfl
      have hb6 := (Below.refl w5.heap.size w5).alloc (Nat.le_refl _) (.cells #[.int .i64 z.w, .int .i64 z.x, .int .i64 z.y, .int .i64 z.z, .int .i64 z.d] 31)
      have HO7 := Lib.hid (HO6.out.keep hb6)
      obtain ⟨R6, hR6⟩ : ∃ R, R = w5.heap.size := ⟨_, rfl⟩
      obtain ⟨W6, hW6⟩ : ∃ W6, W6 = w5.alloc (.cells #[.int .i64 z.w, .int .i64 z.x, .int .i64 z.y, .int .i64 z.z, .int .i64 z.d] 31) := ⟨_, rfl⟩
      rw [← hR6, ← hW6] at hN ⊢
      rw [← hW6] at HO7
      have HN6 := Lib.hid hN
      clear hR6 hW6 hb6 hN HO6
      obtain ⟨W7, hW7⟩ : ∃ W7 : World, W7 = wr := ⟨_, rfl⟩
      subst hW7
      go_loopw [11, 12, 69, 70, 71, 72, 73, 74, 75, 76, 77, 78, 79, 80, 81] (fun s11 s12 _ _ _ _ _ _ _ _ _ _ _ _ _ wr => ∃ (k : Nat) (a : Int), s12 = .int .i64 (k : Int) ∧ s11 = .int .i64 a ∧ k ≤ n ∧ AtI AL z k a ∧ Below W6.heap.size W6 wr) (fun _ s12 _ _ _ _ _ _ _ _ _ _ _ _ _ _ => (n - (intOf s12).toNat))
      case atStart => exact ⟨0, -1, rfl, rfl, Nat.zero_le _, .inl ⟨rfl, fun j hj => absurd hj (by omega)⟩, Below.refl _ _⟩
      case round =>
        obtain ⟨k, a, rfl, rfl, hkl, hat, hbl⟩ := hrel
        have HAt := Lib.hid hat; have HBl := Lib.hid hbl
        clear hat hbl
        by_cases hkn : k < n
        · have hti := decide_eq_true (p := ((k : Nat) : Int) < ((n : Nat) : Int)) (by omega)
          obtain ⟨q, hq⟩ : ∃ q, AL[k]? = some q := ⟨_, List.getElem?_eq_getElem (by have := HAn.out; omega)⟩
          obtain ⟨bb, oo, cs, rfl, hbb, hE, hcs⟩ := Sl.at ((HVA.out.keep HO7.out.below).keep HBl.out) hq
          obtain rfl : cs = qcs q := hE
          have HCs := Lib.hid hcs; have HBb := Lib.hid hbb; have HQ := Lib.hid hq; have HLt := Lib.hid hkn
          have HN8 := Lib.hid (HN6.out.keep HBl.out)
          obtain ⟨i0, hi, hz0, hz1, hz2⟩ := info_parts info_Qt
          have HI := Lib.hid hi; have HZ1 := Lib.hid hz1
          clear hcs hbb hq hi hz0 hz1 hz2
          go_upto_region 16 with fail
          clear hti
          refine wp_region_val [(0, 75, VC (.slice (some ⟨bb, oo, none⟩) n ca)), (1, 76, VC (.int .i64 (k : Int))), (2, 77, VC (.pointer (some ⟨bb, oo + k * 5, none⟩))), (3, 78, VC (qv q)), (4, 79, VC (qv z)), (5, 80, VC (.bool (decide (q = z))))] (fun _ => True) [75, 76, 77, 78, 79, 80] (by kernel_rfl) (by kernel_rfl) (by kernel_rfl) ⟨Keeps.vc _, Keeps.vc _, Keeps.vc _, Keeps.vc _, Keeps.vc _, Keeps.vc _, trivial⟩ (fun _ _ _ _ _ => trivial) trivial (forall_ops ⟨?_, ?_, ?_, ?_, ?_, ?_, trivial⟩) ?_
          · exact .of rfl rfl fun y W hB hE hV hU => .move rfl (fr_out (v := (.slice (some ⟨bb, oo, none⟩) n ca)) (by kernel_rfl) (by kernel_rfl)) rfl
          · exact .of rfl rfl fun y W hB hE hV hU => .move rfl (fr_out (v := (.int .i64 (k : Int))) (by kernel_rfl) (by kernel_rfl)) rfl
          · exact .of rfl rfl fun y W hB hE hV hU => .rowAt Tryz.underlying25 HI.out HZ1.out rfl ((fr_in (by kernel_rfl)).trans (hget hV 0 rfl (by kernel_rfl))) ((fr_in (by kernel_rfl)).trans (hget hV 1 rfl (by kernel_rfl))) HLt.out
          · exact .of rfl rfl fun y W hB hE hV hU => .loadQ hB HBb.out HCs.out rfl ((fr_in (by kernel_rfl)).trans (hget hV 2 rfl (by kernel_rfl)))
          · exact .of rfl rfl fun y W hB hE hV hU => .loadQ hB HN8.out.1 (cells_qcs HN8.out) rfl (fr_out (v := (.pointer (some ⟨R6, 0, none⟩))) (by kernel_rfl) (by kernel_rfl))
          · exact .of rfl rfl fun y W hB hE hV hU => .binOp rfl ((fr_in (by kernel_rfl)).trans (hget hV 3 rfl (by kernel_rfl))) ((fr_in (by kernel_rfl)).trans (hget hV 4 rfl (by kernel_rfl))) (run_eqQ _ _ _ _ _) rfl
          intro y V hB hE hV
          have eV : y 80 = _ := hend hV 5 rfl
          have HBl2 := Lib.hid (HBl.out.trans (hB.mono HBl.out.size))
          clear hB hE hV
          generalize hact : fr _ _ y = act
          simp only [fr, putAll, List.foldl_cons, List.foldl_nil, List.setIfInBounds_toArray, List.set_cons_zero, List.set_cons_succ, eV] at hact
          subst hact
          clear eV
          have HNx := Lib.hid (HAt.out.next HQ.out)
          by_cases hqz : q = z
          · have td := decide_eq_true hqz
            have HNx := Lib.hid (show AtI AL z (k + 1) (k : Int) by have := HNx.out; rw [if_pos hqz] at this; exact this)
            go_wp2_with fail
            refine ⟨⟨k + 1, k, by rw [wrap_succ hkn (by have := HNb.out; omega)], rfl, hkn, HNx.out, HBl2.out⟩, ?_⟩
            rw [wrap_succ hkn (by have := HNb.out; omega)]; simp only [intOf]; omega
          · have td := decide_eq_false hqz
            have HNx := Lib.hid (show AtI AL z (k + 1) a by have := HNx.out; rw [if_neg hqz] at this; exact this)
            go_wp2_with fail
            refine ⟨⟨k + 1, a, by rw [wrap_succ hkn (by have := HNb.out; omega)], rfl, hkn, HNx.out, HBl2.out⟩, ?_⟩
            rw [wrap_succ hkn (by have := HNb.out; omega)]; simp only [intOf]; omega
        · have hti := decide_eq_false (p := ((k : Nat) : Int) < ((n : Nat) : Int)) (by omega)
          obtain ⟨j, hj1, hj2, hj3⟩ := AtI.found (L := AL) (z := z) (a := a) (by have := HAt.out; rw [show k = AL.length by have := HAn.out; omega] at this; exact this) (HALm.out z (List.mem_of_getElem? HCi.out))
          subst hj1
          rw [HAn.out] at hj2
          have HO8 := Lib.hid (HO7.out.keep HBl.out)
          obtain ⟨bv, hbv⟩ : ∃ bv, (rs.map (·.1))[j]? = some bv := ⟨_, List.getElem?_eq_getElem (by have := HRl.out; simp; omega)⟩
          have hbf : bv = false := by
            cases bv
            · rfl
            · exact absurd hbv (HSn.out.new HND.out HCi.out hj3)
          subst hbf
          obtain ⟨q0, f0⟩ := own_bool_cell HO8.out hbv
          have HSet := Lib.hid (own_bool_set HO8.out (i := j) (by have := HRl.out; omega) true)
          have HSn2 := Lib.hid (HSn.out.set HCi.out hj3)
          have t0 := decide_eq_false (p := ((j : Nat) : Int) < 0) (by omega)
          clear hbv hj3 hkl
          go_wp2_with fail
          refine ⟨⟨i + 1, rs.set j (true, [.bool true]), by rw [wrap_succ hlt (by have := HNb.out; omega)], hlt, by rw [List.length_set]; exact HRl.out, by rw [List.map_set]; exact HSn2.out, HSet.out⟩, ?_⟩
          rw [wrap_succ hlt (by have := HNb.out; omega)]; simp only [intOf]; omega
    · have hti := decide_eq_false (p := ((i : Nat) : Int) < ((n : Nat) : Int)) (by omega)
      go_wp2_with fail
      refine (HK.out _).mono ?_
      rintro e w5 ⟨_, rfl, rfl, hb5⟩
      have HB5 := Lib.hid ((HB4.out.trans (HO.out.below.mono HB4.out.size)).trans (hb5.mono (HB4.out.trans (HO.out.below.mono HB4.out.size)).size))
      clear hb5
      go_wp2_with fail
      go_ret
      exact ⟨_, rfl, rfl, HB5.out⟩
theorem TopGeneratorsAreIdeals_law (p : Int) (w : World) (_hp : I64 p) : Calls Tryz.prog 3 #[.int .i64 p] w fun e w' => e = .returned (.bool true) ∧ Below w.heap.size w w' := by
  suffices h : Calls Tryz.prog 3 #[.int .i64 p] w (PostW (VC (.bool true)) w) by
    refine h.mono ?_
    rintro e w' ⟨_, rfl, rfl, hb⟩
    exact ⟨rfl, hb⟩
  have HW := Lib.hid (fun W => within_any p 5 100 W)
  have HI := Lib.hid (fun W => isGood_any p W)
  have HK := Lib.hid (fun W => walked_any W)
  by_cases h1 : 5 ≤ p ∧ p ≤ 100
  · cases hg : gdB p
    · rw [decide_eq_true (p := 5 ≤ p ∧ p ≤ 100) h1] at HW
      rw [hg] at HI
      clear h1 hg
      go_enter Tryz.func3, Tryz.ntmps3
      go_wp2_with fail
      refine (HW.out _).mono ?_
      rintro e w1 ⟨_, rfl, rfl, hb⟩
      have HB := Lib.hid hb
      clear hb
      go_wp2_with fail
      refine (HI.out _).mono ?_
      rintro e w2 ⟨_, rfl, rfl, hb⟩
      have HB2 := Lib.hid (HB.out.trans (hb.mono HB.out.size))
      clear hb HB
      go_wp2_with fail
      refine (HK.out _).mono ?_
      rintro e w3 ⟨_, rfl, rfl, hb⟩
      have HB3 := Lib.hid (HB2.out.trans (hb.mono HB2.out.size))
      clear hb HB2
      go_wp2_with fail
      go_ret
      exact ⟨_, rfl, rfl, HB3.out⟩
    · exact genMain p w h1.1 h1.2 hg
  · rw [decide_eq_false h1] at HW
    clear h1
    go_enter Tryz.func3, Tryz.ntmps3
    go_wp2_with fail
    refine (HW.out _).mono ?_
    rintro e w1 ⟨_, rfl, rfl, hb⟩
    have HB := Lib.hid hb
    clear hb
    go_wp2_with fail
    refine (HK.out _).mono ?_
    rintro e w3 ⟨_, rfl, rfl, hb⟩
    have HB3 := Lib.hid (HB.out.trans (hb.mono HB.out.size))
    clear hb HB
    go_wp2_with fail
    go_ret
    exact ⟨_, rfl, rfl, HB3.out⟩
end Go.Proofs.YthkklilhjnpedaaGreat
end
