/- The first images that the program finds. -/
import Derived.Test.YtfjmhfmhijhpkaaIsp
import Derived.Test.YtfjmhfmhijhpkaaIsm2
import Derived.RegionIn
import Derived.BigRegion
namespace Go.Proofs.Ytfjmhfmhijhpkaa
open Go.RowKit Go.Shelf FF
attribute [local go_sem] Oper.semAt_some

theorem Cells.one1 {W : World} {k : Nat} {z0 : Value} (h : Cells W k #[z0]) (z : Value) : Cells (W.setCell ⟨k, 0, none⟩ z) k #[z] := by
  have hc := h.2.1 0 (by simp)
  refine ⟨by rw [(Only.setCell W k 0 z).size]; exact h.1, fun i hi => ?_, fun i => by simp [go_sem, h.2.2 i]⟩
  have hi0 : i = 0 := by simpa using hi
  subst hi0
  exact World.cell?_setCell_same' _ _ _ (by rw [hc]; rfl)
theorem fin3 {w W : World} {i j k : Nat} {x0 x1 x2 x3 x4 y0 y1 y2 y3 y4 z0 : Value} (hi : Cells W i #[x0, x1, x2, x3, x4]) (hj : Cells W j #[y0, y1, y2, y3, y4]) (hk : Cells W k #[z0]) (hb : Below w.heap.size w W) (li : w.heap.size ≤ i) (hij : i < j) (hjk : j < k) (u0 u1 u2 u3 u4 v0 v1 v2 v3 v4 z : Value) :
    ∃ W9, (((((((((((W.setCell ⟨i, 0, none⟩ u0).setCell ⟨i, 1, none⟩ u1).setCell ⟨i, 2, none⟩ u2).setCell ⟨i, 3, none⟩ u3).setCell ⟨i, 4, none⟩ u4).setCell ⟨j, 0, none⟩ v0).setCell ⟨j, 1, none⟩ v1).setCell ⟨j, 2, none⟩ v2).setCell ⟨j, 3, none⟩ v3).setCell ⟨j, 4, none⟩ v4).setCell ⟨k, 0, none⟩ z) = W9 ∧
      Cells W9 i #[u0, u1, u2, u3, u4] ∧ Cells W9 j #[v0, v1, v2, v3, v4] ∧ Cells W9 k #[z] ∧ Below w.heap.size w W9 ∧ KeepsOthers W W9 := by
  have c1 := hi.put5 u0 u1 u2 u3 u4
  have o1 := Only.put5 W i u0 u1 u2 u3 u4
  have k1 : KeepsOthers W (((((W.setCell ⟨i, 0, none⟩ u0).setCell ⟨i, 1, none⟩ u1).setCell ⟨i, 2, none⟩ u2).setCell ⟨i, 3, none⟩ u3).setCell ⟨i, 4, none⟩ u4) := ((((KeepsOthers.setCell _ _ _).trans (KeepsOthers.setCell _ _ _)).trans (KeepsOthers.setCell _ _ _)).trans (KeepsOthers.setCell _ _ _)).trans (KeepsOthers.setCell _ _ _)
  have d1 := hj.only o1 (by omega)
  have e1 := hk.only o1 (by omega)
  generalize (((((W.setCell ⟨i, 0, none⟩ u0).setCell ⟨i, 1, none⟩ u1).setCell ⟨i, 2, none⟩ u2).setCell ⟨i, 3, none⟩ u3).setCell ⟨i, 4, none⟩ u4) = W1 at *
  have c2 := d1.put5 v0 v1 v2 v3 v4
  have o2 := Only.put5 W1 j v0 v1 v2 v3 v4
  have k2 : KeepsOthers W1 (((((W1.setCell ⟨j, 0, none⟩ v0).setCell ⟨j, 1, none⟩ v1).setCell ⟨j, 2, none⟩ v2).setCell ⟨j, 3, none⟩ v3).setCell ⟨j, 4, none⟩ v4) := ((((KeepsOthers.setCell _ _ _).trans (KeepsOthers.setCell _ _ _)).trans (KeepsOthers.setCell _ _ _)).trans (KeepsOthers.setCell _ _ _)).trans (KeepsOthers.setCell _ _ _)
  have d2 := c1.only o2 (by omega)
  have e2 := e1.only o2 (by omega)
  generalize (((((W1.setCell ⟨j, 0, none⟩ v0).setCell ⟨j, 1, none⟩ v1).setCell ⟨j, 2, none⟩ v2).setCell ⟨j, 3, none⟩ v3).setCell ⟨j, 4, none⟩ v4) = W2 at *
  have o3 := Only.setCell W2 k 0 z
  have c3 : Cells (W2.setCell ⟨k, 0, none⟩ z) k #[z] := e2.one1 z
  exact ⟨_, rfl, d2.only o3 (by omega), c2.only o3 (by omega), c3, o3.below (o2.below (o1.below hb li) (by omega)) (by omega), (k1.trans k2).trans (KeepsOthers.setCell _ _ _)⟩

theorem cells_own {W W' : World} {row : Option Nat} {b : Nat} {vs : Array Value} (h : Cells W b vs) (h0 : 0 < vs.size) (hg : W.grownBy W' row) (hr : ∀ r, row = some r → ∃ o : Obj, W.heap[r]? = some o ∧ o.isCells = false) : Cells W' b vs := by
  have hc : W.cell? ⟨b, 0, none⟩ = some vs[0] := by rw [h.2.1 0 h0, Array.getElem?_eq_getElem h0]
  obtain ⟨o, ho, hoc⟩ := cells_of_cell hc
  have hb := grownBy_keeps_cells hg hr ho hoc
  exact ⟨Nat.lt_of_lt_of_le h.1 hg.size, fun i hi => (World.cell?_of_block (a := ⟨b, i, none⟩) hb).trans (h.2.1 i hi), fun i => (World.frozen?_of_block (a := ⟨b, i, none⟩) hb).trans (h.2.2 i)⟩

set_option maxHeartbeats 4000000 in
set_option maxRecDepth 100000 in
theorem qIsomorphism_bad (a b c d : Int) (w : World) (h : isoIE a b c d ≠ 0) :
    Calls Try.prog 31 #[.agg #[.int .i64 a, .int .i64 b], .agg #[.int .i64 c, .int .i64 d]] w fun r w' => r = .returned (.tuple #[qv Qt.zero, qv Qt.zero, .int .i64 (isoIE a b c d)]) ∧ Below w.heap.size w w' := by
  have HI := Lib.hid (fun w => qIsomorphic_bad a b c d w h)
  generalize isoIE a b c d = E at *
  have dE : (E != 0) = true := bne_iff_ne.2 h
  go_enter Try.func31, Try.ntmps31
  go_upto_region 1 with fail
  obtain ⟨W0, hW0⟩ : ∃ W0 : World, W0 = (((((w.alloc (.cells #[.int .i64 a, .int .i64 b] 23)).alloc (.cells #[.int .i64 c, .int .i64 d] 23)).alloc (.cells #[.int .i64 0, .int .i64 0, .int .i64 0, .int .i64 0, .int .i64 0] 25)).alloc (.cells #[.int .i64 0, .int .i64 0, .int .i64 0, .int .i64 0, .int .i64 0] 25)).alloc (.cells #[.int .i64 0] 32)) := ⟨_, rfl⟩
  rw [← hW0]
  have HB0 := Lib.hid (show Bx w [(w.heap.size + 4, #[.int .i64 0]), (w.heap.size + 3, #[.int .i64 0, .int .i64 0, .int .i64 0, .int .i64 0, .int .i64 0]), (w.heap.size + 2, #[.int .i64 0, .int .i64 0, .int .i64 0, .int .i64 0, .int .i64 0]), (w.heap.size + 1, #[.int .i64 c, .int .i64 d]), (w.heap.size, #[.int .i64 a, .int .i64 b])] W0 by rw [hW0]; simpa using ((((((Bx.nil (Below.refl w.heap.size w)).new #[.int .i64 a, .int .i64 b] 23).new #[.int .i64 c, .int .i64 d] 23).new #[.int .i64 0, .int .i64 0, .int .i64 0, .int .i64 0, .int .i64 0] 25).new #[.int .i64 0, .int .i64 0, .int .i64 0, .int .i64 0, .int .i64 0] 25).new #[.int .i64 0] 32))
  clear hW0
  obtain ⟨p0, p1⟩ := HB0.out.two (List.mem_cons_of_mem _ (List.mem_cons_of_mem _ (List.mem_cons_of_mem _ (List.mem_cons_of_mem _ (List.mem_cons_self ..)))))
  obtain ⟨p2, p3⟩ := HB0.out.two (List.mem_cons_of_mem _ (List.mem_cons_of_mem _ (List.mem_cons_of_mem _ (List.mem_cons_self ..))))
  go_wp2_with fail
  refine (HI.out _).mono ?_
  rintro e1 w1 ⟨rfl, hbb⟩
  have HB1 := Lib.hid (HB0.out.keep hbb)
  clear p0 p1 p2 p3 hbb HB0 HI
  have hc6 := (HB1.out.own _ (List.mem_cons_self ..)).2
  have k6 := hc6.2.1 0 (by simp); have f6 := hc6.2.2 0
  simp only [List.getElem?_toArray, List.getElem?_cons_zero] at k6
  clear hc6
  go_upto_region 3 with fail
  obtain ⟨V, hV⟩ : ∃ V : World, V = w1.setCell ⟨w.heap.size + 4, 0, none⟩ (.int .i64 E) := ⟨_, rfl⟩
  try simp only [Nat.add_assoc, Nat.reduceAdd]
  rw [← hV]
  have HC := Lib.hid (show Cells V (w.heap.size + 2) #[.int .i64 0, .int .i64 0, .int .i64 0, .int .i64 0, .int .i64 0] ∧ Cells V (w.heap.size + 3) #[.int .i64 0, .int .i64 0, .int .i64 0, .int .i64 0, .int .i64 0] ∧ Cells V (w.heap.size + 4) #[.int .i64 E] ∧ Below w.heap.size w V ∧ Cells V (w.heap.size + 1) #[.int .i64 c, .int .i64 d] ∧ Cells V w.heap.size #[.int .i64 a, .int .i64 b] from by
    rw [hV]
    have o := Only.setCell w1 (w.heap.size + 4) 0 (.int .i64 E)
    exact ⟨(HB1.out.own _ (List.mem_cons_of_mem _ (List.mem_cons_of_mem _ (List.mem_cons_self ..)))).2.only o (by omega), (HB1.out.own _ (List.mem_cons_of_mem _ (List.mem_cons_self ..))).2.only o (by omega), (HB1.out.own _ (List.mem_cons_self ..)).2.one1 _, o.below HB1.out.below (by omega), (HB1.out.own _ (List.mem_cons_of_mem _ (List.mem_cons_of_mem _ (List.mem_cons_of_mem _ (List.mem_cons_self ..))))).2.only o (by omega), (HB1.out.own _ (List.mem_cons_of_mem _ (List.mem_cons_of_mem _ (List.mem_cons_of_mem _ (List.mem_cons_of_mem _ (List.mem_cons_self ..)))))).2.only o (by omega)⟩)
  clear hV HB1 k6 f6
  obtain ⟨i0, i1, i2, i3, i4⟩ := HC.out.1.five_
  obtain ⟨j0, j1, j2, j3, j4⟩ := HC.out.2.1.five_
  have k0 := HC.out.2.2.1.2.1 0 (by simp)
  simp only [List.getElem?_toArray, List.getElem?_cons_zero] at k0
  have fi0 := HC.out.1.2.2 0; have fi1 := HC.out.1.2.2 1; have fi2 := HC.out.1.2.2 2; have fi3 := HC.out.1.2.2 3; have fi4 := HC.out.1.2.2 4
  have fj0 := HC.out.2.1.2.2 0; have fj1 := HC.out.2.1.2.2 1; have fj2 := HC.out.2.1.2.2 2; have fj3 := HC.out.2.1.2.2 3; have fj4 := HC.out.2.1.2.2 4
  have fk := HC.out.2.2.1.2.2 0
  go_region
  go_wp2_with fail
  obtain ⟨W9, e9, g1, g2, g3, B9, -⟩ := fin3 HC.out.1 HC.out.2.1 HC.out.2.2.1 HC.out.2.2.2.1 (by omega) (by omega) (by omega) (.int .i64 0) (.int .i64 0) (.int .i64 0) (.int .i64 0) (.int .i64 0) (.int .i64 0) (.int .i64 0) (.int .i64 0) (.int .i64 0) (.int .i64 0) (.int .i64 E)
  rw [e9]
  obtain ⟨q0, q1, q2, q3, q4⟩ := g1.five_
  obtain ⟨r0, r1, r2, r3, r4⟩ := g2.five_
  have t0 := g3.2.1 0 (by simp)
  simp only [List.getElem?_toArray, List.getElem?_cons_zero] at t0
  refine bodyPost_ret (v := .tuple #[.agg #[.int .i64 0, .int .i64 0, .int .i64 0, .int .i64 0, .int .i64 0], .agg #[.int .i64 0, .int .i64 0, .int .i64 0, .int .i64 0, .int .i64 0], .int .i64 E]) (by simp [results, Try.results31, go_sem, q0, q1, q2, q3, q4, r0, r1, r2, r3, r4, t0]) rfl ?_
  exact ⟨rfl, B9.drew⟩

set_option maxHeartbeats 4000000 in
set_option maxRecDepth 100000 in
theorem qIsomorphism_no (a b c d : Int) (w : World) (h1 : aE a b = 0) (h2 : aE c d = 0) (hF : isoB a b c d = false) :
    Calls Try.prog 31 #[.agg #[.int .i64 a, .int .i64 b], .agg #[.int .i64 c, .int .i64 d]] w fun r w' => r = .returned (.tuple #[qv Qt.zero, qv Qt.zero, .int .i64 12]) ∧ Below w.heap.size w w' := by
  have HI := Lib.hid (fun w => qIsomorphic_good a b c d w h1 h2)
  rw [hF] at HI
  go_enter Try.func31, Try.ntmps31
  go_upto_region 1 with fail
  obtain ⟨W0, hW0⟩ : ∃ W0 : World, W0 = (((((w.alloc (.cells #[.int .i64 a, .int .i64 b] 23)).alloc (.cells #[.int .i64 c, .int .i64 d] 23)).alloc (.cells #[.int .i64 0, .int .i64 0, .int .i64 0, .int .i64 0, .int .i64 0] 25)).alloc (.cells #[.int .i64 0, .int .i64 0, .int .i64 0, .int .i64 0, .int .i64 0] 25)).alloc (.cells #[.int .i64 0] 32)) := ⟨_, rfl⟩
  rw [← hW0]
  have HB0 := Lib.hid (show Bx w [(w.heap.size + 4, #[.int .i64 0]), (w.heap.size + 3, #[.int .i64 0, .int .i64 0, .int .i64 0, .int .i64 0, .int .i64 0]), (w.heap.size + 2, #[.int .i64 0, .int .i64 0, .int .i64 0, .int .i64 0, .int .i64 0]), (w.heap.size + 1, #[.int .i64 c, .int .i64 d]), (w.heap.size, #[.int .i64 a, .int .i64 b])] W0 by rw [hW0]; simpa using ((((((Bx.nil (Below.refl w.heap.size w)).new #[.int .i64 a, .int .i64 b] 23).new #[.int .i64 c, .int .i64 d] 23).new #[.int .i64 0, .int .i64 0, .int .i64 0, .int .i64 0, .int .i64 0] 25).new #[.int .i64 0, .int .i64 0, .int .i64 0, .int .i64 0, .int .i64 0] 25).new #[.int .i64 0] 32))
  clear hW0
  obtain ⟨p0, p1⟩ := HB0.out.two (List.mem_cons_of_mem _ (List.mem_cons_of_mem _ (List.mem_cons_of_mem _ (List.mem_cons_of_mem _ (List.mem_cons_self ..)))))
  obtain ⟨p2, p3⟩ := HB0.out.two (List.mem_cons_of_mem _ (List.mem_cons_of_mem _ (List.mem_cons_of_mem _ (List.mem_cons_self ..))))
  go_wp2_with fail
  refine (HI.out _).mono ?_
  rintro e1 w1 ⟨rfl, hbb⟩
  have HB1 := Lib.hid (HB0.out.keep hbb)
  clear p0 p1 p2 p3 hbb HB0 HI
  have hc6 := (HB1.out.own _ (List.mem_cons_self ..)).2
  have k6 := hc6.2.1 0 (by simp); have f6 := hc6.2.2 0
  simp only [List.getElem?_toArray, List.getElem?_cons_zero] at k6
  clear hc6
  go_upto_region 5 with fail
  obtain ⟨V, hV⟩ : ∃ V : World, V = w1.setCell ⟨w.heap.size + 4, 0, none⟩ (.int .i64 0) := ⟨_, rfl⟩
  try simp only [Nat.add_assoc, Nat.reduceAdd]
  rw [← hV]
  have HC := Lib.hid (show Cells V (w.heap.size + 2) #[.int .i64 0, .int .i64 0, .int .i64 0, .int .i64 0, .int .i64 0] ∧ Cells V (w.heap.size + 3) #[.int .i64 0, .int .i64 0, .int .i64 0, .int .i64 0, .int .i64 0] ∧ Cells V (w.heap.size + 4) #[.int .i64 0] ∧ Below w.heap.size w V ∧ Cells V (w.heap.size + 1) #[.int .i64 c, .int .i64 d] ∧ Cells V w.heap.size #[.int .i64 a, .int .i64 b] from by
    rw [hV]
    have o := Only.setCell w1 (w.heap.size + 4) 0 (.int .i64 0)
    exact ⟨(HB1.out.own _ (List.mem_cons_of_mem _ (List.mem_cons_of_mem _ (List.mem_cons_self ..)))).2.only o (by omega), (HB1.out.own _ (List.mem_cons_of_mem _ (List.mem_cons_self ..))).2.only o (by omega), (HB1.out.own _ (List.mem_cons_self ..)).2.one1 _, o.below HB1.out.below (by omega), (HB1.out.own _ (List.mem_cons_of_mem _ (List.mem_cons_of_mem _ (List.mem_cons_of_mem _ (List.mem_cons_self ..))))).2.only o (by omega), (HB1.out.own _ (List.mem_cons_of_mem _ (List.mem_cons_of_mem _ (List.mem_cons_of_mem _ (List.mem_cons_of_mem _ (List.mem_cons_self ..)))))).2.only o (by omega)⟩)
  clear hV HB1 k6 f6
  obtain ⟨i0, i1, i2, i3, i4⟩ := HC.out.1.five_
  obtain ⟨j0, j1, j2, j3, j4⟩ := HC.out.2.1.five_
  have k0 := HC.out.2.2.1.2.1 0 (by simp)
  simp only [List.getElem?_toArray, List.getElem?_cons_zero] at k0
  have fi0 := HC.out.1.2.2 0; have fi1 := HC.out.1.2.2 1; have fi2 := HC.out.1.2.2 2; have fi3 := HC.out.1.2.2 3; have fi4 := HC.out.1.2.2 4
  have fj0 := HC.out.2.1.2.2 0; have fj1 := HC.out.2.1.2.2 1; have fj2 := HC.out.2.1.2.2 2; have fj3 := HC.out.2.1.2.2 3; have fj4 := HC.out.2.1.2.2 4
  have fk := HC.out.2.2.1.2.2 0
  go_wp2_with fail
  obtain ⟨W9, e9, g1, g2, g3, B9, -⟩ := fin3 HC.out.1 HC.out.2.1 HC.out.2.2.1 HC.out.2.2.2.1 (by omega) (by omega) (by omega) (.int .i64 0) (.int .i64 0) (.int .i64 0) (.int .i64 0) (.int .i64 0) (.int .i64 0) (.int .i64 0) (.int .i64 0) (.int .i64 0) (.int .i64 0) (.int .i64 12)
  rw [e9]
  obtain ⟨q0, q1, q2, q3, q4⟩ := g1.five_
  obtain ⟨r0, r1, r2, r3, r4⟩ := g2.five_
  have t0 := g3.2.1 0 (by simp)
  simp only [List.getElem?_toArray, List.getElem?_cons_zero] at t0
  refine bodyPost_ret (v := .tuple #[.agg #[.int .i64 0, .int .i64 0, .int .i64 0, .int .i64 0, .int .i64 0], .agg #[.int .i64 0, .int .i64 0, .int .i64 0, .int .i64 0, .int .i64 0], .int .i64 12]) (by simp [results, Try.results31, go_sem, q0, q1, q2, q3, q4, r0, r1, r2, r3, r4, t0]) rfl ?_
  exact ⟨rfl, by first | exact B9 | exact B9.drew⟩

set_option maxHeartbeats 4000000 in
set_option maxRecDepth 100000 in
theorem qIsomorphism_in (a b c d : Int) (w : World) (h1 : aE a b = 0) (h2 : aE c d = 0) (hF : isoB a b c d = true) (n : Nat) (hn : 3 ≤ n) :
    CallsIn Fence.wide n Try.prog 31 #[.agg #[.int .i64 a, .int .i64 b], .agg #[.int .i64 c, .int .i64 d]] w fun r w' => r = .returned (.tuple #[qv (isoX (isoO a b c d)), qv (isoY (isoO a b c d)), .int .i64 (if (isoO a b c d).isSome then 0 else 21)]) ∧ Below w.heap.size w w' := by
  have HI := Lib.hid (fun w => qIsomorphic_good a b c d w h1 h2)
  rw [hF] at HI
  have hab := aE_zero.1 h1
  have HCo := Lib.hid (fun B1 B2 w x1 x2 x3 x4 => collect_any c d b h2 ⟨by omega, by omega⟩ B1 B2 w x1 x2 x3 x4)
  have HSt := Lib.hid (fun n hn B1 B2 n₀ w x1 x2 x3 x4 x5 => roots_stops c d a h2 ⟨by omega, by omega⟩ n hn B1 B2 n₀ w x1 x2 x3 x4 x5)
  have HRo := Lib.hid (fun nn w => roots_any c d nn w)
  have HOp := Lib.hid (fun p0 p1 p2 p3 p4 q0 q1 q2 q3 q4 w hp hq => qopposite_any c d p0 p1 p2 p3 p4 q0 q1 q2 q3 q4 w hp hq h2)
  have HO := Lib.hid (show isoO a b c d = firstP (opB c d) (pick (rtB c d a) 9826) (pick (rtB c d b) 9826) from rfl)
  have HM2 := Lib.hid (fun q (h : q ∈ pick (rtB c d b) 9826) => (mem_pick (Nat.le_refl _) h).1)
  have hn2 := pick_length (rtB c d b) 9826
  obtain ⟨X, hX⟩ : ∃ X, X = qv (isoX (isoO a b c d)) := ⟨_, rfl⟩
  obtain ⟨Y, hY⟩ : ∃ Y, Y = qv (isoY (isoO a b c d)) := ⟨_, rfl⟩
  obtain ⟨E, hE⟩ : ∃ E : Int, E = if (isoO a b c d).isSome then 0 else 21 := ⟨_, rfl⟩
  rw [← hX, ← hY, ← hE]
  have HXY := Lib.hid (And.intro hX (And.intro hY hE))
  clear hX hY hE h1 h2 hF hab
  generalize isoO a b c d = O at *
  generalize pick (rtB c d a) 9826 = L1 at *
  generalize pick (rtB c d b) 9826 = L2 at *
  generalize opB c d = rr at *
  refine callsIn_of_wp_marks Try.func31 rfl trivial ?_ rfl
  simp only [Try.ntmps31, List.size_toArray, List.length_cons, List.length_nil, Nat.reduceAdd, Nat.reduceSub, Array.replicate_succ, Array.replicate_zero, List.push_toArray, List.append_toArray, List.nil_append, List.cons_append]
  have hn1 : 1 ≤ n := by omega
  gi_wp2
  refine ⟨trivial, ?_⟩
  obtain ⟨W0, hW0⟩ : ∃ W0 : World, W0 = (((((w.alloc (.cells #[.int .i64 a, .int .i64 b] 23)).alloc (.cells #[.int .i64 c, .int .i64 d] 23)).alloc (.cells #[.int .i64 0, .int .i64 0, .int .i64 0, .int .i64 0, .int .i64 0] 25)).alloc (.cells #[.int .i64 0, .int .i64 0, .int .i64 0, .int .i64 0, .int .i64 0] 25)).alloc (.cells #[.int .i64 0] 32)) := ⟨_, rfl⟩
  rw [← hW0]
  have HB0 := Lib.hid (show Bx w [(w.heap.size + 4, #[.int .i64 0]), (w.heap.size + 3, #[.int .i64 0, .int .i64 0, .int .i64 0, .int .i64 0, .int .i64 0]), (w.heap.size + 2, #[.int .i64 0, .int .i64 0, .int .i64 0, .int .i64 0, .int .i64 0]), (w.heap.size + 1, #[.int .i64 c, .int .i64 d]), (w.heap.size, #[.int .i64 a, .int .i64 b])] W0 by rw [hW0]; simpa using ((((((Bx.nil (Below.refl w.heap.size w)).new #[.int .i64 a, .int .i64 b] 23).new #[.int .i64 c, .int .i64 d] 23).new #[.int .i64 0, .int .i64 0, .int .i64 0, .int .i64 0, .int .i64 0] 25).new #[.int .i64 0, .int .i64 0, .int .i64 0, .int .i64 0, .int .i64 0] 25).new #[.int .i64 0] 32))
  clear hW0
  refine (callsIn_wide.2 (HI.out _)).mono ?_
  rintro e1 w1 ⟨rfl, hbb⟩
  have HB1 := Lib.hid (HB0.out.keep hbb)
  clear hbb HB0 HI
  have hc6 := (HB1.out.own _ (List.mem_cons_self ..)).2
  have k6 := hc6.2.1 0 (by simp); have f6 := hc6.2.2 0
  simp only [List.getElem?_toArray, List.getElem?_cons_zero] at k6
  clear hc6
  have hc3 := (HB1.out.own _ (List.mem_cons_of_mem _ (List.mem_cons_of_mem _ (List.mem_cons_of_mem _ (List.mem_cons_self ..))))).2
  have p2 := hc3.2.1 0 (by simp); have p3 := hc3.2.1 1 (by simp)
  simp only [List.getElem?_toArray, List.getElem?_cons_zero, List.getElem?_cons_succ] at p2 p3
  clear hc3
  have hc4 := (HB1.out.own _ (List.mem_cons_of_mem _ (List.mem_cons_of_mem _ (List.mem_cons_of_mem _ (List.mem_cons_of_mem _ (List.mem_cons_self ..)))))).2
  have p0 := hc4.2.1 0 (by simp); have p1 := hc4.2.1 1 (by simp)
  simp only [List.getElem?_toArray, List.getElem?_cons_zero, List.getElem?_cons_succ] at p0 p1
  clear hc4
  gi_wp2
  obtain ⟨V, hV⟩ : ∃ V : World, V = w1.setCell ⟨w.heap.size + 4, 0, none⟩ (.int .i64 0) := ⟨_, rfl⟩
  try simp only [Nat.add_assoc, Nat.reduceAdd]
  rw [← hV]
  have HC := Lib.hid (show Cells V (w.heap.size + 2) #[.int .i64 0, .int .i64 0, .int .i64 0, .int .i64 0, .int .i64 0] ∧ Cells V (w.heap.size + 3) #[.int .i64 0, .int .i64 0, .int .i64 0, .int .i64 0, .int .i64 0] ∧ Cells V (w.heap.size + 4) #[.int .i64 0] ∧ Below w.heap.size w V ∧ Cells V (w.heap.size + 1) #[.int .i64 c, .int .i64 d] ∧ Cells V w.heap.size #[.int .i64 a, .int .i64 b] from by
    rw [hV]
    have o := Only.setCell w1 (w.heap.size + 4) 0 (.int .i64 0)
    exact ⟨(HB1.out.own _ (List.mem_cons_of_mem _ (List.mem_cons_of_mem _ (List.mem_cons_self ..)))).2.only o (by omega), (HB1.out.own _ (List.mem_cons_of_mem _ (List.mem_cons_self ..))).2.only o (by omega), (HB1.out.own _ (List.mem_cons_self ..)).2.one1 _, o.below HB1.out.below (by omega), (HB1.out.own _ (List.mem_cons_of_mem _ (List.mem_cons_of_mem _ (List.mem_cons_of_mem _ (List.mem_cons_self ..))))).2.only o (by omega), (HB1.out.own _ (List.mem_cons_of_mem _ (List.mem_cons_of_mem _ (List.mem_cons_of_mem _ (List.mem_cons_of_mem _ (List.mem_cons_self ..)))))).2.only o (by omega)⟩)
  clear hV HB1 k6 f6

  clear p0 p1 p2 p3
  refine ⟨trivial, (callsIn_wide.2 (HRo.out _ _)).mono ?_⟩
  rintro e2 w2 ⟨rfl, hw2⟩
  have hb2 : Below V.heap.size V w2 := hw2 ▸ (((Below.refl _ _).alloc (Nat.le_refl _) _).alloc (by simp) _)
  have hc2 : Cells w2 V.heap.size #[.int .i64 c, .int .i64 d] := hw2 ▸ (Cells.new V _ _ rfl).alloc _
  have hn2' : Cells w2 (V.heap.size + 1) #[.int .i64 b] := hw2 ▸ Cells.new _ _ _ (by simp)
  clear hw2
  gi_wp2
  refine ⟨trivial, (callsIn_wide.2 (HCo.out V.heap.size (V.heap.size + 1) w2 hc2.1 hn2'.1 ⟨hc2.2.1 0 (by simp), hc2.2.1 1 (by simp)⟩ (hn2'.2.1 0 (by simp)))).mono ?_⟩
  rintro e3 w3 ⟨A8, c8, rfl, s8, l8, m8, hb3, -⟩
  have hb3' : Below V.heap.size V w3 := hb2.trans (hb3.mono hb2.size)
  obtain ⟨W4, hW4⟩ : ∃ W4 : World, W4 = w3.alloc (.cells #[.slice A8 L2.length c8] 126) := ⟨_, rfl⟩
  have hb4 : Below w3.heap.size w3 W4 := hW4 ▸ (Below.refl _ _).alloc (Nat.le_refl _) _
  have hc8 : Cells W4 w3.heap.size #[.slice A8 L2.length c8] := hW4 ▸ Cells.new w3 _ _ rfl
  have s8' : ShowsI W4 A8 (qflat L2) := showsI_below s8 hb4
  have hV4 : Below V.heap.size V W4 := hb3'.trans (hb4.mono hb3'.size)
  have HC4 := Lib.hid (show Cells W4 (w.heap.size + 1) #[.int .i64 c, .int .i64 d] ∧ Cells W4 w.heap.size #[.int .i64 a, .int .i64 b] from ⟨HC.out.2.2.2.2.1.keep hV4, HC.out.2.2.2.2.2.keep hV4⟩)
  have p2 := HC.out.2.2.2.2.1.keep hb3'; have p0 := HC.out.2.2.2.2.2.keep hb3'
  obtain ⟨x0, x1⟩ := (show w3.cell? ⟨w.heap.size + 1, 0, none⟩ = some (.int .i64 c) ∧ w3.cell? ⟨w.heap.size + 1, 1, none⟩ = some (.int .i64 d) from ⟨p2.2.1 0 (by simp), p2.2.1 1 (by simp)⟩)
  obtain ⟨x2, x3⟩ := (show w3.cell? ⟨w.heap.size, 0, none⟩ = some (.int .i64 a) ∧ w3.cell? ⟨w.heap.size, 1, none⟩ = some (.int .i64 b) from ⟨p0.2.1 0 (by simp), p0.2.1 1 (by simp)⟩)
  have l1 : w.heap.size + 1 < w3.heap.size := p2.1
  have l2 : w.heap.size < w3.heap.size := p0.1
  have l3 : w.heap.size + 1 ≠ w3.heap.size := by omega
  have l4 : w.heap.size ≠ w3.heap.size := by omega
  have HZ := Lib.hid (And.intro hc8 (And.intro s8' (And.intro hV4 hb4)))
  clear hc8 s8' hV4 hb4 s8 hb3 hc2 hn2' hb2 p0 p2 HCo
  gi_wp2
  rw [← hW4]
  refine ⟨trivial, (callsIn_wide.2 (HRo.out _ _)).mono ?_⟩
  rintro e5 w5 ⟨rfl, hw5⟩
  have hb5 : Below W4.heap.size W4 w5 := hw5 ▸ (((Below.refl _ _).alloc (Nat.le_refl _) _).alloc (by simp) _)
  have hc5 : Cells w5 W4.heap.size #[.int .i64 c, .int .i64 d] := hw5 ▸ (Cells.new W4 _ _ rfl).alloc _
  have hn5 : Cells w5 (W4.heap.size + 1) #[.int .i64 a] := hw5 ▸ Cells.new _ _ _ (by simp)
  clear hw5 hW4 x0 x1 x2 x3 l3 l4
  gi_wp2
  have hV5 : Below V.heap.size V w5 := HZ.out.2.2.1.trans (hb5.mono HZ.out.2.2.1.size)
  have hw5 : Below w.heap.size w w5 := HC.out.2.2.2.1.trans (hV5.mono HC.out.2.2.2.1.size)
  have HR := Lib.hid (show (Cells w5 (w.heap.size + 2) #[.int .i64 0, .int .i64 0, .int .i64 0, .int .i64 0, .int .i64 0] ∧ Cells w5 (w.heap.size + 3) #[.int .i64 0, .int .i64 0, .int .i64 0, .int .i64 0, .int .i64 0] ∧ Cells w5 (w.heap.size + 4) #[.int .i64 0]) ∧ Cells w5 (w.heap.size + 1) #[.int .i64 c, .int .i64 d] ∧ Cells w5 w3.heap.size #[.slice A8 L2.length c8] ∧ ShowsI w5 A8 (qflat L2) from
    ⟨⟨HC.out.1.keep hV5, HC.out.2.1.keep hV5, HC.out.2.2.1.keep hV5⟩, HC.out.2.2.2.2.1.keep hV5, HZ.out.1.keep hb5, showsI_below HZ.out.2.1 hb5⟩)
  have l6 : w.heap.size + 4 < w5.heap.size := HR.out.1.2.2.1
  have l7 : W4.heap.size + 1 < w5.heap.size := hn5.1
  clear hb5 hV5 HZ HC HRo HC4
  refine wpIn_rangeFunc_ownH rfl (by omega) (gf := 116) (lb := #[.pointer (some ⟨W4.heap.size, 0, none⟩), .pointer (some ⟨W4.heap.size + 1, 0, none⟩)]) rfl trivial (enters_of Try.func116 (by kernel_rfl) rfl)
    (HSt.out (n - 1) (by omega) W4.heap.size (W4.heap.size + 1) w5.heap.size w5 (by omega) (by omega) (Nat.le_refl _) ⟨hc5.2.1 0 (by simp), hc5.2.1 1 (by simp)⟩ (hn5.2.1 0 (by simp))) belowK_t (belowK_b (Nat.le_refl _)) (Below.refl _ _) (fun _ => rfl)
    (fun pre W => firstP rr (vals pre) L2 = none ∧ Below w5.heap.size w5 W)
    (fun cc pre W => cc = .ret ∧ ∃ p q : Qt, firstP rr (vals pre) L2 = some (p, q) ∧ Cells W (w.heap.size + 2) #[.int .i64 p.w, .int .i64 p.x, .int .i64 p.y, .int .i64 p.z, .int .i64 p.d] ∧ Cells W (w.heap.size + 3) #[.int .i64 q.w, .int .i64 q.x, .int .i64 q.y, .int .i64 q.z, .int .i64 q.d] ∧ Cells W (w.heap.size + 4) #[.int .i64 0] ∧ Below w.heap.size w W)
    (OwnFrom.and (fun _ _ _ _ h _ _ => h) (ownFrom_below (Nat.le_refl _) (Nat.le_refl _)))
    (fun cc s A B row hs hg hr => by
      obtain ⟨e1, p, q, e2, e3, e4, e5, e6⟩ := hs
      have hr' : ∀ r, row = some r → ∃ o : Obj, A.heap[r]? = some o ∧ o.isCells = false := fun r e => (hr r e).2
      exact ⟨e1, p, q, e2, cells_own e3 (by simp) hg hr', cells_own e4 (by simp) hg hr', cells_own e5 (by simp) hg hr', e6.grown hg e6.size (fun k e => by have := (hr k e).1; omega)⟩)
    ⟨rfl, Below.refl _ _⟩
    (fun x a' W => ∃ Bx, w5.heap.size ≤ Bx ∧ BoxQ W Bx x.1 ∧ a' = { tmps := #[.agg #[.int .i64 a, .int .i64 b], .agg #[.int .i64 c, .int .i64 d], .pointer (some ⟨w.heap.size, 0, none⟩), .pointer (some ⟨w.heap.size + 1, 0, none⟩), .pointer (some ⟨w.heap.size + 2, 0, none⟩), .pointer (some ⟨w.heap.size + 3, 0, none⟩), .pointer (some ⟨w.heap.size + 4, 0, none⟩), .bool true, .pointer (some ⟨w3.heap.size, 0, none⟩), .pointer (some ⟨Bx, 0, none⟩), undef, undef, .tuple #[.bool true, .int .i64 0], .agg #[.int .i64 a, .int .i64 b], .agg #[.int .i64 c, .int .i64 d], .tuple #[.bool true, .int .i64 0], .bool true, .int .i64 0, .int .i64 0, .bool false, undef, undef, undef, .bool true, .bool false, undef, undef, .agg #[.int .i64 c, .int .i64 d], .pointer (some ⟨w.heap.size, 1, none⟩), .int .i64 b, .func (.func 116) #[] #[.pointer (some ⟨V.heap.size, 0, none⟩), .pointer (some ⟨V.heap.size + 1, 0, none⟩)], .slice A8 L2.length c8, .agg #[.int .i64 c, .int .i64 d], .pointer (some ⟨w.heap.size, 0, none⟩), .int .i64 a, .func (.func 116) #[] #[.pointer (some ⟨W4.heap.size, 0, none⟩), .pointer (some ⟨W4.heap.size + 1, 0, none⟩)], qv x.1, undef, undef, undef, undef, undef, undef, undef, undef, undef, undef, undef, undef, undef, undef, undef], defers := [] })
    (fun x a' _ A B row hs hg hr => by obtain ⟨Bx, h1, h2, h3⟩ := hs; exact ⟨Bx, h1, h2.kept hg (fun r e => (hr r e).2), h3⟩)
    ?assign ?body ?done ?stop
  case assign =>
    rintro l pre ⟨⟨p0, p1, p2, p3, p4⟩, hbx⟩ W K ⟨h0, hB⟩ hK
    simp only [encB, qv]
    gi_wp2
    exact hK _ _ ((KeepsOthers.alloc _ _).from _) ((Below.refl _ W).alloc hB.size _) ⟨h0, hB.alloc hB.size _⟩ ⟨W.heap.size, hB.size, BoxQ.new W ⟨p0, p1, p2, p3, p4⟩, rfl⟩
  case body =>
    rintro l pre ⟨⟨p0, p1, p2, p3, p4⟩, hbx⟩ a' W hl ⟨r, hr⟩ ⟨h0, hB⟩ ⟨Bx, hBx, bX, rfl⟩ hlt
    have HB := Lib.hid hB; have HBX := Lib.hid bX; have H0 := Lib.hid h0; have HPB := Lib.hid hbx.qB
    clear hB bX h0 hr r
    have g8 := (HR.out.2.2.1.keep HB.out).2.1 0 (by simp)
    simp only [List.getElem?_toArray, List.getElem?_cons_zero] at g8
    have hn1' : 1 ≤ n - 1 - 1 := by omega
    simp only [qv]
    gi_wp2
    gi_loopw [39] (fun s39 wr => ∃ k : Nat, s39 = .int .i64 k ∧ k ≤ L2.length ∧ (L2.take k).find? (rr ⟨p0, p1, p2, p3, p4⟩) = none ∧ Below W.heap.size W wr) (fun s39 _ => L2.length - (intOf s39).toNat)
    case atStart => exact ⟨0, rfl, Nat.zero_le _, rfl, Below.refl _ _⟩
    case round =>
      obtain ⟨k, rfl, hk, h1, hb⟩ := hrel
      have HW := Lib.hid hb; have H1 := Lib.hid h1; clear hb h1 g8
      by_cases hkl : k < L2.length
      · obtain ⟨qq, hqq⟩ : ∃ q, L2[k]? = some q := ⟨_, List.getElem?_eq_getElem hkl⟩
        have hqb := (HM2.out _ (List.mem_of_getElem? hqq)).qB
        have hBW := HB.out.trans (HW.out.mono HB.out.size)
        obtain ⟨b2, o2, eA, hb2, y0, y1, y2, y3, y4⟩ := (showsI_below HR.out.2.2.2 hBW).quat hqq
        subst eA
        have HQI := Lib.hid hqq
        obtain ⟨q0, q1, q2, q3, q4⟩ := qq
        have HTn := Lib.hid (fun w => HOp.out p0 p1 p2 p3 p4 q0 q1 q2 q3 q4 w HPB.out hqb)
        dsimp only at y0 y1 y2 y3 y4
        have bX := HBX.out.below HW.out
        obtain ⟨v0, v1, v2, v3, v4⟩ := bX.five
        have lX := bX.lt
        dsimp only at v0 v1 v2 v3 v4
        have hc1 := HR.out.2.1.keep hBW
        obtain ⟨t0, t1⟩ := (show wr.cell? ⟨w.heap.size + 1, 0, none⟩ = some (.int .i64 c) ∧ wr.cell? ⟨w.heap.size + 1, 1, none⟩ = some (.int .i64 d) from ⟨hc1.2.1 0 (by simp), hc1.2.1 1 (by simp)⟩)
        have x1 : (0 : Int) ≤ (k : Int) := by omega
        have x2 : (k : Int) < (L2.length : Int) := by omega
        have n1 : w.heap.size + 1 < wr.heap.size := hc1.1
        have n2 : w.heap.size + 1 ≠ wr.heap.size := by omega
        have n3 : Bx ≠ wr.heap.size := by omega
        have n4 : b2 ≠ wr.heap.size := by omega
        clear hqq hqb hc1 bX
        simp only [qv] at HTn
        gi_wp2
        refine ⟨trivial, (CallsIn.inRound l (callsIn_wide.2 (HTn.out _))).mono ?_⟩
        rintro e7 w7 ⟨rfl, hb7⟩
        have hb8 : Below wr.heap.size wr w7 := ((Below.refl _ wr).alloc (Nat.le_refl _) _).trans (hb7.mono (by simp))
        have hBQ : BoxQ w7 wr.heap.size ⟨q0, q1, q2, q3, q4⟩ := (BoxQ.new wr ⟨q0, q1, q2, q3, q4⟩).below hb7
        have hB9 := hBW.trans (hb8.mono hBW.size)
        have hW7 := HW.out.trans (hb8.mono HW.out.size)
        have HW7 := Lib.hid hW7; have HB9 := Lib.hid hB9; have HBQ := Lib.hid hBQ; have HBP := Lib.hid (HBX.out.below hW7)
        clear y0 y1 y2 y3 y4 v0 v1 v2 v3 v4 t0 t1 hb7 hb8 hBQ hB9 hW7 hBW HTn n2 n3 n4 hb2
        cases hrq : rr ⟨p0, p1, p2, p3, p4⟩ ⟨q0, q1, q2, q3, q4⟩
        · have HN := Lib.hid (find_step H1.out HQI.out hrq)
          clear hrq
          gi_wp2
          exact ⟨⟨k + 1, by go_num, by omega, HN.out, HW7.out⟩, by simp [intOf]; omega⟩
        · have HFd := Lib.hid (firstP_snoc_some H0.out (find_hit H1.out HQI.out hrq))
          clear hrq H1 H0
          have r1 := HR.out.1.1.keep HB9.out; have r2 := HR.out.1.2.1.keep HB9.out; have r3 := HR.out.1.2.2.keep HB9.out
          have HRR := Lib.hid (And.intro r1 (And.intro r2 r3))
          obtain ⟨i0, i1, i2, i3, i4⟩ := r1.five_
          obtain ⟨j0, j1, j2, j3, j4⟩ := r2.five_
          have k0 := r3.2.1 0 (by simp)
          simp only [List.getElem?_toArray, List.getElem?_cons_zero] at k0
          have fi0 := r1.2.2 0; have fi1 := r1.2.2 1; have fi2 := r1.2.2 2; have fi3 := r1.2.2 3; have fi4 := r1.2.2 4
          have fj0 := r2.2.2 0; have fj1 := r2.2.2 1; have fj2 := r2.2.2 2; have fj3 := r2.2.2 3; have fj4 := r2.2.2 4
          have fk := r3.2.2 0
          obtain ⟨v0, v1, v2, v3, v4⟩ := HBP.out.five
          obtain ⟨y0, y1, y2, y3, y4⟩ := HBQ.out.five
          dsimp only at v0 v1 v2 v3 v4 y0 y1 y2 y3 y4
          have sz1 : w5.heap.size ≤ W.heap.size := HB.out.size
          have sz2 : W.heap.size ≤ wr.heap.size := HW.out.size
          have m1 : Bx ≠ w.heap.size + 2 := by omega
          have m2 : Bx ≠ w.heap.size + 3 := by omega
          have m3 : Bx ≠ w.heap.size + 4 := by omega
          have m4 : wr.heap.size ≠ w.heap.size + 2 := by omega
          have m5 : wr.heap.size ≠ w.heap.size + 3 := by omega
          have m6 : wr.heap.size ≠ w.heap.size + 4 := by omega
          have m7 := m1.symm; have m8 := m2.symm; have m9 := m3.symm; have m10 := m4.symm; have m11 := m5.symm; have m12 := m6.symm
          clear r1 r2 r3
          have hmx : Try.prog.follows .mixedOrders = true := by kernel_rfl
          gi_wp2
          gi_region_with_o (fail)
          all_goals gi_wp2
          all_goals obtain ⟨W9, e9, g1, g2, g3, B9, K9⟩ := fin3 HRR.out.1 HRR.out.2.1 HRR.out.2.2 (hw5.trans (HB9.out.mono hw5.size)) (by omega) (by omega) (by omega) (.int .i64 p0) (.int .i64 p1) (.int .i64 p2) (.int .i64 p3) (.int .i64 p4) (.int .i64 q0) (.int .i64 q1) (.int .i64 q2) (.int .i64 q3) (.int .i64 q4) (.int .i64 0)
          all_goals try rw [e9]
          all_goals have hFF : firstP rr (vals (pre ++ [⟨⟨p0, p1, p2, p3, p4⟩, hbx⟩])) L2 = some (⟨p0, p1, p2, p3, p4⟩, ⟨q0, q1, q2, q3, q4⟩) := by rw [vals_snoc]; exact HFd.out
          all_goals first
            | exact ⟨((keeps_below HW7.out).trans K9).from _, rfl, ⟨p0, p1, p2, p3, p4⟩, ⟨q0, q1, q2, q3, q4⟩, hFF, g1, g2, g3, B9⟩
            | exact ⟨(((keeps_below HW7.out).trans K9).trans (KeepsOthers.drew _)).from _, rfl, ⟨p0, p1, p2, p3, p4⟩, ⟨q0, q1, q2, q3, q4⟩, hFF, g1.keep (Below.refl _ _).drew, g2.keep (Below.refl _ _).drew, g3.keep (Below.refl _ _).drew, B9.drew⟩
      · obtain rfl : k = L2.length := by omega
        have HN := Lib.hid (firstP_snoc_none (p := ⟨p0, p1, p2, p3, p4⟩) H0.out (by have := H1.out; rwa [List.take_length] at this))
        clear H1 H0
        gi_wp2
        exact ⟨(keeps_below HW.out).from _, HW.out.mono HB.out.size, by rw [vals_snoc]; exact HN.out, HB.out.trans (HW.out.mono HB.out.size)⟩
  case done =>
    rintro D ys W hD hys ⟨h0, hB⟩ hK
    have hO : O = none := by rw [HO.out, ← hys]; exact h0
    obtain ⟨e1, e2, e3⟩ := HXY.out
    rw [hO] at e1 e2 e3
    subst e1 e2 e3
    have r1 := HR.out.1.1.keep hB; have r2 := HR.out.1.2.1.keep hB; have r3 := HR.out.1.2.2.keep hB
    obtain ⟨i0, i1, i2, i3, i4⟩ := r1.five_
    obtain ⟨j0, j1, j2, j3, j4⟩ := r2.five_
    have k0 := r3.2.1 0 (by simp)
    simp only [List.getElem?_toArray, List.getElem?_cons_zero] at k0
    have fi0 := r1.2.2 0; have fi1 := r1.2.2 1; have fi2 := r1.2.2 2; have fi3 := r1.2.2 3; have fi4 := r1.2.2 4
    have fj0 := r2.2.2 0; have fj1 := r2.2.2 1; have fj2 := r2.2.2 2; have fj3 := r2.2.2 3; have fj4 := r2.2.2 4
    have fk := r3.2.2 0
    obtain ⟨W9, e9, g1, g2, g3, B9, K9⟩ := fin3 r1 r2 r3 (hw5.trans (hB.mono hw5.size)) (by omega) (by omega) (by omega) (.int .i64 0) (.int .i64 0) (.int .i64 0) (.int .i64 0) (.int .i64 0) (.int .i64 0) (.int .i64 0) (.int .i64 0) (.int .i64 0) (.int .i64 0) (.int .i64 21)
    have hK9 := K9.same D _ hK rfl
    have HG := Lib.hid (And.intro g1 (And.intro g2 (And.intro g3 (And.intro B9 hK9))))
    clear r1 r2 r3 g1 g2 g3 B9 K9 hK hK9
    gi_wp2
    try rw [e9]
    obtain ⟨g1, g2, g3, B9, hK9⟩ := HG.out
    refine ⟨by simp, .inl ⟨_, _, rfl, run_takeDeferred hK9, ?_⟩⟩
    have hrow : ∀ r, some D = some r → ∃ o : Obj, W9.heap[r]? = some o ∧ o.isCells = false := fun r e => by cases e; exact ⟨_, hK9, rfl⟩
    obtain ⟨q0, q1, q2, q3, q4⟩ := (cells_own g1 (by simp) (grownBy_putObj' W9 D (.deferred none)) hrow).five_
    obtain ⟨r0, r1, r2, r3, r4⟩ := (cells_own g2 (by simp) (grownBy_putObj' W9 D (.deferred none)) hrow).five_
    have t0 := (cells_own g3 (by simp) (grownBy_putObj' W9 D (.deferred none)) hrow).2.1 0 (by simp)
    simp only [List.getElem?_toArray, List.getElem?_cons_zero] at t0
    refine ⟨.tuple #[.agg #[.int .i64 0, .int .i64 0, .int .i64 0, .int .i64 0, .int .i64 0], .agg #[.int .i64 0, .int .i64 0, .int .i64 0, .int .i64 0, .int .i64 0], .int .i64 21], by simp [results, Try.results31, go_sem, q0, q1, q2, q3, q4, r0, r1, r2, r3, r4, t0], rfl, B9.trans (belowK_b (w := w) (Nat.le_refl _) W9 D _ _ (by omega) hK9 rfl rfl)⟩
  case stop =>
    rintro D cc pre W hD hSp ⟨rfl, p, q, hf, g1, g2, g3, B9⟩ hK9
    have hO : O = some (p, q) := by rw [HO.out]; exact firstP_prefix hf hSp
    obtain ⟨e1, e2, e3⟩ := HXY.out
    rw [hO] at e1 e2 e3
    subst e1 e2 e3
    have HG := Lib.hid (And.intro g1 (And.intro g2 (And.intro g3 (And.intro B9 hK9))))
    clear g1 g2 g3 B9 hK9
    gi_wp2
    obtain ⟨g1, g2, g3, B9, hK9⟩ := HG.out
    refine ⟨by simp, .inl ⟨_, _, rfl, run_takeDeferred hK9, ?_⟩⟩
    have hrow : ∀ r, some D = some r → ∃ o : Obj, W.heap[r]? = some o ∧ o.isCells = false := fun r e => by cases e; exact ⟨_, hK9, rfl⟩
    obtain ⟨q0, q1, q2, q3, q4⟩ := (cells_own g1 (by simp) (grownBy_putObj' W D (.deferred none)) hrow).five_
    obtain ⟨r0, r1, r2, r3, r4⟩ := (cells_own g2 (by simp) (grownBy_putObj' W D (.deferred none)) hrow).five_
    have t0 := (cells_own g3 (by simp) (grownBy_putObj' W D (.deferred none)) hrow).2.1 0 (by simp)
    simp only [List.getElem?_toArray, List.getElem?_cons_zero] at t0
    refine ⟨.tuple #[qv p, qv q, .int .i64 0], by simp [results, Try.results31, go_sem, qv, q0, q1, q2, q3, q4, r0, r1, r2, r3, r4, t0], rfl, B9.trans (belowK_b (w := w) (Nat.le_refl _) W D _ _ (by omega) hK9 rfl rfl)⟩

end Go.Proofs.Ytfjmhfmhijhpkaa
