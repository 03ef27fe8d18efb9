/- Sums, products with fractions, negatives, conjugates, products in the reference; fractions that are valid. Norms and inverses, in the program and in the reference. Inverses, in the program and in the reference. Boxes of a call's own that are read and written. -/
import Derived.Test.YtimdkjbmeogpoaaGreatDoorTQj0
import Derived.Test.YtimdkjbmeogpoaaGreatDoorTQn0
namespace Go.Proofs.YtimdkjbmeogpoaaGreatDoor
open Go.RowKit FF
structure Bxs (w : World) (L : List (Nat × Array Value)) (w' : World) : Prop where
  below : Below w.heap.size w w'
  bx : ∀ x ∈ L, x.1 < w'.heap.size ∧ ∀ i, i < x.2.size → w'.cell? ⟨x.1, i, none⟩ = x.2[i]?
section
variable {w w0 w1 : World} {L : List (Nat × Array Value)}
theorem Reg.bxs {r n : Nat} (h : Reg w L r n w0) : Bxs w L w0 := ⟨h.below, fun x hx => ⟨(h.bx x hx).1, (h.bx x hx).2.2⟩⟩
end
@[local go_sem] theorem run_idx0' (c0 c1 c2 c3 : Value) (w : World) : (Instr.index 84 (.agg #[c0, c1, c2, c3]) (.int .i64 0)).run Tryz.prog w = .ok c0 w := by kernel_rfl
end Go.Proofs.YtimdkjbmeogpoaaGreatDoor
namespace Go.Proofs.YtimdkjbmeogpoaaGreatDoor
open Go.RowKit FF
structure Bx (w : World) (L : List (Nat × Array Value)) (W : World) : Prop where
  below : Below w.heap.size w W
  own : ∀ x ∈ L, w.heap.size ≤ x.1 ∧ Cells W x.1 x.2
section
variable {w W W' : World} {L : List (Nat × Array Value)} {b : Nat} {v0 v1 v2 v3 v4 : Value}
theorem Bx.keep (h : Bx w L W) (hb : Below W.heap.size W W') : Bx w L W' := ⟨h.below.trans (hb.mono h.below.size), fun x hx => ⟨(h.own x hx).1, (h.own x hx).2.keep hb⟩⟩
theorem Bx.nil (h : Below w.heap.size w W) : Bx w [] W := ⟨h, fun x hx => by cases hx⟩
theorem Bx.cons {vs : Array Value} (h : Bx w L W) (hb : w.heap.size ≤ b) (hc : Cells W b vs) : Bx w ((b, vs) :: L) W :=
  ⟨h.below, fun x hx => by
    rcases List.mem_cons.1 hx with e | e
    · subst e; exact ⟨hb, hc⟩
    · exact h.own x e⟩
theorem Bx.new (h : Bx w L W) (vs : Array Value) (T : TypeId) : Bx w ((W.heap.size, vs) :: L) (W.alloc (.cells vs T)) :=
  (h.keep ((Below.refl _ _).alloc (Nat.le_refl _) _)).cons h.below.size (Cells.new W vs T rfl)
theorem Bx.sub {L' : List (Nat × Array Value)} (h : Bx w L W) (hs : ∀ x ∈ L', x ∈ L) : Bx w L' W := ⟨h.below, fun x hx => h.own x (hs x hx)⟩
theorem Bx.lt {vs : Array Value} (h : Bx w L W) (hm : (b, vs) ∈ L) : w.heap.size ≤ b ∧ b < W.heap.size := ⟨(h.own _ hm).1, (h.own _ hm).2.1⟩
theorem Bx.two (h : Bx w L W) (hm : (b, #[v0, v1]) ∈ L) : W.cell? ⟨b, 0, none⟩ = some v0 ∧ W.cell? ⟨b, 1, none⟩ = some v1 := (h.own _ hm).2.two
theorem Bx.five (h : Bx w L W) (hm : (b, #[v0, v1, v2, v3, v4]) ∈ L) : W.cell? ⟨b, 0, none⟩ = some v0 ∧ W.cell? ⟨b, 1, none⟩ = some v1 ∧ W.cell? ⟨b, 2, none⟩ = some v2 ∧ W.cell? ⟨b, 3, none⟩ = some v3 ∧ W.cell? ⟨b, 4, none⟩ = some v4 := (h.own _ hm).2.five
theorem Bx.fr {vs : Array Value} (h : Bx w L W) (hm : (b, vs) ∈ L) : W.frozen? ⟨b, 0, none⟩ = false ∧ W.frozen? ⟨b, 1, none⟩ = false ∧ W.frozen? ⟨b, 2, none⟩ = false ∧ W.frozen? ⟨b, 3, none⟩ = false ∧ W.frozen? ⟨b, 4, none⟩ = false := (h.own _ hm).2.fr
theorem Bx.put5 (h : Bx w L W) (hm : (b, #[v0, v1, v2, v3, v4]) ∈ L) (u0 u1 u2 u3 u4 : Value) {L' : List (Nat × Array Value)} (hL : ∀ x ∈ L', (x ∈ L ∧ x.1 ≠ b) ∨ x = (b, #[u0, u1, u2, u3, u4])) :
    ∃ W9, (((((W.setCell ⟨b, 0, none⟩ u0).setCell ⟨b, 1, none⟩ u1).setCell ⟨b, 2, none⟩ u2).setCell ⟨b, 3, none⟩ u3).setCell ⟨b, 4, none⟩ u4) = W9 ∧ Bx w L' W9 ∧ W9.heap.size = W.heap.size ∧ (b, #[u0, u1, u2, u3, u4]) = (b, #[u0, u1, u2, u3, u4]) ∧
      W9.cell? ⟨b, 0, none⟩ = some u0 ∧ W9.cell? ⟨b, 1, none⟩ = some u1 ∧ W9.cell? ⟨b, 2, none⟩ = some u2 ∧ W9.cell? ⟨b, 3, none⟩ = some u3 ∧ W9.cell? ⟨b, 4, none⟩ = some u4 := by
  obtain ⟨W9, e9, B9, C9, K9, S9⟩ := store5 h.below (h.own _ hm).1 (h.own _ hm).2 u0 u1 u2 u3 u4
  refine ⟨W9, e9, ⟨B9, fun x hx => ?_⟩, S9, rfl, C9.five⟩
  rcases hL x hx with ⟨h1, h2⟩ | rfl
  · exact ⟨(h.own x h1).1, K9 _ _ (Ne.symm h2) (h.own x h1).2⟩
  · exact ⟨(h.own _ hm).1, C9⟩
end
theorem mulOk {a b : Int} {p q : Qt} (hp : qB p = true) (hq : qB q = true) (ha : aE a b = 0) : allE a b [p, q] = 0 := allE_zero.2 ⟨ha, by simp [hp, hq]⟩
theorem qMul_ok (a b : Int) (p q : Qt) (w : World) (hp : qB p = true) (hq : qB q = true) (ha : aE a b = 0) :
    Calls Tryz.prog 64 #[.agg #[.int .i64 a, .int .i64 b], qv p, qv q] w fun r w' => r = .returned (.tuple #[qv (fitQ (mulQ a b p q)), .int .i64 (fitE (mulQ a b p q))]) ∧ Below w.heap.size w w' := by
  obtain ⟨p0, p1, p2, p3, p4⟩ := p
  obtain ⟨q0, q1, q2, q3, q4⟩ := q
  have h := qMul_any a b p0 p1 p2 p3 p4 q0 q1 q2 q3 q4 w
  rw [mulOk hp hq ha] at h
  exact h
set_option maxHeartbeats 4000000 in
set_option maxRecDepth 100000 in
theorem qPower_pos (a b p0 p1 p2 p3 p4 : Int) (N : Nat) (w : World) (hN : N ≤ 60) (hq : qB ⟨p0, p1, p2, p3, p4⟩ = true) (ha : aE a b = 0) :
    Calls Tryz.prog 21 #[.agg #[.int .i64 a, .int .i64 b], qv ⟨p0, p1, p2, p3, p4⟩, .int .i64 N] w fun r w' => r = .returned (.tuple #[qv (powQ a b ⟨p0, p1, p2, p3, p4⟩ N), .int .i64 (powE a b ⟨p0, p1, p2, p3, p4⟩ N)]) ∧ Below w.heap.size w w' := by
  have hE : allE a b [⟨p0, p1, p2, p3, p4⟩] = 0 := allE_zero.2 ⟨ha, by simp [hq]⟩
  have HC := Lib.hid (fun A c w hx => hE ▸ qboth_any a b A [⟨p0, p1, p2, p3, p4⟩] 1 c w hx rfl (by omega))
  have HMu := Lib.hid (fun o w (ho : qB o = true) => qMul_ok a b o ⟨p0, p1, p2, p3, p4⟩ w ho hq ha)
  clear hE hq ha
  simp only [qv] at HC HMu
  generalize hRQ : powQ a b ⟨p0, p1, p2, p3, p4⟩ N = RQ at *
  generalize hRE : powE a b ⟨p0, p1, p2, p3, p4⟩ N = RE at *
  have HRQ := Lib.hid hRQ; have HRE := Lib.hid hRE
  clear hRQ hRE
  have d1 : decide ((N : Int) < -60) = false := decide_eq_false (by omega)
  have d2 : decide (60 < (N : Int)) = false := decide_eq_false (by omega)
  have d3 : decide ((N : Int) < 0) = false := decide_eq_false (by omega)
  simp only [qv]
  go_enter Tryz.func21, Tryz.ntmps21
  go_wp2_with fail
  refine (HC.out _ _ _ (shows_flat1 (by simp) p0 p1 p2 p3 p4)).mono ?_
  rintro e1 w1 ⟨rfl, hbb⟩
  have HB1 := Lib.hid (show Bx w [(w.heap.size, #[.int .i64 a, .int .i64 b]), (w.heap.size + 1, #[.int .i64 p0, .int .i64 p1, .int .i64 p2, .int .i64 p3, .int .i64 p4]), (w.heap.size + 2, #[.int .i64 0, .int .i64 0, .int .i64 0, .int .i64 0, .int .i64 0])] w1 from (((((Bx.nil (((((Below.refl _ _).alloc (by simp; try omega) _).alloc (by simp; try omega) _).alloc (by simp; try omega) _).alloc (by simp; try omega) _)).cons (by omega) ((Cells.new _ _ _ (by simp)).alloc _)).cons (by omega) (((Cells.new _ _ _ (by simp)).alloc _).alloc _)).cons (by omega) ((((Cells.new _ _ _ (by simp)).alloc _).alloc _).alloc _))).keep hbb)
  clear hbb HC
  go_upto_region 11 with fail
  have hOB : w.heap.size + 2 < w1.heap.size := (HB1.out.lt (List.mem_cons_of_mem _ (List.mem_cons_of_mem _ (List.mem_cons_self ..)))).2
  obtain ⟨W2, hW2⟩ : ∃ W2 : World, W2 = w1.alloc (.cells #[.int .i64 1, .int .i64 0, .int .i64 0, .int .i64 0, .int .i64 1] 35) := ⟨_, rfl⟩
  have HB0 := Lib.hid (show Bx w ((w1.heap.size, #[.int .i64 1, .int .i64 0, .int .i64 0, .int .i64 0, .int .i64 1]) :: [(w.heap.size, #[.int .i64 a, .int .i64 b]), (w.heap.size + 1, #[.int .i64 p0, .int .i64 p1, .int .i64 p2, .int .i64 p3, .int .i64 p4]), (w.heap.size + 2, #[.int .i64 0, .int .i64 0, .int .i64 0, .int .i64 0, .int .i64 0])]) W2 from hW2 ▸ HB1.out.new _ _)
  go_wp2_with fail
  rw [← hW2]
  clear hW2
  generalize w1.heap.size = OB at *
  clear HB1
  go_loopw [12, 13, 46] (fun _ _ s46 wx => ∃ (k : Nat) (o0 o1 o2 o3 o4 : Int), s46 = .int .i64 k ∧ k ≤ N ∧ powS a b ⟨p0, p1, p2, p3, p4⟩ k = some ⟨o0, o1, o2, o3, o4⟩ ∧ Bx w [(OB, #[.int .i64 o0, .int .i64 o1, .int .i64 o2, .int .i64 o3, .int .i64 o4]), (w.heap.size, #[.int .i64 a, .int .i64 b]), (w.heap.size + 1, #[.int .i64 p0, .int .i64 p1, .int .i64 p2, .int .i64 p3, .int .i64 p4]), (w.heap.size + 2, #[.int .i64 0, .int .i64 0, .int .i64 0, .int .i64 0, .int .i64 0])] wx) (fun _ _ s46 _ => N - (intOf s46).toNat)
  case atStart => exact ⟨0, 1, 0, 0, 0, 1, rfl, Nat.zero_le _, rfl, HB0.out⟩
  case round =>
    clear HB0
    obtain ⟨k, o0, o1, o2, o3, o4, rfl, hk, ho, hb⟩ := hrel
    have HO := Lib.hid ho; have HB := Lib.hid hb
    clear ho hb
    obtain ⟨c0_0, c0_1, c0_2, c0_3, c0_4⟩ := HB.out.five (List.mem_cons_self ..)
    obtain ⟨c1_0, c1_1⟩ := HB.out.two (List.mem_cons_of_mem _ (List.mem_cons_self ..))
    obtain ⟨c2_0, c2_1, c2_2, c2_3, c2_4⟩ := HB.out.five (List.mem_cons_of_mem _ (List.mem_cons_of_mem _ (List.mem_cons_self ..)))
    obtain ⟨c3_0, c3_1, c3_2, c3_3, c3_4⟩ := HB.out.five (List.mem_cons_of_mem _ (List.mem_cons_of_mem _ (List.mem_cons_of_mem _ (List.mem_cons_self ..))))
    obtain ⟨f0, f1, f2, f3, f4⟩ := HB.out.fr (List.mem_cons_of_mem _ (List.mem_cons_of_mem _ (List.mem_cons_of_mem _ (List.mem_cons_self ..))))
    by_cases hlt : k < N
    · have HM := Lib.hid (fun w => HMu.out ⟨o0, o1, o2, o3, o4⟩ w (powS_valid HO.out))
      have HS := Lib.hid (fun h => powS_next HO.out h)
      have HT := Lib.hid (fun h => pow_fell HO.out hlt h)
      generalize fitQ (mulQ a b ⟨o0, o1, o2, o3, o4⟩ ⟨p0, p1, p2, p3, p4⟩) = FQ at *
      generalize fitE (mulQ a b ⟨o0, o1, o2, o3, o4⟩ ⟨p0, p1, p2, p3, p4⟩) = FE at *
      obtain ⟨g0, g1, g2, g3, g4⟩ := FQ
      simp only at HM
      clear HO
      go_wp2_with fail
      refine (HM.out _).mono ?_
      rintro e1 w3 ⟨rfl, hbb⟩
      have HB3 := Lib.hid (HB.out.keep hbb)
      clear hbb HB HM c0_0 c0_1 c0_2 c0_3 c0_4 c1_0 c1_1 c2_0 c2_1 c2_2 c2_3 c2_4 c3_0 c3_1 c3_2 c3_3 c3_4 f0 f1 f2 f3 f4
      obtain ⟨W4, hW4⟩ : ∃ W4 : World, W4 = w3.alloc (.cells #[.int .i64 g0, .int .i64 g1, .int .i64 g2, .int .i64 g3, .int .i64 g4] 35) := ⟨_, rfl⟩
      have HB4 := Lib.hid (show Bx w ((w3.heap.size, #[.int .i64 g0, .int .i64 g1, .int .i64 g2, .int .i64 g3, .int .i64 g4]) :: [(OB, #[.int .i64 o0, .int .i64 o1, .int .i64 o2, .int .i64 o3, .int .i64 o4]), (w.heap.size, #[.int .i64 a, .int .i64 b]), (w.heap.size + 1, #[.int .i64 p0, .int .i64 p1, .int .i64 p2, .int .i64 p3, .int .i64 p4]), (w.heap.size + 2, #[.int .i64 0, .int .i64 0, .int .i64 0, .int .i64 0, .int .i64 0])]) W4 from hW4 ▸ HB3.out.new _ _)
      have hOB := (HB3.out.lt (List.mem_cons_self ..)).2
      by_cases hF : FE = 0
      · subst hF
        have HS2 := Lib.hid (HS.out rfl)
        clear HS HT HB3
        go_upto_region 17 with fail
        rw [← hW4]
        clear hW4
        obtain ⟨c0_0, c0_1, c0_2, c0_3, c0_4⟩ := HB4.out.five (List.mem_cons_self ..)
        obtain ⟨c1_0, c1_1, c1_2, c1_3, c1_4⟩ := HB4.out.five (List.mem_cons_of_mem _ (List.mem_cons_self ..))
        obtain ⟨f0, f1, f2, f3, f4⟩ := HB4.out.fr (List.mem_cons_of_mem _ (List.mem_cons_self ..))
        obtain ⟨W9, e9, B9, -⟩ := HB4.out.put5 (List.mem_cons_of_mem _ (List.mem_cons_self ..)) (.int .i64 g0) (.int .i64 g1) (.int .i64 g2) (.int .i64 g3) (.int .i64 g4) (L' := [(OB, #[.int .i64 g0, .int .i64 g1, .int .i64 g2, .int .i64 g3, .int .i64 g4]), (w.heap.size, #[.int .i64 a, .int .i64 b]), (w.heap.size + 1, #[.int .i64 p0, .int .i64 p1, .int .i64 p2, .int .i64 p3, .int .i64 p4]), (w.heap.size + 2, #[.int .i64 0, .int .i64 0, .int .i64 0, .int .i64 0, .int .i64 0])]) (by
          intro x hx
          simp only [List.mem_cons, List.not_mem_nil, or_false] at hx ⊢
          rcases hx with rfl | rfl | rfl | rfl
          · exact .inr rfl
          · exact .inl ⟨.inr (.inr (.inl rfl)), by simp only; omega⟩
          · exact .inl ⟨.inr (.inr (.inr (.inl rfl))), by simp only; omega⟩
          · exact .inl ⟨.inr (.inr (.inr (.inr rfl))), by simp only; omega⟩)
        have HB9 := Lib.hid B9
        clear B9 HB4
        go_upto_region 18 with fail
        try rw [e9]
        clear e9 c0_0 c0_1 c0_2 c0_3 c0_4 c1_0 c1_1 c1_2 c1_3 c1_4 f0 f1 f2 f3 f4
        go_wp2_with fail
        exact ⟨⟨k + 1, g0, g1, g2, g3, g4, by go_num, by omega, HS2.out, HB9.out⟩, by simp [intOf]; omega⟩
      · have d1 : (FE == 0) = false := f_beq hF
        obtain ⟨t1, t2, t3⟩ := HT.out hF
        have HT1 := Lib.hid t1; have HT2 := Lib.hid t2
        subst t3
        clear t1 t2 HS HT HB3 hF
        go_upto_region 16 with fail
        rw [← hW4]
        clear hW4
        obtain ⟨c0_0, c0_1, c0_2, c0_3, c0_4⟩ := HB4.out.five (List.mem_cons_of_mem _ (List.mem_cons_of_mem _ (List.mem_cons_of_mem _ (List.mem_cons_of_mem _ (List.mem_cons_self ..)))))
        obtain ⟨f0, f1, f2, f3, f4⟩ := HB4.out.fr (List.mem_cons_of_mem _ (List.mem_cons_of_mem _ (List.mem_cons_of_mem _ (List.mem_cons_of_mem _ (List.mem_cons_self ..)))))
        obtain ⟨W9, e9, B9, -, -, q0, q1, q2, q3, q4⟩ := HB4.out.put5 (List.mem_cons_of_mem _ (List.mem_cons_of_mem _ (List.mem_cons_of_mem _ (List.mem_cons_of_mem _ (List.mem_cons_self ..))))) (.int .i64 0) (.int .i64 0) (.int .i64 0) (.int .i64 0) (.int .i64 0) (L' := []) (fun x hx => by cases hx)
        go_wp2_with fail
        try rw [e9]
        refine bodyPost_ret (v := .tuple #[.agg #[.int .i64 0, .int .i64 0, .int .i64 0, .int .i64 0, .int .i64 0], .int .i64 8]) (by simp [results, Tryz.results21, go_sem, q0, q1, q2, q3, q4]) rfl ?_
        exact ⟨by rw [← HRQ.out, ← HRE.out, HT1.out, HT2.out]; rfl, B9.below⟩
    · obtain rfl : k = N := by omega
      have HD := Lib.hid (pow_done HO.out)
      obtain ⟨W9, e9, B9, -, -, q0, q1, q2, q3, q4⟩ := HB.out.put5 (List.mem_cons_of_mem _ (List.mem_cons_of_mem _ (List.mem_cons_of_mem _ (List.mem_cons_self ..)))) (.int .i64 o0) (.int .i64 o1) (.int .i64 o2) (.int .i64 o3) (.int .i64 o4) (L' := []) (fun x hx => by cases hx)
      clear HO HB
      go_wp2_with fail
      try rw [e9]
      refine bodyPost_ret (v := .tuple #[.agg #[.int .i64 o0, .int .i64 o1, .int .i64 o2, .int .i64 o3, .int .i64 o4], .int .i64 0]) (by simp [results, Tryz.results21, go_sem, q0, q1, q2, q3, q4]) rfl ?_
      exact ⟨by rw [← HRQ.out, ← HRE.out, HD.out.1, HD.out.2], B9.below⟩
end Go.Proofs.YtimdkjbmeogpoaaGreatDoor
