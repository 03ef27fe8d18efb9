/- Hurwitz quaternions in the program: the canonical associate. -/
import Derived.Test.YthkklilhjnpedaaGreatUGch
section
namespace Go.Proofs.YthkklilhjnpedaaGreat
open Go.RowKit FF
theorem info_Hur : (Tryz.prog.info? 58).map (fun i => (i.zero, i.size, i.bytes)) = some (some (.agg #[.int .i64 0, .int .i64 0, .int .i64 0, .int .i64 0]), 4, 32) := by kernel_rfl
theorem info_Qt : (Tryz.prog.info? 31).map (fun i => (i.zero, i.size, i.bytes)) = some (some (.agg #[.int .i64 0, .int .i64 0, .int .i64 0, .int .i64 0, .int .i64 0]), 5, 40) := by kernel_rfl
theorem hcs_new (y : Hw) (W : World) (T : TypeId) : ∀ d u, (hcs y)[d]? = some u → (W.alloc (.cells #[.int .i64 y.a, .int .i64 y.b, .int .i64 y.c, .int .i64 y.d] T)).cell? ((⟨W.heap.size, 0, none⟩ : Addr).add d) = some u := fun d u hd => by
  rw [Addr.add_lit, Nat.zero_add, cell_new_at]
  rw [← hd]
  rcases d with _ | _ | _ | _ | d <;> rfl
theorem qcs_new (y : Qt) (W : World) (T : TypeId) : ∀ d u, (qcs y)[d]? = some u → (W.alloc (.cells #[.int .i64 y.w, .int .i64 y.x, .int .i64 y.y, .int .i64 y.z, .int .i64 y.d] T)).cell? ((⟨W.heap.size, 0, none⟩ : Addr).add d) = some u := fun d u hd => by
  rw [Addr.add_lit, Nat.zero_add, cell_new_at]
  rw [← hd]
  rcases d with _ | _ | _ | _ | _ | d <;> rfl
section
variable {ops : Array Oper} {rest : List Oper} {o : Oper} {a : Act} {Q : Exit → Act → World → Prop} {w W : World} {v : Value}
set_option maxRecDepth 3000 in
theorem append_hur {rs : List (Hw × List Value)} (hgd : o.guard = none) (s x : Operand) (t : TypeId) (ho : o.op = .call { callee := .builtin .append, args := #[s, x], argTypes := #[t, t] }) (ht : Tryz.prog.underlying t = some (.slice 58))
    (h : Own eHur w v rs W) (y : Hw) (T : TypeId) (R c : Nat) (hR : W.heap.size = R) (hs : a.eval s = v) (hx : a.eval x = .slice (some ⟨R, 0, none⟩) 1 c) (hl : rs.length ≤ 1000000)
    (K : ∀ v' W', Own eHur w v' (rs ++ [(y, hcs y)]) W' → wpList Tryz.prog ops Q rest (a.put o.dst v') W') : wpList Tryz.prog ops Q (o :: rest) a (W.alloc (.cells #[.int .i64 y.a, .int .i64 y.b, .int .i64 y.c, .int .i64 y.d] T)) := by
  subst hR
  obtain ⟨i0, hi, hz0, hz1, hz2⟩ := info_parts info_Hur
  exact wpList_append_el hgd s x t ho i0 ht hi hz0 hz1 hz2 (h.keep ((Below.refl _ _).alloc (Nat.le_refl _) _)) (y := y) (cs := hcs y) rfl _ c hs hx (hcs_new y W T) hl K
set_option maxRecDepth 3000 in
theorem append_qt {rs : List (Qt × List Value)} (hgd : o.guard = none) (s x : Operand) (t : TypeId) (ho : o.op = .call { callee := .builtin .append, args := #[s, x], argTypes := #[t, t] }) (ht : Tryz.prog.underlying t = some (.slice 31))
    (h : Own eQt w v rs W) (y : Qt) (T : TypeId) (R c : Nat) (hR : W.heap.size = R) (hs : a.eval s = v) (hx : a.eval x = .slice (some ⟨R, 0, none⟩) 1 c) (hl : rs.length ≤ 1000000)
    (K : ∀ v' W', Own eQt w v' (rs ++ [(y, qcs y)]) W' → wpList Tryz.prog ops Q rest (a.put o.dst v') W') : wpList Tryz.prog ops Q (o :: rest) a (W.alloc (.cells #[.int .i64 y.w, .int .i64 y.x, .int .i64 y.y, .int .i64 y.z, .int .i64 y.d] T)) := by
  subst hR
  obtain ⟨i0, hi, hz0, hz1, hz2⟩ := info_parts info_Qt
  exact wpList_append_el hgd s x t ho i0 ht hi hz0 hz1 hz2 (h.keep ((Below.refl _ _).alloc (Nat.le_refl _) _)) (y := y) (cs := qcs y) rfl _ c hs hx (qcs_new y W T) hl K
end
@[local go_sem] theorem run_two0 (c0 c1 : Value) (w : World) : (Instr.index 111 (.agg #[c0, c1]) (.int .i64 0)).run Tryz.prog w = .ok c0 w := by kernel_rfl
@[local go_sem] theorem run_two1 (c0 c1 : Value) (w : World) : (Instr.index 111 (.agg #[c0, c1]) (.int .i64 1)).run Tryz.prog w = .ok c1 w := by kernel_rfl
theorem swo_cmp : Sort.SWO (ltOf cmpQ) := by
  refine ⟨fun x => ?_, fun x y z h k => ?_, fun x y z h k => ?_⟩
  · exact decide_eq_false (fun h => Lx.irrefl x (cmpQ_neg.1 h))
  · exact decide_eq_true (cmpQ_neg.2 ((cmpQ_neg.1 (of_decide_eq_true h)).trans (cmpQ_neg.1 (of_decide_eq_true k))))
  · exact decide_eq_false (fun e => Lx.ntrans (fun e => of_decide_eq_false h (cmpQ_neg.2 e)) (fun e => of_decide_eq_false k (cmpQ_neg.2 e)) (cmpQ_neg.1 e))
theorem swo_rev : Sort.SWO (ltOf fun x y => cmpQ y x) := by
  refine ⟨fun x => ?_, fun x y z h k => ?_, fun x y z h k => ?_⟩
  · exact decide_eq_false (fun h => Lx.irrefl x (cmpQ_neg.1 h))
  · exact decide_eq_true (cmpQ_neg.2 ((cmpQ_neg.1 (of_decide_eq_true k)).trans (cmpQ_neg.1 (of_decide_eq_true h))))
  · exact decide_eq_false (fun e => Lx.ntrans (fun e => of_decide_eq_false k (cmpQ_neg.2 e)) (fun e => of_decide_eq_false h (cmpQ_neg.2 e)) (cmpQ_neg.1 e))
theorem units_sorted {l : List Hw} (h : l.Perm (units0 ++ units1)) (hs : AscBy (fun x y => cmpQ y x) l) : l = unitsA :=
  asc_perm (R := fun x y => ¬ Lx x y) (fun _ _ h k => Lx.anti h k) (h.trans units_perm.symm) (hs.imp fun hn e => hn (cmpQ_neg.2 e)) units_asc
theorem units_eg : ∀ args w, (callFunc 70 args).run Tryz.prog w = .ok (.enter 70 args) w := enters_of Tryz.func70 (by kernel_rfl) rfl
theorem of_eg : ∀ args w, (callFunc 38 args).run Tryz.prog w = .ok (.enter 38 args) w := enters_of Tryz.func38 (by kernel_rfl) rfl
def Off24 (w : World) (v : Value) : Prop := ∃ b c, v = .slice (some ⟨b, 0, none⟩) 24 c ∧ 24 ≤ c ∧ c ≤ maxLen ∧ w.heap.size ≤ b
theorem own_off24 {w W : World} {v : Value} {rs : List (Hw × List Value)} (h : Own eHur w v rs W) (hl : rs.length = 24) : Off24 w v := by
  obtain ⟨b, c, e, h1, h2, h3, -⟩ := h.form (by omega)
  rw [hl] at e h1
  exact ⟨b, c, e, h1, h2, h3⟩
set_option maxHeartbeats 4000000 in
set_option maxRecDepth 3000 in
theorem hunits_any (w : World) : Calls Tryz.prog 43 #[] w (PostW (fun v W => Sl eHur unitsA v W ∧ Off24 w v) w) := by
  go_enter Tryz.func43, Tryz.ntmps43
  go_upto_region 3 with fail
  go_loopw [1, 2, 4, 5, 9, 11, 12, 13, 14, 15, 16, 17, 18, 19, 20, 21, 22, 23, 24, 25, 10] (fun s1 _ _ _ s9 _ _ _ _ _ _ _ _ _ _ _ _ _ _ _ _ wr => ∃ (i : Nat) (rs : List (Hw × List Value)), s9 = .int .i64 i ∧ i ≤ 4 ∧ rs.map (·.1) = units0.take (2 * i) ∧ Own eHur w s1 rs wr) (fun _ _ _ _ s9 _ _ _ _ _ _ _ _ _ _ _ _ _ _ _ _ _ => (4 - (intOf s9).toNat))
  case atStart => exact ⟨0, [], rfl, by omega, rfl, Own.start eHur (Below.refl _ _)⟩
  case round =>
    obtain ⟨i, rs, rfl, hil, hrs, hO⟩ := hrel
    have HO := Lib.hid hO; have HR := Lib.hid hrs
    clear hO hrs
    have h4 : i = 0 ∨ i = 1 ∨ i = 2 ∨ i = 3 ∨ i = 4 := by omega
    clear hil
    rcases h4 with rfl | rfl | rfl | rfl | rfl
    · have HL := Lib.hid (show rs.length = 0 by have := congrArg List.length HR.out; simpa [units0] using this)
      go_upto_region 6 with fail
      refine wp_loop_rounds 3 ?_
      rw [rounds_succ]
      go_wp2_with (at_builtin; refine append_hur rfl (.tmp 20) (.tmp 22) 51 rfl Tryz.underlying51 (HO.out.keep ((Below.refl _ _).alloc (Nat.le_refl _) _)) ⟨2, 0, 0, 0⟩ _ (wr.heap.size + 1) 1 (by simp) rfl rfl (by have := HL.out; omega) ?_; intro v1 w1 hg1; have HG1 := Lib.hid hg1; clear hg1)
      rw [rounds_succ]
      go_wp2_with (at_builtin; refine append_hur rfl (.tmp 20) (.tmp 22) 51 rfl Tryz.underlying51 (HG1.out.keep ((Below.refl _ _).alloc (Nat.le_refl _) _)) ⟨-2, 0, 0, 0⟩ _ (w1.heap.size + 1) 1 (by simp) rfl rfl (by have := HL.out; simp; omega) ?_; intro v2 w2 hg2; have HG2 := Lib.hid hg2; clear hg2)
      rw [rounds_succ]
      go_wp2_with fail
      exact ⟨⟨1, _, rfl, by omega, by rw [List.map_append, List.map_append, HR.out]; rfl, HG2.out⟩, by decide⟩
    · have HL := Lib.hid (show rs.length = 2 by have := congrArg List.length HR.out; simpa [units0] using this)
      go_upto_region 6 with fail
      refine wp_loop_rounds 3 ?_
      rw [rounds_succ]
      go_wp2_with (at_builtin; refine append_hur rfl (.tmp 20) (.tmp 22) 51 rfl Tryz.underlying51 (HO.out.keep ((Below.refl _ _).alloc (Nat.le_refl _) _)) ⟨0, 2, 0, 0⟩ _ (wr.heap.size + 1) 1 (by simp) rfl rfl (by have := HL.out; omega) ?_; intro v1 w1 hg1; have HG1 := Lib.hid hg1; clear hg1)
      rw [rounds_succ]
      go_wp2_with (at_builtin; refine append_hur rfl (.tmp 20) (.tmp 22) 51 rfl Tryz.underlying51 (HG1.out.keep ((Below.refl _ _).alloc (Nat.le_refl _) _)) ⟨0, -2, 0, 0⟩ _ (w1.heap.size + 1) 1 (by simp) rfl rfl (by have := HL.out; simp; omega) ?_; intro v2 w2 hg2; have HG2 := Lib.hid hg2; clear hg2)
      rw [rounds_succ]
      go_wp2_with fail
      exact ⟨⟨2, _, rfl, by omega, by rw [List.map_append, List.map_append, HR.out]; rfl, HG2.out⟩, by decide⟩
    · have HL := Lib.hid (show rs.length = 4 by have := congrArg List.length HR.out; simpa [units0] using this)
      go_upto_region 6 with fail
      refine wp_loop_rounds 3 ?_
      rw [rounds_succ]
      go_wp2_with (at_builtin; refine append_hur rfl (.tmp 20) (.tmp 22) 51 rfl Tryz.underlying51 (HO.out.keep ((Below.refl _ _).alloc (Nat.le_refl _) _)) ⟨0, 0, 2, 0⟩ _ (wr.heap.size + 1) 1 (by simp) rfl rfl (by have := HL.out; omega) ?_; intro v1 w1 hg1; have HG1 := Lib.hid hg1; clear hg1)
      rw [rounds_succ]
      go_wp2_with (at_builtin; refine append_hur rfl (.tmp 20) (.tmp 22) 51 rfl Tryz.underlying51 (HG1.out.keep ((Below.refl _ _).alloc (Nat.le_refl _) _)) ⟨0, 0, -2, 0⟩ _ (w1.heap.size + 1) 1 (by simp) rfl rfl (by have := HL.out; simp; omega) ?_; intro v2 w2 hg2; have HG2 := Lib.hid hg2; clear hg2)
      rw [rounds_succ]
      go_wp2_with fail
      exact ⟨⟨3, _, rfl, by omega, by rw [List.map_append, List.map_append, HR.out]; rfl, HG2.out⟩, by decide⟩
    · have HL := Lib.hid (show rs.length = 6 by have := congrArg List.length HR.out; simpa [units0] using this)
      go_upto_region 6 with fail
      refine wp_loop_rounds 3 ?_
      rw [rounds_succ]
      go_wp2_with (at_builtin; refine append_hur rfl (.tmp 20) (.tmp 22) 51 rfl Tryz.underlying51 (HO.out.keep ((Below.refl _ _).alloc (Nat.le_refl _) _)) ⟨0, 0, 0, 2⟩ _ (wr.heap.size + 1) 1 (by simp) rfl rfl (by have := HL.out; omega) ?_; intro v1 w1 hg1; have HG1 := Lib.hid hg1; clear hg1)
      rw [rounds_succ]
      go_wp2_with (at_builtin; refine append_hur rfl (.tmp 20) (.tmp 22) 51 rfl Tryz.underlying51 (HG1.out.keep ((Below.refl _ _).alloc (Nat.le_refl _) _)) ⟨0, 0, 0, -2⟩ _ (w1.heap.size + 1) 1 (by simp) rfl rfl (by have := HL.out; simp; omega) ?_; intro v2 w2 hg2; have HG2 := Lib.hid hg2; clear hg2)
      rw [rounds_succ]
      go_wp2_with fail
      exact ⟨⟨4, _, rfl, by omega, by rw [List.map_append, List.map_append, HR.out]; rfl, HG2.out⟩, by decide⟩
    · rw [show ((4 : Nat) : Int) = 4 from rfl]
      go_upto_region 14 with fail
      have HR0 := Lib.hid (show rs.map (·.1) = units0 by rw [HR.out]; rfl)
      have HO0 := HO
      clear HR HO
      go_loopw [1, 6, 7, 8, 26, 27, 28, 29, 30, 31, 32, 33, 34, 35, 36, 37, 38, 39, 40, 41, 42, 43, 44, 45, 46, 47] (fun s1 _ _ _ s26 _ _ _ _ _ _ _ _ _ _ _ _ _ _ _ _ _ _ _ _ _ wr => ∃ (k : Nat) (rs : List (Hw × List Value)), s26 = .int .i64 k ∧ k ≤ 16 ∧ rs.map (·.1) = units0 ++ units1.take k ∧ Own eHur w s1 rs wr) (fun _ _ _ _ s26 _ _ _ _ _ _ _ _ _ _ _ _ _ _ _ _ _ _ _ _ _ _ => (16 - (intOf s26).toNat))
      case atStart => exact ⟨0, rs, rfl, by omega, by rw [HR0.out]; rfl, HO0.out⟩
      case round =>
        clear HR0 HO0 rs
        obtain ⟨k, rs, rfl, hil, hrs, hO⟩ := hrel
        have HO := Lib.hid hO; have HR := Lib.hid hrs
        clear hO hrs
        have h16 : k = 0 ∨ k = 1 ∨ k = 2 ∨ k = 3 ∨ k = 4 ∨ k = 5 ∨ k = 6 ∨ k = 7 ∨ k = 8 ∨ k = 9 ∨ k = 10 ∨ k = 11 ∨ k = 12 ∨ k = 13 ∨ k = 14 ∨ k = 15 ∨ k = 16 := by omega
        clear hil
        rcases h16 with rfl | rfl | rfl | rfl | rfl | rfl | rfl | rfl | rfl | rfl | rfl | rfl | rfl | rfl | rfl | rfl | rfl
        · have HL := Lib.hid (show rs.length = 8 by have := congrArg List.length HR.out; simpa [units0, units1] using this)
          have b0 : (bits BinOp.and IntKind.i64 0 1 == 1) = false := by decide
          go_upto_region 18 with fail
          refine wp_loop_rounds 5 ?_
          rw [rounds_succ]; go_wp2_with fail
          rw [rounds_succ]; go_wp2_with fail
          rw [rounds_succ]; go_wp2_with fail
          rw [rounds_succ]; go_wp2_with fail
          rw [rounds_succ]
          go_wp2_with (at_builtin; refine append_hur rfl (.tmp 43) (.tmp 45) 51 rfl Tryz.underlying51 (HO.out.keep ((Below.refl _ _).alloc (Nat.le_refl _) _)) ⟨1, 1, 1, 1⟩ _ (wr.heap.size + 1) 1 (by simp) rfl rfl (by have := HL.out; omega) ?_; intro v1 w1 hg1; have HG1 := Lib.hid hg1; clear hg1)
          exact ⟨⟨1, _, rfl, by omega, by rw [List.map_append, HR.out]; rfl, HG1.out⟩, by decide⟩
        · have HL := Lib.hid (show rs.length = 9 by have := congrArg List.length HR.out; simpa [units0, units1] using this)
          have b0 : (bits BinOp.and IntKind.i64 0 1 == 1) = false := by decide
          have b1 : (bits BinOp.and IntKind.i64 1 1 == 1) = true := by decide
          go_upto_region 18 with fail
          refine wp_loop_rounds 5 ?_
          rw [rounds_succ]; go_wp2_with fail
          rw [rounds_succ]; go_wp2_with fail
          rw [rounds_succ]; go_wp2_with fail
          rw [rounds_succ]; go_wp2_with fail
          rw [rounds_succ]
          go_wp2_with (at_builtin; refine append_hur rfl (.tmp 43) (.tmp 45) 51 rfl Tryz.underlying51 (HO.out.keep ((Below.refl _ _).alloc (Nat.le_refl _) _)) ⟨-1, 1, 1, 1⟩ _ (wr.heap.size + 1) 1 (by simp) rfl rfl (by have := HL.out; omega) ?_; intro v1 w1 hg1; have HG1 := Lib.hid hg1; clear hg1)
          exact ⟨⟨2, _, rfl, by omega, by rw [List.map_append, HR.out]; rfl, HG1.out⟩, by decide⟩
        · have HL := Lib.hid (show rs.length = 10 by have := congrArg List.length HR.out; simpa [units0, units1] using this)
          have b0 : (bits BinOp.and IntKind.i64 0 1 == 1) = false := by decide
          have b1 : (bits BinOp.and IntKind.i64 1 1 == 1) = true := by decide
          have b2 : (bits BinOp.and IntKind.i64 2 1 == 1) = false := by decide
          go_upto_region 18 with fail
          refine wp_loop_rounds 5 ?_
          rw [rounds_succ]; go_wp2_with fail
          rw [rounds_succ]; go_wp2_with fail
          rw [rounds_succ]; go_wp2_with fail
          rw [rounds_succ]; go_wp2_with fail
          rw [rounds_succ]
          go_wp2_with (at_builtin; refine append_hur rfl (.tmp 43) (.tmp 45) 51 rfl Tryz.underlying51 (HO.out.keep ((Below.refl _ _).alloc (Nat.le_refl _) _)) ⟨1, -1, 1, 1⟩ _ (wr.heap.size + 1) 1 (by simp) rfl rfl (by have := HL.out; omega) ?_; intro v1 w1 hg1; have HG1 := Lib.hid hg1; clear hg1)
          exact ⟨⟨3, _, rfl, by omega, by rw [List.map_append, HR.out]; rfl, HG1.out⟩, by decide⟩
        · have HL := Lib.hid (show rs.length = 11 by have := congrArg List.length HR.out; simpa [units0, units1] using this)
          have b0 : (bits BinOp.and IntKind.i64 0 1 == 1) = false := by decide
          have b1 : (bits BinOp.and IntKind.i64 1 1 == 1) = true := by decide
          have b3 : (bits BinOp.and IntKind.i64 3 1 == 1) = true := by decide
          go_upto_region 18 with fail
          refine wp_loop_rounds 5 ?_
          rw [rounds_succ]; go_wp2_with fail
          rw [rounds_succ]; go_wp2_with fail
          rw [rounds_succ]; go_wp2_with fail
          rw [rounds_succ]; go_wp2_with fail
          rw [rounds_succ]
          go_wp2_with (at_builtin; refine append_hur rfl (.tmp 43) (.tmp 45) 51 rfl Tryz.underlying51 (HO.out.keep ((Below.refl _ _).alloc (Nat.le_refl _) _)) ⟨-1, -1, 1, 1⟩ _ (wr.heap.size + 1) 1 (by simp) rfl rfl (by have := HL.out; omega) ?_; intro v1 w1 hg1; have HG1 := Lib.hid hg1; clear hg1)
          exact ⟨⟨4, _, rfl, by omega, by rw [List.map_append, HR.out]; rfl, HG1.out⟩, by decide⟩
        · have HL := Lib.hid (show rs.length = 12 by have := congrArg List.length HR.out; simpa [units0, units1] using this)
          have b0 : (bits BinOp.and IntKind.i64 0 1 == 1) = false := by decide
          have b1 : (bits BinOp.and IntKind.i64 1 1 == 1) = true := by decide
          have b2 : (bits BinOp.and IntKind.i64 2 1 == 1) = false := by decide
          have b4 : (bits BinOp.and IntKind.i64 4 1 == 1) = false := by decide
          go_upto_region 18 with fail
          refine wp_loop_rounds 5 ?_
          rw [rounds_succ]; go_wp2_with fail
          rw [rounds_succ]; go_wp2_with fail
          rw [rounds_succ]; go_wp2_with fail
          rw [rounds_succ]; go_wp2_with fail
          rw [rounds_succ]
          go_wp2_with (at_builtin; refine append_hur rfl (.tmp 43) (.tmp 45) 51 rfl Tryz.underlying51 (HO.out.keep ((Below.refl _ _).alloc (Nat.le_refl _) _)) ⟨1, 1, -1, 1⟩ _ (wr.heap.size + 1) 1 (by simp) rfl rfl (by have := HL.out; omega) ?_; intro v1 w1 hg1; have HG1 := Lib.hid hg1; clear hg1)
          exact ⟨⟨5, _, rfl, by omega, by rw [List.map_append, HR.out]; rfl, HG1.out⟩, by decide⟩
        · have HL := Lib.hid (show rs.length = 13 by have := congrArg List.length HR.out; simpa [units0, units1] using this)
          have b0 : (bits BinOp.and IntKind.i64 0 1 == 1) = false := by decide
          have b1 : (bits BinOp.and IntKind.i64 1 1 == 1) = true := by decide
          have b2 : (bits BinOp.and IntKind.i64 2 1 == 1) = false := by decide
          have b5 : (bits BinOp.and IntKind.i64 5 1 == 1) = true := by decide
          go_upto_region 18 with fail
          refine wp_loop_rounds 5 ?_
          rw [rounds_succ]; go_wp2_with fail
          rw [rounds_succ]; go_wp2_with fail
          rw [rounds_succ]; go_wp2_with fail
          rw [rounds_succ]; go_wp2_with fail
          rw [rounds_succ]
          go_wp2_with (at_builtin; refine append_hur rfl (.tmp 43) (.tmp 45) 51 rfl Tryz.underlying51 (HO.out.keep ((Below.refl _ _).alloc (Nat.le_refl _) _)) ⟨-1, 1, -1, 1⟩ _ (wr.heap.size + 1) 1 (by simp) rfl rfl (by have := HL.out; omega) ?_; intro v1 w1 hg1; have HG1 := Lib.hid hg1; clear hg1)
          exact ⟨⟨6, _, rfl, by omega, by rw [List.map_append, HR.out]; rfl, HG1.out⟩, by decide⟩
        · have HL := Lib.hid (show rs.length = 14 by have := congrArg List.length HR.out; simpa [units0, units1] using this)
          have b0 : (bits BinOp.and IntKind.i64 0 1 == 1) = false := by decide
          have b1 : (bits BinOp.and IntKind.i64 1 1 == 1) = true := by decide
          have b3 : (bits BinOp.and IntKind.i64 3 1 == 1) = true := by decide
          have b6 : (bits BinOp.and IntKind.i64 6 1 == 1) = false := by decide
          go_upto_region 18 with fail
          refine wp_loop_rounds 5 ?_
          rw [rounds_succ]; go_wp2_with fail
          rw [rounds_succ]; go_wp2_with fail
          rw [rounds_succ]; go_wp2_with fail
          rw [rounds_succ]; go_wp2_with fail
          rw [rounds_succ]
          go_wp2_with (at_builtin; refine append_hur rfl (.tmp 43) (.tmp 45) 51 rfl Tryz.underlying51 (HO.out.keep ((Below.refl _ _).alloc (Nat.le_refl _) _)) ⟨1, -1, -1, 1⟩ _ (wr.heap.size + 1) 1 (by simp) rfl rfl (by have := HL.out; omega) ?_; intro v1 w1 hg1; have HG1 := Lib.hid hg1; clear hg1)
          exact ⟨⟨7, _, rfl, by omega, by rw [List.map_append, HR.out]; rfl, HG1.out⟩, by decide⟩
        · have HL := Lib.hid (show rs.length = 15 by have := congrArg List.length HR.out; simpa [units0, units1] using this)
          have b0 : (bits BinOp.and IntKind.i64 0 1 == 1) = false := by decide
          have b1 : (bits BinOp.and IntKind.i64 1 1 == 1) = true := by decide
          have b3 : (bits BinOp.and IntKind.i64 3 1 == 1) = true := by decide
          have b7 : (bits BinOp.and IntKind.i64 7 1 == 1) = true := by decide
          go_upto_region 18 with fail
          refine wp_loop_rounds 5 ?_
          rw [rounds_succ]; go_wp2_with fail
          rw [rounds_succ]; go_wp2_with fail
          rw [rounds_succ]; go_wp2_with fail
          rw [rounds_succ]; go_wp2_with fail
          rw [rounds_succ]
          go_wp2_with (at_builtin; refine append_hur rfl (.tmp 43) (.tmp 45) 51 rfl Tryz.underlying51 (HO.out.keep ((Below.refl _ _).alloc (Nat.le_refl _) _)) ⟨-1, -1, -1, 1⟩ _ (wr.heap.size + 1) 1 (by simp) rfl rfl (by have := HL.out; omega) ?_; intro v1 w1 hg1; have HG1 := Lib.hid hg1; clear hg1)
          exact ⟨⟨8, _, rfl, by omega, by rw [List.map_append, HR.out]; rfl, HG1.out⟩, by decide⟩
        · have HL := Lib.hid (show rs.length = 16 by have := congrArg List.length HR.out; simpa [units0, units1] using this)
          have b1 : (bits BinOp.and IntKind.i64 1 1 == 1) = true := by decide
          have b2 : (bits BinOp.and IntKind.i64 2 1 == 1) = false := by decide
          have b4 : (bits BinOp.and IntKind.i64 4 1 == 1) = false := by decide
          have b8 : (bits BinOp.and IntKind.i64 8 1 == 1) = false := by decide
          go_upto_region 18 with fail
          refine wp_loop_rounds 5 ?_
          rw [rounds_succ]; go_wp2_with fail
          rw [rounds_succ]; go_wp2_with fail
          rw [rounds_succ]; go_wp2_with fail
          rw [rounds_succ]; go_wp2_with fail
          rw [rounds_succ]
          go_wp2_with (at_builtin; refine append_hur rfl (.tmp 43) (.tmp 45) 51 rfl Tryz.underlying51 (HO.out.keep ((Below.refl _ _).alloc (Nat.le_refl _) _)) ⟨1, 1, 1, -1⟩ _ (wr.heap.size + 1) 1 (by simp) rfl rfl (by have := HL.out; omega) ?_; intro v1 w1 hg1; have HG1 := Lib.hid hg1; clear hg1)
          exact ⟨⟨9, _, rfl, by omega, by rw [List.map_append, HR.out]; rfl, HG1.out⟩, by decide⟩
        · have HL := Lib.hid (show rs.length = 17 by have := congrArg List.length HR.out; simpa [units0, units1] using this)
          have b1 : (bits BinOp.and IntKind.i64 1 1 == 1) = true := by decide
          have b2 : (bits BinOp.and IntKind.i64 2 1 == 1) = false := by decide
          have b4 : (bits BinOp.and IntKind.i64 4 1 == 1) = false := by decide
          have b9 : (bits BinOp.and IntKind.i64 9 1 == 1) = true := by decide
          go_upto_region 18 with fail
          refine wp_loop_rounds 5 ?_
          rw [rounds_succ]; go_wp2_with fail
          rw [rounds_succ]; go_wp2_with fail
          rw [rounds_succ]; go_wp2_with fail
          rw [rounds_succ]; go_wp2_with fail
          rw [rounds_succ]
          go_wp2_with (at_builtin; refine append_hur rfl (.tmp 43) (.tmp 45) 51 rfl Tryz.underlying51 (HO.out.keep ((Below.refl _ _).alloc (Nat.le_refl _) _)) ⟨-1, 1, 1, -1⟩ _ (wr.heap.size + 1) 1 (by simp) rfl rfl (by have := HL.out; omega) ?_; intro v1 w1 hg1; have HG1 := Lib.hid hg1; clear hg1)
          exact ⟨⟨10, _, rfl, by omega, by rw [List.map_append, HR.out]; rfl, HG1.out⟩, by decide⟩
        · have HL := Lib.hid (show rs.length = 18 by have := congrArg List.length HR.out; simpa [units0, units1] using this)
          have b1 : (bits BinOp.and IntKind.i64 1 1 == 1) = true := by decide
          have b2 : (bits BinOp.and IntKind.i64 2 1 == 1) = false := by decide
          have b5 : (bits BinOp.and IntKind.i64 5 1 == 1) = true := by decide
          have b10 : (bits BinOp.and IntKind.i64 10 1 == 1) = false := by decide
          go_upto_region 18 with fail
          refine wp_loop_rounds 5 ?_
          rw [rounds_succ]; go_wp2_with fail
          rw [rounds_succ]; go_wp2_with fail
          rw [rounds_succ]; go_wp2_with fail
          rw [rounds_succ]; go_wp2_with fail
          rw [rounds_succ]
          go_wp2_with (at_builtin; refine append_hur rfl (.tmp 43) (.tmp 45) 51 rfl Tryz.underlying51 (HO.out.keep ((Below.refl _ _).alloc (Nat.le_refl _) _)) ⟨1, -1, 1, -1⟩ _ (wr.heap.size + 1) 1 (by simp) rfl rfl (by have := HL.out; omega) ?_; intro v1 w1 hg1; have HG1 := Lib.hid hg1; clear hg1)
          exact ⟨⟨11, _, rfl, by omega, by rw [List.map_append, HR.out]; rfl, HG1.out⟩, by decide⟩
        · have HL := Lib.hid (show rs.length = 19 by have := congrArg List.length HR.out; simpa [units0, units1] using this)
          have b1 : (bits BinOp.and IntKind.i64 1 1 == 1) = true := by decide
          have b2 : (bits BinOp.and IntKind.i64 2 1 == 1) = false := by decide
          have b5 : (bits BinOp.and IntKind.i64 5 1 == 1) = true := by decide
          have b11 : (bits BinOp.and IntKind.i64 11 1 == 1) = true := by decide
          go_upto_region 18 with fail
          refine wp_loop_rounds 5 ?_
          rw [rounds_succ]; go_wp2_with fail
          rw [rounds_succ]; go_wp2_with fail
          rw [rounds_succ]; go_wp2_with fail
          rw [rounds_succ]; go_wp2_with fail
          rw [rounds_succ]
          go_wp2_with (at_builtin; refine append_hur rfl (.tmp 43) (.tmp 45) 51 rfl Tryz.underlying51 (HO.out.keep ((Below.refl _ _).alloc (Nat.le_refl _) _)) ⟨-1, -1, 1, -1⟩ _ (wr.heap.size + 1) 1 (by simp) rfl rfl (by have := HL.out; omega) ?_; intro v1 w1 hg1; have HG1 := Lib.hid hg1; clear hg1)
          exact ⟨⟨12, _, rfl, by omega, by rw [List.map_append, HR.out]; rfl, HG1.out⟩, by decide⟩
        · have HL := Lib.hid (show rs.length = 20 by have := congrArg List.length HR.out; simpa [units0, units1] using this)
          have b1 : (bits BinOp.and IntKind.i64 1 1 == 1) = true := by decide
          have b3 : (bits BinOp.and IntKind.i64 3 1 == 1) = true := by decide
          have b6 : (bits BinOp.and IntKind.i64 6 1 == 1) = false := by decide
          have b12 : (bits BinOp.and IntKind.i64 12 1 == 1) = false := by decide
          go_upto_region 18 with fail
          refine wp_loop_rounds 5 ?_
          rw [rounds_succ]; go_wp2_with fail
          rw [rounds_succ]; go_wp2_with fail
          rw [rounds_succ]; go_wp2_with fail
          rw [rounds_succ]; go_wp2_with fail
          rw [rounds_succ]
          go_wp2_with (at_builtin; refine append_hur rfl (.tmp 43) (.tmp 45) 51 rfl Tryz.underlying51 (HO.out.keep ((Below.refl _ _).alloc (Nat.le_refl _) _)) ⟨1, 1, -1, -1⟩ _ (wr.heap.size + 1) 1 (by simp) rfl rfl (by have := HL.out; omega) ?_; intro v1 w1 hg1; have HG1 := Lib.hid hg1; clear hg1)
          exact ⟨⟨13, _, rfl, by omega, by rw [List.map_append, HR.out]; rfl, HG1.out⟩, by decide⟩
        · have HL := Lib.hid (show rs.length = 21 by have := congrArg List.length HR.out; simpa [units0, units1] using this)
          have b1 : (bits BinOp.and IntKind.i64 1 1 == 1) = true := by decide
          have b3 : (bits BinOp.and IntKind.i64 3 1 == 1) = true := by decide
          have b6 : (bits BinOp.and IntKind.i64 6 1 == 1) = false := by decide
          have b13 : (bits BinOp.and IntKind.i64 13 1 == 1) = true := by decide
          go_upto_region 18 with fail
          refine wp_loop_rounds 5 ?_
          rw [rounds_succ]; go_wp2_with fail
          rw [rounds_succ]; go_wp2_with fail
          rw [rounds_succ]; go_wp2_with fail
          rw [rounds_succ]; go_wp2_with fail
          rw [rounds_succ]
          go_wp2_with (at_builtin; refine append_hur rfl (.tmp 43) (.tmp 45) 51 rfl Tryz.underlying51 (HO.out.keep ((Below.refl _ _).alloc (Nat.le_refl _) _)) ⟨-1, 1, -1, -1⟩ _ (wr.heap.size + 1) 1 (by simp) rfl rfl (by have := HL.out; omega) ?_; intro v1 w1 hg1; have HG1 := Lib.hid hg1; clear hg1)
          exact ⟨⟨14, _, rfl, by omega, by rw [List.map_append, HR.out]; rfl, HG1.out⟩, by decide⟩
        · have HL := Lib.hid (show rs.length = 22 by have := congrArg List.length HR.out; simpa [units0, units1] using this)
          have b1 : (bits BinOp.and IntKind.i64 1 1 == 1) = true := by decide
          have b3 : (bits BinOp.and IntKind.i64 3 1 == 1) = true := by decide
          have b7 : (bits BinOp.and IntKind.i64 7 1 == 1) = true := by decide
          have b14 : (bits BinOp.and IntKind.i64 14 1 == 1) = false := by decide
          go_upto_region 18 with fail
          refine wp_loop_rounds 5 ?_
          rw [rounds_succ]; go_wp2_with fail
          rw [rounds_succ]; go_wp2_with fail
          rw [rounds_succ]; go_wp2_with fail
          rw [rounds_succ]; go_wp2_with fail
          rw [rounds_succ]
          go_wp2_with (at_builtin; refine append_hur rfl (.tmp 43) (.tmp 45) 51 rfl Tryz.underlying51 (HO.out.keep ((Below.refl _ _).alloc (Nat.le_refl _) _)) ⟨1, -1, -1, -1⟩ _ (wr.heap.size + 1) 1 (by simp) rfl rfl (by have := HL.out; omega) ?_; intro v1 w1 hg1; have HG1 := Lib.hid hg1; clear hg1)
          exact ⟨⟨15, _, rfl, by omega, by rw [List.map_append, HR.out]; rfl, HG1.out⟩, by decide⟩
        · have HL := Lib.hid (show rs.length = 23 by have := congrArg List.length HR.out; simpa [units0, units1] using this)
          have b1 : (bits BinOp.and IntKind.i64 1 1 == 1) = true := by decide
          have b3 : (bits BinOp.and IntKind.i64 3 1 == 1) = true := by decide
          have b7 : (bits BinOp.and IntKind.i64 7 1 == 1) = true := by decide
          have b15 : (bits BinOp.and IntKind.i64 15 1 == 1) = true := by decide
          go_upto_region 18 with fail
          refine wp_loop_rounds 5 ?_
          rw [rounds_succ]; go_wp2_with fail
          rw [rounds_succ]; go_wp2_with fail
          rw [rounds_succ]; go_wp2_with fail
          rw [rounds_succ]; go_wp2_with fail
          rw [rounds_succ]
          go_wp2_with (at_builtin; refine append_hur rfl (.tmp 43) (.tmp 45) 51 rfl Tryz.underlying51 (HO.out.keep ((Below.refl _ _).alloc (Nat.le_refl _) _)) ⟨-1, -1, -1, -1⟩ _ (wr.heap.size + 1) 1 (by simp) rfl rfl (by have := HL.out; omega) ?_; intro v1 w1 hg1; have HG1 := Lib.hid hg1; clear hg1)
          exact ⟨⟨16, _, rfl, by omega, by rw [List.map_append, HR.out]; rfl, HG1.out⟩, by decide⟩
        · rw [show ((16 : Nat) : Int) = 16 from rfl]
          have HN := Lib.hid (show rs.length = 24 by have := congrArg List.length HR.out; simpa [units0, units1] using this)
          have HO24 := Lib.hid (own_off24 HO.out HN.out)
          go_wp2_with fail
          refine (sort_hur 70 units_eg (fun x y => cmpQ y x) swo_rev unitsLess_any HO.out (by have := HN.out; omega) (by have := HN.out; omega)).mono ?_
          rintro e w' ⟨rfl, ⟨l, hp, hs, hsl⟩, hb⟩
          have hl := units_sorted (by rw [HR.out] at hp; exact hp) hs
          subst hl
          have HF := Lib.hid (And.intro hsl hb)
          clear hp hs hsl hb
          go_wp2_with fail
          go_ret
          exact ⟨_, rfl, ⟨HF.out.1, HO24.out⟩, HF.out.2⟩
end Go.Proofs.YthkklilhjnpedaaGreat
end
section
namespace Go.Proofs.YthkklilhjnpedaaGreat
open Go.RowKit FF
theorem hur_at {l : List Hw} {A : Option Addr} {n c : Nat} {W : World} (h : Sl eHur l (.slice A n c) W) {i : Nat} {z : Hw} (hi : l[i]? = some z) : ∃ b o, A = some ⟨b, o, none⟩ ∧ b < W.heap.size ∧
    W.cell? ⟨b, o + i * 4, none⟩ = some (.int .i64 z.a) ∧ W.cell? ⟨b, o + i * 4 + 1, none⟩ = some (.int .i64 z.b) ∧ W.cell? ⟨b, o + i * 4 + 2, none⟩ = some (.int .i64 z.c) ∧ W.cell? ⟨b, o + i * 4 + 3, none⟩ = some (.int .i64 z.d) := by
  obtain ⟨b, o, cs, e, hb, hE, hc⟩ := Sl.at h hi
  obtain rfl : cs = hcs z := hE
  exact ⟨b, o, e, hb, hc 0 _ rfl, hc 1 _ rfl, hc 2 _ rfl, hc 3 _ rfl⟩
theorem Cells.set4 {W : World} {b : Nat} {v0 v1 v2 v3 : Value} (h : Cells W b #[v0, v1, v2, v3]) (u0 u1 u2 u3 : Value) : Cells ((((W.setCell ⟨b, 0, none⟩ u0).setCell ⟨b, 1, none⟩ u1).setCell ⟨b, 2, none⟩ u2).setCell ⟨b, 3, none⟩ u3) b #[u0, u1, u2, u3] := by
  obtain ⟨c0, c1, c2, c3⟩ := h.four
  refine ⟨by simpa [World.setCell] using h.1, fun i hi => ?_, fun i => by simp [go_sem, h.2.2 i]⟩
  simp only [List.size_toArray, List.length_cons, List.length_nil] at hi
  rcases i with _ | _ | _ | _ | i
  · simp [go_sem, c0]
  · simp [go_sem, c1]
  · simp [go_sem, c2]
  · simp [go_sem, c3]
  · omega
theorem Cells.other4 {W : World} {b g : Nat} {vs : Array Value} (h : Cells W b vs) (hne : g ≠ b) (u0 u1 u2 u3 : Value) : Cells ((((W.setCell ⟨g, 0, none⟩ u0).setCell ⟨g, 1, none⟩ u1).setCell ⟨g, 2, none⟩ u2).setCell ⟨g, 3, none⟩ u3) b vs :=
  ⟨by simpa [World.setCell] using h.1, fun i hi => by rw [← h.2.1 i hi]; simp [go_sem], fun i => by simp [go_sem, h.2.2 i]⟩
structure CanI (w : World) (R1 R2 R3 : Nat) (x y : Hw) (l : List Hw) (B cp : Nat) (W : World) : Prop where
  c1 : Cells W R1 #[.int .i64 x.a, .int .i64 x.b, .int .i64 x.c, .int .i64 x.d]
  c2 : Cells W R2 #[.int .i64 0, .int .i64 0, .int .i64 0, .int .i64 0]
  c3 : Cells W R3 #[.int .i64 y.a, .int .i64 y.b, .int .i64 y.c, .int .i64 y.d]
  sl : Sl eHur l (.slice (some ⟨B, 0, none⟩) 24 cp) W
  below : Below w.heap.size w W
theorem CanI.keep {w W W' : World} {R1 R2 R3 : Nat} {x y : Hw} {l : List Hw} {B cp : Nat} (h : CanI w R1 R2 R3 x y l B cp W) (hb : Below W.heap.size W W') : CanI w R1 R2 R3 x y l B cp W' :=
  ⟨h.c1.keep hb, h.c2.keep hb, h.c3.keep hb, h.sl.keep hb, h.below.trans (hb.mono h.below.size)⟩
theorem CanI.put {w W : World} {R1 R2 R3 : Nat} {x y : Hw} {l : List Hw} {B cp : Nat} (h : CanI w R1 R2 R3 x y l B cp W) (h1 : R1 ≠ R3) (h2 : R2 ≠ R3) (h3 : B ≠ R3) (h4 : w.heap.size ≤ R3) (z : Hw) :
    CanI w R1 R2 R3 x z l B cp ((((W.setCell ⟨R3, 0, none⟩ (.int .i64 z.a)).setCell ⟨R3, 1, none⟩ (.int .i64 z.b)).setCell ⟨R3, 2, none⟩ (.int .i64 z.c)).setCell ⟨R3, 3, none⟩ (.int .i64 z.d)) := by
  refine ⟨h.c1.other4 (Ne.symm h1) _ _ _ _, h.c2.other4 (Ne.symm h2) _ _ _ _, h.c3.set4 _ _ _ _, ?_, below_set4 h.below h4 _ _ _ _⟩
  refine h.sl.other (g := R3) (.only ((((Only.setCell _ _ _ _).trans (Only.setCell _ _ _ _)).trans (Only.setCell _ _ _ _)).trans (Only.setCell _ _ _ _))) (fun _ _ _ h => h) ?_
  rintro b o n c e rfl
  injection e with e
  injection e with e
  injection e with e
  exact h3 e
theorem units_bnd : ∀ u ∈ unitsA, Hb 1000000 u := by unfold Hb; decide
set_option maxHeartbeats 4000000 in
set_option maxRecDepth 3000 in
theorem canonical_any (x : Hw) (w : World) (hx : Hb 1000000 x) : Calls Tryz.prog 20 #[hv x] w (PostW (VC (hv (canL x))) w) := by
  have HT := Lib.hid (fun (u : Hw) (hu : u ∈ unitsA) (W : World) => htm_any x u W hx (units_bnd u hu))
  have HU := Lib.hid (fun W => hunits_any W)
  have HC := Lib.hid (fun y z W => (qcmp_any y z W).mono fun _ _ h => h.post)
  have HL := Lib.hid (show canL x = canA x unitsA x from rfl)
  have HLen := Lib.hid (show unitsA.length = 24 from rfl)
  generalize hr : canL x = r at *
  clear hx hr
  obtain ⟨a, b, c, d⟩ := x
  unfold hv cv at *
  simp only at HT
  go_enter Tryz.func20, Tryz.ntmps20
  go_upto_region 2 with fail
  have hC1 := ((Cells.new w #[.int .i64 a, .int .i64 b, .int .i64 c, .int .i64 d] 58 rfl).alloc (.cells #[.int .i64 0, .int .i64 0, .int .i64 0, .int .i64 0] 58)).alloc (.cells #[.int .i64 a, .int .i64 b, .int .i64 c, .int .i64 d] 58)
  have hC2 := (Cells.new (w.alloc (.cells #[.int .i64 a, .int .i64 b, .int .i64 c, .int .i64 d] 58)) #[.int .i64 0, .int .i64 0, .int .i64 0, .int .i64 0] 58 (b := w.heap.size + 1) (by simp)).alloc (.cells #[.int .i64 a, .int .i64 b, .int .i64 c, .int .i64 d] 58)
  have hC3 := Cells.new ((w.alloc (.cells #[.int .i64 a, .int .i64 b, .int .i64 c, .int .i64 d] 58)).alloc (.cells #[.int .i64 0, .int .i64 0, .int .i64 0, .int .i64 0] 58)) #[.int .i64 a, .int .i64 b, .int .i64 c, .int .i64 d] 58 (b := w.heap.size + 1 + 1) (by simp)
  have hB := ((below_2 (w := w) (.cells #[.int .i64 a, .int .i64 b, .int .i64 c, .int .i64 d] 58) (.cells #[.int .i64 0, .int .i64 0, .int .i64 0, .int .i64 0] 58)).alloc (by simp; omega) (.cells #[.int .i64 a, .int .i64 b, .int .i64 c, .int .i64 d] 58))
  obtain ⟨W3, hW3⟩ : ∃ W3, W3 = (((w.alloc (.cells #[.int .i64 a, .int .i64 b, .int .i64 c, .int .i64 d] 58)).alloc (.cells #[.int .i64 0, .int .i64 0, .int .i64 0, .int .i64 0] 58)).alloc (.cells #[.int .i64 a, .int .i64 b, .int .i64 c, .int .i64 d] 58)) := ⟨_, rfl⟩
  rw [← hW3] at hC1 hC2 hC3 hB ⊢
  have HS3 := Lib.hid (show W3.heap.size = w.heap.size + 1 + 1 + 1 by rw [hW3]; simp)
  have HC1 := Lib.hid hC1; have HC2 := Lib.hid hC2; have HC3 := Lib.hid hC3; have HB := Lib.hid hB
  clear hC1 hC2 hC3 hB hW3
  obtain ⟨l, hl⟩ : ∃ l, l = unitsA := ⟨_, rfl⟩
  rw [← hl] at HL HLen HU HT
  clear hl
  go_wp2_with fail
  refine (HU.out _).mono ?_
  rintro e1 w1 ⟨v1, rfl, ⟨hS, B, cp, rfl, hc1, hc2, hc3⟩, hb⟩
  have HS := Lib.hid hS
  have HD1 := Lib.hid (HC1.out.keep hb); have HD2 := Lib.hid (HC2.out.keep hb); have HD3 := Lib.hid (HC3.out.keep hb); have HB1 := Lib.hid (HB.out.trans (hb.mono HB.out.size))
  clear hS hb HC1 HC2 HC3 HB HU
  go_upto_region 3 with fail
  have hs3 := HS3.out
  obtain ⟨R1, hR1⟩ : ∃ R, R = w.heap.size := ⟨_, rfl⟩
  obtain ⟨R2, hR2⟩ : ∃ R, R = w.heap.size + 1 := ⟨_, rfl⟩
  obtain ⟨R3, hR3⟩ : ∃ R, R = w.heap.size + 1 + 1 := ⟨_, rfl⟩
  have HN := Lib.hid (show w.heap.size ≤ R1 ∧ w.heap.size ≤ R2 ∧ w.heap.size ≤ R3 ∧ R1 ≠ R3 ∧ R2 ≠ R3 ∧ R1 ≠ R2 ∧ B ≠ R3 by omega)
  rw [← hR3] at HD3 ⊢
  rw [← hR2] at HD2 ⊢
  rw [← hR1] at HD1 ⊢
  clear hR1 hR2 hR3 hs3 hc3
  go_loopw [5, 6, 10, 11, 12, 13, 14, 15, 16, 17, 18, 19, 20, 21, 22, 23, 24] (fun _ _ s10 _ _ _ _ _ _ _ _ _ _ _ _ _ _ wr => ∃ (i : Nat) (y : Hw), s10 = .int .i64 i ∧ i ≤ 24 ∧ y = canA ⟨a, b, c, d⟩ (l.take i) ⟨a, b, c, d⟩ ∧ CanI w R1 R2 R3 ⟨a, b, c, d⟩ y l B cp wr) (fun _ _ s10 _ _ _ _ _ _ _ _ _ _ _ _ _ _ _ => (24 - (intOf s10).toNat))
  case atStart => exact ⟨0, _, rfl, by omega, rfl, HD1.out, HD2.out, HD3.out, HS.out, HB1.out⟩
  case round =>
    obtain ⟨i, y, rfl, hil, hy, hI⟩ := hrel
    have HI := Lib.hid hI; have HY := Lib.hid hy
    clear hI hy HD1 HD2 HD3 HS HB1 w1
    by_cases hlt : i < 24
    · have hti := decide_eq_true (p := ((i : Nat) : Int) < 24) (by omega)
      obtain ⟨u, hu⟩ : ∃ u, l[i]? = some u := ⟨_, List.getElem?_eq_getElem (by have := HLen.out; omega)⟩
      obtain ⟨b0, o0, e0, hb0, q0, q1, q2, q3⟩ := hur_at HI.out.sl hu
      obtain ⟨rfl, rfl⟩ : b0 = B ∧ o0 = 0 := by injection e0 with e0; injection e0 with e1 e2; exact ⟨e1.symm, e2.symm⟩
      have HUi := Lib.hid hu
      clear e0 hu
      rw [Nat.zero_add] at q0 q1 q2 q3
      go_upto_region 5 with fail
      clear q0 q1 q2 q3 hb0
      have hN5 := Cells.new wr #[.int .i64 u.a, .int .i64 u.b, .int .i64 u.c, .int .i64 u.d] 58 rfl
      have HI5 := Lib.hid (HI.out.keep ((Below.refl _ _).alloc (Nat.le_refl _) (.cells #[.int .i64 u.a, .int .i64 u.b, .int .i64 u.c, .int .i64 u.d] 58)))
      obtain ⟨R5, hR5⟩ : ∃ R, R = wr.heap.size := ⟨_, rfl⟩
      obtain ⟨W5, hW5⟩ : ∃ W5, W5 = wr.alloc (.cells #[.int .i64 u.a, .int .i64 u.b, .int .i64 u.c, .int .i64 u.d] 58) := ⟨_, rfl⟩
      rw [← hR5, ← hW5] at hN5 ⊢
      rw [← hW5] at HI5
      clear hW5 hR5 HI
      obtain ⟨k0, k1, k2, k3⟩ := HI5.out.c1.four
      obtain ⟨q0, q1, q2, q3⟩ := hN5.four
      clear hN5
      go_wp2_with fail
      refine (HT.out u (List.mem_of_getElem? HUi.out) _).mono ?_
      rintro e2 w2 ⟨_, rfl, rfl, hb⟩
      have HI2 := Lib.hid (HI5.out.keep hb)
      clear k0 k1 k2 k3 q0 q1 q2 q3 hb HI5
      obtain ⟨z, hz⟩ : ∃ z, z = htm ⟨a, b, c, d⟩ u := ⟨_, rfl⟩
      have HZ := Lib.hid hz
      rw [← hz]
      clear hz
      go_upto_region 6 with fail
      have hN6 := Lib.hid (Cells.new w2 #[.int .i64 z.a, .int .i64 z.b, .int .i64 z.c, .int .i64 z.d] 58 rfl)
      have HI6 := Lib.hid (HI2.out.keep ((Below.refl _ _).alloc (Nat.le_refl _) (.cells #[.int .i64 z.a, .int .i64 z.b, .int .i64 z.c, .int .i64 z.d] 58)))
      obtain ⟨R6, hR6⟩ : ∃ R, R = w2.heap.size := ⟨_, rfl⟩
      obtain ⟨W6, hW6⟩ : ∃ W6, W6 = w2.alloc (.cells #[.int .i64 z.a, .int .i64 z.b, .int .i64 z.c, .int .i64 z.d] 58) := ⟨_, rfl⟩
      rw [← hR6, ← hW6] at hN6 ⊢
      rw [← hW6] at HI6
      clear hW6 hR6 HI2
      obtain ⟨k0, k1, k2, k3⟩ := HI6.out.c3.four
      obtain ⟨q0, q1, q2, q3⟩ := hN6.out.four
      go_wp2_with fail
      refine (HC.out _ _ _).mono ?_
      rintro e3 w3 ⟨_, rfl, rfl, hb⟩
      have HI3 := Lib.hid (HI6.out.keep hb)
      have HN3 := Lib.hid (hN6.out.keep hb)
      clear k0 k1 k2 k3 q0 q1 q2 q3 hb HI6 hN6
      have HS := Lib.hid (canA_snoc ⟨a, b, c, d⟩ u (l.take i) ⟨a, b, c, d⟩)
      rw [← HY.out, ← HZ.out] at HS
      obtain ⟨q, hq⟩ : ∃ q, q = cmpQ z y := ⟨_, rfl⟩
      rw [← hq] at HS ⊢
      clear hq
      have HTk := Lib.hid (show l.take (i + 1) = l.take i ++ [u] by rw [List.take_add_one, HUi.out]; rfl)
      by_cases hp : 0 < q
      · have HS2 := Lib.hid (HS.out.trans (if_pos hp))
        obtain ⟨q0, q1, q2, q3⟩ := HN3.out.four
        obtain ⟨k0, k1, k2, k3⟩ := HI3.out.c3.four
        obtain ⟨f0, f1, f2, f3, -⟩ := HI3.out.c3.fr
        go_wp2_with fail
        refine ⟨⟨i + 1, z, by simp, hlt, by rw [HTk.out, HS2.out], HI3.out.put HN.out.2.2.2.1 HN.out.2.2.2.2.1 HN.out.2.2.2.2.2.2 HN.out.2.2.1 z⟩, ?_⟩
        simp only [intOf]; omega
      · have HS2 := Lib.hid (HS.out.trans (if_neg hp))
        go_wp2_with fail
        refine ⟨⟨i + 1, y, by simp, hlt, by rw [HTk.out, HS2.out], HI3.out⟩, ?_⟩
        simp only [intOf]; omega
    · have hti := decide_eq_false (p := ((i : Nat) : Int) < 24) (by omega)
      have hfin : y = r := by rw [HL.out, HY.out, List.take_of_length_le (by have := HLen.out; omega)]
      clear HL HY
      subst hfin
      obtain ⟨k0, k1, k2, k3⟩ := HI.out.c3.four
      obtain ⟨z0, z1, z2, z3⟩ := HI.out.c2.four
      obtain ⟨f0, f1, f2, f3, -⟩ := HI.out.c2.fr
      go_wp2_with fail
      refine bodyPost_ret (v := hv y) (by simp [results, Tryz.results20, go_sem, hv, cv, z0, z1, z2, z3]) rfl ?_
      exact ⟨_, rfl, rfl, below_set4 HI.out.below HN.out.2.1 _ _ _ _⟩
end Go.Proofs.YthkklilhjnpedaaGreat
end
