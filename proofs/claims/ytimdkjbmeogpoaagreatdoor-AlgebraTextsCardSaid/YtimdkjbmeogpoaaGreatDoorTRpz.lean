/- Texts of elements: Parse of the reference. -/
import Derived.Test.YtimdkjbmeogpoaaGreatDoorTRcu
import Derived.Test.YtimdkjbmeogpoaaGreatDoorTRps
import Derived.Test.YtimdkjbmeogpoaaGreatDoorTRtg
import Derived.Deep.DeepCutAuto
namespace Go.Proofs.YtimdkjbmeogpoaaGreatDoor
open Go.RowKit FF
theorem neq5_run {x0 x1 x2 x3 x4 y0 y1 y2 y3 y4 : Int} {b : Bool} (hb : (x0 == y0 && (x1 == y1 && (x2 == y2 && (x3 == y3 && x4 == y4)))) = !b) (x z : Operand) (W : World) :
    (do eqGuard .neq 35 x z (.agg #[.int .i64 x0, .int .i64 x1, .int .i64 x2, .int .i64 x3, .int .i64 x4]) (.agg #[.int .i64 y0, .int .i64 y1, .int .i64 y2, .int .i64 y3, .int .i64 y4]); binOp .neq 35 (.agg #[.int .i64 x0, .int .i64 x1, .int .i64 x2, .int .i64 x3, .int .i64 x4]) (.agg #[.int .i64 y0, .int .i64 y1, .int .i64 y2, .int .i64 y3, .int .i64 y4]) : Sem Value).run Tryz.prog W = .ok (.bool b) W := by
  simp [go_sem, eqGuard]
  revert hb
  by_cases h0 : x0 = y0 <;> by_cases h1 : x1 = y1 <;> by_cases h2 : x2 = y2 <;> by_cases h3 : x3 = y3 <;> by_cases h4 : x4 = y4 <;> cases b <;> simp [h0, h1, h2, h3, h4]
theorem Yl.len {W : World} {o : Oper} {a : Act} {l : List UInt8} {x : Operand} (ho : o.op = .call { callee := .builtin .len, args := #[x], argTypes := #[9] }) (hx : a.eval x = .string ⟨l.toArray⟩) : Yl Tryz.prog o a W (VC (.int .i64 (l.length : Int))) := by
  refine .run (v := .int .i64 (l.length : Int)) ?_ rfl
  have h : (Builtin.len_ #[9] o.type #[.string ⟨l.toArray⟩]).run Tryz.prog W = .ok (.int .i64 (l.length : Int)) W := by
    have := Tryz.underlying9
    simp [Builtin.len_, run_underlying this]
    rfl
  simp [execOp, ho, resolve, invoke, builtin, hx, h, Result.andThen]
theorem run_row_0 {P : Program} {W : World} {T : TypeId} {g n c : Nat} {E : TypeId} {i : TypeInfo} (hT : P.underlying T = some (.slice E)) (hi : P.info? E = some i) (h : 0 < n) : (Instr.indexAt T (.slice (some ⟨g, 0, none⟩) n c) (.int .i64 0)).run P W = .ok (.pointer (some ⟨g, 0, none⟩)) W := by
  have e : (asIntOf (Value.int IntKind.i64 0)).run P W = .ok (.i64, 0) W := rfl
  simp [Instr.indexAt, run_underlying hT, sizeOf, typeInfo, hi, Addr.add, e, h, Result.andThen]
theorem Yl.cut {W : World} {o : Oper} {a : Act} {l m : List UInt8} {x j : Operand} {n : Nat} (ho : o.op = .slice 9 x (some (.const (.int .i64 1))) (some j) none) (hx : a.eval x = .string ⟨l.toArray⟩) (hj : a.eval j = .int .i64 (n : Int)) (h1 : 1 ≤ n) (h2 : n ≤ l.length) (he : (⟨l.toArray⟩ : ByteArray).extract 1 n = ⟨m.toArray⟩) : Yl Tryz.prog o a W (VC (.string ⟨m.toArray⟩)) := by
  refine .run (v := .string ⟨m.toArray⟩) ?_ rfl
  have hk : a.eval (.const (.int .i64 1)) = .int .i64 1 := rfl
  have q : (1 : Int) ≤ (n : Int) := by omega
  have q2 : (n : Int) ≤ (l.length : Int) := by omega
  have h : (Instr.sliceAt 9 (.string ⟨l.toArray⟩) (some (.int .i64 1)) (some (.int .i64 (n : Int))) none).run Tryz.prog W = .ok (.string ⟨m.toArray⟩) W := by
    rw [← he]
    simp [go_sem, q, q2]
  simp [execOp, ho, hx, hj, hk, h, Result.andThen]
theorem pw {P : Program} {f : FuncId} {args : Array Value} {w : World} {v : Value} (h : Calls P f args w fun e w' => e = .returned v ∧ Below w.heap.size w w') : Calls P f args w (PostW (VC v) w) :=
  h.mono fun _ _ h => ⟨_, h.1, rfl, h.2⟩
def parC (s : List UInt8) : Prop := qB (candR' s) = true ∧ nrm (candR' s) = candR' s ∧ fmtQ (candR' s) = s
theorem cut_one {s x : List UInt8} (h : cutB s = [x]) : candR' s = termsR s ⟨0, 0, 0, 0, 1⟩ := by unfold candR'; rw [h]
theorem cut_two {s a b : List UInt8} {r : List (List UInt8)} (h : cutB s = a :: b :: r) : candR' s = if 2 ≤ a.length then { termsR ((a.drop 1).dropLast) ⟨0, 0, 0, 0, 1⟩ with d := valR b } else ⟨0, 0, 0, 0, 0⟩ := by unfold candR'; rw [h]
theorem cutB_len {s : List UInt8} : ∀ x ∈ cutB s, x.length ≤ s.length := by
  have key : ∀ (l : List UInt8) (xs : List (List UInt8)) (n : Nat), xs ≠ [] → (∀ x ∈ xs, x.length ≤ n) → ∀ x ∈ l.foldl cutStep xs, x.length ≤ n + l.length := by
    intro l
    induction l with
    | nil => intro xs n _ h x hx; exact h x hx
    | cons c l ih =>
      intro xs n h0 h x hx
      have hne : cutStep xs c ≠ [] := by unfold cutStep; split <;> simp
      have := ih (cutStep xs c) (n + 1) hne (fun y hy => by
        unfold cutStep at hy
        split at hy
        · rcases List.mem_append.1 hy with hy | hy
          · have := h y hy; omega
          · rw [List.mem_singleton.1 hy]; simp
        · rcases List.mem_append.1 hy with hy | hy
          · have := h y (List.dropLast_subset _ hy); omega
          · rw [List.mem_singleton.1 hy]
            cases hg : xs.getLast? with
            | none => simp
            | some z =>
              have := h z (List.mem_of_getLast? hg)
              simp; omega) x hx
      simp; omega
  intro x hx
  have := key s [[]] 0 (by simp) (by simp) x hx
  omega
theorem cutB_ne (s : List UInt8) : cutB s ≠ [] := by
  have key : ∀ (l : List UInt8) (xs : List (List UInt8)), xs ≠ [] → l.foldl cutStep xs ≠ [] := by
    intro l
    induction l with
    | nil => intro xs h; exact h
    | cons c l ih => intro xs _; exact ih _ (by unfold cutStep; split <;> simp)
  exact key s _ (by simp)
theorem inner_str (a : List UInt8) (h : 2 ≤ a.length) : (⟨a.toArray⟩ : ByteArray).extract 1 (a.length - 1) = ⟨((a.drop 1).dropLast).toArray⟩ := by
  have e := extract_str a 1 (a.length - 2)
  rw [show 1 + (a.length - 2) = a.length - 1 by omega] at e
  rw [e, List.dropLast_eq_take, List.length_drop, show a.length - 1 - 1 = a.length - 2 by omega]
set_option maxHeartbeats 4000000 in
set_option maxRecDepth 100000 in
theorem rParse_long (s : List UInt8) (w : World) (h : 200 < s.length) :
    Calls Tryz.prog 19 #[.string ⟨s.toArray⟩] w fun e w' => e = .returned (.tuple #[qv Qt.zero, .int .i64 8]) ∧ Below w.heap.size w w' := by
  have d1 : (200 : Int) < (s.length : Int) := by omega
  go_enter Tryz.func19, Tryz.ntmps19
  go_wp2_with fail
  have hB := (Below.refl w.heap.size w).alloc (Nat.le_refl _) (.cells #[.int .i64 0, .int .i64 0, .int .i64 0, .int .i64 0, .int .i64 0] 35)
  refine bodyPost_ret (v := .tuple #[.agg #[.int .i64 0, .int .i64 0, .int .i64 0, .int .i64 0, .int .i64 0], .int .i64 8]) (by simp [results, Tryz.results19, go_sem]) rfl ?_
  exact ⟨rfl, hB⟩
set_option maxHeartbeats 4000000 in
set_option maxRecDepth 100000 in
theorem rParse_walk (s : List UInt8) (w : World) (hl : s.length ≤ 200) (c0 c1 c2 c3 c4 : Int) (hE : candR' s = ⟨c0, c1, c2, c3, c4⟩) :
    Calls Tryz.prog 19 #[.string ⟨s.toArray⟩] w fun e w' => (∃ q E, e = .returned (.tuple #[qv q, .int .i64 E]) ∧ (parC s ∧ q = candR' s ∧ E = 0 ∨ ¬ parC s ∧ q = Qt.zero ∧ E = 7)) ∧ Below w.heap.size w w' := by
  have d1 : ¬ (200 : Int) < (s.length : Int) := by omega
  have HL := Lib.hid hl
  have HE := Lib.hid hE
  have HCu := Lib.hid (fun w => Cut_any s w (by omega))
  unfold CutPost at HCu
  have HT := Lib.hid (fun (l : List UInt8) w (h : l.length ≤ 200) => terms_any l w (by omega))
  have HVl := Lib.hid (fun (l : List UInt8) w (h : l.length ≤ 200) => value_any l w (by omega))
  clear hl hE
  obtain ⟨i0, hi0, -, -, -⟩ := info_parts info_str
  go_enter Tryz.func19, Tryz.ntmps19
  go_upto_region 4 with fail
  obtain ⟨W0, e0⟩ : ∃ W0, ((w.alloc (.cells #[.int .i64 0, .int .i64 0, .int .i64 0, .int .i64 0, .int .i64 0] 35)).alloc (.cells #[.int .i64 0, .int .i64 0, .int .i64 0, .int .i64 0, .int .i64 0] 35)) = W0 := ⟨_, rfl⟩
  have HB0 := Lib.hid (show Bx w [(w.heap.size + 1, #[.int .i64 0, .int .i64 0, .int .i64 0, .int .i64 0, .int .i64 0]), (w.heap.size, #[.int .i64 0, .int .i64 0, .int .i64 0, .int .i64 0, .int .i64 0])] W0 from by rw [← e0]; simpa using (((Bx.nil (Below.refl w.heap.size w)).new #[.int .i64 0, .int .i64 0, .int .i64 0, .int .i64 0, .int .i64 0] 35).new #[.int .i64 0, .int .i64 0, .int .i64 0, .int .i64 0, .int .i64 0] 35))
  rw [e0]; clear e0
  go_wp2_with fail
  refine (HCu.out _).mono ?_
  rintro _ w1 ⟨v, rfl, hg⟩
  obtain ⟨g, cap, rfl, hgw, hgr, hcap, hcm, hcell⟩ := hg.form (cutB_ne s)
  have HB1 := Lib.hid (HB0.out.keep hg.2)
  have hlt := HB0.out.lt (List.mem_cons_self ..)
  have hgs : w.heap.size + 1 < g := by omega
  have HFr := Lib.hid (fun i => (show w1.frozen? ⟨g, i, none⟩ = false from hg.1.frozenAt i))
  have HI := Lib.hid hi0
  have HCe := Lib.hid hcell; clear hcell hg hgw HB0 hlt HCu
  obtain ⟨xs, hxs⟩ : ∃ xs, cutB s = xs := ⟨_, rfl⟩
  have HXl := Lib.hid (cutB_len (s := s))
  have hxn := cutB_ne s
  rw [hxs] at HCe HXl hxn hcap ⊢
  go_upto_if 15 with fail
  go_cut [6] (fun _ wx => Bx w [(w.heap.size + 1, #[.int .i64 c0, .int .i64 c1, .int .i64 c2, .int .i64 c3, .int .i64 c4]), (w.heap.size, #[.int .i64 0, .int .i64 0, .int .i64 0, .int .i64 0, .int .i64 0])] wx)
  case first =>
    match xs, hxs, hxn, HCe, HXl, hcap with
    | [x], hxs, _, HCe, HXl, hcap =>
      have HQ := Lib.hid ((cut_one hxs).symm.trans HE.out)
      obtain ⟨z0, z1, z2, z3, z4⟩ := HB1.out.five (List.mem_cons_self ..)
      obtain ⟨f0, f1, f2, f3, f4⟩ := HB1.out.fr (List.mem_cons_self ..)
      clear hxs hcap
      go_wp2_with fail
      refine (HT.out s _ (by have := HL.out; omega)).mono ?_
      rw [HQ.out]; unfold qv
      rintro _ w2 ⟨rfl, hb⟩
      have HB2 := Lib.hid (HB1.out.keep hb)
      clear z0 z1 z2 z3 z4 f0 f1 f2 f3 f4 hb HB1
      obtain ⟨z0, z1, z2, z3, z4⟩ := HB2.out.five (List.mem_cons_self ..)
      obtain ⟨f0, f1, f2, f3, f4⟩ := HB2.out.fr (List.mem_cons_self ..)
      obtain ⟨W9, e9, hB9, -, -, -⟩ := HB2.out.put5 (List.mem_cons_self ..) (.int .i64 c0) (.int .i64 c1) (.int .i64 c2) (.int .i64 c3) (.int .i64 c4) (L' := [(w.heap.size + 1, #[.int .i64 c0, .int .i64 c1, .int .i64 c2, .int .i64 c3, .int .i64 c4]), (w.heap.size, #[.int .i64 0, .int .i64 0, .int .i64 0, .int .i64 0, .int .i64 0])]) (fun x hx => by simp only [List.mem_cons, List.not_mem_nil, or_false] at hx ⊢; rcases hx with rfl | rfl <;> simp)
      have HB9 := Lib.hid hB9; clear hB9
      go_wp2_with fail
      try rw [e9]
      go_meet
      exact HB9.out
    | a :: b :: r, hxs, _, HCe, HXl, hcap =>
      have hq := (cut_two hxs).symm.trans HE.out
      have hal := HXl.out a (List.mem_cons_self ..)
      have hbl := HXl.out b (List.mem_cons_of_mem _ (List.mem_cons_self ..))
      obtain ⟨x0, y0⟩ := HCe.out 0 a rfl
      obtain ⟨x1, y1⟩ := HCe.out 1 b rfl
      obtain ⟨n, hn⟩ : ∃ n, (a :: b :: r).length = n := ⟨_, rfl⟩
      have hn2 : 2 ≤ n := by rw [← hn]; simp
      rw [hn] at hcap ⊢
      have HNn := Lib.hid hn; clear hn
      have e1 : ((n : Int) == 1) = false := beq_false_of_ne (by omega)
      have e2 : (0 : Int) < (n : Int) := by omega
      have e3 : (1 : Int) < (n : Int) := by omega
      have e4 : 0 < n := by omega
      have e6 : 1 < n := by omega
      have hR := HCe.out
      clear hxs
      by_cases ha : 2 ≤ a.length
      · rw [if_pos ha] at hq
        have e5 : (2 : Int) ≤ (a.length : Int) := by omega
        obtain ⟨t0, t1, t2, t3, t4, ht⟩ : ∃ t0 t1 t2 t3 t4, termsR ((a.drop 1).dropLast) ⟨0, 0, 0, 0, 1⟩ = ⟨t0, t1, t2, t3, t4⟩ := ⟨_, _, _, _, _, rfl⟩
        rw [ht] at hq
        injection hq with q0 q1 q2 q3 q4
        subst q0 q1 q2 q3 q4
        have hT2 := fun w => HT.out ((a.drop 1).dropLast) w (by have := HL.out; simp; omega)
        rw [ht] at hT2; unfold qv at hT2
        have HT2 := Lib.hid hT2; clear hT2 ht
        have HRow := Lib.hid (show Cells w1 g #[.string ⟨a.toArray⟩, .string ⟨b.toArray⟩] from ⟨hgr, fun i hi => (match i, hi with | 0, _ => x0 | 1, _ => x1), fun i => HFr.out i⟩)
        have hin := inner_str a ha
        have hw : IntKind.i64.wrap ((a.length : Int) - 1) = ((a.length - 1 : Nat) : Int) := by rw [wrap_id _ (by omega) (by have := HL.out; omega)]; omega
        go_upto_region 8 with fail
        refine wp_region_sto w.heap.size [(0, 23, .slice (some ⟨g, 0, none⟩) n cap), (1, 24, .pointer (some ⟨g, 0, none⟩)), (2, 25, .string ⟨a.toArray⟩), (3, 26, .slice (some ⟨g, 0, none⟩) n cap), (4, 27, .pointer (some ⟨g, 0, none⟩)), (5, 28, .string ⟨a.toArray⟩), (6, 29, .int .i64 (a.length : Int)), (7, 30, .int .i64 ((a.length - 1 : Nat) : Int)), (8, 31, .string ⟨((a.drop 1).dropLast).toArray⟩), (9, 32, .agg #[.int .i64 t0, .int .i64 t1, .int .i64 t2, .int .i64 t3, .int .i64 t4])] [⟨w.heap.size + 1, 10, #[.int .i64 0, .int .i64 0, .int .i64 0, .int .i64 0, .int .i64 0], #[.int .i64 t0, .int .i64 t1, .int .i64 t2, .int .i64 t3, .int .i64 t4]⟩, ⟨g, 999, #[.string ⟨a.toArray⟩, .string ⟨b.toArray⟩], #[]⟩, ⟨w.heap.size, 999, #[.int .i64 0, .int .i64 0, .int .i64 0, .int .i64 0, .int .i64 0], #[]⟩] [23, 24, 25, 26, 27, 28, 29, 30, 31, 32] HB1.out.below.size (by kernel_rfl) (by kernel_rfl) (by kernel_rfl) (fun c hc => ?_) (forall_ops ⟨?_, ?_, ?_, ?_, ?_, ?_, ?_, ?_, ?_, ?_, ?_, trivial⟩) ?_
        · simp only [List.mem_cons, List.not_mem_nil, or_false] at hc
          rcases hc with rfl | rfl | rfl
          · exact (HB1.out.own _ (List.mem_cons_self ..)).2
          · exact HRow.out
          · exact (HB1.out.own _ (List.mem_cons_of_mem _ (List.mem_cons_self ..))).2
        · exact .val rfl rfl rfl fun _ _ _ _ _ _ => .move rfl (fr_out (v := .slice (some ⟨g, 0, none⟩) n cap) (by kernel_rfl) (by kernel_rfl)) rfl
        · exact .val rfl rfl rfl fun _ _ _ _ _ hV => .indexAddr rfl (sgt hV 0 rfl) rfl (run_row_0 Tryz.underlying108 HI.out (by omega)) rfl
        · exact .val rfl rfl rfl fun _ _ _ _ hO hV => .load1 rfl (sgt hV 1 rfl) (run_load_one Tryz.underlying9 rfl ((hO _ (List.mem_cons_of_mem _ (List.mem_cons_self ..)) rfl).2.1 0 (by simp))) rfl
        · exact .val rfl rfl rfl fun _ _ _ _ _ _ => .move rfl (fr_out (v := .slice (some ⟨g, 0, none⟩) n cap) (by kernel_rfl) (by kernel_rfl)) rfl
        · exact .val rfl rfl rfl fun _ _ _ _ _ hV => .indexAddr rfl (sgt hV 3 rfl) rfl (run_row_0 Tryz.underlying108 HI.out (by omega)) rfl
        · exact .val rfl rfl rfl fun _ _ _ _ hO hV => .load1 rfl (sgt hV 4 rfl) (run_load_one Tryz.underlying9 rfl ((hO _ (List.mem_cons_of_mem _ (List.mem_cons_self ..)) rfl).2.1 0 (by simp))) rfl
        · exact .val rfl rfl rfl fun _ _ _ _ _ hV => .len rfl (sgt hV 5 rfl)
        · exact .val rfl rfl rfl fun _ _ _ _ _ hV => .binOp (r := .int .i64 1) rfl (sgt hV 6 rfl) rfl (by simp only [eqGuard]; simp [go_sem, hw]) rfl
        · exact .val rfl rfl rfl fun _ _ _ _ _ hV => .cut rfl (sgt hV 2 rfl) (sgt hV 7 rfl) (by omega) (by omega) hin
        · exact .val rfl rfl rfl fun _ W _ _ _ hV => .call Tryz.func60 (by kernel_rfl) rfl rfl rfl (map_one (sgt hV 8 rfl)) ((HT2.out W).mono fun _ _ h => ⟨_, h.1, rfl, h.2⟩)
        · exact .sto rfl rfl rfl (List.mem_cons_self ..) rfl (by show w.heap.size ≤ w.heap.size + 1; omega) (fun d hd => by simp only [List.mem_cons, List.not_mem_nil, or_false] at hd; rcases hd with rfl | rfl | rfl <;> simp <;> omega) fun y W hc hV K Q' hK => WpS.stoC (k := 0) (n := 5) rfl (fr_out (v := .pointer (some ⟨w.heap.size + 1, 0, none⟩)) (by kernel_rfl) (by kernel_rfl)) (sgt hV 9 rfl) (by kernel_rfl) hc rfl (by simp) rfl (by kernel_rfl) hK
        intro y W2 hB hO hV
        have hO0 := (hO _ (List.mem_cons_self ..)).2 (by show 10 < 11; decide)
        have hO1 := (hO _ (List.mem_cons_of_mem _ (List.mem_cons_self ..))).1 rfl
        have hO2 := (hO _ (List.mem_cons_of_mem _ (List.mem_cons_of_mem _ (List.mem_cons_self ..)))).1 rfl
        have HB2 := Lib.hid (show Bx w [(w.heap.size + 1, #[.int .i64 t0, .int .i64 t1, .int .i64 t2, .int .i64 t3, .int .i64 t4]), (w.heap.size, #[.int .i64 0, .int .i64 0, .int .i64 0, .int .i64 0, .int .i64 0])] W2 from ⟨HB1.out.below.trans (hB), fun x hx => by simp only [List.mem_cons, List.not_mem_nil, or_false] at hx; rcases hx with rfl | rfl; exact ⟨Nat.le_succ _, hO0⟩; exact ⟨Nat.le_refl _, hO2⟩⟩)
        obtain ⟨k0, k1⟩ := hO1.two
        generalize hact : fr _ _ y = act
        simp only [fr, putAll, List.foldl_cons, List.foldl_nil, List.setIfInBounds_toArray, List.set_cons_zero, List.set_cons_succ] at hact
        subst hact
        clear hB hO hV hO0 hO1 hO2
        have HVb := Lib.hid (fun w => HVl.out b w (by have := HL.out; omega))
        obtain ⟨z0, z1, z2, z3, z4⟩ := HB2.out.five (List.mem_cons_self ..)
        obtain ⟨f0, f1, f2, f3, f4⟩ := HB2.out.fr (List.mem_cons_self ..)
        go_wp2_with fail
        refine (HVb.out _).mono ?_
        rintro _ w4 ⟨rfl, hb⟩
        have HB4 := Lib.hid (HB2.out.keep hb)
        clear z0 z1 z2 z3 z4 f0 f1 f2 f3 f4 hb k0 k1 HB2
        obtain ⟨z0, z1, z2, z3, z4⟩ := HB4.out.five (List.mem_cons_self ..)
        obtain ⟨f0, f1, f2, f3, f4⟩ := HB4.out.fr (List.mem_cons_self ..)
        have HB5 := Lib.hid (HB4.out.set1 (List.mem_cons_self ..) 4 (.int .i64 (valR b)) (by simp) (vs' := #[.int .i64 t0, .int .i64 t1, .int .i64 t2, .int .i64 t3, .int .i64 (valR b)]) rfl (L' := [(w.heap.size + 1, #[.int .i64 t0, .int .i64 t1, .int .i64 t2, .int .i64 t3, .int .i64 (valR b)]), (w.heap.size, #[.int .i64 0, .int .i64 0, .int .i64 0, .int .i64 0, .int .i64 0])]) (fun x hx => by simp only [List.mem_cons, List.not_mem_nil, or_false] at hx ⊢; rcases hx with rfl | rfl <;> simp))
        go_wp2_with fail
        have hnn := HNn.out; subst hnn
        go_meet
        exact HB5.out
      · rw [if_neg ha] at hq
        injection hq with q0 q1 q2 q3 q4
        subst q0 q1 q2 q3 q4
        have e5 : ¬ (2 : Int) ≤ (a.length : Int) := by omega
        clear hR hcap
        go_wp2_with fail
        have hnn := HNn.out; subst hnn
        go_meet
        exact HB1.out
  case rest =>
    have HB := Lib.hid hcut; clear hcut
    go_upto_region 10 with fail
    have hCQ := fun w => rCheckQuat_any ⟨c0, c1, c2, c3, c4⟩ w
    by_cases hq : qB ⟨c0, c1, c2, c3, c4⟩ = true
    · rw [qE_zero.2 hq] at hCQ
      unfold qv at hCQ
      have HQ := Lib.hid hCQ
      have hN := fun w => rNormal_any ⟨c0, c1, c2, c3, c4⟩ w (fitBound_of hq) (by have := (qB_iff.1 hq).2.2.2.2; simp only at this ⊢; omega)
      by_cases hn : nrm ⟨c0, c1, c2, c3, c4⟩ = ⟨c0, c1, c2, c3, c4⟩
      · rw [hn] at hN
        unfold qv at hN
        have HN := Lib.hid hN
        have hF := fun w => rFormat_el ⟨c0, c1, c2, c3, c4⟩ w hq
        have HNe := Lib.hid (show (c0 == c0 && (c1 == c1 && (c2 == c2 && (c3 == c3 && c4 == c4)))) = !false by simp)
        obtain ⟨F, hFe⟩ : ∃ F, fmtQ ⟨c0, c1, c2, c3, c4⟩ = F := ⟨_, rfl⟩
        rw [hFe] at hF; unfold qv at hF
        have HF := Lib.hid hF
        by_cases ht : F = s
        · have HPp := Lib.hid (show parC s from by unfold parC; rw [HE.out]; exact ⟨hq, hn, hFe.trans ht⟩)
          obtain ⟨b, hb⟩ : ∃ b, b = false := ⟨_, rfl⟩
          have HBx := Lib.hid (show (F == s) = !b from by rw [hb, ht]; simp)
          clear hCQ hN hF hq hn hFe ht
          refine wp_region_val [(0, 38, VC (.agg #[.int .i64 c0, .int .i64 c1, .int .i64 c2, .int .i64 c3, .int .i64 c4])), (1, 39, VC (.int .i64 0)), (2, 40, VC (.bool false)), (3, 41, VC (.bool false)), (4, 42, VC (.agg #[.int .i64 c0, .int .i64 c1, .int .i64 c2, .int .i64 c3, .int .i64 c4])), (5, 43, VC (.agg #[.int .i64 c0, .int .i64 c1, .int .i64 c2, .int .i64 c3, .int .i64 c4])), (6, 44, VC (.agg #[.int .i64 c0, .int .i64 c1, .int .i64 c2, .int .i64 c3, .int .i64 c4])), (7, 45, VC (.bool false)), (8, 46, VC (.bool false)), (9, 47, VC (.bool false)), (10, 48, VC (.agg #[.int .i64 c0, .int .i64 c1, .int .i64 c2, .int .i64 c3, .int .i64 c4])), (11, 49, VC (.string ⟨F.toArray⟩)), (12, 50, VC (.string ⟨s.toArray⟩)), (13, 51, VC (.bool b)), (14, 52, VC (.bool b))] (fun W => Bx w [(w.heap.size + 1, #[.int .i64 c0, .int .i64 c1, .int .i64 c2, .int .i64 c3, .int .i64 c4]), (w.heap.size, #[.int .i64 0, .int .i64 0, .int .i64 0, .int .i64 0, .int .i64 0])] W) [38, 39, 40, 41, 42, 43, 44, 45, 46, 47, 48, 49, 50, 51, 52] (by kernel_rfl) (by kernel_rfl) (by kernel_rfl) ⟨Keeps.vc _, Keeps.vc _, Keeps.vc _, Keeps.vc _, Keeps.vc _, Keeps.vc _, Keeps.vc _, Keeps.vc _, Keeps.vc _, Keeps.vc _, Keeps.vc _, Keeps.vc _, Keeps.vc _, Keeps.vc _, Keeps.vc _, trivial⟩ (fun _ _ _ h hb => h.keep hb) HB.out (forall_ops ⟨?_, ?_, ?_, ?_, ?_, ?_, ?_, ?_, ?_, ?_, ?_, ?_, ?_, ?_, ?_, trivial⟩) ?_
          · exact .of rfl rfl fun _ _ _ hE _ _ => .loadAll (g := w.heap.size + 1) (vs := #[.int .i64 c0, .int .i64 c1, .int .i64 c2, .int .i64 c3, .int .i64 c4]) rfl (fr_out (v := .pointer (some ⟨w.heap.size + 1, 0, none⟩)) (by kernel_rfl) (by kernel_rfl)) (hE.own _ (List.mem_cons_self ..)).2 rfl Tryz.underlying35 rfl (by kernel_rfl) rfl
          · exact .of rfl rfl fun _ W _ _ hV _ => .call Tryz.func13 (by kernel_rfl) rfl rfl rfl (map_one ((fr_in (by kernel_rfl)).trans (hget hV 0 rfl (by kernel_rfl)))) (pw (HQ.out W))
          · exact .of rfl rfl fun _ _ _ _ hV _ => .binOp (r := .int .i64 0) rfl ((fr_in (by kernel_rfl)).trans (hget hV 1 rfl (by kernel_rfl))) rfl (by simp [go_sem, eqGuard]) rfl
          · exact .of rfl rfl fun _ _ _ _ hV _ => .move rfl ((fr_in (by kernel_rfl)).trans (hget hV 2 rfl (by kernel_rfl))) rfl
          · exact .on (b := false) rfl (by kernel_rfl) rfl rfl fun _ _ _ hE _ _ => .loadAll (g := w.heap.size + 1) (vs := #[.int .i64 c0, .int .i64 c1, .int .i64 c2, .int .i64 c3, .int .i64 c4]) rfl (fr_out (v := .pointer (some ⟨w.heap.size + 1, 0, none⟩)) (by kernel_rfl) (by kernel_rfl)) (hE.own _ (List.mem_cons_self ..)).2 rfl Tryz.underlying35 rfl (by kernel_rfl) rfl
          · exact .on (b := false) rfl (by kernel_rfl) rfl rfl fun _ W _ _ hV _ => .call Tryz.func14 (by kernel_rfl) rfl rfl rfl (map_one ((fr_in (by kernel_rfl)).trans (hget hV 4 rfl (by kernel_rfl)))) (pw (HN.out W))
          · exact .on (b := false) rfl (by kernel_rfl) rfl rfl fun _ _ _ hE _ _ => .loadAll (g := w.heap.size + 1) (vs := #[.int .i64 c0, .int .i64 c1, .int .i64 c2, .int .i64 c3, .int .i64 c4]) rfl (fr_out (v := .pointer (some ⟨w.heap.size + 1, 0, none⟩)) (by kernel_rfl) (by kernel_rfl)) (hE.own _ (List.mem_cons_self ..)).2 rfl Tryz.underlying35 rfl (by kernel_rfl) rfl
          · exact .on (b := false) rfl (by kernel_rfl) rfl rfl fun _ _ _ _ hV _ => .binOp rfl ((fr_in (by kernel_rfl)).trans (hget hV 5 rfl (by kernel_rfl))) ((fr_in (by kernel_rfl)).trans (hget hV 6 rfl (by kernel_rfl))) (neq5_run HNe.out _ _ _) rfl
          · exact .of rfl rfl fun _ _ _ _ hV _ => .pick (b := false) rfl ((fr_in (by kernel_rfl)).trans (hget hV 3 rfl (by kernel_rfl))) ((fr_in (by kernel_rfl)).trans (hget hV 7 rfl (by kernel_rfl))) rfl
          · exact .of rfl rfl fun _ _ _ _ hV _ => .move rfl ((fr_in (by kernel_rfl)).trans (hget hV 8 rfl (by kernel_rfl))) rfl
          · exact .on (b := false) rfl (by kernel_rfl) rfl rfl fun _ _ _ hE _ _ => .loadAll (g := w.heap.size + 1) (vs := #[.int .i64 c0, .int .i64 c1, .int .i64 c2, .int .i64 c3, .int .i64 c4]) rfl (fr_out (v := .pointer (some ⟨w.heap.size + 1, 0, none⟩)) (by kernel_rfl) (by kernel_rfl)) (hE.own _ (List.mem_cons_self ..)).2 rfl Tryz.underlying35 rfl (by kernel_rfl) rfl
          · exact .on (b := false) rfl (by kernel_rfl) rfl rfl fun _ W _ _ hV _ => .call Tryz.func18 (by kernel_rfl) rfl rfl rfl (map_one ((fr_in (by kernel_rfl)).trans (hget hV 10 rfl (by kernel_rfl)))) (pw (HF.out W))
          · exact .on (b := false) rfl (by kernel_rfl) rfl rfl fun _ _ _ _ _ _ => .move rfl (fr_out (v := .string ⟨s.toArray⟩) (by kernel_rfl) (by kernel_rfl)) rfl
          · exact .on (b := false) rfl (by kernel_rfl) rfl rfl fun _ _ _ _ hV _ => .binOp rfl ((fr_in (by kernel_rfl)).trans (hget hV 11 rfl (by kernel_rfl))) ((fr_in (by kernel_rfl)).trans (hget hV 12 rfl (by kernel_rfl))) (by simp [go_sem, eqGuard]; exact HBx.out) rfl
          · exact .of rfl rfl fun _ _ _ _ hV _ => .pick (b := false) rfl ((fr_in (by kernel_rfl)).trans (hget hV 9 rfl (by kernel_rfl))) ((fr_in (by kernel_rfl)).trans (hget hV 13 rfl (by kernel_rfl))) rfl
          intro y W2 _ hE2 hV
          have y52 := hend hV 14 rfl
          have HB2 := Lib.hid hE2
          generalize hact : fr _ _ y = act
          simp only [fr, putAll, List.foldl_cons, List.foldl_nil, List.setIfInBounds_toArray, List.set_cons_zero, List.set_cons_succ] at hact
          rw [show y 52 = _ from y52] at hact
          subst hact
          clear hE2 hV y52 HB
          subst hb
          obtain ⟨z0, z1, z2, z3, z4⟩ := HB2.out.five (List.mem_cons_self ..)
          obtain ⟨g0, g1, g2, g3, g4⟩ := HB2.out.five (List.mem_cons_of_mem _ (List.mem_cons_self ..))
          obtain ⟨f0, f1, f2, f3, f4⟩ := HB2.out.fr (List.mem_cons_of_mem _ (List.mem_cons_self ..))
          obtain ⟨W9, e9, hB9, -, -, r0, r1, r2, r3, r4⟩ := HB2.out.put5 (List.mem_cons_of_mem _ (List.mem_cons_self ..)) (.int .i64 c0) (.int .i64 c1) (.int .i64 c2) (.int .i64 c3) (.int .i64 c4) (L' := [(w.heap.size + 1, #[.int .i64 c0, .int .i64 c1, .int .i64 c2, .int .i64 c3, .int .i64 c4]), (w.heap.size, #[.int .i64 c0, .int .i64 c1, .int .i64 c2, .int .i64 c3, .int .i64 c4])]) (fun x hx => by simp only [List.mem_cons, List.not_mem_nil, or_false] at hx ⊢; rcases hx with rfl | rfl <;> simp)
          have HB9 := Lib.hid hB9; clear hB9
          go_wp2_with fail
          try rw [e9]
          refine bodyPost_ret (v := .tuple #[.agg #[.int .i64 c0, .int .i64 c1, .int .i64 c2, .int .i64 c3, .int .i64 c4], .int .i64 0]) (by simp [results, Tryz.results19, go_sem, r0, r1, r2, r3, r4]) rfl ?_
          exact ⟨⟨⟨c0, c1, c2, c3, c4⟩, 0, rfl, .inl ⟨HPp.out, HE.out.symm, rfl⟩⟩, HB9.out.below⟩
        · have HNp := Lib.hid (show ¬ parC s from by unfold parC; rw [HE.out]; exact fun h => ht (hFe.symm.trans h.2.2))
          obtain ⟨b, hb⟩ : ∃ b, b = true := ⟨_, rfl⟩
          have HBx := Lib.hid (show (F == s) = !b from by rw [hb]; simpa using ht)
          clear hCQ hN hF hq hn hFe ht
          refine wp_region_val [(0, 38, VC (.agg #[.int .i64 c0, .int .i64 c1, .int .i64 c2, .int .i64 c3, .int .i64 c4])), (1, 39, VC (.int .i64 0)), (2, 40, VC (.bool false)), (3, 41, VC (.bool false)), (4, 42, VC (.agg #[.int .i64 c0, .int .i64 c1, .int .i64 c2, .int .i64 c3, .int .i64 c4])), (5, 43, VC (.agg #[.int .i64 c0, .int .i64 c1, .int .i64 c2, .int .i64 c3, .int .i64 c4])), (6, 44, VC (.agg #[.int .i64 c0, .int .i64 c1, .int .i64 c2, .int .i64 c3, .int .i64 c4])), (7, 45, VC (.bool false)), (8, 46, VC (.bool false)), (9, 47, VC (.bool false)), (10, 48, VC (.agg #[.int .i64 c0, .int .i64 c1, .int .i64 c2, .int .i64 c3, .int .i64 c4])), (11, 49, VC (.string ⟨F.toArray⟩)), (12, 50, VC (.string ⟨s.toArray⟩)), (13, 51, VC (.bool b)), (14, 52, VC (.bool b))] (fun W => Bx w [(w.heap.size + 1, #[.int .i64 c0, .int .i64 c1, .int .i64 c2, .int .i64 c3, .int .i64 c4]), (w.heap.size, #[.int .i64 0, .int .i64 0, .int .i64 0, .int .i64 0, .int .i64 0])] W) [38, 39, 40, 41, 42, 43, 44, 45, 46, 47, 48, 49, 50, 51, 52] (by kernel_rfl) (by kernel_rfl) (by kernel_rfl) ⟨Keeps.vc _, Keeps.vc _, Keeps.vc _, Keeps.vc _, Keeps.vc _, Keeps.vc _, Keeps.vc _, Keeps.vc _, Keeps.vc _, Keeps.vc _, Keeps.vc _, Keeps.vc _, Keeps.vc _, Keeps.vc _, Keeps.vc _, trivial⟩ (fun _ _ _ h hb => h.keep hb) HB.out (forall_ops ⟨?_, ?_, ?_, ?_, ?_, ?_, ?_, ?_, ?_, ?_, ?_, ?_, ?_, ?_, ?_, trivial⟩) ?_
          · exact .of rfl rfl fun _ _ _ hE _ _ => .loadAll (g := w.heap.size + 1) (vs := #[.int .i64 c0, .int .i64 c1, .int .i64 c2, .int .i64 c3, .int .i64 c4]) rfl (fr_out (v := .pointer (some ⟨w.heap.size + 1, 0, none⟩)) (by kernel_rfl) (by kernel_rfl)) (hE.own _ (List.mem_cons_self ..)).2 rfl Tryz.underlying35 rfl (by kernel_rfl) rfl
          · exact .of rfl rfl fun _ W _ _ hV _ => .call Tryz.func13 (by kernel_rfl) rfl rfl rfl (map_one ((fr_in (by kernel_rfl)).trans (hget hV 0 rfl (by kernel_rfl)))) (pw (HQ.out W))
          · exact .of rfl rfl fun _ _ _ _ hV _ => .binOp (r := .int .i64 0) rfl ((fr_in (by kernel_rfl)).trans (hget hV 1 rfl (by kernel_rfl))) rfl (by simp [go_sem, eqGuard]) rfl
          · exact .of rfl rfl fun _ _ _ _ hV _ => .move rfl ((fr_in (by kernel_rfl)).trans (hget hV 2 rfl (by kernel_rfl))) rfl
          · exact .on (b := false) rfl (by kernel_rfl) rfl rfl fun _ _ _ hE _ _ => .loadAll (g := w.heap.size + 1) (vs := #[.int .i64 c0, .int .i64 c1, .int .i64 c2, .int .i64 c3, .int .i64 c4]) rfl (fr_out (v := .pointer (some ⟨w.heap.size + 1, 0, none⟩)) (by kernel_rfl) (by kernel_rfl)) (hE.own _ (List.mem_cons_self ..)).2 rfl Tryz.underlying35 rfl (by kernel_rfl) rfl
          · exact .on (b := false) rfl (by kernel_rfl) rfl rfl fun _ W _ _ hV _ => .call Tryz.func14 (by kernel_rfl) rfl rfl rfl (map_one ((fr_in (by kernel_rfl)).trans (hget hV 4 rfl (by kernel_rfl)))) (pw (HN.out W))
          · exact .on (b := false) rfl (by kernel_rfl) rfl rfl fun _ _ _ hE _ _ => .loadAll (g := w.heap.size + 1) (vs := #[.int .i64 c0, .int .i64 c1, .int .i64 c2, .int .i64 c3, .int .i64 c4]) rfl (fr_out (v := .pointer (some ⟨w.heap.size + 1, 0, none⟩)) (by kernel_rfl) (by kernel_rfl)) (hE.own _ (List.mem_cons_self ..)).2 rfl Tryz.underlying35 rfl (by kernel_rfl) rfl
          · exact .on (b := false) rfl (by kernel_rfl) rfl rfl fun _ _ _ _ hV _ => .binOp rfl ((fr_in (by kernel_rfl)).trans (hget hV 5 rfl (by kernel_rfl))) ((fr_in (by kernel_rfl)).trans (hget hV 6 rfl (by kernel_rfl))) (neq5_run HNe.out _ _ _) rfl
          · exact .of rfl rfl fun _ _ _ _ hV _ => .pick (b := false) rfl ((fr_in (by kernel_rfl)).trans (hget hV 3 rfl (by kernel_rfl))) ((fr_in (by kernel_rfl)).trans (hget hV 7 rfl (by kernel_rfl))) rfl
          · exact .of rfl rfl fun _ _ _ _ hV _ => .move rfl ((fr_in (by kernel_rfl)).trans (hget hV 8 rfl (by kernel_rfl))) rfl
          · exact .on (b := false) rfl (by kernel_rfl) rfl rfl fun _ _ _ hE _ _ => .loadAll (g := w.heap.size + 1) (vs := #[.int .i64 c0, .int .i64 c1, .int .i64 c2, .int .i64 c3, .int .i64 c4]) rfl (fr_out (v := .pointer (some ⟨w.heap.size + 1, 0, none⟩)) (by kernel_rfl) (by kernel_rfl)) (hE.own _ (List.mem_cons_self ..)).2 rfl Tryz.underlying35 rfl (by kernel_rfl) rfl
          · exact .on (b := false) rfl (by kernel_rfl) rfl rfl fun _ W _ _ hV _ => .call Tryz.func18 (by kernel_rfl) rfl rfl rfl (map_one ((fr_in (by kernel_rfl)).trans (hget hV 10 rfl (by kernel_rfl)))) (pw (HF.out W))
          · exact .on (b := false) rfl (by kernel_rfl) rfl rfl fun _ _ _ _ _ _ => .move rfl (fr_out (v := .string ⟨s.toArray⟩) (by kernel_rfl) (by kernel_rfl)) rfl
          · exact .on (b := false) rfl (by kernel_rfl) rfl rfl fun _ _ _ _ hV _ => .binOp rfl ((fr_in (by kernel_rfl)).trans (hget hV 11 rfl (by kernel_rfl))) ((fr_in (by kernel_rfl)).trans (hget hV 12 rfl (by kernel_rfl))) (by simp [go_sem, eqGuard]; exact HBx.out) rfl
          · exact .of rfl rfl fun _ _ _ _ hV _ => .pick (b := false) rfl ((fr_in (by kernel_rfl)).trans (hget hV 9 rfl (by kernel_rfl))) ((fr_in (by kernel_rfl)).trans (hget hV 13 rfl (by kernel_rfl))) rfl
          intro y W2 _ hE2 hV
          have y52 := hend hV 14 rfl
          have HB2 := Lib.hid hE2
          generalize hact : fr _ _ y = act
          simp only [fr, putAll, List.foldl_cons, List.foldl_nil, List.setIfInBounds_toArray, List.set_cons_zero, List.set_cons_succ] at hact
          rw [show y 52 = _ from y52] at hact
          subst hact
          clear hE2 hV y52 HB
          subst hb
          obtain ⟨z0, z1, z2, z3, z4⟩ := HB2.out.five (List.mem_cons_self ..)
          obtain ⟨g0, g1, g2, g3, g4⟩ := HB2.out.five (List.mem_cons_of_mem _ (List.mem_cons_self ..))
          obtain ⟨f0, f1, f2, f3, f4⟩ := HB2.out.fr (List.mem_cons_of_mem _ (List.mem_cons_self ..))
          obtain ⟨W9, e9, hB9, -, -, r0, r1, r2, r3, r4⟩ := HB2.out.put5 (List.mem_cons_of_mem _ (List.mem_cons_self ..)) (.int .i64 0) (.int .i64 0) (.int .i64 0) (.int .i64 0) (.int .i64 0) (L' := [(w.heap.size + 1, #[.int .i64 c0, .int .i64 c1, .int .i64 c2, .int .i64 c3, .int .i64 c4]), (w.heap.size, #[.int .i64 0, .int .i64 0, .int .i64 0, .int .i64 0, .int .i64 0])]) (fun x hx => by simp only [List.mem_cons, List.not_mem_nil, or_false] at hx ⊢; rcases hx with rfl | rfl <;> simp)
          have HB9 := Lib.hid hB9; clear hB9
          go_wp2_with fail
          try rw [e9]
          refine bodyPost_ret (v := .tuple #[.agg #[.int .i64 0, .int .i64 0, .int .i64 0, .int .i64 0, .int .i64 0], .int .i64 7]) (by simp [results, Tryz.results19, go_sem, r0, r1, r2, r3, r4]) rfl ?_
          exact ⟨⟨Qt.zero, 7, rfl, .inr ⟨HNp.out, rfl, rfl⟩⟩, HB9.out.below⟩
      · have HNp := Lib.hid (show ¬ parC s from by unfold parC; rw [HE.out]; exact fun h => hn h.2.1)
        obtain ⟨n0, n1, n2, n3, n4, hnn⟩ : ∃ n0 n1 n2 n3 n4, nrm ⟨c0, c1, c2, c3, c4⟩ = ⟨n0, n1, n2, n3, n4⟩ := ⟨_, _, _, _, _, rfl⟩
        rw [hnn] at hN; unfold qv at hN
        have HN := Lib.hid hN
        have HNe := Lib.hid (show (n0 == c0 && (n1 == c1 && (n2 == c2 && (n3 == c3 && n4 == c4)))) = !true by
          rw [hnn] at hn
          simp only [Bool.not_true]
          rw [← Bool.not_eq_true]
          intro h
          simp only [Bool.and_eq_true, beq_iff_eq] at h
          exact hn (by rw [h.1, h.2.1, h.2.2.1, h.2.2.2.1, h.2.2.2.2]))
        clear hCQ hN hq hn hnn
        refine wp_region_val [(0, 38, VC (.agg #[.int .i64 c0, .int .i64 c1, .int .i64 c2, .int .i64 c3, .int .i64 c4])), (1, 39, VC (.int .i64 0)), (2, 40, VC (.bool false)), (3, 41, VC (.bool false)), (4, 42, VC (.agg #[.int .i64 c0, .int .i64 c1, .int .i64 c2, .int .i64 c3, .int .i64 c4])), (5, 43, VC (.agg #[.int .i64 n0, .int .i64 n1, .int .i64 n2, .int .i64 n3, .int .i64 n4])), (6, 44, VC (.agg #[.int .i64 c0, .int .i64 c1, .int .i64 c2, .int .i64 c3, .int .i64 c4])), (7, 45, VC (.bool true)), (8, 46, VC (.bool true)), (9, 47, VC (.bool true)), (10, 48, VC undef), (11, 49, VC undef), (12, 50, VC undef), (13, 51, VC undef), (14, 52, VC (.bool true))] (fun W => Bx w [(w.heap.size + 1, #[.int .i64 c0, .int .i64 c1, .int .i64 c2, .int .i64 c3, .int .i64 c4]), (w.heap.size, #[.int .i64 0, .int .i64 0, .int .i64 0, .int .i64 0, .int .i64 0])] W) [38, 39, 40, 41, 42, 43, 44, 45, 46, 47, 48, 49, 50, 51, 52] (by kernel_rfl) (by kernel_rfl) (by kernel_rfl) ⟨Keeps.vc _, Keeps.vc _, Keeps.vc _, Keeps.vc _, Keeps.vc _, Keeps.vc _, Keeps.vc _, Keeps.vc _, Keeps.vc _, Keeps.vc _, Keeps.vc _, Keeps.vc _, Keeps.vc _, Keeps.vc _, Keeps.vc _, trivial⟩ (fun _ _ _ h hb => h.keep hb) HB.out (forall_ops ⟨?_, ?_, ?_, ?_, ?_, ?_, ?_, ?_, ?_, ?_, ?_, ?_, ?_, ?_, ?_, trivial⟩) ?_
        · exact .of rfl rfl fun _ _ _ hE _ _ => .loadAll (g := w.heap.size + 1) (vs := #[.int .i64 c0, .int .i64 c1, .int .i64 c2, .int .i64 c3, .int .i64 c4]) rfl (fr_out (v := .pointer (some ⟨w.heap.size + 1, 0, none⟩)) (by kernel_rfl) (by kernel_rfl)) (hE.own _ (List.mem_cons_self ..)).2 rfl Tryz.underlying35 rfl (by kernel_rfl) rfl
        · exact .of rfl rfl fun _ W _ _ hV _ => .call Tryz.func13 (by kernel_rfl) rfl rfl rfl (map_one ((fr_in (by kernel_rfl)).trans (hget hV 0 rfl (by kernel_rfl)))) (pw (HQ.out W))
        · exact .of rfl rfl fun _ _ _ _ hV _ => .binOp (r := .int .i64 0) rfl ((fr_in (by kernel_rfl)).trans (hget hV 1 rfl (by kernel_rfl))) rfl (by simp [go_sem, eqGuard]) rfl
        · exact .of rfl rfl fun _ _ _ _ hV _ => .move rfl ((fr_in (by kernel_rfl)).trans (hget hV 2 rfl (by kernel_rfl))) rfl
        · exact .on (b := false) rfl (by kernel_rfl) rfl rfl fun _ _ _ hE _ _ => .loadAll (g := w.heap.size + 1) (vs := #[.int .i64 c0, .int .i64 c1, .int .i64 c2, .int .i64 c3, .int .i64 c4]) rfl (fr_out (v := .pointer (some ⟨w.heap.size + 1, 0, none⟩)) (by kernel_rfl) (by kernel_rfl)) (hE.own _ (List.mem_cons_self ..)).2 rfl Tryz.underlying35 rfl (by kernel_rfl) rfl
        · exact .on (b := false) rfl (by kernel_rfl) rfl rfl fun _ W _ _ hV _ => .call Tryz.func14 (by kernel_rfl) rfl rfl rfl (map_one ((fr_in (by kernel_rfl)).trans (hget hV 4 rfl (by kernel_rfl)))) (pw (HN.out W))
        · exact .on (b := false) rfl (by kernel_rfl) rfl rfl fun _ _ _ hE _ _ => .loadAll (g := w.heap.size + 1) (vs := #[.int .i64 c0, .int .i64 c1, .int .i64 c2, .int .i64 c3, .int .i64 c4]) rfl (fr_out (v := .pointer (some ⟨w.heap.size + 1, 0, none⟩)) (by kernel_rfl) (by kernel_rfl)) (hE.own _ (List.mem_cons_self ..)).2 rfl Tryz.underlying35 rfl (by kernel_rfl) rfl
        · exact .on (b := false) rfl (by kernel_rfl) rfl rfl fun _ _ _ _ hV _ => .binOp rfl ((fr_in (by kernel_rfl)).trans (hget hV 5 rfl (by kernel_rfl))) ((fr_in (by kernel_rfl)).trans (hget hV 6 rfl (by kernel_rfl))) (neq5_run HNe.out _ _ _) rfl
        · exact .of rfl rfl fun _ _ _ _ hV _ => .pick (b := false) rfl ((fr_in (by kernel_rfl)).trans (hget hV 3 rfl (by kernel_rfl))) ((fr_in (by kernel_rfl)).trans (hget hV 7 rfl (by kernel_rfl))) rfl
        · exact .of rfl rfl fun _ _ _ _ hV _ => .move rfl ((fr_in (by kernel_rfl)).trans (hget hV 8 rfl (by kernel_rfl))) rfl
        · exact .off (b := true) rfl (by kernel_rfl) rfl rfl
        · exact .off (b := true) rfl (by kernel_rfl) rfl rfl
        · exact .off (b := true) rfl (by kernel_rfl) rfl rfl
        · exact .off (b := true) rfl (by kernel_rfl) rfl rfl
        · exact .of rfl rfl fun _ _ _ _ hV _ => .pick (b := true) rfl ((fr_in (by kernel_rfl)).trans (hget hV 9 rfl (by kernel_rfl))) rfl rfl
        intro y W2 _ hE2 hV
        have y52 := hend hV 14 rfl
        have HB2 := Lib.hid hE2
        generalize hact : fr _ _ y = act
        simp only [fr, putAll, List.foldl_cons, List.foldl_nil, List.setIfInBounds_toArray, List.set_cons_zero, List.set_cons_succ] at hact
        rw [show y 52 = _ from y52] at hact
        subst hact
        clear hE2 hV y52 HB
        obtain ⟨z0, z1, z2, z3, z4⟩ := HB2.out.five (List.mem_cons_self ..)
        obtain ⟨g0, g1, g2, g3, g4⟩ := HB2.out.five (List.mem_cons_of_mem _ (List.mem_cons_self ..))
        obtain ⟨f0, f1, f2, f3, f4⟩ := HB2.out.fr (List.mem_cons_of_mem _ (List.mem_cons_self ..))
        obtain ⟨W9, e9, hB9, -, -, r0, r1, r2, r3, r4⟩ := HB2.out.put5 (List.mem_cons_of_mem _ (List.mem_cons_self ..)) (.int .i64 0) (.int .i64 0) (.int .i64 0) (.int .i64 0) (.int .i64 0) (L' := [(w.heap.size + 1, #[.int .i64 c0, .int .i64 c1, .int .i64 c2, .int .i64 c3, .int .i64 c4]), (w.heap.size, #[.int .i64 0, .int .i64 0, .int .i64 0, .int .i64 0, .int .i64 0])]) (fun x hx => by simp only [List.mem_cons, List.not_mem_nil, or_false] at hx ⊢; rcases hx with rfl | rfl <;> simp)
        have HB9 := Lib.hid hB9; clear hB9
        go_wp2_with fail
        try rw [e9]
        refine bodyPost_ret (v := .tuple #[.agg #[.int .i64 0, .int .i64 0, .int .i64 0, .int .i64 0, .int .i64 0], .int .i64 7]) (by simp [results, Tryz.results19, go_sem, r0, r1, r2, r3, r4]) rfl ?_
        exact ⟨⟨Qt.zero, 7, rfl, .inr ⟨HNp.out, rfl, rfl⟩⟩, HB9.out.below⟩
    · have hq3 : qE ⟨c0, c1, c2, c3, c4⟩ = 3 := by unfold qE; rw [if_neg hq]
      rw [hq3] at hCQ; unfold qv at hCQ
      have HQ := Lib.hid hCQ
      have HNp := Lib.hid (show ¬ parC s from by unfold parC; rw [HE.out]; exact fun h => hq h.1)
      clear hCQ hq hq3
      refine wp_region_val [(0, 38, VC (.agg #[.int .i64 c0, .int .i64 c1, .int .i64 c2, .int .i64 c3, .int .i64 c4])), (1, 39, VC (.int .i64 3)), (2, 40, VC (.bool true)), (3, 41, VC (.bool true)), (4, 42, VC undef), (5, 43, VC undef), (6, 44, VC undef), (7, 45, VC undef), (8, 46, VC (.bool true)), (9, 47, VC (.bool true)), (10, 48, VC undef), (11, 49, VC undef), (12, 50, VC undef), (13, 51, VC undef), (14, 52, VC (.bool true))] (fun W => Bx w [(w.heap.size + 1, #[.int .i64 c0, .int .i64 c1, .int .i64 c2, .int .i64 c3, .int .i64 c4]), (w.heap.size, #[.int .i64 0, .int .i64 0, .int .i64 0, .int .i64 0, .int .i64 0])] W) [38, 39, 40, 41, 42, 43, 44, 45, 46, 47, 48, 49, 50, 51, 52] (by kernel_rfl) (by kernel_rfl) (by kernel_rfl) ⟨Keeps.vc _, Keeps.vc _, Keeps.vc _, Keeps.vc _, Keeps.vc _, Keeps.vc _, Keeps.vc _, Keeps.vc _, Keeps.vc _, Keeps.vc _, Keeps.vc _, Keeps.vc _, Keeps.vc _, Keeps.vc _, Keeps.vc _, trivial⟩ (fun _ _ _ h hb => h.keep hb) HB.out (forall_ops ⟨?_, ?_, ?_, ?_, ?_, ?_, ?_, ?_, ?_, ?_, ?_, ?_, ?_, ?_, ?_, trivial⟩) ?_
      · exact .of rfl rfl fun _ _ _ hE _ _ => .loadAll (g := w.heap.size + 1) (vs := #[.int .i64 c0, .int .i64 c1, .int .i64 c2, .int .i64 c3, .int .i64 c4]) rfl (fr_out (v := .pointer (some ⟨w.heap.size + 1, 0, none⟩)) (by kernel_rfl) (by kernel_rfl)) (hE.own _ (List.mem_cons_self ..)).2 rfl Tryz.underlying35 rfl (by kernel_rfl) rfl
      · exact .of rfl rfl fun _ W _ _ hV _ => .call Tryz.func13 (by kernel_rfl) rfl rfl rfl (map_one ((fr_in (by kernel_rfl)).trans (hget hV 0 rfl (by kernel_rfl)))) (pw (HQ.out W))
      · exact .of rfl rfl fun _ _ _ _ hV _ => .binOp (r := .int .i64 0) rfl ((fr_in (by kernel_rfl)).trans (hget hV 1 rfl (by kernel_rfl))) rfl (by simp [go_sem, eqGuard]) rfl
      · exact .of rfl rfl fun _ _ _ _ hV _ => .move rfl ((fr_in (by kernel_rfl)).trans (hget hV 2 rfl (by kernel_rfl))) rfl
      · exact .off (b := true) rfl (by kernel_rfl) rfl rfl
      · exact .off (b := true) rfl (by kernel_rfl) rfl rfl
      · exact .off (b := true) rfl (by kernel_rfl) rfl rfl
      · exact .off (b := true) rfl (by kernel_rfl) rfl rfl
      · exact .of rfl rfl fun _ _ _ _ hV _ => .pick (b := true) rfl ((fr_in (by kernel_rfl)).trans (hget hV 3 rfl (by kernel_rfl))) rfl rfl
      · exact .of rfl rfl fun _ _ _ _ hV _ => .move rfl ((fr_in (by kernel_rfl)).trans (hget hV 8 rfl (by kernel_rfl))) rfl
      · exact .off (b := true) rfl (by kernel_rfl) rfl rfl
      · exact .off (b := true) rfl (by kernel_rfl) rfl rfl
      · exact .off (b := true) rfl (by kernel_rfl) rfl rfl
      · exact .off (b := true) rfl (by kernel_rfl) rfl rfl
      · exact .of rfl rfl fun _ _ _ _ hV _ => .pick (b := true) rfl ((fr_in (by kernel_rfl)).trans (hget hV 9 rfl (by kernel_rfl))) rfl rfl
      intro y W2 _ hE2 hV
      have y52 := hend hV 14 rfl
      have HB2 := Lib.hid hE2
      generalize hact : fr _ _ y = act
      simp only [fr, putAll, List.foldl_cons, List.foldl_nil, List.setIfInBounds_toArray, List.set_cons_zero, List.set_cons_succ] at hact
      rw [show y 52 = _ from y52] at hact
      subst hact
      clear hE2 hV y52 HB
      obtain ⟨z0, z1, z2, z3, z4⟩ := HB2.out.five (List.mem_cons_self ..)
      obtain ⟨g0, g1, g2, g3, g4⟩ := HB2.out.five (List.mem_cons_of_mem _ (List.mem_cons_self ..))
      obtain ⟨f0, f1, f2, f3, f4⟩ := HB2.out.fr (List.mem_cons_of_mem _ (List.mem_cons_self ..))
      obtain ⟨W9, e9, hB9, -, -, r0, r1, r2, r3, r4⟩ := HB2.out.put5 (List.mem_cons_of_mem _ (List.mem_cons_self ..)) (.int .i64 0) (.int .i64 0) (.int .i64 0) (.int .i64 0) (.int .i64 0) (L' := [(w.heap.size + 1, #[.int .i64 c0, .int .i64 c1, .int .i64 c2, .int .i64 c3, .int .i64 c4]), (w.heap.size, #[.int .i64 0, .int .i64 0, .int .i64 0, .int .i64 0, .int .i64 0])]) (fun x hx => by simp only [List.mem_cons, List.not_mem_nil, or_false] at hx ⊢; rcases hx with rfl | rfl <;> simp)
      have HB9 := Lib.hid hB9; clear hB9
      go_wp2_with fail
      try rw [e9]
      refine bodyPost_ret (v := .tuple #[.agg #[.int .i64 0, .int .i64 0, .int .i64 0, .int .i64 0, .int .i64 0], .int .i64 7]) (by simp [results, Tryz.results19, go_sem, r0, r1, r2, r3, r4]) rfl ?_
      exact ⟨⟨Qt.zero, 7, rfl, .inr ⟨HNp.out, rfl, rfl⟩⟩, HB9.out.below⟩
end Go.Proofs.YtimdkjbmeogpoaaGreatDoor
