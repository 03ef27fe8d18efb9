/- Hurwitz quaternions in the program: the canonical quaternions of a norm. -/
import Derived.Test.YthkklilhjnpedaaGreatUHqe
import Derived.ChangeKeysEq
section
namespace Go.Proofs.YthkklilhjnpedaaGreat
open Go.RowKit FF
def TSl {α : Type} (e : El α) (T : TypeId) (l : List α) (v : Value) (W : World) : Prop := Sl e l v W ∧ ∀ b o n c, v = .slice (some ⟨b, o, none⟩) n c → ∃ cur fz, W.heap[b]? = some (.cells cur T fz)
theorem TSl.keep {α : Type} {e : El α} {T : TypeId} {l : List α} {v : Value} {W W' : World} (h : TSl e T l v W) (hb : Below W.heap.size W W') : TSl e T l v W' := ⟨h.1.keep hb, fun b o n c he => by
  obtain ⟨cur, fz, h2⟩ := h.2 b o n c he
  exact ⟨cur, fz, (hb.block b (Array.getElem?_eq_some_iff.1 h2).1).trans h2⟩⟩
theorem TSl.grown {α β : Type} {e : El α} {e' : El β} {T : TypeId} {l : List α} {v v' : Value} {w W W' : World} {rs : List (β × List Value)} (h : TSl e T l v W) (ho : Own e' w v' rs W) (hT : T ≠ e'.T) (hg : W.grownBy W' v'.ownBlock) (hB : ∀ u, ¬ e.Bad u) : TSl e T l v W' := by
  have hne : ∀ b o n c, v = .slice (some ⟨b, o, none⟩) n c → some b ≠ v'.ownBlock := fun b o n c he hb => by
    obtain ⟨cur, fz, h2⟩ := h.2 b o n c he
    rcases ho.1.2 with ⟨rfl, -⟩ | ⟨g, cap, cur', rfl, -, h3, -⟩
    · cases hb
    · have : b = g := by simpa [Value.ownBlock] using hb
      subst this
      rw [h2] at h3
      injection h3 with h3
      injection h3 with h3 h4
      exact hT h4
  have ha : Alt v'.ownBlock W W' := .grown hg
  refine ⟨?_, fun b o n c he => ?_⟩
  · obtain ⟨A, c, e0, h1, h2, h3⟩ := h.1
    refine ⟨A, c, e0, h1, h2, fun h0 => ?_⟩
    obtain ⟨b, o, e1, hlt, hcl⟩ := h3 h0
    subst e1
    refine ⟨b, o, rfl, Nat.lt_of_lt_of_le hlt ha.size, fun i z hz => ?_⟩
    obtain ⟨cs, h4, h5⟩ := hcl i z hz
    exact ⟨cs, e.alt h4 ha (fun g' _ i u _ hb => hB u hb), fun d u hd => (ha.cell hlt (hne b o _ _ e0)).trans (h5 d u hd)⟩
  · obtain ⟨cur, fz, h2⟩ := h.2 b o n c he
    exact ⟨cur, fz, (ha.block b (Array.getElem?_eq_some_iff.1 h2).1 (hne b o n c he)).trans h2⟩
theorem heap_setCells {g : Nat} {T : TypeId} : ∀ (vs : List Value) (o : Nat) (W : World), (∃ cur fz, W.heap[g]? = some (.cells cur T fz)) → ∃ cur fz, (W.setCells g o vs).heap[g]? = some (.cells cur T fz)
  | [], _, _, h => h
  | u :: r, o, W, ⟨cur, fz, h⟩ => heap_setCells r (o + 1) _ ⟨cur.setIfInBounds o u, fz, by simp only [World.setCell]; rw [Array.getElem?_modify, if_pos rfl, h]; rfl⟩
section
variable {ops : Array Oper} {rest : List Oper} {o : Oper} {a : Act} {Q : Exit → Act → World → Prop} {w W : World} {v : Value}
set_option maxRecDepth 3000 in
theorem append_hur2 {rs : List (Hw × List Value)} (hgd : o.guard = none) (s x : Operand) (t : TypeId) (ho : o.op = .call { callee := .builtin .append, args := #[s, x], argTypes := #[t, t] }) (ht : Tryz.prog.underlying t = some (.slice 58))
    (h : Own eHur w v rs W) (y : Hw) (T : TypeId) (R c : Nat) (hR : W.heap.size = R) (hs : a.eval s = v) (hx : a.eval x = .slice (some ⟨R, 0, none⟩) 1 c) (hl : rs.length ≤ 1000000)
    (K : ∀ v' W', Own eHur w v' (rs ++ [(y, hcs y)]) W' → (∀ {β : Type} (e : El β) (T : TypeId) (l : List β) (u : Value), TSl e T l u W → T ≠ 58 → (∀ u, ¬ e.Bad u) → TSl e T l u W') → wpList Tryz.prog ops Q rest (a.put o.dst v') W') : wpList Tryz.prog ops Q (o :: rest) a (W.alloc (.cells #[.int .i64 y.a, .int .i64 y.b, .int .i64 y.c, .int .i64 y.d] T)) := by
  subst hR
  obtain ⟨i0, hi, hz0, hz1, hz2⟩ := info_parts info_Hur
  have hb := (Below.refl W.heap.size W).alloc (Nat.le_refl _) (.cells #[.int .i64 y.a, .int .i64 y.b, .int .i64 y.c, .int .i64 y.d] T)
  refine wpList_plain hgd fun _ hK => ?_
  obtain ⟨v', W', hr, k1, k2⟩ := run_append_el (P := Tryz.prog) t o.type i0 ht hi hz0 hz1 hz2 (h.keep hb) (y := y) (cs := hcs y) rfl ⟨W.heap.size, 0, none⟩ c (hcs_new y W T) hl
  unfold Oper.wp execOp
  simp only [ho, resolve, invoke, builtin, Sem.run_bind, Sem.run_pure, Result.andThen_ok, List.map_toArray, List.map_cons, List.map_nil, hs, hx, hr]
  exact hK _ _ (K v' W' k1 fun e T l u hu hT hB => (hu.keep hb).grown (h.keep hb) hT k2 hB)
end
theorem compact_pair (s : Int) : Lib.compact [-s, s] = if s = 0 then [0] else [-s, s] := by
  unfold Lib.compact Lib.compactUpTo
  by_cases h : s = 0
  · subst h; rfl
  · have h1 : (s = -s) = False := eq_false (by omega)
    simp [Lib.keeps, List.range_succ, h, h1]
theorem compact2_any (s : Int) (W : World) (T : TypeId) : Calls Tryz.prog 36 #[.slice (some ⟨W.heap.size, 0, none⟩) 2 2] (W.alloc (.cells #[.int .i64 (-s), .int .i64 s] T)) fun e w' =>
    ∃ v, e = .returned v ∧ TSl eNum T (if s = 0 then [0] else [-s, s]) v w' ∧ Below W.heap.size W w' := by
  have h := Tryz.slices_Compact_int_cells W.heap.size 0 2 2 [-s, s] (W.alloc (.cells #[.int .i64 (-s), .int .i64 s] T)) (by simp) (by decide) (by omega) (fun j hj => by
    rw [Nat.zero_add, cell_new_at]
    rcases j with _ | _ | j
    · rfl
    · rfl
    · simp at hj; omega) (fun j _ => by simp [go_sem])
  rw [show List.take 2 [-s, s] = [-s, s] from rfl, compact_pair] at h
  refine h.mono ?_
  rintro e w' ⟨rfl, q, rfl⟩
  have hB : Below W.heap.size W ((W.alloc (.cells #[.int .i64 (-s), .int .i64 s] T)).drewN q) := below_drewN ((Below.refl _ _).alloc (Nat.le_refl _) _) q
  refine ⟨_, rfl, ⟨?_, fun b o n c he => ?_⟩, (only_setCells W.heap.size _ 0 _).below hB (Nat.le_refl _)⟩
  rotate_left
  · injection he with he
    injection he with he
    injection he with he
    subst he
    exact heap_setCells _ _ _ ⟨_, _, heap_alloc_new W _⟩
  have c0 : ((W.alloc (.cells #[.int .i64 (-s), .int .i64 s] T)).drewN q).cell? ⟨W.heap.size, 0, none⟩ = some (.int .i64 (-s)) := by simp [go_sem]
  have c1 : ((W.alloc (.cells #[.int .i64 (-s), .int .i64 s] T)).drewN q).cell? ⟨W.heap.size, 1, none⟩ = some (.int .i64 s) := by simp [go_sem]
  have hsz : W.heap.size < ((W.alloc (.cells #[.int .i64 (-s), .int .i64 s] T)).drewN q).heap.size := by simp [World.drewN]
  generalize (W.alloc (.cells #[.int .i64 (-s), .int .i64 s] T)).drewN q = V at *
  by_cases h0 : s = 0
  · rw [if_pos h0]
    refine ⟨_, _, rfl, by simp, by simp [maxLen], fun _ => ⟨_, _, rfl, by simpa [World.setCells, World.setCell] using hsz, fun i z hz => ⟨[.int .i64 z], rfl, fun d u hd => ?_⟩⟩⟩
    rcases i with _ | i
    · obtain rfl : 0 = z := by simpa using hz
      rcases d with _ | d
      · obtain rfl : Value.int .i64 0 = u := by simpa using hd
        simp [World.setCells, go_sem, c0]
      · simp at hd
    · simp at hz
  · rw [if_neg h0]
    refine ⟨_, _, rfl, by simp, by simp [maxLen], fun _ => ⟨_, _, rfl, by simpa [World.setCells, World.setCell] using hsz, fun i z hz => ⟨[.int .i64 z], rfl, fun d u hd => ?_⟩⟩⟩
    rcases d with _ | d
    · obtain rfl : Value.int .i64 z = u := by simpa using hd
      rcases i with _ | _ | i
      · obtain rfl : -s = z := by simpa using hz
        show World.cell? _ ⟨W.heap.size, 0, none⟩ = _
        simp [World.setCells, go_sem, c0]
      · obtain rfl : s = z := by simpa using hz
        show World.cell? _ ⟨W.heap.size, 1, none⟩ = _
        simp [World.setCells, go_sem, c1]
      · simp at hz
    · simp at hd
set_option maxRecDepth 100000 in
theorem eq4d (x0 x1 x2 x3 y0 y1 y2 y3 : Int) (w : World) : (Op.equalIn 9999 56 (.agg #[.int .i64 x0, .int .i64 x1, .int .i64 x2, .int .i64 x3]) (.agg #[.int .i64 y0, .int .i64 y1, .int .i64 y2, .int .i64 y3])).run Tryz.prog w = .ok (x0 == y0 && (x1 == y1 && (x2 == y2 && x3 == y3))) w := by
  have hp : ∀ (x0 x1 x2 x3 : Int) (w : World), (part 3 #[.int .i64 x0, .int .i64 x1, .int .i64 x2, .int .i64 x3] 0).run Tryz.prog w = .ok (.int .i64 x0) w ∧ (part 3 #[.int .i64 x0, .int .i64 x1, .int .i64 x2, .int .i64 x3] 1).run Tryz.prog w = .ok (.int .i64 x1) w ∧ (part 3 #[.int .i64 x0, .int .i64 x1, .int .i64 x2, .int .i64 x3] 2).run Tryz.prog w = .ok (.int .i64 x2) w ∧ (part 3 #[.int .i64 x0, .int .i64 x1, .int .i64 x2, .int .i64 x3] 3).run Tryz.prog w = .ok (.int .i64 x3) w := fun _ _ _ _ _ => ⟨by kernel_rfl, by kernel_rfl, by kernel_rfl, by kernel_rfl⟩
  have hi : ∀ (x y : Int) (w : World), (Op.equalIn 9998 3 (.int .i64 x) (.int .i64 y)).run Tryz.prog w = .ok (x == y) w := fun x y w => run_equalIn_int w 9997 3 .i64 .i64 x y Tryz.underlying3
  have hc : Tryz.prog.cellsOf 3 = 1 := by kernel_rfl
  obtain ⟨i0, hinfo, -⟩ := info_parts info_int
  rw [show (9999 : Nat) = 9998 + 1 from rfl, run_equalIn_array (w := w) 9998 _ _ Tryz.underlying56 hinfo, hc, show List.range 4 = [0, 1, 2, 3] from rfl]
  generalize (9998 : Nat) = dd at *
  cases h0 : (x0 == y0) <;> cases h1 : (x1 == y1) <;> cases h2 : (x2 == y2) <;> cases h3 : (x3 == y3) <;> simp [Op.eqItems, Sem.run_bind, hp, Result.andThen_ok, hi, h0, h1, h2, h3, -beq_iff_eq, -beq_eq_false_iff_ne]
theorem eqHw_dec (x y : Hw) : (x.a == y.a && (x.b == y.b && (x.c == y.c && x.d == y.d))) = decide (x = y) := by
  obtain ⟨a, b, c, d⟩ := x
  obtain ⟨e, f, g, h⟩ := y
  rw [Bool.eq_iff_iff]
  simp [Hw.mk.injEq]
set_option maxRecDepth 100000 in
theorem eqHw (x y : Hw) (w : World) : (Op.equalIn 10000 58 (hv x) (hv y)).run Tryz.prog w = .ok (decide (x = y)) w := by
  have h := run_equalIn_agg (P := Tryz.prog) w 9999 58 #[.int .i64 x.a, .int .i64 x.b, .int .i64 x.c, .int .i64 x.d] #[.int .i64 y.a, .int .i64 y.b, .int .i64 y.c, .int .i64 y.d] (by kernel_rfl) (by kernel_rfl)
  have e4 := eq4d x.a x.b x.c x.d y.a y.b y.c y.d w
  rw [eqHw_dec] at e4
  unfold hv cv
  rw [show (10000 : Nat) = 9999 + 1 from rfl, h]
  generalize (9999 : Nat) = dd at *
  simp [go_sem, e4]
  by_cases hxy : x = y <;> simp [hxy]
theorem run_eqH (X Z : Operand) (x y : Hw) (W : World) : (do eqGuard .eql 58 X Z (hv x) (hv y); Go.binOp .eql 58 (hv x) (hv y) : Sem Value).run Tryz.prog W = .ok (.bool (decide (x = y))) W := by
  have hg : (eqGuard .eql 58 X Z (hv x) (hv y)).run Tryz.prog W = .ok () W := run_eqGuard_agg W .eql 58 X Z _ _ (by kernel_rfl)
  have h := eqHw x y W
  simp only [Sem.run_bind, hg, Result.andThen_ok]
  unfold hv cv at *
  simp [Go.binOp, Op.equal, Op.maxDepth, h, Result.andThen]
end Go.Proofs.YthkklilhjnpedaaGreat
end
section
namespace Go.Proofs.YthkklilhjnpedaaGreat
open Go.RowKit FF
theorem flat_len {f : Int → List Hw} {m : Nat} : ∀ {l : List Int}, (∀ x ∈ l, (f x).length ≤ m) → (l.flatMap f).length ≤ l.length * m
  | [], _ => by simp
  | x :: l, h => by
    have h1 := h x (List.mem_cons_self ..)
    have h2 := flat_len (f := f) (m := m) (l := l) (fun y hy => h y (List.mem_cons_of_mem _ hy))
    rw [List.flatMap_cons, List.length_append, List.length_cons, Nat.succ_mul]; omega
theorem own_len {rs : List (Hw × List Value)} {acc : List Hw} {L : List Int} {f : Int → List Hw} {k N : Nat} (h : rs.map (·.1) = acc ++ (L.take k).flatMap f) (ha : acc.length ≤ 760000) (hf : ∀ s, (f s).length ≤ 1) (hk : 760000 + k ≤ N) : rs.length ≤ N := by
  have h1 := congrArg List.length h
  rw [List.length_map, List.length_append] at h1
  have h2 := flat_len (f := f) (m := 1) (l := L.take k) (fun y _ => hf y)
  rw [List.length_take] at h2
  omega
theorem upto_len (lo : Int) (n : Nat) : (upto lo n).length = n := by simp [upto]
theorem upto_flat {α : Type} (f : Int → List α) (lo : Int) (n : Nat) : (upto lo (n + 1)).flatMap f = (upto lo n).flatMap f ++ f (lo + n) := by rw [upto_succ, List.flatMap_append, List.flatMap_singleton]
theorem pair_bnd {q : Int} {L : List Int} (hL : L = if q = 0 then [0] else [-q, q]) (h0 : 0 ≤ q) (h1 : q ≤ 45) : ∀ s ∈ L, -45 ≤ s ∧ s ≤ 45 := by
  intro s hs
  rw [hL] at hs
  split at hs <;> simp at hs <;> omega
theorem pair_len {q : Int} {L : List Int} {m : Nat} (hL : L = if q = 0 then [0] else [-q, q]) (hm : m = L.length) : m ≤ 2 := by
  rw [hm, hL]; split <;> simp
theorem acc_len {acc acc2 : List Hw} {f : Int → List Hw} {lo : Int} {k B m N : Nat} (h : acc2 = acc ++ (upto lo k).flatMap f) (hf : ∀ y, (f y).length ≤ m) (ha : acc.length ≤ B) (hk : B + k * m ≤ N) : acc2.length ≤ N := by
  rw [h, List.length_append]
  have h3 := flat_len (f := f) (m := m) (l := upto lo k) (fun y _ => hf y)
  rw [upto_len] at h3
  omega
theorem Yl.loadH {a : Act} {w W : World} {o : Oper} {g : Nat} {x : Operand} {h : Hw} (hB : Below w.heap.size w W) (hC : Cells w g #[.int .i64 h.a, .int .i64 h.b, .int .i64 h.c, .int .i64 h.d]) (ho : o.op = .load 58 x) (hx : a.eval x = .pointer (some ⟨g, 0, none⟩)) : Yl Tryz.prog o a W (VC (hv h)) := by
  refine .loadL (us := hcs h) ho hx (fun d u hd => ?_) rfl Tryz.underlying58 rfl (by kernel_rfl) rfl
  rw [hB.cell (p := ⟨g, 0 + d, none⟩) hC.1, Nat.zero_add, ← hd, hC.2.1 d (by have := (List.getElem?_eq_some_iff.1 hd).1; simpa [hcs] using this)]
  rcases d with _ | _ | _ | _ | d <;> rfl
theorem ofZ_len (w x y z : Int) : (ofZ w x y z).length ≤ 2 := by
  unfold ofZ
  refine Nat.le_trans (flat_len (m := 1) (fun s _ => by split <;> simp)) ?_
  split <;> simp
theorem ofAt_len (n w x y : Int) : (ofAt n w x y).length ≤ 2 := by
  unfold ofAt
  split
  · simp
  · split
    · simp
    · exact ofZ_len ..
theorem ofX_len (n w x : Int) (h : w ≤ 45) : (ofX n w x).length ≤ 182 := by
  unfold ofX
  refine Nat.le_trans (flat_len (m := 2) (fun y _ => ofAt_len n w x y)) ?_
  rw [upto_len]; omega
theorem ofW_len (n w : Int) (h : w ≤ 45) : (ofW n w).length ≤ 16562 := by
  unfold ofW
  split
  · simp
  · refine Nat.le_trans (flat_len (m := 182) (fun x _ => ofX_len n w x h)) ?_
    rw [upto_len]; omega
theorem sq_lt {z m : Int} (h0 : 0 ≤ z) (hm : 0 ≤ m) (h : z * z < m * m) : z < m := by
  apply Classical.byContradiction
  intro hn
  have := Int.mul_le_mul (show m ≤ z by omega) (show m ≤ z by omega) hm h0
  omega
theorem sqb {z m : Int} (h : -m ≤ z ∧ z ≤ m) : 0 ≤ z * z ∧ z * z ≤ m * m := ⟨by rcases Int.le_total 0 z with h1 | h1; exact Int.mul_nonneg h1 h1; exact Int.mul_nonneg_of_nonpos_of_nonpos h1 h1, (mulb h h).2⟩
set_option maxHeartbeats 8000000 in
set_option maxRecDepth 4000 in
theorem ofNorm_any (n : Int) (w : World) (h1 : 1 ≤ n) (h2 : n ≤ 500) (hne : 0 < (ofL n).length) : Calls Tryz.prog 18 #[.int .i64 n] w (PostW (fun v W => ∃ l, l.Perm (ofL n) ∧ AscBy cmpQ l ∧ Sl eHur l v W) w) := by
  have HNE := Lib.hid hne
  obtain ⟨M, hM⟩ : ∃ M, M = sqUp 1 (4 * n + 1) 1000 0 := ⟨_, rfl⟩
  have HOf := Lib.hid (show ofL n = (upto 1 (M - 1).toNat).flatMap (ofW n) by rw [hM]; rfl)
  have HM := Lib.hid hM
  clear hM hne
  go_enter Tryz.func18, Tryz.ntmps18
  go_upto_region 3 with fail
  go_loopw [4, 13, 14, 15, 16, 17, 18, 19, 20] (fun s4 _ _ _ _ _ _ _ _ wr => ∃ (k : Nat) (z : Int), s4 = .int .i64 z ∧ sqUp 1 (4 * n + 1) k z = M ∧ z + k = 1000 ∧ 0 ≤ z ∧ z ≤ 45 ∧ w = wr) (fun s4 _ _ _ _ _ _ _ _ _ => (1000 - (intOf s4).toNat))
  case atStart => exact ⟨1000, 0, rfl, HM.out.symm, by omega, by omega, by omega, rfl⟩
  case round =>
    obtain ⟨k, z, rfl, hk, hzk, hz0, hz1, rfl⟩ := hrel
    obtain ⟨m1, m2⟩ := sqb (m := 45) (z := z) (by omega)
    by_cases hlt : z * z ≤ 4 * n
    · have hti := decide_eq_true (p := z * z ≤ 4 * n) hlt
      have hz45 := sq_lt (m := 45) hz0 (by omega) (by omega)
      obtain ⟨k', rfl⟩ : ∃ k', k = k' + 1 := ⟨k - 1, by omega⟩
      have HK := Lib.hid hk; have HLt := Lib.hid hlt
      clear hk hlt
      go_wp2_with fail
      refine ⟨⟨k', z + 1, rfl, by rw [← HK.out, sqUp_step (by have := HLt.out; omega)], by omega, by omega, by omega, trivial⟩, ?_⟩
      simp only [intOf]; omega
    · have hti := decide_eq_false (p := z * z ≤ 4 * n) hlt
      have hzM : z = M := by rw [← hk, sqUp_done (by omega)]
      clear hk hlt
      subst hzM
      have HM2 := Lib.hid (show 1 ≤ z ∧ z ≤ 45 by
        refine ⟨?_, hz1⟩
        apply Classical.byContradiction
        intro hn
        have h0 : z = 0 := by omega
        subst h0
        have := of_decide_eq_false hti
        omega)
      clear HM hzk hz0 hz1
      go_upto_region 6 with fail
      clear hti m1 m2
      go_loopw [3, 5, 6, 7, 8, 9, 11, 12, 21, 22, 23, 24, 25, 26, 27, 28, 29, 30, 31, 32, 33, 34, 35, 36, 37, 38, 39, 40, 41, 42, 43, 44, 45, 46, 47, 48, 49, 50, 51, 52, 53, 54, 55, 56, 57, 58, 59, 60, 61, 62, 63, 64, 65, 66, 67, 68, 69, 70, 71, 72, 73, 74, 75, 76, 77, 78, 79, 80, 81, 82, 83, 84, 85, 86, 87, 88, 89, 90, 91, 92, 93, 94, 95, 96, 97, 98, 99, 100, 101, 102, 103, 104, 105, 106, 107, 108, 109, 110, 111, 112, 113, 114, 115, 116, 117, 118] (fun s3 s5 _ _ _ _ _ _ _ _ _ _ _ _ _ _ _ _ _ _ _ _ _ _ _ _ _ _ _ _ _ _ _ _ _ _ _ _ _ _ _ _ _ _ _ _ _ _ _ _ _ _ _ _ _ _ _ _ _ _ _ _ _ _ _ _ _ _ _ _ _ _ _ _ _ _ _ _ _ _ _ _ _ _ _ _ _ _ _ _ _ _ _ _ _ _ _ _ _ _ _ _ _ _ _ _ wr => ∃ (i : Nat) (rs : List (Hw × List Value)), s5 = .int .i64 (1 + (i : Int)) ∧ i ≤ (z - 1).toNat ∧ rs.map (·.1) = (upto 1 i).flatMap (ofW n) ∧ Own eHur w s3 rs wr) (fun _ s5 _ _ _ _ _ _ _ _ _ _ _ _ _ _ _ _ _ _ _ _ _ _ _ _ _ _ _ _ _ _ _ _ _ _ _ _ _ _ _ _ _ _ _ _ _ _ _ _ _ _ _ _ _ _ _ _ _ _ _ _ _ _ _ _ _ _ _ _ _ _ _ _ _ _ _ _ _ _ _ _ _ _ _ _ _ _ _ _ _ _ _ _ _ _ _ _ _ _ _ _ _ _ _ _ _ => (100 - (intOf s5).toNat))
      case atStart => exact ⟨0, [], rfl, Nat.zero_le _, rfl, Own.start eHur (Below.refl _ _)⟩
      case round =>
        obtain ⟨i, rs, rfl, hil, hrs, hO⟩ := hrel
        have HO := Lib.hid hO; have HR := Lib.hid hrs
        have HLen := Lib.hid (show rs.length ≤ i * 16562 by
          have h3 := congrArg List.length hrs
          rw [List.length_map] at h3
          rw [h3]
          refine Nat.le_trans (flat_len (m := 16562) (fun x hx => ofW_len n x (by have := (mem_upto.1 hx).2; have := HM2.out; omega))) ?_
          rw [upto_len]; exact Nat.le_refl _)
        obtain ⟨u, hu⟩ : ∃ u, u = 1 + (i : Int) := ⟨_, rfl⟩
        have HU := Lib.hid hu
        have hub := HM2.out
        rw [← hu]
        have hu1 : 1 ≤ u ∧ u ≤ 45 := by omega
        obtain ⟨hu1, hu2⟩ := hu1
        obtain ⟨m1, m2⟩ := sqb (m := 45) (z := u) (by omega)
        have HIl := Lib.hid hil
        clear hO hrs hil hub
        by_cases hlt : u < z
        · have hti := decide_eq_true (p := u < z) hlt
          by_cases hun : u * u < n
          · have htj := decide_eq_true (p := u * u < n) hun
            have HW := Lib.hid (show ofW n u = [] by unfold ofW; rw [if_pos hun])
            clear hu
            go_wp2_with fail
            refine ⟨⟨i + 1, rs, by rw [HU.out]; push_cast; rw [Int.add_assoc], by have := HU.out; omega, ?_, HO.out⟩, by have := HU.out; simp only [intOf]; omega⟩
            rw [upto_flat, ← HU.out, HW.out, List.append_nil, HR.out]
          · have htj := decide_eq_false (p := u * u < n) hun
            have HW := Lib.hid (show ofW n u = (upto (-u) (2 * u + 1).toNat).flatMap (ofX n u) by unfold ofW; rw [if_neg hun])
            have HUN := Lib.hid hun
            clear hun hu
            go_upto_region 10 with fail
            clear hti htj
            obtain ⟨acc, hacc⟩ : ∃ acc, acc = (upto 1 i).flatMap (ofW n) := ⟨_, rfl⟩
            have HA := Lib.hid hacc
            have HAL := Lib.hid (show acc.length ≤ i * 16562 by have h3 := congrArg List.length HR.out; rw [List.length_map] at h3; rw [hacc, ← h3]; exact HLen.out)
            have HR0 := Lib.hid (show rs.map (·.1) = acc by rw [HR.out, hacc])
            have HO0 := HO
            clear HR HO HLen hacc
            obtain ⟨W9, hW9⟩ : ∃ W9 : World, W9 = wr := ⟨_, rfl⟩
            subst hW9
            go_loopw [3, 6, 7, 8, 9, 11, 12, 33, 34, 35, 36, 37, 38, 39, 40, 41, 42, 43, 44, 45, 46, 47, 48, 49, 50, 51, 52, 53, 54, 55, 56, 57, 58, 59, 60, 61, 62, 63, 64, 65, 66, 67, 68, 69, 70, 71, 72, 73, 74, 75, 76, 77, 78, 79, 80, 81, 82, 83, 84, 85, 86, 87, 88, 89, 90, 91, 92, 93, 94, 95, 96, 97, 98, 99, 100, 101, 102, 103, 104, 105, 106, 107, 108, 109, 110, 111, 112, 113, 114, 115, 116, 117, 118] (fun s3 s6 _ _ _ _ _ _ _ _ _ _ _ _ _ _ _ _ _ _ _ _ _ _ _ _ _ _ _ _ _ _ _ _ _ _ _ _ _ _ _ _ _ _ _ _ _ _ _ _ _ _ _ _ _ _ _ _ _ _ _ _ _ _ _ _ _ _ _ _ _ _ _ _ _ _ _ _ _ _ _ _ _ _ _ _ _ _ _ _ _ _ _ wr => ∃ (j : Nat) (rs : List (Hw × List Value)), s6 = .int .i64 (-u + (j : Int)) ∧ j ≤ (2 * u + 1).toNat ∧ rs.map (·.1) = acc ++ (upto (-u) j).flatMap (ofX n u) ∧ Own eHur w s3 rs wr) (fun _ s6 _ _ _ _ _ _ _ _ _ _ _ _ _ _ _ _ _ _ _ _ _ _ _ _ _ _ _ _ _ _ _ _ _ _ _ _ _ _ _ _ _ _ _ _ _ _ _ _ _ _ _ _ _ _ _ _ _ _ _ _ _ _ _ _ _ _ _ _ _ _ _ _ _ _ _ _ _ _ _ _ _ _ _ _ _ _ _ _ _ _ _ _ => (100 - (intOf s6 + 50).toNat))
            case atStart => exact ⟨0, rs, by simp, Nat.zero_le _, by rw [HR0.out]; simp [upto], HO0.out⟩
            case round =>
              clear HR0 HO0 rs
              obtain ⟨j, rs, rfl, hjl, hrs, hO⟩ := hrel
              have HO := Lib.hid hO; have HR := Lib.hid hrs
              obtain ⟨x, hx⟩ : ∃ x, x = -u + (j : Int) := ⟨_, rfl⟩
              have HX := Lib.hid hx
              rw [← hx]
              have hxb : -45 ≤ x ∧ x ≤ 46 := by omega
              obtain ⟨hx1, hx2⟩ := hxb
              obtain ⟨p1, p2⟩ := sqb (m := 46) (z := x) (by omega)
              have HJl := Lib.hid hjl
              clear hO hrs hjl hx
              by_cases hxu : x ≤ u
              · have hti := decide_eq_true (p := x ≤ u) hxu
                have HXU := Lib.hid hxu
                clear hxu
                go_upto_region 13 with fail
                clear hti
                obtain ⟨acc2, hacc⟩ : ∃ acc2, acc2 = acc ++ (upto (-u) j).flatMap (ofX n u) := ⟨_, rfl⟩
                have HA2 := Lib.hid hacc
                have HAL2 := Lib.hid (show acc2.length ≤ 750000 by
                  rw [hacc, List.length_append]
                  have h3 := flat_len (f := ofX n u) (m := 182) (l := upto (-u) j) (fun t _ => ofX_len n u t hu2)
                  rw [upto_len] at h3
                  have h4 := HAL.out; have h5 := HIl.out; have h6 := HM2.out; have h7 := HJl.out
                  omega)
                have HR0 := Lib.hid (show rs.map (·.1) = acc2 by rw [HR.out, hacc])
                have HO0 := HO
                clear HR HO hacc
                obtain ⟨W8, hW8⟩ : ∃ W8 : World, W8 = wr := ⟨_, rfl⟩
                subst hW8
                go_loopw [3, 7, 8, 9, 11, 12, 40, 41, 42, 43, 44, 45, 46, 47, 48, 49, 50, 51, 52, 53, 54, 55, 56, 57, 58, 59, 60, 61, 62, 63, 64, 65, 66, 67, 68, 69, 70, 71, 72, 73, 74, 75, 76, 77, 78, 79, 80, 81, 82, 83, 84, 85, 86, 87, 88, 89, 90, 91, 92, 93, 94, 95, 96, 97, 98, 99, 100, 101, 102, 103, 104, 105, 106, 107, 108, 109, 110, 111, 112, 113, 114, 115, 116, 117, 118] (fun s3 s7 _ _ _ _ _ _ _ _ _ _ _ _ _ _ _ _ _ _ _ _ _ _ _ _ _ _ _ _ _ _ _ _ _ _ _ _ _ _ _ _ _ _ _ _ _ _ _ _ _ _ _ _ _ _ _ _ _ _ _ _ _ _ _ _ _ _ _ _ _ _ _ _ _ _ _ _ _ _ _ _ _ _ _ wr => ∃ (j : Nat) (rs : List (Hw × List Value)), s7 = .int .i64 (-u + (j : Int)) ∧ j ≤ (2 * u + 1).toNat ∧ rs.map (·.1) = acc2 ++ (upto (-u) j).flatMap (ofAt n u x) ∧ Own eHur w s3 rs wr) (fun _ s7 _ _ _ _ _ _ _ _ _ _ _ _ _ _ _ _ _ _ _ _ _ _ _ _ _ _ _ _ _ _ _ _ _ _ _ _ _ _ _ _ _ _ _ _ _ _ _ _ _ _ _ _ _ _ _ _ _ _ _ _ _ _ _ _ _ _ _ _ _ _ _ _ _ _ _ _ _ _ _ _ _ _ _ _ => (100 - (intOf s7 + 50).toNat))
                case atStart => exact ⟨0, rs, by simp, Nat.zero_le _, by rw [HR0.out]; simp [upto], HO0.out⟩
                case round =>
                  clear HR0 HO0 rs
                  obtain ⟨j4, rs, rfl, hjl, hrs, hO⟩ := hrel
                  have HO := Lib.hid hO; have HR := Lib.hid hrs
                  obtain ⟨t, hy⟩ : ∃ t, t = -u + (j4 : Int) := ⟨_, rfl⟩
                  have HY := Lib.hid hy
                  rw [← hy]
                  have hyb : -45 ≤ t ∧ t ≤ 46 := by omega
                  obtain ⟨hy1, hy2⟩ := hyb
                  obtain ⟨q1, q2⟩ := sqb (m := 46) (z := t) (by omega)
                  have HJ4 := Lib.hid hjl
                  clear hO hrs hjl hy
                  by_cases hyu : t ≤ u
                  · have hti := decide_eq_true (p := t ≤ u) hyu
                    have HYU := Lib.hid hyu
                    clear hyu
                    obtain ⟨r, hr⟩ : ∃ r, r = 4 * n - u * u - x * x - t * t := ⟨_, rfl⟩
                    have HRr := Lib.hid hr
                    have hrb : -100000 ≤ r ∧ r ≤ 2000 := by omega
                    obtain ⟨hr1, hr2⟩ := hrb
                    clear hr
                    go_upto_region 16 with fail
                    rw [← HRr.out]
                    clear hti
                    rcases Decidable.em (r < 0) with c1 | c1
                    · have t1 := decide_eq_true (p := r < 0) c1
                      have HAt := Lib.hid (show ofAt n u x t = [] by unfold ofAt; rw [← HRr.out, if_pos (.inl c1)])
                      go_wp2_with fail
                      refine ⟨⟨j4 + 1, rs, by rw [HY.out]; push_cast; rw [Int.add_assoc], by have := HY.out; have := HYU.out; omega, ?_, HO.out⟩, by simp only [intOf]; omega⟩
                      rw [upto_flat, ← HY.out, HAt.out, List.append_nil, HR.out]
                    have t1 := decide_eq_false (p := r < 0) c1
                    rcases Decidable.em ((u - x).tmod 2 ≠ 0) with c2 | c2
                    · have t2 : ((u - x).tmod 2 == 0) = false := by simpa using c2
                      have t3 : ((u - x).tmod 2 != 0) = true := by simpa using c2
                      have HAt := Lib.hid (show ofAt n u x t = [] by unfold ofAt; rw [← HRr.out, if_pos (.inr (.inl c2))])
                      go_wp2_with fail
                      refine ⟨⟨j4 + 1, rs, by rw [HY.out]; push_cast; rw [Int.add_assoc], by have := HY.out; have := HYU.out; omega, ?_, HO.out⟩, by simp only [intOf]; omega⟩
                      rw [upto_flat, ← HY.out, HAt.out, List.append_nil, HR.out]
                    have c2' := Decidable.not_not.1 c2
                    rcases Decidable.em ((u - t).tmod 2 ≠ 0) with c3 | c3
                    · have t4 : ((u - t).tmod 2 == 0) = false := by simpa using c3
                      have t5 : ((u - t).tmod 2 != 0) = true := by simpa using c3
                      have HAt := Lib.hid (show ofAt n u x t = [] by unfold ofAt; rw [← HRr.out, if_pos (.inr (.inr c3))])
                      go_wp2_with fail
                      refine ⟨⟨j4 + 1, rs, by rw [HY.out]; push_cast; rw [Int.add_assoc], by have := HY.out; have := HYU.out; omega, ?_, HO.out⟩, by simp only [intOf]; omega⟩
                      rw [upto_flat, ← HY.out, HAt.out, List.append_nil, HR.out]
                    have c3' := Decidable.not_not.1 c3
                    have HAt := Lib.hid (show ofAt n u x t = if (sqUp 1 r 1000 0) * (sqUp 1 r 1000 0) ≠ r ∨ (u - sqUp 1 r 1000 0).tmod 2 ≠ 0 then [] else ofZ u x t (sqUp 1 r 1000 0) by
                      unfold ofAt; rw [← HRr.out, if_neg (fun h => h.elim c1 fun h => h.elim c2 c3)])
                    have HR0 := Lib.hid (show 0 ≤ r by omega)
                    clear c1 c2 c3
                    go_upto_region 18 with fail
                    clear t1 c2' c3'
                    obtain ⟨W7, hW7⟩ : ∃ W7 : World, W7 = wr := ⟨_, rfl⟩
                    subst hW7
                    go_loopw [9, 75, 76, 77, 78, 79, 80, 81] (fun s9 _ _ _ _ _ _ _ wr => ∃ (k : Nat) (q : Int), s9 = .int .i64 q ∧ sqUp 1 r k q = sqUp 1 r 1000 0 ∧ q + k = 1000 ∧ 0 ≤ q ∧ q ≤ 45 ∧ W7 = wr) (fun s9 _ _ _ _ _ _ _ _ => (1000 - (intOf s9).toNat))
                    case atStart => exact ⟨1000, 0, rfl, rfl, by omega, by omega, by omega, rfl⟩
                    case round =>
                      obtain ⟨k5, q, rfl, hk, hqk, hq0, hq1, rfl⟩ := hrel
                      obtain ⟨z1, z2⟩ := sqb (m := 45) (z := q) (by omega)
                      by_cases hlt : q * q < r
                      · have hti := decide_eq_true (p := q * q < r) hlt
                        have hz45 := sq_lt (m := 45) hq0 (by omega) (by omega)
                        obtain ⟨k', rfl⟩ : ∃ k', k5 = k' + 1 := ⟨k5 - 1, by omega⟩
                        have HK := Lib.hid hk; have HLt := Lib.hid hlt
                        clear hk hlt
                        go_wp2_with fail
                        refine ⟨⟨k', q + 1, rfl, by rw [← HK.out, sqUp_step (by have := HLt.out; omega)], by omega, by omega, by omega, trivial⟩, ?_⟩
                        simp only [intOf]; omega
                      · have hti := decide_eq_false (p := q * q < r) hlt
                        have hqS : sqUp 1 r 1000 0 = q := by rw [← hk, sqUp_done hlt]
                        rw [hqS] at HAt
                        clear hk hlt hqS
                        rcases Decidable.em (q * q ≠ r) with c1 | c1
                        · have t2 : (q * q == r) = false := by simpa using c1
                          have t3 : (q * q != r) = true := by simpa using c1
                          have HAt := Lib.hid (HAt.out.trans (if_pos (.inl c1)))
                          clear hqk hq0 hq1
                          go_wp2_with fail
                          refine ⟨⟨j4 + 1, rs, by rw [HY.out]; push_cast; rw [Int.add_assoc], by have := HY.out; have := HYU.out; omega, ?_, HO.out⟩, by simp only [intOf]; omega⟩
                          rw [upto_flat, ← HY.out, HAt.out, List.append_nil, HR.out]
                        have c1' := Decidable.not_not.1 c1
                        have t1 : (q * q != r) = false := by simpa using c1'
                        rcases Decidable.em ((u - q).tmod 2 ≠ 0) with c2 | c2
                        · have t2 : ((u - q).tmod 2 == 0) = false := by simpa using c2
                          have t3 : ((u - q).tmod 2 != 0) = true := by simpa using c2
                          have HAt := Lib.hid (HAt.out.trans (if_pos (.inr c2)))
                          have t4 : (q * q == r) = true := by simpa using c1'
                          go_wp2_with fail
                          refine ⟨⟨j4 + 1, rs, by rw [HY.out]; push_cast; rw [Int.add_assoc], by have := HY.out; have := HYU.out; omega, ?_, HO.out⟩, by simp only [intOf]; omega⟩
                          rw [upto_flat, ← HY.out, HAt.out, List.append_nil, HR.out]
                        have c2' := Decidable.not_not.1 c2
                        have HAt := Lib.hid (HAt.out.trans (if_neg (fun h => h.elim c1 c2)))
                        have t4 : (q * q == r) = true := by simpa using c1'
                        go_upto_region 21 with fail
                        clear c1 c1' t1 c2 c2' t4 hti hqk z1 z2
                        go_wp2_with fail
                        refine (compact2_any q W7 _).mono ?_
                        rintro e5 w5 ⟨v5, rfl, hNP, hb5⟩
                        obtain ⟨L, hL⟩ : ∃ L : List Int, L = if q = 0 then [0] else [-q, q] := ⟨_, rfl⟩
                        rw [← hL] at hNP
                        have HLq := Lib.hid (pair_bnd hL hq0 hq1)
                        obtain ⟨m, hm⟩ : ∃ m, m = L.length := ⟨_, rfl⟩
                        have HLm := Lib.hid (pair_len hL hm)
                        have HMl := Lib.hid hm
                        obtain ⟨A5, c5, rfl, hc5, hc6⟩ := hNP.1.len
                        rw [← hm] at hNP hc5 ⊢
                        obtain ⟨f, hf⟩ : ∃ f : Int → List Hw, f = fun s => if canL ⟨u, x, t, s⟩ = ⟨u, x, t, s⟩ then [⟨u, x, t, s⟩] else [] := ⟨_, rfl⟩
                        have HF := Lib.hid hf
                        have HAf := Lib.hid (show ofAt n u x t = L.flatMap f by rw [HAt.out, hL, hf]; rfl)
                        obtain ⟨acc3, hacc⟩ : ∃ acc3, acc3 = acc2 ++ (upto (-u) j4).flatMap (ofAt n u x) := ⟨_, rfl⟩
                        have HA3 := Lib.hid hacc
                        have HAL3 := Lib.hid (acc_len (N := 760000) hacc (fun y => ofAt_len n u x y) HAL2.out (by have h5 := HJ4.out; omega))
                        have HR3 := Lib.hid (show rs.map (·.1) = acc3 by rw [HR.out, hacc])
                        have HO3 := Lib.hid (HO.out.keep hb5)
                        have HNP := Lib.hid hNP
                        clear HR HO hacc HAt hL hm hf hNP hb5
                        go_upto_region 22 with fail
                        go_loopw [3, 11, 12, 100, 101, 102, 103, 104, 105, 106, 107, 108, 109, 110, 111, 112, 113, 114, 115, 116, 117, 118] (fun s3 _ _ s100 _ _ _ _ _ _ _ _ _ _ _ _ _ _ _ _ _ _ wr => ∃ (k : Nat) (rs : List (Hw × List Value)), s100 = .int .i64 (k : Int) ∧ k ≤ m ∧ rs.map (·.1) = acc3 ++ (L.take k).flatMap f ∧ TSl eNum 3 L (.slice A5 m c5) wr ∧ Own eHur w s3 rs wr) (fun _ _ _ s100 _ _ _ _ _ _ _ _ _ _ _ _ _ _ _ _ _ _ _ => (m - (intOf s100).toNat))
                        case atStart => exact ⟨0, rs, rfl, Nat.zero_le _, by rw [HR3.out]; simp, HNP.out, HO3.out⟩
                        case round =>
                          clear HR3 HO3 HNP rs
                          obtain ⟨k6, rs, rfl, hkl, hrs, hNP, hO⟩ := hrel
                          have HO := Lib.hid hO; have HR := Lib.hid hrs
                          have HNP := Lib.hid hNP
                          clear hO hrs
                          by_cases hlt : k6 < m
                          · have hti := decide_eq_true (p := ((k6 : Nat) : Int) < (m : Nat)) (by omega)
                            obtain ⟨s, hs⟩ : ∃ s, L[k6]? = some s := ⟨_, List.getElem?_eq_getElem (by have := HMl.out; omega)⟩
                            obtain ⟨b6, o6, rfl, hb6, q6⟩ := np_at hNP.1 hs
                            have HS := Lib.hid hs
                            have hsb := HLq.out s (List.mem_of_getElem? hs)
                            have HSb := Lib.hid hsb
                            clear hs hb6 hNP hkl hsb
                            go_upto_region 25 with fail
                            clear q6 hti
                            have hN := Cells.new wr #[.int .i64 u, .int .i64 x, .int .i64 t, .int .i64 s] 58 rfl
                            have hb := (Below.refl wr.heap.size wr).alloc (Nat.le_refl _) (.cells #[.int .i64 u, .int .i64 x, .int .i64 t, .int .i64 s] 58)
                            have HO6 := Lib.hid (HO.out.keep hb)
                            have HNP6 := Lib.hid (TSl.keep HNP.out hb)
                            have HN6 := Lib.hid hN
                            obtain ⟨R6, hR6⟩ : ∃ R, R = wr.heap.size := ⟨_, rfl⟩
                            obtain ⟨W6, hW6⟩ : ∃ W6, W6 = wr.alloc (.cells #[.int .i64 u, .int .i64 x, .int .i64 t, .int .i64 s] 58) := ⟨_, rfl⟩
                            rw [← hR6, ← hW6] at HN6 ⊢
                            rw [← hW6] at HO6 HNP6
                            clear hR6 hW6 hN hb HO HNP
                            have HHb := Lib.hid (show Hb 1000000 ⟨u, x, t, s⟩ from ⟨⟨by simp only; omega, by simp only; omega⟩, ⟨by simp only; omega, by simp only; omega⟩, ⟨by simp only; omega, by simp only; omega⟩, ⟨by have := HSb.out; simp only; omega, by have := HSb.out; simp only; omega⟩⟩)
                            obtain ⟨h, hh⟩ : ∃ h : Hw, h = ⟨u, x, t, s⟩ := ⟨_, rfl⟩
                            have HH := Lib.hid hh
                            have HN7 := Lib.hid (show Cells W6 R6 #[.int .i64 h.a, .int .i64 h.b, .int .i64 h.c, .int .i64 h.d] by rw [hh]; exact HN6.out)
                            rw [← hh] at HHb
                            clear hh HN6
                            refine wp_region_val [(0, 110, VC (hv h)), (1, 111, VC (hv (canL h))), (2, 112, VC (hv h)), (3, 113, VC (.bool (decide (canL h = h))))] (fun _ => True) [110, 111, 112, 113] (by kernel_rfl) (by kernel_rfl) (by kernel_rfl) ⟨Keeps.vc _, Keeps.vc _, Keeps.vc _, Keeps.vc _, trivial⟩ (fun _ _ _ _ _ => trivial) trivial (forall_ops ⟨?_, ?_, ?_, ?_, trivial⟩) ?_
                            · exact .of rfl rfl fun y W hB hE hV hU => .loadH hB HN7.out rfl (fr_out (v := (.pointer (some ⟨R6, 0, none⟩))) (by kernel_rfl) (by kernel_rfl))
                            · exact .of rfl rfl fun y W hB hE hV hU => .call Tryz.func20 (by kernel_rfl) rfl rfl rfl (map_one ((fr_in (by kernel_rfl)).trans (hget hV 0 rfl (by kernel_rfl)))) (canonical_any h _ HHb.out)
                            · exact .of rfl rfl fun y W hB hE hV hU => .loadH hB HN7.out rfl (fr_out (v := (.pointer (some ⟨R6, 0, none⟩))) (by kernel_rfl) (by kernel_rfl))
                            · exact .of rfl rfl fun y W hB hE hV hU => .binOp rfl ((fr_in (by kernel_rfl)).trans (hget hV 1 rfl (by kernel_rfl))) ((fr_in (by kernel_rfl)).trans (hget hV 2 rfl (by kernel_rfl))) (run_eqH _ _ _ _ _) rfl
                            intro y V hB hE hV
                            have eV : y 113 = _ := hend hV 3 rfl
                            have HN8 := Lib.hid (HN7.out.keep hB); have HO8 := Lib.hid (HO6.out.keep hB); have HNP8 := Lib.hid (HNP6.out.keep hB)
                            clear hB hE hV HN7 HO6 HNP6
                            generalize hact : fr _ _ y = act
                            simp only [fr, putAll, List.foldl_cons, List.foldl_nil, List.setIfInBounds_toArray, List.set_cons_zero, List.set_cons_succ, eV] at hact
                            subst hact
                            clear eV
                            have HLn := Lib.hid (own_len HR.out (N := 770000) HAL3.out (f := f) (L := L) (fun s => by rw [HF.out]; simp only; split <;> simp) (k := k6) (by have := HLm.out; omega))
                            have HTk := Lib.hid (show (L.take (k6 + 1)).flatMap f = (L.take k6).flatMap f ++ f s by rw [List.take_add_one, HS.out]; simp)
                            by_cases hc : canL h = h
                            · have td := decide_eq_true hc
                              have HFs := Lib.hid (show f s = [h] by rw [HF.out]; simp only; rw [← HH.out, if_pos hc])
                              obtain ⟨k0, k1, k2, k3⟩ := HN8.out.four
                              go_wp2_with (at_builtin; refine append_hur2 rfl (.tmp 114) (.tmp 116) 51 rfl Tryz.underlying51 HO8.out h _ V.heap.size 1 rfl rfl rfl (by have := HLn.out; omega) ?_; intro v1 w1 hg1 hk1; have HG1 := Lib.hid hg1; have HNP9 := Lib.hid (hk1 eNum 3 L _ HNP8.out (by decide) (fun _ h => h)); clear hg1 hk1)
                              refine ⟨⟨k6 + 1, _, by rw [wrap_succ hlt (by have := HLm.out; omega)], hlt, by rw [List.map_append, HR.out, HTk.out, HFs.out, List.append_assoc]; rfl, HNP9.out, HG1.out⟩, ?_⟩
                              rw [wrap_succ hlt (by have := HLm.out; omega)]; simp only [intOf]; omega
                            · have td := decide_eq_false hc
                              have HFs := Lib.hid (show f s = [] by rw [HF.out]; simp only; rw [← HH.out, if_neg hc])
                              go_wp2_with fail
                              refine ⟨⟨k6 + 1, rs, by rw [wrap_succ hlt (by have := HLm.out; omega)], hlt, by rw [HR.out, HTk.out, HFs.out, List.append_nil], HNP8.out, HO8.out⟩, ?_⟩
                              rw [wrap_succ hlt (by have := HLm.out; omega)]; simp only [intOf]; omega
                          · have hti := decide_eq_false (p := ((k6 : Nat) : Int) < (m : Nat)) (by omega)
                            have hfin : rs.map (·.1) = acc3 ++ ofAt n u x t := by rw [HR.out, HAf.out, List.take_of_length_le (by have := HMl.out; omega)]
                            have HFi := Lib.hid hfin
                            clear hfin hNP
                            go_wp2_with fail
                            refine ⟨⟨j4 + 1, rs, by rw [HY.out]; push_cast; rw [Int.add_assoc], by have := HY.out; have := HYU.out; omega, ?_, HO.out⟩, by simp only [intOf]; omega⟩
                            rw [upto_flat, ← HY.out, HFi.out, HA3.out, List.append_assoc]
                  · have hti := decide_eq_false (p := t ≤ u) hyu
                    have hfin : rs.map (·.1) = acc2 ++ ofX n u x := by
                      rw [HR.out]; unfold ofX
                      rw [show j4 = (2 * u + 1).toNat by have := HY.out; have := HJ4.out; omega]
                    have HFi := Lib.hid hfin
                    clear hfin hyu
                    go_wp2_with fail
                    refine ⟨⟨j + 1, rs, by rw [HX.out]; push_cast; rw [Int.add_assoc], by have := HX.out; have := HXU.out; omega, ?_, HO.out⟩, by simp only [intOf]; omega⟩
                    rw [upto_flat, ← HX.out, HFi.out, HA2.out, List.append_assoc]
              · have hti := decide_eq_false (p := x ≤ u) hxu
                have hfin : rs.map (·.1) = acc ++ ofW n u := by
                  rw [HR.out, HW.out]
                  rw [show j = (2 * u + 1).toNat by have := HX.out; have := HJl.out; omega]
                have HFi := Lib.hid hfin
                clear hfin hxu
                go_wp2_with fail
                refine ⟨⟨i + 1, rs, by rw [HU.out]; push_cast; rw [Int.add_assoc], by have := HU.out; omega, ?_, HO.out⟩, by have := HU.out; simp only [intOf]; omega⟩
                rw [upto_flat, ← HU.out, HFi.out, HA.out]
        · have hti := decide_eq_false (p := u < z) hlt
          have hfin : rs.map (·.1) = ofL n := by
            rw [HR.out, HOf.out, show i = (z - 1).toNat by have := HU.out; have := HIl.out; omega]
          have HFi := Lib.hid hfin
          have HLn := Lib.hid (show 0 < rs.length ∧ rs.length ≤ 1000000 by
            have h3 := congrArg List.length hfin
            rw [List.length_map] at h3
            exact ⟨by rw [h3]; exact HNE.out, by have := HLen.out; have := HIl.out; have := HM2.out; omega⟩)
          clear hfin hlt hu
          go_wp2_with fail
          refine (sort_hur 38 of_eg cmpQ swo_cmp ofLess_any HO.out HLn.out.1 HLn.out.2).mono ?_
          rintro e w' ⟨rfl, ⟨l, hp, hs, hsl⟩, hb⟩
          rw [HFi.out] at hp
          have HE := Lib.hid (And.intro hp (And.intro hs (And.intro hsl hb)))
          clear hp hs hsl hb
          go_wp2_with fail
          go_ret
          exact ⟨_, rfl, ⟨l, HE.out.1, HE.out.2.1, HE.out.2.2.1⟩, HE.out.2.2.2⟩
end Go.Proofs.YthkklilhjnpedaaGreat
end
