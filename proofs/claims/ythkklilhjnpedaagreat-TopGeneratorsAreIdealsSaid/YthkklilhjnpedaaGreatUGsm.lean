/- Polynomials: each coefficient changed (each), at its closures. -/
import Derived.Test.YthkklilhjnpedaaGreatUGsl
import Derived.Test.YthkklilhjnpedaaGreatURpt
import Derived.Laws.MakeOwn
section
namespace Go.Proofs.YthkklilhjnpedaaGreat
open Go.RowKit FF
section
variable {α : Type} {e : El α} {w W W' : World} {v : Value} {l : List α} {rs : List (α × List Value)}
theorem made_cells {z : Array Value} (hz : 0 < z.size) (N : Nat) (x : α) : (madeCells z (N * z.size)).toList = ecells (List.replicate N (x, z.toList)) := by
  have hl : ∀ y ∈ List.replicate N (x, z.toList), y.2.length = z.size := fun y hy => by rw [(List.mem_replicate.1 hy).2]; simp
  apply List.ext_getElem?
  intro i
  by_cases h : i < N * z.size
  · have h1 : i / z.size < N := (Nat.div_lt_iff_lt_mul hz).2 h
    have h2 : i % z.size < z.size := Nat.mod_lt _ hz
    have h3 : i = i / z.size * z.size + i % z.size := by rw [Nat.mul_comm]; exact (Nat.div_add_mod i z.size).symm
    have hg := ecells_get hl (i := i / z.size) (x := (x, z.toList)) (by rw [List.getElem?_replicate, if_pos h1]) h2
    rw [← h3] at hg
    rw [hg]
    simp [madeCells, h, h2]
  · rw [List.getElem?_eq_none (by simp [madeCells]; omega), List.getElem?_eq_none (by rw [ecells_length hl]; simp; omega)]
theorem Own.made {N : Nat} {x : α} (hx : ∀ W, e.E x e.z.cells.toList W) (hB : Below w.heap.size w W) (hN : N ≤ maxLen) :
    Own e w (.slice (some ⟨W.heap.size, 0, none⟩) N N) (List.replicate N (x, e.z.cells.toList)) (W.alloc (.cells (madeCells e.z.cells (N * e.n)) e.T)) := by
  have hl : ∀ y ∈ List.replicate N (x, e.z.cells.toList), y.2.length = e.n := fun y hy => by rw [(List.mem_replicate.1 hy).2]; simp [e.zn]
  have hc : (madeCells e.z.cells (N * e.n)).toList = ecells (List.replicate N (x, e.z.cells.toList)) := by rw [← e.zn]; exact made_cells (by rw [e.zn]; exact e.pos) N x
  refine ⟨⟨ecells_length hl, .inr ⟨W.heap.size, N, madeCells e.z.cells (N * e.n), by rw [List.length_replicate], hB.size, heap_alloc_new W _, by rw [List.length_replicate]; exact Nat.le_refl _, hN, by rw [size_madeCells], ?_⟩⟩, hB.alloc hB.size _, fun y hy => ?_, fun g hg => ?_⟩
  · rw [hc, List.take_of_length_le (by rw [ecells_length hl]; exact Nat.le_refl _)]
  · rw [(List.mem_replicate.1 hy).2]; exact hx _
  · have : g = W.heap.size := by simp [Value.ownBlock] at hg; exact hg.symm
    subst this
    refine Clean.cells (heap_alloc_new W _) fun u hu => ?_
    rw [hc] at hu
    obtain ⟨y, hy, huy⟩ := List.mem_flatMap.1 (show u ∈ (List.replicate N (x, e.z.cells.toList)).flatMap (·.2) from hu)
    rw [(List.mem_replicate.1 hy).2] at huy
    exact e.zg u huy
theorem run_append_els {P : Program} (t ty : TypeId) (i : TypeInfo) (ht : P.underlying t = some (.slice e.T)) (hi : P.info? e.T = some i) (hz : i.zero = some e.z)
    (hsize : i.size = e.n) (hby : i.bytes = e.bytes) (h : Own e w v rs W) {ys : List (α × List Value)} (hy : ∀ y ∈ ys, e.E y.1 y.2 W) (h0y : 0 < ys.length) (a : Addr) (c : Nat) (h0 : ∀ d u, (ecells ys)[d]? = some u → W.cell? (a.add d) = some u) (hl : rs.length + ys.length ≤ 1000000) :
    ∃ v' W', (Builtin.append_ #[t, t] ty #[v, .slice (some a) ys.length c]).run P W = .ok v' W' ∧ Own e w v' (rs ++ ys) W' ∧ W.grownBy W' v.ownBlock := by
  have hly : ∀ y ∈ ys, y.2.length = e.n := fun y h => e.len (hy y h)
  have hcl : (ecells ys).length = ys.length * e.n := ecells_length hly
  have hall : ∀ u ∈ ecells ys, u.oneCell' = true ∧ ¬ e.Bad u := fun u hu => by
    obtain ⟨y, hm, hu⟩ := List.mem_flatMap.1 (show u ∈ ys.flatMap (·.2) from hu)
    exact e.one (hy y hm) u hu
  have hone : ∀ u ∈ ecells ys, u.oneCell' = true := fun u hu => (hall u hu).1
  have hnn : ∀ u ∈ ecells ys, ¬ e.Bad u := fun u hu => (hall u hu).2
  have hzc : ∀ q, ∀ u ∈ (Builtin.zeroCells e.z.cells q).toList, ¬ e.Bad u := by
    intro q u hu
    rw [Array.mem_toList_iff] at hu
    obtain ⟨j, hj, he⟩ := Array.mem_iff_getElem.1 hu
    have hjm : j % e.z.cells.size < e.z.cells.size := Nat.mod_lt _ (by rw [e.zn]; exact e.pos)
    refine e.zg u ?_
    rw [← he, Array.mem_toList_iff]
    simp only [Builtin.zeroCells]
    have : e.z.cells.getD (j % e.z.cells.size) undef = e.z.cells[j % e.z.cells.size] := by simp [Array.getD, hjm]
    first
    | exact this ▸ Array.getElem_mem hjm
    | (simp [hjm])
  have hb3 : (rs.length + ys.length) * e.bytes ≤ 1000001 * 1000 := Nat.mul_le_mul (by omega) e.small
  have hb4 : ys.length * e.bytes ≤ 1000001 * 1000 := Nat.mul_le_mul (by omega) e.small
  obtain ⟨v', W', hr, k1, k2, -⟩ := run_append_own (P := P) W w.heap.size t ty e.T i _ e.n e.bytes ht hi hz hsize hby e.zn e.pos v rs.length _ h.1 a ys.length c (ecells ys) hcl h0 hone (by unfold maxLen; omega) (by omega) h.2.1.size
  have hk : ∀ x cs', e.E x cs' W → e.E x cs' W' := fun x cs' hx => e.alt hx (.grown k2) h.2.2.2
  refine ⟨v', W', hr, ⟨?_, Below.grown h.2.1 k2 h.2.1.size h.row_ge, fun x hx => ?_, fun g hg => ?_⟩, k2⟩
  · have e2 : ecells (rs ++ ys) = ecells rs ++ ecells ys := by simp [ecells]
    rw [List.length_append, e2]; exact k1
  · rcases List.mem_append.1 hx with hx | hx
    · exact hk _ _ (h.2.2.1 x hx)
    · exact hk _ _ (hy x hx)
  · have hxs := ecells_length h.lens
    rcases h.1.2 with ⟨rfl, hn⟩ | ⟨g', cap, cur, rfl, hbg, hg', hnc, hcm, hcs, htake⟩
    · have hr2 := run_append_nil (P := P) W t ty e.T i _ ht hi hz a ys.length c (ecells ys) (by rw [hsize, hcl]) h0 h0y (by omega) (by rw [hby]; omega)
      rw [hr] at hr2
      injection hr2 with e1 e2
      subst e1 e2
      cases hg
      refine Clean.cells (heap_alloc_new W.drew _) fun u hu => ?_
      rw [Array.toList_append] at hu
      rcases List.mem_append.1 hu with h1 | h1
      · exact hnn u h1
      · exact hzc _ u h1
    · by_cases hroom : rs.length + ys.length ≤ cap
      · have hr2 := run_append_room (P := P) W t ty e.T i ht hi g' rs.length cap cur hg' a ys.length c (ecells ys) (by rw [hsize, hcl]) h0 hone hroom (by
          rw [hsize, hcs, hcl]
          have := Nat.mul_le_mul_right e.n hroom
          rw [Nat.add_mul] at this; exact this)
        rw [hr] at hr2
        injection hr2 with e1 e2
        subst e1 e2
        cases hg
        have hold := Clean.row hg' (h.2.2.2 g' rfl)
        refine Clean.cells (setRow_heap W g' cur _ e.T _ hg') fun u hu => ?_
        rcases List.mem_append.1 hu with h1 | h1
        · rcases List.mem_append.1 h1 with h2 | h2
          · exact hold u (List.mem_of_mem_take h2)
          · exact hnn u h2
        · exact hold u (List.mem_of_mem_drop h1)
      · have holds : ∀ j u, (ecells rs)[j]? = some u → W.cell? ((⟨g', 0, none⟩ : Addr).add j) = some u := h.1.cells (g := g') rfl
        have hr2 := run_append_grow (P := P) W t ty e.T i _ ht hi hz ⟨g', 0, none⟩ rs.length cap (ecells rs) (by rw [hsize]; exact hxs) holds a ys.length c (ecells ys) (by rw [hsize, hcl]) h0 (by omega) (by omega) (growslice_fits (by omega) (by rw [hby]; omega))
        rw [hr] at hr2
        injection hr2 with e1 e2
        subst e1 e2
        cases hg
        refine Clean.cells (heap_alloc_new W.drew _) fun u hu => ?_
        rw [Array.toList_append, Array.toList_append] at hu
        rcases List.mem_append.1 hu with h1 | h1
        · rcases List.mem_append.1 h1 with h2 | h2
          · obtain ⟨x, hx, hux⟩ := List.mem_flatMap.1 (show u ∈ rs.flatMap (·.2) from h2)
            exact (e.one (h.2.2.1 x hx) u hux).2
          · exact hnn u h2
        · exact hzc _ u h1
theorem wpList_append_els {P : Program} {ops : Array Oper} {rest : List Oper} {o : Oper} {a : Act} {Q : Exit → Act → World → Prop} (hgd : o.guard = none) (s x : Operand) (t : TypeId)
    (ho : o.op = .call { callee := .builtin .append, args := #[s, x], argTypes := #[t, t] }) (i : TypeInfo)
    (ht : P.underlying t = some (.slice e.T)) (hi : P.info? e.T = some i) (hz : i.zero = some e.z) (hsize : i.size = e.n) (hby : i.bytes = e.bytes)
    (h : Own e w v rs W) {ys : List (α × List Value)} (hy : ∀ y ∈ ys, e.E y.1 y.2 W) (h0y : 0 < ys.length) (ad : Addr) (n c : Nat) (hn : n = ys.length) (hs : a.eval s = v) (hx : a.eval x = .slice (some ad) n c)
    (h0 : ∀ d u, (ecells ys)[d]? = some u → W.cell? (ad.add d) = some u) (hl : rs.length + ys.length ≤ 1000000)
    (K : ∀ v' W', Own e w v' (rs ++ ys) W' → wpList P ops Q rest (a.put o.dst v') W') : wpList P ops Q (o :: rest) a W := by
  subst hn
  refine wpList_plain hgd fun _ hK => ?_
  obtain ⟨v', W', hr, k1, -⟩ := run_append_els (P := P) t o.type i ht hi hz hsize hby h hy h0y ad c h0 hl
  unfold Oper.wp execOp
  simp only [ho, resolve, invoke, builtin, Sem.run_bind, Sem.run_pure, Result.andThen_ok, List.map_toArray, List.map_cons, List.map_nil, hs, hx, hr]
  exact hK _ _ (K v' W' k1)
theorem Sl.list {A : Option Addr} {n c : Nat} (h : Sl e l (.slice A n c) W) : ∃ ys : List (α × List Value), ys.map (·.1) = l ∧ (∀ y ∈ ys, e.E y.1 y.2 W) ∧ ∀ b o, A = some ⟨b, o, none⟩ → ∀ d u, (ecells ys)[d]? = some u → W.cell? ⟨b, o + d, none⟩ = some u := by
  obtain ⟨A0, c0, e1, h1, h2, h3⟩ := h
  injection e1 with e3 e4 e5
  rcases Nat.eq_zero_or_pos l.length with h0 | h0
  · have : l = [] := List.eq_nil_of_length_eq_zero h0
    subst this
    exact ⟨[], rfl, (fun y hy => by cases hy), (fun _ _ _ d u hd => by simp [ecells] at hd)⟩
  · obtain ⟨b, o, e2, hlt, hc⟩ := h3 h0
    have hex : ∀ i : Fin l.length, ∃ cs, e.E l[i] cs W ∧ ∀ d u, cs[d]? = some u → W.cell? ⟨b, o + i * e.n + d, none⟩ = some u := fun i => hc i l[i] (List.getElem?_eq_getElem i.2)
    let ys := List.ofFn fun i : Fin l.length => (l[i], Classical.choose (hex i))
    have hys : ∀ i (h : i < l.length), ys[i]? = some (l[i], Classical.choose (hex ⟨i, h⟩)) := fun i h => by simp [ys, h]
    have hlen : ys.length = l.length := by simp [ys]
    have hE : ∀ y ∈ ys, e.E y.1 y.2 W := fun y hy => by
      obtain ⟨i, hi⟩ := List.mem_iff_getElem?.1 hy
      have hil : i < l.length := by rw [← hlen]; exact (List.getElem?_eq_some_iff.1 hi).1
      rw [hys i hil] at hi
      injection hi with hi
      subst hi
      exact (Classical.choose_spec (hex ⟨i, hil⟩)).1
    have hl : ∀ y ∈ ys, y.2.length = e.n := fun y hy => e.len (hE y hy)
    refine ⟨ys, ?_, hE, fun b' o' eb d u hd => ?_⟩
    · apply List.ext_getElem (by simp [hlen])
      intro i h1 h2
      simp [ys]
    · rw [e3, e2] at eb
      injection eb with eb
      injection eb with eb1 eb2
      subst eb1 eb2
      have hdl : d < l.length * e.n := by
        have := (List.getElem?_eq_some_iff.1 hd).1
        rwa [ecells_length hl, hlen] at this
      have h4 : d / e.n < l.length := (Nat.div_lt_iff_lt_mul e.pos).2 hdl
      have h5 : d % e.n < e.n := Nat.mod_lt _ e.pos
      have h6 : d = d / e.n * e.n + d % e.n := by rw [Nat.mul_comm]; exact (Nat.div_add_mod d e.n).symm
      rw [h6, ecells_get hl (hys _ h4) h5] at hd
      have := (Classical.choose_spec (hex ⟨d / e.n, h4⟩)).2 _ u hd
      rw [h6]
      simpa [Nat.add_assoc] using this
theorem Own.empty (e : El α) (hB : Below w.heap.size w W) : Own e w (.slice (some ⟨W.heap.size, 0, none⟩) 0 0) [] (W.alloc (.cells #[] e.T)) :=
  ⟨⟨by simp [ecells], .inr ⟨W.heap.size, 0, #[], rfl, hB.size, heap_alloc_new W _, Nat.le_refl _, Nat.zero_le _, by simp, by simp [ecells]⟩⟩, hB.alloc hB.size _, (fun x hx => by cases hx), fun g hg => by
    have : g = W.heap.size := by simp [Value.ownBlock] at hg; exact hg.symm
    subst this
    exact Clean.cells (heap_alloc_new W _) fun u hu => by simp at hu⟩
theorem Own.mono {w2 : World} (h : Own e w2 v rs W) (hb : Below w.heap.size w w2) : Own e w v rs W := by
  refine ⟨⟨h.1.1, ?_⟩, hb.trans (h.2.1.mono hb.size), h.2.2⟩
  rcases h.1.2 with h0 | ⟨g, cap, cur, h1, h2, h3⟩
  · exact .inl h0
  · exact .inr ⟨g, cap, cur, h1, Nat.le_trans hb.size h2, h3⟩
end
theorem Sl.drop {α : Type} {e : El α} {l : List α} {P : Program} {t : TypeId} {i : TypeInfo} {A : Option Addr} {n c k : Nat} (ht : P.underlying t = some (.slice e.T)) (hi : P.info? e.T = some i) (hs : i.size = e.n) (hn : n = l.length) (hk : k ≤ n) (hc : n ≤ c) (hm : c ≤ maxLen) :
    ∃ A1, (∀ W, (Instr.sliceAt t (.slice A n c) (some (.int .i64 (k : Int))) none none).run P W = .ok (.slice A1 (n - k) (c - k)) W) ∧ ∀ W, Sl e l (.slice A n c) W → Sl e (l.drop k) (.slice A1 (n - k) (c - k)) W := by
  refine ⟨if c = k then A else A.map (·.add (k * e.n)), fun W => ?_, fun W h => ?_⟩
  · have e1 : (asIntOf (Value.int IntKind.i64 (k : Int))).run P W = .ok (.i64, (k : Int)) W := rfl
    have hk' : (k : Int) ≤ (n : Int) := by omega
    simp [Instr.sliceAt, Instr.slice, Instr.sliceBounds, Instr.sliceBound, run_underlying ht, sizeOf, typeInfo, hi, hs, e1, hk', Result.andThen]
  · obtain ⟨A0, c0, e1, h1, h2, h3⟩ := h
    injection e1 with e3 e4 e5
    subst hn e3 e5
    refine ⟨_, _, by rw [List.length_drop], by rw [List.length_drop]; omega, by omega, fun h0 => ?_⟩
    rw [List.length_drop] at h0
    obtain ⟨b, o, e2, hlt, hcl⟩ := h3 (by omega)
    refine ⟨b, o + k * e.n, by rw [if_neg (by omega), e2, Option.map_some, Addr.add_lit], hlt, fun j z hz => ?_⟩
    rw [List.getElem?_drop] at hz
    obtain ⟨cs, h4, h5⟩ := hcl _ z hz
    refine ⟨cs, h4, fun d u hd => ?_⟩
    rw [show o + k * e.n + j * e.n + d = o + (k + j) * e.n + d by rw [Nat.add_mul]; omega]
    exact h5 d u hd
def Off (g : Nat) (v : Value) : Prop := ∀ b o n c, v = .slice (some ⟨b, o, none⟩) n c → b ≠ g
theorem Sl.other {α : Type} {e : El α} {l : List α} {v : Value} {W W' : World} {g : Nat} (h : Sl e l v W) (ha : Alt (some g) W W') (hc : Clean e.Bad W g) (ho : Off g v) : Sl e l v W' := by
  obtain ⟨A, c, e0, h1, h2, h3⟩ := h
  refine ⟨A, c, e0, h1, h2, fun h0 => ?_⟩
  obtain ⟨b, o, e1, hlt, hcl⟩ := h3 h0
  subst e1
  have hne : some b ≠ some g := fun er => ho b o _ c e0 (Option.some.inj er)
  refine ⟨b, o, rfl, Nat.lt_of_lt_of_le hlt ha.size, fun i z hz => ?_⟩
  obtain ⟨cs, h4, h5⟩ := hcl i z hz
  exact ⟨cs, e.alt h4 ha (fun g' hg' i u hu hb => by injection hg' with hg'; subst hg'; exact hc i u hu hb), fun d u hd => (ha.cell hlt hne).trans (h5 d u hd)⟩
theorem Alt.trans {g : Nat} {W W' W2 : World} (h : Alt (some g) W W') (h' : Alt (some g) W' W2) : Alt (some g) W W2 := ⟨Nat.le_trans h.size h'.size, fun b hb hn => (h'.block b (Nat.lt_of_lt_of_le hb h.size) hn).trans (h.block b hb hn)⟩
theorem OwnV.off {α : Type} {e : El α} {l : List α} {v : Value} {w W : World} {g : Nat} (h : OwnV e w l v W) (hg : g < w.heap.size) : Off g v := by
  obtain ⟨rs, h, -⟩ := h
  rintro b o n c rfl rfl
  have := h.row_ge b rfl
  omega
theorem OwnV.mono {α : Type} {e : El α} {l : List α} {v : Value} {w w2 W : World} (h : OwnV e w2 l v W) (hb : Below w.heap.size w w2) : OwnV e w l v W := by
  obtain ⟨rs, h1, h2⟩ := h
  exact ⟨rs, h1.mono hb, h2⟩
theorem Sl.off {α : Type} {e : El α} {l : List α} {v : Value} {W : World} {g : Nat} (h : Sl e l v W) (hg : W.heap.size ≤ g) (h0 : 0 < l.length) : Off g v := by
  obtain ⟨A, c, e0, h1, h2, h3⟩ := h
  obtain ⟨b, o, e1, hlt, -⟩ := h3 h0
  rintro b' o' n' c' e2 rfl
  rw [e0, e1] at e2
  injection e2 with e2
  injection e2 with e2
  injection e2 with e2
  omega
theorem wpList_append_el2 {α : Type} {e : El α} {w W : World} {v : Value} {rs : List (α × List Value)} {P : Program} {ops : Array Oper} {rest : List Oper} {o : Oper} {a : Act} {Q : Exit → Act → World → Prop} (hgd : o.guard = none) (s x : Operand) (t : TypeId)
    (ho : o.op = .call { callee := .builtin .append, args := #[s, x], argTypes := #[t, t] }) (i : TypeInfo)
    (ht : P.underlying t = some (.slice e.T)) (hi : P.info? e.T = some i) (hz : i.zero = some e.z) (hsize : i.size = e.n) (hby : i.bytes = e.bytes)
    (h : Own e w v rs W) {y : α} {cs : List Value} (hy : e.E y cs W) (ad : Addr) (c : Nat) (hs : a.eval s = v) (hx : a.eval x = .slice (some ad) 1 c)
    (h0 : ∀ d u, cs[d]? = some u → W.cell? (ad.add d) = some u) (hl : rs.length ≤ 1000000)
    (K : ∀ v' W', Own e w v' (rs ++ [(y, cs)]) W' → (∀ x cs', e.E x cs' W → e.E x cs' W') → wpList P ops Q rest (a.put o.dst v') W') : wpList P ops Q (o :: rest) a W := by
  refine wpList_plain hgd fun _ hK => ?_
  obtain ⟨v', W', hr, k1, k2⟩ := run_append_el (P := P) t o.type i ht hi hz hsize hby h hy ad c h0 hl
  unfold Oper.wp execOp
  simp only [ho, resolve, invoke, builtin, Sem.run_bind, Sem.run_pure, Result.andThen_ok, List.map_toArray, List.map_cons, List.map_nil, hs, hx, hr]
  exact hK _ _ (K v' W' k1 (fun x cs' hx => e.alt hx (.grown k2) h.2.2.2))
theorem ic_zero_all (W : World) : eInt.E 0 eInt.z.cells.toList W := ⟨_, _, rfl, ic_zero W⟩
theorem intp_make (t : TypeId) (ht : Tryz.prog.underlying t = some (.slice 47)) (N : Nat) (hN : N ≤ 1000000) (W : World) : (Instr.makeSlice t (.int .i64 (N : Int)) (.int .i64 (N : Int))).run Tryz.prog W =
    .ok (.slice (some ⟨W.heap.size, 0, none⟩) N N) (W.alloc (.cells (madeCells #[.bool false, .slice none 0 0] (N * 2)) 47)) := by
  obtain ⟨i0, hi, hz0, hz1, hz2⟩ := info_parts info_Int
  have := run_make (P := Tryz.prog) W t _ i0 _ ht hi hz0 .i64 .i64 N N (by omega) (Int.le_refl _) (by rw [hz2]; omega) (by omega)
  rw [this, hz1]; rfl
theorem Own.made_int {w W : World} {N : Nat} (hB : Below w.heap.size w W) (hN : N ≤ 1000000) : Own eInt w (.slice (some ⟨W.heap.size, 0, none⟩) N N) (List.replicate N (0, [.bool false, .slice none 0 0])) (W.alloc (.cells (madeCells #[.bool false, .slice none 0 0] (N * 2)) 47)) :=
  Own.made (e := eInt) (x := 0) ic_zero_all hB (by unfold maxLen; omega)
theorem normal_own {v : Value} {l : List Int} {k : Nat} {w : World} (hv : VP l v w) (hk : ∀ x ∈ l, Wn k x) (hk4 : k ≤ 300) (hl : l.length ≤ 1000000) : Calls Tryz.prog 84 #[v] w (PostW (OwnV eInt w (stripZ l)) w) := by
  refine (normal_any hv hk hk4 hl).mono ?_
  rintro e w' ⟨r, rfl, ⟨rs, h1, h2⟩, hb⟩
  exact ⟨r, rfl, h1.ownV h2, hb⟩
theorem calls_vp {f : FuncId} {args : Array Value} {l : List Int} {w : World} (h : Calls Tryz.prog f args w (PostW (OwnV eInt w l) w)) : Calls Tryz.prog f args w (PostW (VP l) w) :=
  h.mono fun _ _ ⟨r, h1, h2, h3⟩ => ⟨r, h1, h2.sl.vp, h3⟩
theorem normal_vp {v : Value} {l : List Int} {k : Nat} {w : World} (hv : VP l v w) (hk : ∀ x ∈ l, Wn k x) (hk4 : k ≤ 300) (hl : l.length ≤ 1000000) : Calls Tryz.prog 84 #[v] w (PostW (VP (stripZ l)) w) := calls_vp (normal_own hv hk hk4 hl)
def IBox (W : World) (R : Nat) (z : Int) : Prop := ∃ s A n c, R < W.heap.size ∧ W.cell? ⟨R, 0, none⟩ = some (.bool s) ∧ W.cell? ⟨R, 1, none⟩ = some (.slice A n c) ∧ (∀ i, W.frozen? ⟨R, i, none⟩ = false) ∧ NoIntAt W R ∧ IC W (.bool s) (.slice A n c) z
theorem IBox.new {W : World} {s : Bool} {A : Option Addr} {n c : Nat} {z : Int} (h : IC W (.bool s) (.slice A n c) z) : IBox (W.alloc (.cells #[.bool s, .slice A n c] 47)) W.heap.size z :=
  ⟨s, A, n, c, by simp, by simp [go_sem], by simp [go_sem], fun i => by simp [go_sem], NoIntAt.new W _ (noint2 s A n c) rfl, h.keep ((Below.refl _ _).alloc (Nat.le_refl _) _)⟩
theorem IBox.keep {W W' : World} {R : Nat} {z : Int} (h : IBox W R z) (hb : Below W.heap.size W W') : IBox W' R z := by
  obtain ⟨s, A, n, c, h0, h1, h2, h3, h4, h5⟩ := h
  exact ⟨s, A, n, c, Nat.lt_of_lt_of_le h0 hb.size, (hb.cell (p := ⟨R, 0, none⟩) h0).trans h1, (hb.cell (p := ⟨R, 1, none⟩) h0).trans h2, fun i => (hb.frozen (p := ⟨R, i, none⟩) h0).trans (h3 i), h4.keep h0 hb, h5.keep hb⟩
theorem IBox.put {W : World} {R : Nat} {z y : Int} {s : Bool} {A : Option Addr} {n c : Nat} (h : IBox W R z) (hy : IC W (.bool s) (.slice A n c) y) : IBox ((W.setCell ⟨R, 0, none⟩ (.bool s)).setCell ⟨R, 1, none⟩ (.slice A n c)) R y := by
  obtain ⟨s0, A0, n0, c0, h0, h1, h2, h3, h4, -⟩ := h
  have n1 : NoIntAt (W.setCell ⟨R, 0, none⟩ (.bool s)) R := h4.set 0 (by intro k n e; cases e)
  refine ⟨s, A, n, c, by simpa [World.setCell] using h0, by simp [go_sem, h1], by simp [go_sem, h2], fun i => by simp [go_sem, h3 i], n1.set 1 (by intro k n e; cases e), ?_⟩
  exact (hy.only (Only.setCell W R 0 _) h4).only (Only.setCell _ R 1 _) n1
theorem ic_put {W : World} {R : Nat} {z : Int} {u v u0 v0 : Value} (h : IC W u v z) (hn : NoIntAt W R) (hu : ∀ k n, u0 ≠ .int k n) : IC ((W.setCell ⟨R, 0, none⟩ u0).setCell ⟨R, 1, none⟩ v0) u v z :=
  (h.only (Only.setCell W R 0 _) hn).only (Only.setCell _ R 1 _) (hn.set 0 hu)
theorem below_put {w W : World} {R : Nat} (h : Below w.heap.size w W) (hR : w.heap.size ≤ R) (u v : Value) : Below w.heap.size w ((W.setCell ⟨R, 0, none⟩ u).setCell ⟨R, 1, none⟩ v) := (h.setCell hR _).setCell hR _
theorem IBox.only {W W' : World} {B g : Nat} {z : Int} (h : IBox W B z) (ho : Only g W W') (hne : g ≠ B) (hn : NoIntAt W g) : IBox W' B z := by
  obtain ⟨s, A, n, c, h0, h1, h2, h3, h4, h5⟩ := h
  have hb := ho.block B (fun e => hne e.symm)
  have hc : ∀ i, W'.cell? ⟨B, i, none⟩ = W.cell? ⟨B, i, none⟩ := fun i => by simp only [World.cell?, hb]
  exact ⟨s, A, n, c, by rw [ho.size]; exact h0, (hc 0).trans h1, (hc 1).trans h2, fun i => by simp only [World.frozen?, hb]; exact h3 i, fun i k m e => h4 i k m (by rw [← hc i]; exact e), h5.only ho hn⟩
theorem Clean.noInt {W : World} {g : Nat} (h : Clean eInt.Bad W g) : NoIntAt W g := fun i k n e => h i _ e ⟨k, n, rfl⟩
theorem IBox.row {W : World} {B R j : Nat} {z : Int} {s : Bool} {v : Value} (h : IBox W B z) (hne : R ≠ B) (hc : Clean eInt.Bad W R) : IBox ((W.setCell ⟨R, j, none⟩ (.bool s)).setCell ⟨R, j + 1, none⟩ v) B z :=
  (h.only (Only.setCell W R j _) hne hc.noInt).only (Only.setCell _ R (j + 1) _) hne (hc.set j (u := .bool s) (fun ⟨_, _, e⟩ => by cases e) : Clean eInt.Bad _ R).noInt
def NoSlice (u : Value) : Prop := ¬ ∃ A n c, u = .slice A n c
def eSl {α : Type} (e : El α) (T : TypeId) (hb : ∀ x cs W, e.E x cs W → ∃ u r, cs = u :: r ∧ NoSlice u) (hB : ∀ u, e.Bad u → NoSlice u) : El (List α) where
  T := T
  n := 1
  bytes := 24
  z := .slice none 0 0
  E := fun l cs W => ∃ v, cs = [v] ∧ Sl e l v W
  Bad := NoSlice
  pos := by decide
  small := by decide
  zn := rfl
  zg := by
    intro u hu
    simp only [Value.cells] at hu
    simp at hu
    subst hu
    exact fun h => h ⟨_, _, _, rfl⟩
  len := by rintro x cs W ⟨v, rfl, -⟩; rfl
  one := by
    rintro x cs W ⟨v, rfl, A, c, rfl, -⟩ y hy
    obtain rfl := List.mem_singleton.1 hy
    exact ⟨rfl, fun h => h ⟨_, _, _, rfl⟩⟩
  alt := by
    rintro x cs W W' row ⟨v, rfl, h⟩ ha hn
    exact ⟨v, rfl, h.alt ha hn hb hB⟩
theorem eInt_noSlice (u : Value) (h : eInt.Bad u) : NoSlice u := by
  obtain ⟨k, n, rfl⟩ := h
  rintro ⟨A, m, c, e⟩; cases e
def ePol : El (List Int) := eSl eInt 91 eInt_bad eInt_noSlice
theorem VP.pol {l : List Int} {v : Value} {W : World} (h : VP l v W) : ePol.E l [v] W := ⟨v, rfl, h.sl⟩
theorem Own.one {α : Type} {e : El α} {w W : World} {x : α} {cs : List Value} (hB : Below w.heap.size w W) (h : e.E x cs W) : Own e w (.slice (some ⟨W.heap.size, 0, none⟩) 1 1) [(x, cs)] (W.alloc (.cells cs.toArray e.T)) := by
  have hl := e.len h
  have hb := (Below.refl W.heap.size W).alloc (Nat.le_refl _) (.cells cs.toArray e.T)
  refine ⟨⟨by simp [ecells, hl], .inr ⟨W.heap.size, 1, cs.toArray, rfl, hB.size, heap_alloc_new W _, Nat.le_refl _, by unfold maxLen; omega, by simp [hl], ?_⟩⟩, hB.alloc hB.size _, fun y hy => ?_, fun g hg => ?_⟩
  · simp [ecells, ← hl]
  · obtain rfl := List.mem_singleton.1 hy
    exact e.keep h hb
  · have : g = W.heap.size := by simp [Value.ownBlock] at hg; exact hg.symm
    subst this
    exact Clean.cells (heap_alloc_new W _) fun u hu => (e.one h u (by simpa using hu)).2
theorem info_Pol : (Tryz.prog.info? 91).map (fun i => (i.zero, i.size, i.bytes)) = some (some (.slice none 0 0), 1, 24) := by kernel_rfl
theorem pol_vp {l : List Int} {v : Value} {W : World} (h : ePol.E l [v] W) : VP l v W := by
  obtain ⟨v', e, h⟩ := h
  obtain rfl := (List.cons.inj e).1
  exact h.vp
end Go.Proofs.YthkklilhjnpedaaGreat
end
section
namespace Go.Proofs.YthkklilhjnpedaaGreat
open Go.RowKit FF
theorem wrap_succ {i n : Nat} (h : i < n) (hn : n ≤ 1000000) : wrap64 ((i : Int) + 1) = ((i + 1 : Nat) : Int) := by unfold wrap64; omega
theorem each_step {l : List Int} {f : Int → Int} {n i : Nat} {rs : List (Int × List Value)} {z : Int} {cs : List Value} (hn : n = l.length) (hi : i < n) (hz : l[i]? = some z) (hr : rs.map (·.1) = (l.take i).map f ++ List.replicate (n - i) 0) :
    (rs.set i (f z, cs)).map (·.1) = (l.take (i + 1)).map f ++ List.replicate (n - (i + 1)) 0 := by
  rw [List.map_set, hr]
  have h1 : ((l.take i).map f).length = i := by simp; omega
  have h2 : n - i = (n - (i + 1)) + 1 := by omega
  rw [List.set_append_right _ _ (by omega), h1, Nat.sub_self, h2, List.replicate_succ, List.set_cons_zero, List.take_add_one, hz]
  simp
theorem own_int_cell {w W : World} {g cap n i : Nat} {rs : List (Int × List Value)} (h : Own eInt w (.slice (some ⟨g, 0, none⟩) n cap) rs W) (hi : i < rs.length) :
    ∃ u v z, W.cell? ⟨g, i * 2, none⟩ = some u ∧ W.cell? ⟨g, i * 2 + 1, none⟩ = some v ∧ W.frozen? ⟨g, i * 2, none⟩ = false ∧ W.frozen? ⟨g, i * 2 + 1, none⟩ = false ∧ IC W u v z ∧ rs[i]? = some (z, [u, v]) := by
  obtain ⟨hc, he⟩ := h.cell (x := rs[i]) (List.getElem?_eq_getElem hi)
  obtain ⟨u, v, e, hIC⟩ := he
  rw [e] at hc
  exact ⟨u, v, rs[i].1, hc 0 u rfl, hc 1 v rfl, h.fz _, h.fz _, hIC, by rw [List.getElem?_eq_getElem hi, ← e]⟩
theorem own_int_set {w W : World} {g cap n i : Nat} {rs : List (Int × List Value)} (h : Own eInt w (.slice (some ⟨g, 0, none⟩) n cap) rs W) (hi : i < rs.length) {u v : Value} {z : Int} (hIC : IC W u v z) :
    Own eInt w (.slice (some ⟨g, 0, none⟩) n cap) (rs.set i (z, [u, v])) ((W.setCell ⟨g, i * 2, none⟩ u).setCell ⟨g, i * 2 + 1, none⟩ v) :=
  h.set (e := eInt) hi (y := z) (cs := [u, v]) ⟨u, v, rfl, hIC⟩
set_option maxRecDepth 3000 in
set_option maxHeartbeats 2000000 in
theorem each_prim {v : Value} {l : List Int} {k : Nat} {f : Int → Int} {q : Value} {w : World} (hv : VP l v w) (hl : l.length ≤ 1000000) (hk : ∀ z ∈ l, Wn k (f z)) (hk4 : k ≤ 300)
    (hcl : ∀ (W : World) (u u' : Value) (z : Int), Below w.heap.size w W → z ∈ l → IC W u u' z → Calls Tryz.prog 131 #[.agg #[u, u'], q] W (PostW (VI (f z)) W)) :
    Calls Tryz.prog 127 #[v, .func (.func 131) #[] #[q]] w (PostW (VP (stripZ (l.map f))) w) := by
  obtain ⟨A, c, rfl, h1, h2⟩ := hv.len
  obtain ⟨n, hn⟩ : ∃ n, n = l.length := ⟨_, rfl⟩
  have hl' : n ≤ 1000000 := by omega
  have hmk := intp_make 41 Tryz.underlying41 n hl'
  have hmk := Lib.hid hmk
  have HV := Lib.hid hv; have HK := Lib.hid hk; have HC := Lib.hid hcl; have HN := Lib.hid hn; have HL := Lib.hid hl'
  have hlen : ∀ i : Nat, i < n → ∃ z, l[i]? = some z := fun i hi => ⟨_, List.getElem?_eq_getElem (by omega)⟩
  have HLe := Lib.hid hlen
  rw [← hn] at h1 ⊢
  clear hv hk hcl hn hl hl' hlen
  go_enter Tryz.func127, Tryz.ntmps127
  have hmk' := hmk.out
  go_wp2_with fail
  clear hmk' hmk
  obtain ⟨W1, hW1⟩ : ∃ W1, W1 = w.alloc (.cells (madeCells #[.bool false, .slice none 0 0] (n * 2)) 47) := ⟨_, rfl⟩
  obtain ⟨R, hR⟩ : ∃ R, R = w.heap.size := ⟨_, rfl⟩
  have hO := Own.made_int (N := n) (Below.refl w.heap.size w) HL.out
  rw [← hW1, ← hR] at hO
  rw [← hW1, ← hR]
  have HO := Lib.hid hO; have HRs := Lib.hid hR
  clear hO hW1 hR
  go_loopw [6, 7, 13] (fun _ _ s13 wr => ∃ (i : Nat) (rs : List (Int × List Value)), s13 = .int .i64 i ∧ i ≤ n ∧ rs.length = n ∧ rs.map (·.1) = (l.take i).map f ++ List.replicate (n - i) 0 ∧ Own eInt w (.slice (some ⟨R, 0, none⟩) n n) rs wr) (fun _ _ s13 _ => (n - (intOf s13).toNat))
  case atStart => exact ⟨0, _, rfl, Nat.zero_le _, List.length_replicate, by simp, HO.out⟩
  case round =>
    obtain ⟨i, rs, rfl, hil, hrl, hrs, hG⟩ := hrel
    have HG := Lib.hid hG; have HR := Lib.hid hrs; have HRL := Lib.hid hrl
    clear hG hrs hrl HO
    by_cases hlt : i < n
    · have hti := decide_eq_true (p := ((i : Nat) : Int) < ((n : Nat) : Int)) (by omega)
      obtain ⟨z, hz⟩ := HLe.out i hlt
      have HZ := Lib.hid hz
      obtain ⟨b, o, s, A', m, c', rfl, q0, q1, g, hb⟩ := (HV.out.keep HG.out.below).at hz
      have GI := Lib.hid g
      clear g hz
      go_wp2_with fail
      have BA := (Below.refl wr.heap.size wr).alloc (Nat.le_refl _) (.cells #[.bool s, .slice A' m c'] 47)
      refine (HC.out _ _ _ z (HG.out.below.trans (BA.mono HG.out.below.size)) (List.mem_of_getElem? HZ.out) (GI.out.keep BA)).mono ?_
      rintro e w1 ⟨_, rfl, ⟨p, q', rfl, h⟩, hb1⟩
      have hb2 := BA.trans (hb1.mono (by simp))
      have HG1 := Lib.hid (HG.out.keep hb2)
      obtain ⟨u0, v0, z0, k0, k1, k2, k3, -, -⟩ := own_int_cell HG1.out (i := i) (by rw [HRL.out]; exact hlt)
      have HS := Lib.hid (own_int_set HG1.out (i := i) (by rw [HRL.out]; exact hlt) h)
      obtain ⟨a1, c1, rfl, rfl, -⟩ := h
      clear q0 q1 GI BA hb1 hb2 hb HV
      generalize sgB (f z) = s1 at *
      generalize lnW (f z) = m1 at *
      go_wp2_with fail
      refine ⟨⟨i + 1, _, by rw [wrap_succ hlt HL.out], hlt, ?_, ?_, HS.out⟩, ?_⟩
      · rw [List.length_set]; exact HRL.out
      · exact each_step HN.out hlt HZ.out HR.out
      · rw [wrap_succ hlt HL.out]; simp only [intOf]; omega
    · have hti := decide_eq_false (p := ((i : Nat) : Int) < ((n : Nat) : Int)) (by omega)
      have hfin : rs.map (·.1) = l.map f := by
        have h1 := HR.out; have h2 := HN.out
        rw [h1, List.take_of_length_le (by omega), show n - i = 0 by omega]; simp
      have HF := Lib.hid hfin
      clear hfin
      go_wp2_with fail
      refine (normal_vp (v := .slice (some ⟨R, 0, none⟩) n n) (l := l.map f) (k := k) (by rw [← HF.out]; exact HG.out.sl.vp) (fun x hx => by obtain ⟨z, hz, rfl⟩ := List.mem_map.1 hx; exact HK.out z hz) hk4 (by rw [List.length_map, ← HN.out]; exact HL.out)).mono ?_
      rintro e w1 ⟨r, rfl, hP, hb1⟩
      have HP := Lib.hid hP; have HB := Lib.hid (HG.out.below.trans (hb1.mono HG.out.below.size))
      clear hP hb1
      go_wp2_with fail
      go_ret
      exact ⟨_, rfl, HP.out, HB.out⟩
set_option maxRecDepth 3000 in
set_option maxHeartbeats 2000000 in
theorem each_rest {v : Value} {l : List Int} {k : Nat} {f : Int → Int} {q : Value} {w : World} (hv : VP l v w) (hl : l.length ≤ 1000000) (hk : ∀ z ∈ l, Wn k (f z)) (hk4 : k ≤ 300)
    (hcl : ∀ (W : World) (u u' : Value) (z : Int), Below w.heap.size w W → z ∈ l → IC W u u' z → Calls Tryz.prog 128 #[.agg #[u, u'], q] W (PostW (VI (f z)) W)) :
    Calls Tryz.prog 127 #[v, .func (.func 128) #[] #[q]] w (PostW (VP (stripZ (l.map f))) w) := by
  obtain ⟨A, c, rfl, h1, h2⟩ := hv.len
  obtain ⟨n, hn⟩ : ∃ n, n = l.length := ⟨_, rfl⟩
  have hl' : n ≤ 1000000 := by omega
  have hmk := intp_make 41 Tryz.underlying41 n hl'
  have hmk := Lib.hid hmk
  have HV := Lib.hid hv; have HK := Lib.hid hk; have HC := Lib.hid hcl; have HN := Lib.hid hn; have HL := Lib.hid hl'
  have hlen : ∀ i : Nat, i < n → ∃ z, l[i]? = some z := fun i hi => ⟨_, List.getElem?_eq_getElem (by omega)⟩
  have HLe := Lib.hid hlen
  rw [← hn] at h1 ⊢
  clear hv hk hcl hn hl hl' hlen
  go_enter Tryz.func127, Tryz.ntmps127
  have hmk' := hmk.out
  go_wp2_with fail
  clear hmk' hmk
  obtain ⟨W1, hW1⟩ : ∃ W1, W1 = w.alloc (.cells (madeCells #[.bool false, .slice none 0 0] (n * 2)) 47) := ⟨_, rfl⟩
  obtain ⟨R, hR⟩ : ∃ R, R = w.heap.size := ⟨_, rfl⟩
  have hO := Own.made_int (N := n) (Below.refl w.heap.size w) HL.out
  rw [← hW1, ← hR] at hO
  rw [← hW1, ← hR]
  have HO := Lib.hid hO; have HRs := Lib.hid hR
  clear hO hW1 hR
  go_loopw [6, 7, 13] (fun _ _ s13 wr => ∃ (i : Nat) (rs : List (Int × List Value)), s13 = .int .i64 i ∧ i ≤ n ∧ rs.length = n ∧ rs.map (·.1) = (l.take i).map f ++ List.replicate (n - i) 0 ∧ Own eInt w (.slice (some ⟨R, 0, none⟩) n n) rs wr) (fun _ _ s13 _ => (n - (intOf s13).toNat))
  case atStart => exact ⟨0, _, rfl, Nat.zero_le _, List.length_replicate, by simp, HO.out⟩
  case round =>
    obtain ⟨i, rs, rfl, hil, hrl, hrs, hG⟩ := hrel
    have HG := Lib.hid hG; have HR := Lib.hid hrs; have HRL := Lib.hid hrl
    clear hG hrs hrl HO
    by_cases hlt : i < n
    · have hti := decide_eq_true (p := ((i : Nat) : Int) < ((n : Nat) : Int)) (by omega)
      obtain ⟨z, hz⟩ := HLe.out i hlt
      have HZ := Lib.hid hz
      obtain ⟨b, o, s, A', m, c', rfl, q0, q1, g, hb⟩ := (HV.out.keep HG.out.below).at hz
      have GI := Lib.hid g
      clear g hz
      go_wp2_with fail
      have BA := (Below.refl wr.heap.size wr).alloc (Nat.le_refl _) (.cells #[.bool s, .slice A' m c'] 47)
      refine (HC.out _ _ _ z (HG.out.below.trans (BA.mono HG.out.below.size)) (List.mem_of_getElem? HZ.out) (GI.out.keep BA)).mono ?_
      rintro e w1 ⟨_, rfl, ⟨p, q', rfl, h⟩, hb1⟩
      have hb2 := BA.trans (hb1.mono (by simp))
      have HG1 := Lib.hid (HG.out.keep hb2)
      obtain ⟨u0, v0, z0, k0, k1, k2, k3, -, -⟩ := own_int_cell HG1.out (i := i) (by rw [HRL.out]; exact hlt)
      have HS := Lib.hid (own_int_set HG1.out (i := i) (by rw [HRL.out]; exact hlt) h)
      obtain ⟨a1, c1, rfl, rfl, -⟩ := h
      clear q0 q1 GI BA hb1 hb2 hb HV
      generalize sgB (f z) = s1 at *
      generalize lnW (f z) = m1 at *
      go_wp2_with fail
      refine ⟨⟨i + 1, _, by rw [wrap_succ hlt HL.out], hlt, ?_, ?_, HS.out⟩, ?_⟩
      · rw [List.length_set]; exact HRL.out
      · exact each_step HN.out hlt HZ.out HR.out
      · rw [wrap_succ hlt HL.out]; simp only [intOf]; omega
    · have hti := decide_eq_false (p := ((i : Nat) : Int) < ((n : Nat) : Int)) (by omega)
      have hfin : rs.map (·.1) = l.map f := by
        have h1 := HR.out; have h2 := HN.out
        rw [h1, List.take_of_length_le (by omega), show n - i = 0 by omega]; simp
      have HF := Lib.hid hfin
      clear hfin
      go_wp2_with fail
      refine (normal_vp (v := .slice (some ⟨R, 0, none⟩) n n) (l := l.map f) (k := k) (by rw [← HF.out]; exact HG.out.sl.vp) (fun x hx => by obtain ⟨z, hz, rfl⟩ := List.mem_map.1 hx; exact HK.out z hz) hk4 (by rw [List.length_map, ← HN.out]; exact HL.out)).mono ?_
      rintro e w1 ⟨r, rfl, hP, hb1⟩
      have HP := Lib.hid hP; have HB := Lib.hid (HG.out.below.trans (hb1.mono HG.out.below.size))
      clear hP hb1
      go_wp2_with fail
      go_ret
      exact ⟨_, rfl, HP.out, HB.out⟩
set_option maxRecDepth 3000 in
set_option maxHeartbeats 2000000 in
theorem each_neg {v : Value} {l : List Int} {k : Nat} {f : Int → Int} {w : World} (hv : VP l v w) (hl : l.length ≤ 1000000) (hk : ∀ z ∈ l, Wn k (f z)) (hk4 : k ≤ 300)
    (hcl : ∀ (W : World) (u u' : Value) (z : Int), Below w.heap.size w W → z ∈ l → IC W u u' z → Calls Tryz.prog 124 #[.agg #[u, u']] W (PostW (VI (f z)) W)) :
    Calls Tryz.prog 127 #[v, .func (.func 124) #[] #[]] w (PostW (VP (stripZ (l.map f))) w) := by
  obtain ⟨A, c, rfl, h1, h2⟩ := hv.len
  obtain ⟨n, hn⟩ : ∃ n, n = l.length := ⟨_, rfl⟩
  have hl' : n ≤ 1000000 := by omega
  have hmk := intp_make 41 Tryz.underlying41 n hl'
  have hmk := Lib.hid hmk
  have HV := Lib.hid hv; have HK := Lib.hid hk; have HC := Lib.hid hcl; have HN := Lib.hid hn; have HL := Lib.hid hl'
  have hlen : ∀ i : Nat, i < n → ∃ z, l[i]? = some z := fun i hi => ⟨_, List.getElem?_eq_getElem (by omega)⟩
  have HLe := Lib.hid hlen
  rw [← hn] at h1 ⊢
  clear hv hk hcl hn hl hl' hlen
  go_enter Tryz.func127, Tryz.ntmps127
  have hmk' := hmk.out
  go_wp2_with fail
  clear hmk' hmk
  obtain ⟨W1, hW1⟩ : ∃ W1, W1 = w.alloc (.cells (madeCells #[.bool false, .slice none 0 0] (n * 2)) 47) := ⟨_, rfl⟩
  obtain ⟨R, hR⟩ : ∃ R, R = w.heap.size := ⟨_, rfl⟩
  have hO := Own.made_int (N := n) (Below.refl w.heap.size w) HL.out
  rw [← hW1, ← hR] at hO
  rw [← hW1, ← hR]
  have HO := Lib.hid hO; have HRs := Lib.hid hR
  clear hO hW1 hR
  go_loopw [6, 7, 13] (fun _ _ s13 wr => ∃ (i : Nat) (rs : List (Int × List Value)), s13 = .int .i64 i ∧ i ≤ n ∧ rs.length = n ∧ rs.map (·.1) = (l.take i).map f ++ List.replicate (n - i) 0 ∧ Own eInt w (.slice (some ⟨R, 0, none⟩) n n) rs wr) (fun _ _ s13 _ => (n - (intOf s13).toNat))
  case atStart => exact ⟨0, _, rfl, Nat.zero_le _, List.length_replicate, by simp, HO.out⟩
  case round =>
    obtain ⟨i, rs, rfl, hil, hrl, hrs, hG⟩ := hrel
    have HG := Lib.hid hG; have HR := Lib.hid hrs; have HRL := Lib.hid hrl
    clear hG hrs hrl HO
    by_cases hlt : i < n
    · have hti := decide_eq_true (p := ((i : Nat) : Int) < ((n : Nat) : Int)) (by omega)
      obtain ⟨z, hz⟩ := HLe.out i hlt
      have HZ := Lib.hid hz
      obtain ⟨b, o, s, A', m, c', rfl, q0, q1, g, hb⟩ := (HV.out.keep HG.out.below).at hz
      have GI := Lib.hid g
      clear g hz
      go_wp2_with fail
      have BA := (Below.refl wr.heap.size wr).alloc (Nat.le_refl _) (.cells #[.bool s, .slice A' m c'] 47)
      refine (HC.out _ _ _ z (HG.out.below.trans (BA.mono HG.out.below.size)) (List.mem_of_getElem? HZ.out) (GI.out.keep BA)).mono ?_
      rintro e w1 ⟨_, rfl, ⟨p, q', rfl, h⟩, hb1⟩
      have hb2 := BA.trans (hb1.mono (by simp))
      have HG1 := Lib.hid (HG.out.keep hb2)
      obtain ⟨u0, v0, z0, k0, k1, k2, k3, -, -⟩ := own_int_cell HG1.out (i := i) (by rw [HRL.out]; exact hlt)
      have HS := Lib.hid (own_int_set HG1.out (i := i) (by rw [HRL.out]; exact hlt) h)
      obtain ⟨a1, c1, rfl, rfl, -⟩ := h
      clear q0 q1 GI BA hb1 hb2 hb HV
      generalize sgB (f z) = s1 at *
      generalize lnW (f z) = m1 at *
      go_wp2_with fail
      refine ⟨⟨i + 1, _, by rw [wrap_succ hlt HL.out], hlt, ?_, ?_, HS.out⟩, ?_⟩
      · rw [List.length_set]; exact HRL.out
      · exact each_step HN.out hlt HZ.out HR.out
      · rw [wrap_succ hlt HL.out]; simp only [intOf]; omega
    · have hti := decide_eq_false (p := ((i : Nat) : Int) < ((n : Nat) : Int)) (by omega)
      have hfin : rs.map (·.1) = l.map f := by
        have h1 := HR.out; have h2 := HN.out
        rw [h1, List.take_of_length_le (by omega), show n - i = 0 by omega]; simp
      have HF := Lib.hid hfin
      clear hfin
      go_wp2_with fail
      refine (normal_vp (v := .slice (some ⟨R, 0, none⟩) n n) (l := l.map f) (k := k) (by rw [← HF.out]; exact HG.out.sl.vp) (fun x hx => by obtain ⟨z, hz, rfl⟩ := List.mem_map.1 hx; exact HK.out z hz) hk4 (by rw [List.length_map, ← HN.out]; exact HL.out)).mono ?_
      rintro e w1 ⟨r, rfl, hP, hb1⟩
      have HP := Lib.hid hP; have HB := Lib.hid (HG.out.below.trans (hb1.mono HG.out.below.size))
      clear hP hb1
      go_wp2_with fail
      go_ret
      exact ⟨_, rfl, HP.out, HB.out⟩
end Go.Proofs.YthkklilhjnpedaaGreat
end
