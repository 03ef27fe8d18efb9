/- A queue of integers: a slice of a call's own that loses its first elements and gets others appended. -/
import Derived.Test.YtfjmhfmhijhpkaaRw0
import Derived.Deep.AppendSrc
import Derived.Deep.Upon
namespace Go.Proofs.Ytfjmhfmhijhpkaa
open Go.RowKit FF

/-- a slice in block g, wherever in it: its elements, and its spare cells -/
def Que (base g : Nat) (v : Value) (xs : List Int) (w : World) : Prop :=
  ∃ off cap, v = .slice (some ⟨g, off, none⟩) xs.length cap ∧ base ≤ g ∧ g < w.heap.size ∧ xs.length ≤ cap ∧ cap ≤ maxLen ∧
    (∀ i, i < xs.length → w.cell? ⟨g, off + i, none⟩ = some (.int .i64 (xs.getD i 0))) ∧ ∀ j, j < cap → (w.cell? ⟨g, off + j, none⟩).isSome = true ∧ w.frozen? ⟨g, off + j, none⟩ = false
theorem Que.of_block {base g : Nat} {v : Value} {xs : List Int} {w w' : World} (h : Que base g v xs w) (hs : w.heap.size ≤ w'.heap.size) (hb : w'.heap[g]? = w.heap[g]?) : Que base g v xs w' := by
  obtain ⟨off, cap, h1, h2, h3, h4, h5, h6, h7⟩ := h
  have hc : ∀ o, w'.cell? ⟨g, o, none⟩ = w.cell? ⟨g, o, none⟩ := fun o => World.cell?_of_block (a := ⟨g, o, none⟩) hb
  have hf : ∀ o, w'.frozen? ⟨g, o, none⟩ = w.frozen? ⟨g, o, none⟩ := fun o => World.frozen?_of_block (a := ⟨g, o, none⟩) hb
  exact ⟨off, cap, h1, h2, by omega, h4, h5, fun i hi => (hc _).trans (h6 i hi), fun j hj => by rw [hc, hf]; exact h7 j hj⟩
theorem Que.keep {base g : Nat} {v : Value} {xs : List Int} {w w' : World} (h : Que base g v xs w) (hb : Below w.heap.size w w') : Que base g v xs w' :=
  h.of_block hb.size (hb.block g (by obtain ⟨off, cap, h1, h2, h3, -⟩ := h; exact h3))
theorem Que.lt {base g : Nat} {v : Value} {xs : List Int} {w : World} (h : Que base g v xs w) : g < w.heap.size := by obtain ⟨off, cap, h1, h2, h3, -⟩ := h; exact h3
theorem Que.ge {base g : Nat} {v : Value} {xs : List Int} {w : World} (h : Que base g v xs w) : base ≤ g := by obtain ⟨off, cap, h1, h2, -⟩ := h; exact h2
/-- a new queue of one element -/
theorem Que.new (base : Nat) (w : World) (x : Int) (T : TypeId) (h : base ≤ w.heap.size) : Que base w.heap.size (.slice (some ⟨w.heap.size, 0, none⟩) 1 1) [x] (w.alloc (.cells #[.int .i64 x] T)) := by
  refine ⟨0, 1, rfl, h, by simp, Nat.le_refl _, by unfold maxLen; omega, fun i hi => ?_, fun j hj => ?_⟩
  · obtain rfl : i = 0 := by simp at hi; omega
    simp [go_sem]
  · obtain rfl : j = 0 := by omega
    exact ⟨by simp [go_sem], by simp [go_sem]⟩
/-- the first element gone -/
theorem Que.tail {base g off cap : Nat} {x : Int} {xs : List Int} {w : World} (h : Que base g (.slice (some ⟨g, off, none⟩) (x :: xs).length cap) (x :: xs) w) (o2 : Nat) (ho : (cap = 1 ∧ o2 = off) ∨ o2 = off + 1) :
    Que base g (.slice (some ⟨g, o2, none⟩) xs.length (cap - 1)) xs w := by
  obtain ⟨off', cap', h1, h2, h3, h4, h5, h6, h7⟩ := h
  injection h1 with e1 e2 e3
  injection e1 with e1
  injection e1 with _ e1
  subst e1 e3
  rw [List.length_cons] at h4
  refine ⟨o2, cap - 1, rfl, h2, h3, by omega, by omega, fun i hi => ?_, fun j hj => ?_⟩
  · have := h6 (i + 1) (by rw [List.length_cons]; omega)
    rcases ho with ⟨hc, rfl⟩ | rfl
    · omega
    · rw [Nat.add_assoc, Nat.add_comm 1 i, this]; simp
  · have := h7 (j + 1) (by omega)
    rcases ho with ⟨hc, rfl⟩ | rfl
    · omega
    · rw [Nat.add_assoc, Nat.add_comm 1 j]; exact this
theorem grownBy_setCell (w : World) (g o : Nat) (v : Value) : w.grownBy (w.setCell ⟨g, o, none⟩ v) (some g) :=
  ⟨rfl, rfl, rfl, by simp [World.setCell], fun k _ hk => Below.heap_setCell _ _ _ _ (fun e => hk (by rw [e]))⟩
theorem grownBy_setCells (g : Nat) : ∀ (vs : List Value) (o : Nat) (w : World), w.grownBy (w.setCells g o vs) (some g) ∧ (w.setCells g o vs).heap.size = w.heap.size
  | [], _, w => ⟨⟨rfl, rfl, rfl, Nat.le_refl _, fun _ _ _ => rfl⟩, rfl⟩
  | v :: r, o, w => by
    obtain ⟨h1, h2⟩ := grownBy_setCells g r (o + 1) (w.setCell ⟨g, o, none⟩ v)
    have h0 := grownBy_setCell w g o v
    have hs : (w.setCell ⟨g, o, none⟩ v).heap.size = w.heap.size := by simp [World.setCell]
    refine ⟨⟨h1.os.trans h0.os, h1.tape.trans h0.tape, h1.output.trans h0.output, Nat.le_trans h0.size h1.size, fun k hk hne => (h1.block k (by omega) hne).trans (h0.block k hk hne)⟩, h2.trans hs⟩
theorem Row0.src {P : Program} {w : World} {T t e' : TypeId} {v : Value} {n : Nat} {ys : List Int} (h : Row0 w T 1 v n ys) (hk : P.underlying t = some (.slice e')) : Src P 1 t v n (cellsI ys) w := by
  have hl : ys.length = n := by have := h.1; rw [cellsI_length] at this; omega
  obtain ⟨A, c, rfl, hs, -⟩ := h.shows
  rcases Nat.eq_zero_or_pos n with h0 | h0
  · have hy : ys = [] := List.eq_nil_of_length_eq_zero (by omega)
    subst hy h0
    cases A with
    | none => exact Src.ofNil w hk c
    | some a => exact Src.ofSlice w hk a 0 c [] rfl (fun j u hj => by simp at hj) (fun u hu => by cases hu)
  · obtain ⟨b, o, e, -⟩ := hs (by omega)
    subst e
    exact Src.ofSlice w hk _ n c (cellsI ys) (by rw [cellsI_length]; omega) (cellsI_of_shows hs) (cellsI_one ys)
theorem cellsI_append (xs ys : List Int) : cellsI xs ++ cellsI ys = cellsI (xs ++ ys) := by simp [cellsI]
theorem getD_append_l {xs ys : List Int} {i : Nat} (h : i < xs.length) : (xs ++ ys).getD i 0 = xs.getD i 0 := by
  rw [List.getD_eq_getElem?_getD, List.getElem?_append_left h, ← List.getD_eq_getElem?_getD]
theorem getD_append_r {xs ys : List Int} {i : Nat} (h : xs.length ≤ i) : (xs ++ ys).getD i 0 = ys.getD (i - xs.length) 0 := by
  rw [List.getD_eq_getElem?_getD, List.getElem?_append_right h, ← List.getD_eq_getElem?_getD]
theorem run_append_que {P : Program} (w : World) (t ty : TypeId) {e : TypeId} (i : TypeInfo) (z : Value) (ht : P.underlying t = some (.slice e)) (hi : P.info? e = some i) (hz : i.zero = some z) (hsize : i.size = 1) (hby : i.bytes = 8) (hzs : z.cells.size = 1)
    {base g : Nat} {v : Value} {xs : List Int} (h : Que base g v xs w) (hb : base ≤ w.heap.size) (x : Value) {T : TypeId} {ys : List Int} (hy : Row0 w T 1 x ys.length ys) (hbound : xs.length + ys.length ≤ 1000000) :
    ∃ v' w' g', (Builtin.append_ #[t, t] ty #[v, x]).run P w = .ok v' w' ∧ Que base g' v' (xs ++ ys) w' ∧ w.grownBy w' (some g) ∧ (g' = g ∨ g' = w.heap.size) := by
  have hs := hy.src ht
  have hnl := cellsI_length ys
  obtain ⟨off, cap, rfl, h2, h3, h4, h5, h6, h7⟩ := h
  by_cases hr : xs.length + ys.length ≤ cap
  · have hrun := run_append_room_src (P := P) w t t ty e i ht hi g off xs.length cap x ys.length (cellsI ys) (by rw [hsize]; exact hs) hr
      (fun j hj => by rw [hsize, Nat.mul_one, Nat.add_assoc]; exact (h7 _ (by omega)).1) (fun j hj => by rw [hsize, Nat.mul_one, Nat.add_assoc]; exact (h7 _ (by omega)).2)
    rw [hsize, Nat.mul_one] at hrun
    obtain ⟨k1, k2⟩ := grownBy_setCells g (cellsI ys) (off + xs.length) w
    refine ⟨_, _, g, hrun, ⟨off, cap, by rw [List.length_append], h2, by omega, by rw [List.length_append]; exact hr, h5, fun j hj => ?_, fun j hj => ?_⟩, k1, .inl rfl⟩
    · rw [List.length_append] at hj
      by_cases hjx : j < xs.length
      · rw [World.cell?_setCells_out _ _ _ _ _ (fun _ _ => Or.inl (by simp only; omega)), getD_append_l hjx]
        exact h6 j hjx
      · have := World.cell?_setCells_in g (cellsI ys) (off + xs.length) w (fun q hq => by rw [Nat.add_assoc]; exact (h7 _ (by omega)).1) (j - xs.length) (by omega)
        rw [show off + xs.length + (j - xs.length) = off + j by omega] at this
        rw [this, getD_append_r (by omega), ← cellsI_get (by omega), List.getElem?_eq_getElem (by omega)]
    · refine ⟨?_, by rw [World.frozen?_setCells]; exact (h7 j hj).2⟩
      by_cases hjn : xs.length ≤ j ∧ j < xs.length + (cellsI ys).length
      · have := World.cell?_setCells_in g (cellsI ys) (off + xs.length) w (fun q hq => by rw [Nat.add_assoc]; exact (h7 _ (by omega)).1) (j - xs.length) (by omega)
        rw [show off + xs.length + (j - xs.length) = off + j by omega] at this
        rw [this]; rfl
      · rw [World.cell?_setCells_out _ _ _ _ _ (fun _ _ => by simp only; omega)]
        exact (h7 j hj).1
  · have hold : (Builtin.firstCells i.size xs.length (.slice (some ⟨g, off, none⟩) xs.length cap)).run P w.drew = .ok (cellsI xs).toArray w.drew := by
      rw [hsize]
      refine run_firstCells_some _ 1 xs.length _ _ _ _ (by rw [cellsI_length]; omega) (fun j u hj => ?_)
      have hjl : j < xs.length := by
        rcases Nat.lt_or_ge j xs.length with q | q
        · exact q
        · rw [List.getElem?_eq_none (by rw [cellsI_length]; exact q)] at hj; cases hj
      rw [cellsI_get hjl] at hj
      rw [Addr.add_lit, ← hj]
      exact h6 j hjl
    have hrun := run_append_grow_src (P := P) w t t ty e i z ht hi hz (some ⟨g, off, none⟩) xs.length cap (cellsI xs) hold x ys.length (cellsI ys) (by rw [hsize]; exact hs) (by omega) (by omega) (growslice_fits (by omega) (by rw [hby]; omega))
    have hge := grownCap_ge w (xs.length + ys.length) cap e
    have hcm := grownCap_le_maxLen w (xs.length + ys.length) cap e (by unfold maxLen; omega)
    have hal : w.grownBy (w.drew.alloc (.cells (((cellsI xs) ++ (cellsI ys)).toArray ++ Builtin.zeroCells z.cells (grownCap w (xs.length + ys.length) cap e - (xs.length + ys.length))) e)) (some g) :=
      ⟨rfl, rfl, rfl, by simp, fun k hk _ => Below.heap_alloc w.drew _ k hk⟩
    have hL : (cellsI xs ++ cellsI ys).length = xs.length + ys.length := by rw [List.length_append, cellsI_length, cellsI_length]
    have hnew : ∀ j, (w.drew.alloc (.cells (((cellsI xs) ++ (cellsI ys)).toArray ++ Builtin.zeroCells z.cells (grownCap w (xs.length + ys.length) cap e - (xs.length + ys.length))) e)).cell? ⟨w.heap.size, j, none⟩ = _ := fun j => World.cell?_alloc_new w.drew _ _ j
    refine ⟨_, _, w.heap.size, hrun, ⟨0, _, by rw [List.length_append], hb, by simp, by rw [List.length_append]; exact hge, hcm, fun j hj => ?_, fun j hj => ⟨?_, ?_⟩⟩, hal, .inr rfl⟩
    · rw [List.length_append] at hj
      rw [Nat.zero_add, hnew, Array.getElem?_append_left (by simp only [List.size_toArray]; omega), List.getElem?_toArray, cellsI_append, cellsI_get (by rw [List.length_append]; exact hj)]
    · have hsz : (((cellsI xs) ++ (cellsI ys)).toArray ++ Builtin.zeroCells z.cells (grownCap w (xs.length + ys.length) cap e - (xs.length + ys.length))).size = grownCap w (xs.length + ys.length) cap e := by
        rw [Array.size_append, List.size_toArray, hL, size_zeroCells, hzs]; omega
      rw [Nat.zero_add, hnew, Array.getElem?_eq_getElem (by rw [hsz]; exact hj)]
      rfl
    · rw [Nat.zero_add]
      exact World.frozen?_alloc_new w.drew _ _ j
theorem wpList_append_que {P : Program} (w : World) {ops : Array Oper} {rest : List Oper} {o : Oper} {a : Act} {Q : Exit → Act → World → Prop} (hgd : o.guard = none) (s x : Operand) (t : TypeId)
    (ho : o.op = .call { callee := .builtin .append, args := #[s, x], argTypes := #[t, t] }) {e : TypeId} (i : TypeInfo) (z : Value) (ht : P.underlying t = some (.slice e)) (hi : P.info? e = some i) (hz : i.zero = some z) (hsize : i.size = 1) (hby : i.bytes = 8) (hzs : z.cells.size = 1)
    {base g : Nat} (v : Value) {xs : List Int} (hv : a.eval s = v) (h : Que base g v xs w) (hb : base ≤ w.heap.size) (xv : Value) {T : TypeId} {ys : List Int} (hx : a.eval x = xv) (hy : Row0 w T 1 xv ys.length ys) (hbound : xs.length + ys.length ≤ 1000000)
    (hK : ∀ v' w' g', Que base g' v' (xs ++ ys) w' → w.grownBy w' (some g) → (g' = g ∨ g' = w.heap.size) → wpList P ops Q rest (a.put o.dst v') w') : wpList P ops Q (o :: rest) a w := by
  refine wpList_plain hgd fun K hK' => ?_
  obtain ⟨v', w', g', hrun, r1, r2, r3⟩ := run_append_que (P := P) w t o.type i z ht hi hz hsize hby hzs h hb xv hy hbound
  unfold Oper.wp
  simp [execOp, ho, resolve, invoke, builtin, hv, hx, hrun, Result.andThen]
  exact hK' _ _ (hK v' w' g' r1 r2 r3)
end Go.Proofs.Ytfjmhfmhijhpkaa
