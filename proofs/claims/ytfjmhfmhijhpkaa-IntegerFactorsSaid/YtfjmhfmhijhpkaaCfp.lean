/- What Certify keeps: which steps are known and which numbers are still to come; rows that stay. -/
import Derived.Test.YtfjmhfmhijhpkaaMst
import Derived.Test.YtfjmhfmhijhpkaaQue
import Derived.Test.YtfjmhfmhijhpkaaRce
namespace Go.Proofs.Ytfjmhfmhijhpkaa
open Go.RowKit FF

structure CInv (n : Int) (xs : List Int) (rs : List Refs) : Prop where
  steps : ∀ x ∈ rs, x.1 = stepOf x.1.1 ∧ FF.Reach n x.1.1
  todo : ∀ q ∈ xs, FF.Reach n q
  here : n ∈ keysOf rs ∨ n ∈ xs
  closed : ∀ x ∈ rs, ∀ q ∈ primesOf (x.1.1 - 1), q ∈ keysOf rs ∨ q ∈ xs
theorem CInv.start (n : Int) : CInv n [n] [] := ⟨(fun x hx => by cases hx), (fun q hq => by rw [List.mem_singleton.1 hq]; exact FF.Reach.base), .inr (by simp), (fun x hx => by cases hx)⟩
theorem CInv.reach {n : Int} {xs : List Int} {rs : List Refs} (h : CInv n xs rs) : ∀ m ∈ keysOf rs, FF.Reach n m := by
  intro m hm
  obtain ⟨x, hx, rfl⟩ := List.mem_map.1 hm
  exact (h.steps x hx).2
theorem CInv.skip {n p : Int} {xs : List Int} {rs : List Refs} (h : CInv n (p :: xs) rs) (hp : p ∈ keysOf rs) : CInv n xs rs := by
  have key : ∀ q, q ∈ keysOf rs ∨ q ∈ p :: xs → q ∈ keysOf rs ∨ q ∈ xs := fun q hq => by
    rcases hq with g | g
    · exact .inl g
    · rcases List.mem_cons.1 g with g | g
      · exact .inl (by rw [g]; exact hp)
      · exact .inr g
  exact ⟨h.steps, fun q hq => h.todo q (List.mem_cons_of_mem _ hq), key n h.here, fun x hx q hq => key q (h.closed x hx q hq)⟩
theorem keysOf_snoc (rs : List Refs) (y : Refs) : keysOf (rs ++ [y]) = keysOf rs ++ [y.1.1] := by unfold keysOf; rw [List.map_append]; rfl
theorem CInv.take {n p : Int} {xs : List Int} {rs : List Refs} (h : CInv n (p :: xs) rs) (y : Refs) (hy : y.1 = stepOf p) : CInv n (xs ++ primesOf (p - 1)) (rs ++ [y]) := by
  have hy1 : y.1.1 = p := by rw [hy]; rfl
  have hp := h.todo p (by simp)
  have key : ∀ q, q ∈ keysOf rs ∨ q ∈ p :: xs → q ∈ keysOf (rs ++ [y]) ∨ q ∈ xs ++ primesOf (p - 1) := fun q hq => by
    rw [keysOf_snoc, hy1]
    rcases hq with g | g
    · exact .inl (List.mem_append_left _ g)
    · rcases List.mem_cons.1 g with g | g
      · exact .inl (List.mem_append_right _ (by rw [g]; simp))
      · exact .inr (List.mem_append_left _ g)
  refine ⟨fun x hx => ?_, fun q hq => ?_, key n h.here, fun x hx q hq => ?_⟩
  · rcases List.mem_append.1 hx with g | g
    · exact h.steps x g
    · rw [List.mem_singleton.1 g, hy1]; exact ⟨hy, hp⟩
  · rcases List.mem_append.1 hq with g | g
    · exact h.todo q (List.mem_cons_of_mem _ g)
    · exact hp.step g
  · rcases List.mem_append.1 hx with g | g
    · exact key q (h.closed x g q hq)
    · rw [List.mem_singleton.1 g, hy1] at hq
      exact .inr (List.mem_append_right _ hq)
theorem CInv.done {n : Int} {rs : List Refs} (h : CInv n [] rs) : ∀ m, m ∈ keysOf rs ↔ FF.Reach n m := by
  intro m
  refine ⟨h.reach m, fun hm => ?_⟩
  induction hm with
  | base =>
    rcases h.here with g | g
    · exact g
    · cases g
  | step hp hq ih =>
    obtain ⟨x, hx, he⟩ := List.mem_map.1 ih
    rcases h.closed x hx _ (by rw [he]; exact hq) with g | g
    · exact g
    · cases g
theorem CInv.nodup_take {p : Int} {rs : List Refs} {y : Refs} (h : (keysOf rs).Nodup) (hp : p ∉ keysOf rs) (hy : y.1 = stepOf p) : (keysOf (rs ++ [y])).Nodup := by
  have hy1 : y.1.1 = p := by rw [hy]; rfl
  rw [keysOf_snoc, hy1, List.nodup_append]
  exact ⟨h, by simp, fun a ha b hb e => hp (by rw [List.mem_singleton.1 hb] at e; rw [← e]; exact ha)⟩
/-- rows -/
theorem Row0.kept {wr w2 : World} {T : TypeId} {size n : Nat} {v : Value} {xs : List Int} {row : Option Nat} (h : Row0 wr T size v n xs) (hg : wr.grownBy w2 row) (hne : ∀ k, v.ownBlock = some k → some k ≠ row) : Row0 w2 T size v n xs := by
  refine ⟨h.1, ?_⟩
  rcases h.2 with h0 | ⟨g, cap, cur, h1, h2, h3, h4⟩
  · exact .inl h0
  · refine .inr ⟨g, cap, cur, h1, h2, ?_, h4⟩
    rw [hg.block g (Array.getElem?_eq_some_iff.1 h3).1 (hne g (by rw [h1]; rfl))]
    exact h3
theorem Row0.lt {wr : World} {T : TypeId} {size n : Nat} {v : Value} {xs : List Int} (h : Row0 wr T size v n xs) : ∀ k, v.ownBlock = some k → k < wr.heap.size := by
  intro k hk
  rcases h.2 with ⟨rfl, -⟩ | ⟨g, cap, cur, rfl, -, h3, -⟩
  · cases hk
  · simp [Value.ownBlock] at hk
    subst hk
    exact (Array.getElem?_eq_some_iff.1 h3).1
theorem Row0.ne_map {wr : World} {T : TypeId} {size n : Nat} {v : Value} {xs : List Int} (h : Row0 wr T size v n xs) {b m : Nat} {rs : List Refs} (hm : MapS wr b m rs) : ∀ k, v.ownBlock = some k → k ≠ b := by
  intro k hk e
  subst e
  obtain ⟨es, ⟨fs, cl, g1, -⟩, -⟩ := hm
  rcases h.2 with ⟨rfl, -⟩ | ⟨g, cap, cur, rfl, -, h3, -⟩
  · cases hk
  · simp [Value.ownBlock] at hk
    subst hk
    rw [h3] at g1
    cases g1
/-- the rows of the steps, none of them in block g -/
def RowsOk (wr : World) (g : Nat) (rs : List Refs) : Prop := ∀ x ∈ rs, Row0 wr 3 1 (.slice x.2.1 x.1.2.2.length x.2.2) x.1.2.2.length x.1.2.2 ∧ ∀ k, (Value.slice x.2.1 x.1.2.2.length x.2.2).ownBlock = some k → k ≠ g
theorem RowsOk.keep {wr w2 : World} {g : Nat} {rs : List Refs} (h : RowsOk wr g rs) (hb : Below wr.heap.size wr w2) : RowsOk w2 g rs := fun x hx => ⟨(h x hx).1.keep hb, (h x hx).2⟩
theorem RowsOk.map {wr w2 : World} {g b m : Nat} {rs qs : List Refs} (h : RowsOk wr g rs) (hm : MapS wr b m qs) (hg : wr.grownBy w2 (some b)) : RowsOk w2 g rs := fun x hx =>
  ⟨(h x hx).1.kept hg (fun k hk e => (h x hx).1.ne_map hm k hk (by injection e)), (h x hx).2⟩
theorem RowsOk.que {wr w2 : World} {g g' : Nat} {rs : List Refs} (h : RowsOk wr g rs) (hg : wr.grownBy w2 (some g)) (h' : g' = g ∨ g' = wr.heap.size) : RowsOk w2 g' rs := fun x hx =>
  ⟨(h x hx).1.kept hg (fun k hk e => (h x hx).2 k hk (by injection e)), fun k hk e => by
    rcases h' with e' | e'
    · exact (h x hx).2 k hk (by omega)
    · have := (h x hx).1.lt k hk; omega⟩
theorem RowsOk.snoc {wr : World} {g : Nat} {rs : List Refs} {y : Refs} (h : RowsOk wr g rs) (hy : Row0 wr 3 1 (.slice y.2.1 y.1.2.2.length y.2.2) y.1.2.2.length y.1.2.2) (hk : ∀ k, (Value.slice y.2.1 y.1.2.2.length y.2.2).ownBlock = some k → k ≠ g) : RowsOk wr g (rs ++ [y]) := by
  intro x hx
  rcases List.mem_append.1 hx with g | g
  · exact h x g
  · rw [List.mem_singleton.1 g]; exact ⟨hy, hk⟩
theorem grown_of_below {w w' : World} (h : Below w.heap.size w w') (row : Option Nat) : w.grownBy w' row := ⟨h.os, h.tape, h.output, h.size, fun k hk _ => h.block k hk⟩
/-- a step in which a row of the call's own grows, at blocks from B on -/
theorem grown_new {a w w' : World} {row row' : Option Nat} (h : a.grownBy w row) (hg : w.grownBy w' row') (hr : ∀ k, row' = some k → a.heap.size ≤ k ∨ row = some k) : a.grownBy w' row := h.andThen hg hr
theorem C3.grown {W W' : World} {b : Nat} {v0 v1 v2 : Value} {row : Option Nat} (h : C3 W b v0 v1 v2) (hg : W.grownBy W' row) (hne : some b ≠ row) : C3 W' b v0 v1 v2 := by
  have hb := hg.block b h.1 hne
  have hc : ∀ o, W'.cell? ⟨b, o, none⟩ = W.cell? ⟨b, o, none⟩ := fun o => World.cell?_of_block (a := ⟨b, o, none⟩) hb
  have hf : ∀ o, W'.frozen? ⟨b, o, none⟩ = W.frozen? ⟨b, o, none⟩ := fun o => World.frozen?_of_block (a := ⟨b, o, none⟩) hb
  exact ⟨Nat.lt_of_lt_of_le h.1 hg.size, (hc 0).trans h.2.1, (hc 1).trans h.2.2.1, (hc 2).trans h.2.2.2.1, fun i => (hf i).trans (h.2.2.2.2 i)⟩
/-- a list in blocks from B on -/
def Row1 (B : Nat) (v : Value) (n : Nat) (xs : List Int) (w : World) : Prop := w.ownsRow B 3 1 v n (cellsI xs)
theorem Row1.row0 {B : Nat} {v : Value} {n : Nat} {xs : List Int} {w : World} (h : Row1 B v n xs w) : Row0 w 3 1 v n xs := by
  refine ⟨h.1, ?_⟩
  rcases h.2 with h0 | ⟨g, cap, cur, h1, -, h4⟩
  · exact .inl h0
  · exact .inr ⟨g, cap, cur, h1, Nat.zero_le _, h4⟩
theorem Row1.ge {B : Nat} {v : Value} {n : Nat} {xs : List Int} {w : World} (h : Row1 B v n xs w) : ∀ k, v.ownBlock = some k → B ≤ k := own_row_ge h
theorem Row1.kept {B : Nat} {v : Value} {n : Nat} {xs : List Int} {w w' : World} {row : Option Nat} (h : Row1 B v n xs w) (hg : w.grownBy w' row) (hne : ∀ k, row = some k → k < B) : Row1 B v n xs w' := by
  refine ⟨h.1, ?_⟩
  rcases h.2 with h0 | ⟨g, cap, cur, h1, h2, h3, h4⟩
  · exact .inl h0
  · refine .inr ⟨g, cap, cur, h1, h2, ?_, h4⟩
    rw [hg.block g (Array.getElem?_eq_some_iff.1 h3).1 (fun e => by have := hne g e.symm; omega)]
    exact h3
theorem wpList_append_row1 {P : Program} {ops : Array Oper} {rest : List Oper} {o : Oper} {a : Act} {Q : Exit → Act → World → Prop} (hgd : o.guard = none) (s x : Operand) (t : TypeId)
    (ho : o.op = .call { callee := .builtin .append, args := #[s, x], argTypes := #[t, t] })
    (i : TypeInfo) (z : Value) (ht : P.underlying t = some (.slice 3)) (hi : P.info? 3 = some i) (hz : i.zero = some z) (hsize : i.size = 1) (hby : i.bytes = 8) (hzs : z.cells.size = 1)
    (B : Nat) (v : Value) (n : Nat) (xs : List Int) (hs : a.eval s = v) {wr : World} (hG : Row1 B v n xs wr) (hB : B ≤ wr.heap.size) (T' : TypeId) (y : Int) (c : Nat)
    (hx : a.eval x = .slice (some ⟨wr.heap.size, 0, none⟩) 1 c) (hbound : n ≤ 1000000)
    (h : ∀ v' w', Row1 B v' (n + 1) (xs ++ [y]) w' → wr.grownBy w' v.ownBlock → wpList P ops Q rest (a.put o.dst v') w') : wpList P ops Q (o :: rest) a (wr.alloc (.cells #[.int .i64 y] T')) := by
  refine wpList_append_own (wr.alloc (.cells #[.int .i64 y] T')) hgd s x t ho B 3 i z 1 8 ht hi hz hsize hby hzs (by decide) v n _ hs (World.ownsRow.alloc hG _) ⟨wr.heap.size, 0, none⟩ 1 c [.int .i64 y] hx rfl (fun j u hj => ?_) (fun u hu => ?_) (by unfold maxLen; omega) (by omega) (by simp; omega) (fun v' w' h1 h2 _ => h v' w' ?_ ?_)
  · rw [Addr.add_lit, Nat.zero_add, World.cell?_alloc_at (w := wr) _ T' wr.heap.size j rfl]
    simpa using hj
  · rw [List.mem_singleton.1 hu]; rfl
  · have e : cellsI xs ++ [.int .i64 y] = cellsI (xs ++ [y]) := by simp [cellsI]
    rw [e] at h1; exact h1
  · exact (World.grownBy_alloc wr _ v.ownBlock).trans h2
end Go.Proofs.Ytfjmhfmhijhpkaa
