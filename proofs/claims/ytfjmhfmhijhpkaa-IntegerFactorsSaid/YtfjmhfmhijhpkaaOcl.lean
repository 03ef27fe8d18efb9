/- A list of lists of steps that a call makes. -/
import Derived.Test.YtfjmhfmhijhpkaaCfy
import Derived.Test.YtfjmhfmhijhpkaaShp
namespace Go.Proofs.Ytfjmhfmhijhpkaa
open Go.RowKit FF

/-- a row stays where a row of another type grows -/
theorem ownsRow_besideT {wr w2 : World} {T T' : TypeId} {B size size' n n' base : Nat} {v v' : Value} {xs : List Value} {vs : List Value} (h : wr.ownsRow B T size v n xs) (h' : wr.ownsRow base T' size' v' n' vs) (hT : T ≠ T') (hg : wr.grownBy w2 v'.ownBlock) : w2.ownsRow B T size v n xs := by
  refine ⟨h.1, ?_⟩
  rcases h.2 with h0 | ⟨g, cap, cur, h1, h2, h3, h4⟩
  · exact .inl h0
  · refine .inr ⟨g, cap, cur, h1, h2, ?_, h4⟩
    rw [hg.block g (Array.getElem?_eq_some_iff.1 h3).1 (fun e => ?_)]
    · exact h3
    · rcases h'.2 with ⟨rfl, -⟩ | ⟨g', cap', cur', rfl, -, h3', -⟩
      · cases e
      · simp [Value.ownBlock] at e
        subst e
        rw [h3] at h3'
        injection h3' with h3'
        injection h3' with _ e2
        exact hT e2
theorem ownsRow_keep {wr w2 : World} {T : TypeId} {B size n : Nat} {v : Value} {xs : List Value} (h : wr.ownsRow B T size v n xs) (hb : Below wr.heap.size wr w2) : w2.ownsRow B T size v n xs := by
  refine ⟨h.1, ?_⟩
  rcases h.2 with h0 | ⟨g, cap, cur, h1, h2, h3, h4⟩
  · exact .inl h0
  · exact .inr ⟨g, cap, cur, h1, h2, by rw [hb.block g (Array.getElem?_eq_some_iff.1 h3).1]; exact h3, h4⟩
/-- a list of steps in memory, with what its cells point to -/
def StepRow (wr : World) (v : Value) (rs : List Refs) : Prop :=
  wr.ownsRow 0 48 3 v rs.length (rs.flatMap cellsOf) ∧ ∀ x ∈ rs, Row0 wr 3 1 (.slice x.2.1 x.1.2.2.length x.2.2) x.1.2.2.length x.1.2.2
theorem StepRow.of {w wr : World} {v : Value} {rs : List Refs} (h : GotS w v rs wr) : StepRow wr v rs := by
  refine ⟨⟨h.1.1, ?_⟩, h.2.2⟩
  rcases h.1.2 with h0 | ⟨g, cap, cur, h1, -, h4⟩
  · exact .inl h0
  · exact .inr ⟨g, cap, cur, h1, Nat.zero_le _, h4⟩
theorem StepRow.keep {wr w2 : World} {v : Value} {rs : List Refs} (h : StepRow wr v rs) (hb : Below wr.heap.size wr w2) : StepRow w2 v rs := ⟨ownsRow_keep h.1 hb, fun x hx => (h.2 x hx).keep hb⟩
theorem StepRow.beside {wr w2 : World} {v v' : Value} {rs : List Refs} {base n' : Nat} {vs : List Value} (h : StepRow wr v rs) (h' : wr.ownsRow base 45 1 v' n' vs) (hg : wr.grownBy w2 v'.ownBlock) : StepRow w2 v rs :=
  ⟨ownsRow_besideT h.1 h' (by decide) hg, fun x hx => (h.2 x hx).besideT h' (by decide) hg⟩
theorem StepRow.shows {wr : World} {v : Value} {rs : List Refs} (h : StepRow wr v rs) : ∃ A c, v = .slice A rs.length c ∧ ShowsS wr A (rs.map fun x => x.1) ∧ rs.length ≤ c ∧ c ≤ maxLen := by
  rcases h.1.2 with ⟨rfl, hn⟩ | ⟨g, cap, cur, rfl, hb, hg, hnc, hcm, hcs, ht⟩
  · have : rs = [] := List.eq_nil_of_length_eq_zero hn
    subst this
    exact ⟨none, 0, rfl, (fun h0 => absurd h0 (by simp)), Nat.le_refl _, by simp [maxLen]⟩
  · refine ⟨some ⟨g, 0, none⟩, cap, rfl, fun h0 => ⟨g, 0, rfl, (Array.getElem?_eq_some_iff.1 hg).1, fun i hi => ?_⟩, hnc, hcm⟩
    rw [List.length_map] at hi
    have hx : rs[i]? = some rs[i] := List.getElem?_eq_getElem hi
    have e : (rs.map fun x => x.1).getD i (0, 0, []) = rs[i].1 := by rw [List.getD_eq_getElem?_getD, List.getElem?_map, hx]; rfl
    rw [e]
    have hc : ∀ d, d < 3 → wr.cell? ⟨g, 0 + i * 3 + d, none⟩ = (cellsOf rs[i])[d]? := fun d hd => by
      rw [← cellsOf_get rs i d _ hx hd, ← h.1.cellAt (i * 3 + d) (by omega)]
      simp
    obtain ⟨A', c', e1, s1, c1, c2⟩ := (h.2 rs[i] (List.getElem_mem hi)).shows
    injection e1 with f1 f2 f3
    refine ⟨rs[i].2.1, rs[i].2.2, hc 0 (by omega), hc 1 (by omega), hc 2 (by omega), by rw [f1]; exact s1, by rw [f3]; exact c1, by rw [f3]; exact c2⟩
/-- a list of lists of steps -/
def OwnL (w : World) (v : Value) (ls : List (Value × List Refs)) (wr : World) : Prop :=
  wr.ownsRow w.heap.size 45 1 v ls.length (ls.map fun x => x.1) ∧ Below w.heap.size w wr ∧ ∀ x ∈ ls, StepRow wr x.1 x.2
/-- the steps of a list of lists -/
def stepsOf (ls : List (Value × List Refs)) : List (List Stpp) := ls.map fun x => x.2.map fun y => y.1
section
variable {w wr : World} {v : Value} {ls : List (Value × List Refs)}
theorem OwnL.start (h : Below w.heap.size w wr) : OwnL w (.slice none 0 0) [] wr := ⟨World.ownsRow_nil _ _ _ _, h, (fun x hx => by cases hx)⟩
theorem OwnL.row_ge (h : OwnL w v ls wr) : ∀ k, v.ownBlock = some k → w.heap.size ≤ k := own_row_ge h.1
theorem OwnL.keep {w2 : World} (h : OwnL w v ls wr) (hb : Below wr.heap.size wr w2) : OwnL w v ls w2 := ⟨ownsRow_keep h.1 hb, h.2.1.trans (hb.mono h.2.1.size), fun x hx => (h.2.2 x hx).keep hb⟩
theorem wpList_append_ownL {P : Program} {ops : Array Oper} {rest : List Oper} {o : Oper} {a : Act} {Q : Exit → Act → World → Prop} (hgd : o.guard = none) (s x : Operand) (t : TypeId)
    (ho : o.op = .call { callee := .builtin .append, args := #[s, x], argTypes := #[t, t] })
    (i : TypeInfo) (z : Value) (bytes : Nat) (ht : P.underlying t = some (.slice 45)) (hi : P.info? 45 = some i) (hz : i.zero = some z)
    (hsize : i.size = 1) (hby : i.bytes = bytes) (hzs : z.cells.size = 1)
    (v : Value) (ls : List (Value × List Refs)) (hs : a.eval s = v) {w wr : World} (hG : OwnL w v ls wr) (T' : TypeId) (y : Value × List Refs) (c : Nat)
    (hy : StepRow wr y.1 y.2)
    (hx : a.eval x = .slice (some ⟨wr.heap.size, 0, none⟩) 1 c) (hbound : (ls.length + 1) * bytes ≤ 140737488355328) (h63 : ls.length + 1 ≤ maxLen)
    (h : ∀ v' w', OwnL w v' (ls ++ [y]) w' → (wr.alloc (.cells #[y.1] T')).grownBy w' v.ownBlock → wpList P ops Q rest (a.put o.dst v') w') : wpList P ops Q (o :: rest) a (wr.alloc (.cells #[y.1] T')) := by
  have hB : Below wr.heap.size wr (wr.alloc (.cells #[y.1] T')) := (Below.refl _ _).alloc (Nat.le_refl _) _
  have hG2 := hG.keep hB
  refine wpList_append_own (wr.alloc (.cells #[y.1] T')) hgd s x t ho w.heap.size 45 i z 1 bytes ht hi hz hsize hby hzs (by decide) v ls.length _ hs hG2.1 ⟨wr.heap.size, 0, none⟩ 1 c [y.1] hx rfl (fun j u hj => ?_) (fun u hu => ?_) h63 hbound hG2.2.1.size (fun v' w' h1 h2 _ => h v' w' ⟨?_, ?_, ?_⟩ h2)
  · rw [Addr.add_lit, Nat.zero_add, World.cell?_alloc_at (w := wr) #[y.1] T' wr.heap.size j rfl, ← Array.getElem?_toList, hj]
  · obtain ⟨A, c', e, -⟩ := hy.shows
    rw [List.mem_singleton.1 hu, e]; rfl
  · rw [List.length_append, List.map_append]
    exact h1
  · exact Below.grown hG2.2.1 h2 hG2.2.1.size hG2.row_ge
  · intro u hu
    rcases List.mem_append.1 hu with g | g
    · exact (hG2.2.2 u g).beside hG2.1 h2
    · rw [List.mem_singleton.1 g]
      exact (hy.keep hB).beside hG2.1 h2
theorem OwnL.shows (h : OwnL w v ls wr) : ∃ A c, v = .slice A ls.length c ∧ ShowsL wr A (stepsOf ls) ∧ ls.length ≤ c ∧ c ≤ maxLen := by
  rcases h.1.2 with ⟨rfl, hn⟩ | ⟨g, cap, cur, rfl, hb, hg, hnc, hcm, hcs, ht⟩
  · have : ls = [] := List.eq_nil_of_length_eq_zero hn
    subst this
    exact ⟨none, 0, rfl, (fun h0 => absurd h0 (by simp [stepsOf])), Nat.le_refl _, by simp [maxLen]⟩
  · refine ⟨some ⟨g, 0, none⟩, cap, rfl, fun h0 => ⟨g, 0, rfl, (Array.getElem?_eq_some_iff.1 hg).1, fun i hi => ?_⟩, hnc, hcm⟩
    unfold stepsOf at hi
    rw [List.length_map] at hi
    have hx : ls[i]? = some ls[i] := List.getElem?_eq_getElem hi
    have e : (stepsOf ls).getD i [] = ls[i].2.map fun y => y.1 := by unfold stepsOf; rw [List.getD_eq_getElem?_getD, List.getElem?_map, hx]; rfl
    rw [e]
    obtain ⟨A', c', e1, s1, c1, c2⟩ := (h.2.2 ls[i] (List.getElem_mem hi)).shows
    refine ⟨A', c', ?_, s1, by rw [List.length_map]; exact c1, c2⟩
    rw [Nat.zero_add, h.1.cellAt i (by omega), List.getElem?_map, hx, List.length_map, ← e1]; rfl
end
theorem info_steps : (Try.prog.info? 45).map (fun i => (i.zero, i.size, i.bytes)) = some (some (.slice none 0 0), 1, 24) := by kernel_rfl
end Go.Proofs.Ytfjmhfmhijhpkaa
