/- Rows of integers, wherever they lie; an append that also tells what it wrote. -/
import Derived.Test.YtimdkjbmeogpoaaGreatDoorTOwn0
namespace Go.Proofs.YtimdkjbmeogpoaaGreatDoor
open Go.RowKit FF
def Row0 (wr : World) (T : TypeId) (size : Nat) (v : Value) (n : Nat) (xs : List Int) : Prop := wr.ownsRow 0 T size v n (cellsI xs)
theorem Got.row0 {w wr : World} {T : TypeId} {size n : Nat} {v : Value} {xs : List Int} (h : Got w T size v n xs wr) : Row0 wr T size v n xs := by
  refine ⟨h.1.1, ?_⟩
  rcases h.1.2 with h0 | ⟨g, cap, cur, h1, -, h4⟩
  · exact .inl h0
  · exact .inr ⟨g, cap, cur, h1, Nat.zero_le _, h4⟩
theorem Row0.keep {wr w2 : World} {T : TypeId} {size n : Nat} {v : Value} {xs : List Int} (h : Row0 wr T size v n xs) (hb : Below wr.heap.size wr w2) : Row0 w2 T size v n xs := by
  refine ⟨h.1, ?_⟩
  rcases h.2 with h0 | ⟨g, cap, cur, h1, h2, h3, h4⟩
  · exact .inl h0
  · exact .inr ⟨g, cap, cur, h1, h2, by rw [hb.block g (Array.getElem?_eq_some_iff.1 h3).1]; exact h3, h4⟩
theorem Row0.shows {wr : World} {T : TypeId} {size n : Nat} {v : Value} {xs : List Int} (h : Row0 wr T size v n xs) : ∃ A c, v = .slice A n c ∧ ShowsI wr A xs ∧ n ≤ c ∧ c ≤ maxLen := by
  have hl : xs.length = n * size := by have := h.1; rwa [cellsI_length] at this
  rcases h.2 with ⟨rfl, hn⟩ | ⟨g, cap, cur, rfl, hb, hg, hnc, hcm, hcs, ht⟩
  · subst hn
    have : xs = [] := List.eq_nil_of_length_eq_zero (by omega)
    subst this
    exact ⟨none, 0, rfl, ShowsI.nil, Nat.le_refl _, by simp [maxLen]⟩
  · refine ⟨some ⟨g, 0, none⟩, cap, rfl, fun h0 => ⟨g, 0, rfl, (Array.getElem?_eq_some_iff.1 hg).1, fun i hi => ?_⟩, hnc, hcm⟩
    have := h.cellAt i (by rw [← hl]; exact hi)
    rw [Nat.zero_add, this, cellsI_get hi]
theorem Row0.beside {wr w2 : World} {T T' : TypeId} {size size' n n' : Nat} {v v' : Value} {xs xs' : List Int} (h : Row0 wr T size v n xs) (h' : Row0 wr T' size' v' n' xs') (hT : T ≠ T') (hg : wr.grownBy w2 v'.ownBlock) : Row0 w2 T size v n xs := by
  refine ⟨h.1, ?_⟩
  rcases h.2 with h0 | ⟨g, cap, cur, h1, h2, h3, h4⟩
  · exact .inl h0
  · refine .inr ⟨g, cap, cur, h1, h2, ?_, h4⟩
    rw [hg.block g (Array.getElem?_eq_some_iff.1 h3).1 (fun e => ?_)]
    · exact h3
    · rcases h'.2 with ⟨rfl, -⟩ | ⟨g', cap', cur', rfl, -, h3', -⟩
      · cases e
      · simp [Value.ownBlock] at e
        subst e
        rw [h3] at h3'
        injection h3' with h3'
        injection h3' with _ e2
        exact hT e2
theorem wpList_append_got2 {P : Program} {ops : Array Oper} {rest : List Oper} {o : Oper} {a : Act} {Q : Exit → Act → World → Prop} (hgd : o.guard = none) (s x : Operand) (t : TypeId)
    (ho : o.op = .call { callee := .builtin .append, args := #[s, x], argTypes := #[t, t] })
    (E : TypeId) (i : TypeInfo) (z : Value) (size bytes : Nat) (ht : P.underlying t = some (.slice E)) (hi : P.info? E = some i) (hz : i.zero = some z)
    (hsize : i.size = size) (hby : i.bytes = bytes) (hzs : z.cells.size = size) (hsz : 0 < size)
    (v : Value) (n : Nat) (xs : List Int) (hs : a.eval s = v) {w wr : World} (hG : Got w E size v n xs wr) (news : Array Value) (T' : TypeId) (ys : List Int) (hn : news.toList = cellsI ys) (hl : ys.length = size) (c : Nat)
    (hx : a.eval x = .slice (some ⟨wr.heap.size, 0, none⟩) 1 c) (hbound : (n + 1) * bytes ≤ 140737488355328) (h63 : n + 1 ≤ maxLen)
    (h : ∀ v' w', Got w E size v' (n + 1) (xs ++ ys) w' → (wr.alloc (.cells news T')).grownBy w' v.ownBlock → wpList P ops Q rest (a.put o.dst v') w') : wpList P ops Q (o :: rest) a (wr.alloc (.cells news T')) := by
  have hsz' : (wr.alloc (.cells news T')).heap.size = wr.heap.size + 1 := by simp
  refine wpList_append_own (wr.alloc (.cells news T')) hgd s x t ho w.heap.size E i z size bytes ht hi hz hsize hby hzs hsz v n (cellsI xs) hs (hG.alloc _).1 ⟨wr.heap.size, 0, none⟩ 1 c (cellsI ys) hx (by rw [cellsI_length]; omega) (fun j u hj => ?_) (cellsI_one ys) h63 hbound (by have := hG.2.size; omega) (fun v' w' h1 h2 _ => h v' w' ⟨?_, ?_⟩ h2)
  · rw [Addr.add_lit, Nat.zero_add, World.cell?_alloc_at (w := wr) news T' wr.heap.size j rfl, ← Array.getElem?_toList, hn, hj]
  · have e : cellsI xs ++ cellsI ys = cellsI (xs ++ ys) := by simp [cellsI]
    rw [← e]; exact h1
  · exact Below.grown (hG.alloc _).2 h2 (by have := hG.2.size; omega) hG.row_ge
end Go.Proofs.YtimdkjbmeogpoaaGreatDoor
