/- Slices that a call builds by append. Lists of integers (and of structs of integers) that a call builds by append: what is known of them, the append, and how they read afterwards. -/
import Derived.Test.YtimdkjbmeogpoaaGreatDoorTCmp
namespace Go.Proofs.YtimdkjbmeogpoaaGreatDoor
open Go.RowKit FF
def cellsI (xs : List Int) : List Value := xs.map fun x => Value.int .i64 x
theorem cellsI_length (xs : List Int) : (cellsI xs).length = xs.length := by unfold cellsI; rw [List.length_map]
theorem cellsI_get {xs : List Int} {j : Nat} (h : j < xs.length) : (cellsI xs)[j]? = some (.int .i64 (xs.getD j 0)) := by
  unfold cellsI; rw [List.getElem?_map, List.getElem?_eq_getElem h, List.getD_eq_getElem?_getD, List.getElem?_eq_getElem h]; rfl
theorem cellsI_one (xs : List Int) : ∀ u ∈ cellsI xs, u.oneCell' = true := by
  intro u hu; unfold cellsI at hu; obtain ⟨x, _, rfl⟩ := List.mem_map.1 hu; rfl
end Go.Proofs.YtimdkjbmeogpoaaGreatDoor
namespace Go.Proofs.YtimdkjbmeogpoaaGreatDoor
open Go.RowKit FF
def Got (w : World) (T : TypeId) (size : Nat) (v : Value) (n : Nat) (xs : List Int) (wr : World) : Prop :=
  wr.ownsRow w.heap.size T size v n (cellsI xs) ∧ Below w.heap.size w wr
section
variable {w wr : World} {T : TypeId} {size n : Nat} {v : Value} {xs : List Int}
theorem Got.start (h : Below w.heap.size w wr) : Got w T size (.slice none 0 0) 0 [] wr := ⟨⟨by simp [cellsI], .inl ⟨rfl, rfl⟩⟩, h⟩
theorem Got.drewN (h : Got w T size v n xs wr) (m : Nat) : Got w T size v n xs (wr.drewN m) := ⟨h.1, below_drewN h.2 m⟩
theorem Got.alloc (h : Got w T size v n xs wr) (o : Obj) : Got w T size v n xs (wr.alloc o) := ⟨h.1.alloc o, h.2.alloc h.2.size o⟩
theorem Got.row_ge (h : Got w T size v n xs wr) : ∀ k, v.ownBlock = some k → w.heap.size ≤ k := by
  intro k hk
  rcases h.1.2 with ⟨rfl, _⟩ | ⟨g, cap, cur, rfl, hb, _⟩
  · cases hk
  · simp [Value.ownBlock] at hk; omega
theorem Got.keep {w2 : World} (h : Got w T size v n xs wr) (hb : Below wr.heap.size wr w2) : Got w T size v n xs w2 := by
  refine ⟨⟨h.1.1, ?_⟩, h.2.trans (hb.mono h.2.size)⟩
  rcases h.1.2 with h0 | ⟨g, cap, cur, h1, h2, h3, h4⟩
  · exact .inl h0
  · refine .inr ⟨g, cap, cur, h1, h2, ?_, h4⟩
    have hlt : g < wr.heap.size := (Array.getElem?_eq_some_iff.1 h3).1
    rw [hb.block g hlt]; exact h3
theorem Got.len (h : Got w T size v n xs wr) : xs.length = n * size := by have := h.1.1; rwa [cellsI_length] at this
theorem wpList_append_got {P : Program} {ops : Array Oper} {rest : List Oper} {o : Oper} {a : Act} {Q : Exit → Act → World → Prop} (hgd : o.guard = none) (s x : Operand) (t : TypeId)
    (ho : o.op = .call { callee := .builtin .append, args := #[s, x], argTypes := #[t, t] })
    (E : TypeId) (i : TypeInfo) (z : Value) (size bytes : Nat) (ht : P.underlying t = some (.slice E)) (hi : P.info? E = some i) (hz : i.zero = some z)
    (hsize : i.size = size) (hby : i.bytes = bytes) (hzs : z.cells.size = size) (hsz : 0 < size)
    (v : Value) (n : Nat) (xs : List Int) (hs : a.eval s = v) {w wr : World} (hG : Got w E size v n xs wr) (news : Array Value) (T' : TypeId) (ys : List Int) (hn : news.toList = cellsI ys) (hl : ys.length = size) (c : Nat)
    (hx : a.eval x = .slice (some ⟨wr.heap.size, 0, none⟩) 1 c) (hbound : (n + 1) * bytes ≤ 140737488355328) (h63 : n + 1 ≤ maxLen)
    (h : ∀ v' w', Got w E size v' (n + 1) (xs ++ ys) w' → wpList P ops Q rest (a.put o.dst v') w') : wpList P ops Q (o :: rest) a (wr.alloc (.cells news T')) := by
  have hsz' : (wr.alloc (.cells news T')).heap.size = wr.heap.size + 1 := by simp
  refine wpList_append_own (wr.alloc (.cells news T')) hgd s x t ho w.heap.size E i z size bytes ht hi hz hsize hby hzs hsz v n (cellsI xs) hs (hG.alloc _).1 ⟨wr.heap.size, 0, none⟩ 1 c (cellsI ys) hx (by rw [cellsI_length]; omega) (fun j u hj => ?_) (cellsI_one ys) h63 hbound (by have := hG.2.size; omega) (fun v' w' h1 h2 _ => h v' w' ⟨?_, ?_⟩)
  · rw [Addr.add_lit, Nat.zero_add, World.cell?_alloc_at (w := wr) news T' wr.heap.size j rfl, ← Array.getElem?_toList, hn, hj]
  · have e : cellsI xs ++ cellsI ys = cellsI (xs ++ ys) := by simp [cellsI]
    rw [← e]; exact h1
  · exact Below.grown (hG.alloc _).2 h2 (by have := hG.2.size; omega) hG.row_ge
theorem Got.shows (h : Got w T size v n xs wr) : ∃ A c, v = .slice A n c ∧ ShowsI wr A xs ∧ n ≤ c ∧ c ≤ maxLen ∧ Fresh w.heap.size A := by
  rcases h.1.2 with ⟨rfl, hn⟩ | ⟨g, cap, cur, rfl, hb, hg, hnc, hcm, hcs, ht⟩
  · subst hn
    have : xs = [] := List.eq_nil_of_length_eq_zero (by have := h.len; omega)
    subst this
    exact ⟨none, 0, rfl, ShowsI.nil, Nat.le_refl _, by simp [maxLen], Fresh.none⟩
  · refine ⟨some ⟨g, 0, none⟩, cap, rfl, fun h0 => ⟨g, 0, rfl, (Array.getElem?_eq_some_iff.1 hg).1, fun i hi => ?_⟩, hnc, hcm, Fresh.mk hb⟩
    have := h.1.cellAt i (by rw [← h.len]; exact hi)
    rw [Nat.zero_add, this, cellsI_get hi]
end
end Go.Proofs.YtimdkjbmeogpoaaGreatDoor
