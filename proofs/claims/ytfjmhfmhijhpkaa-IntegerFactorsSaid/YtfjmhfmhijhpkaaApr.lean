/- An append to a list of a call's own that also tells what of the old list stays. -/
import Derived.Test.YtfjmhfmhijhpkaaCfp
import Derived.Maps.AppendAt
namespace Go.Proofs.Ytfjmhfmhijhpkaa
open Go.RowKit FF

theorem Row1.shows {B n : Nat} {v : Value} {xs : List Int} {w : World} (h : Row1 B v n xs w) : ∃ A c, v = .slice A n c ∧ ShowsI w A xs ∧ n ≤ c ∧ c ≤ maxLen := h.row0.shows
theorem Row1.len {B n : Nat} {v : Value} {xs : List Int} {w : World} (h : Row1 B v n xs w) : xs.length = n := by have := h.1; rw [cellsI_length] at this; omega
theorem Row1.form {B n : Nat} {v : Value} {xs : List Int} {w : World} (h : Row1 B v n xs w) (h0 : 0 < n) : ∃ g cap, v = .slice (some ⟨g, 0, none⟩) n cap ∧ B ≤ g ∧ g < w.heap.size ∧ n ≤ cap ∧ cap ≤ maxLen := by
  rcases h.2 with ⟨-, hn⟩ | ⟨g, cap, cur, rfl, hb, hg, hnc, hcm, -⟩
  · omega
  · exact ⟨g, cap, rfl, hb, (Array.getElem?_eq_some_iff.1 hg).1, hnc, hcm⟩
theorem Row1.of_block {B n : Nat} {v : Value} {xs : List Int} {w w' : World} (h : Row1 B v n xs w) (hb : ∀ g, v.ownBlock = some g → w'.heap[g]? = w.heap[g]?) : Row1 B v n xs w' := by
  refine ⟨h.1, ?_⟩
  rcases h.2 with h0 | ⟨g, cap, cur, h1, h2, h3, h4⟩
  · exact .inl h0
  · exact .inr ⟨g, cap, cur, h1, h2, by rw [hb g (by rw [h1]; rfl)]; exact h3, h4⟩
theorem Row1.mono {B B' n : Nat} {v : Value} {xs : List Int} {w : World} (h : Row1 B v n xs w) (hb : B' ≤ B) : Row1 B' v n xs w := by
  refine ⟨h.1, ?_⟩
  rcases h.2 with h0 | ⟨g, cap, cur, h1, h2, h3⟩
  · exact .inl h0
  · exact .inr ⟨g, cap, cur, h1, Nat.le_trans hb h2, h3⟩
/-- a new list of one number -/
theorem Row1.lit (B : Nat) (w : World) (x : Int) (h : B ≤ w.heap.size) : Row1 B (.slice (some ⟨w.heap.size, 0, none⟩) 1 1) 1 [x] (w.alloc (.cells #[.int .i64 x] 3)) :=
  World.ownsRow_lit _ #[.int .i64 x] 1 (Nat.le_refl _) (by unfold maxLen; omega) rfl |> fun h' => Row1.mono (B := w.heap.size) h' h
/-- the sides of an append -/
theorem run_append_row {P : Program} (w : World) (t ty : TypeId) (i : TypeInfo) (z : Value) (ht : P.underlying t = some (.slice 3)) (hi : P.info? 3 = some i) (hz : i.zero = some z) (hsize : i.size = 1) (hby : i.bytes = 8) (hzs : z.cells.size = 1)
    {B n m : Nat} {v x : Value} {xs ys : List Int} (h : Row1 B v n xs w) (hB : B ≤ w.heap.size) {T : TypeId} (hx : Row0 w T 1 x m ys) (hbound : n + m ≤ 2000000000) :
    ∃ v' w', (Builtin.append_ #[t, t] ty #[v, x]).run P w = .ok v' w' ∧ Row1 B v' (n + m) (xs ++ ys) w' ∧ w.grownBy w' v.ownBlock ∧ (v'.ownBlock = v.ownBlock ∨ v'.ownBlock = some w.heap.size) ∧
      ∀ g, v.ownBlock = some g → ∀ o, o < n → w'.cell? ⟨g, o, none⟩ = w.cell? ⟨g, o, none⟩ := by
  have hs := hx.src ht
  have hxl : ys.length = m := by have := hx.1; rw [cellsI_length] at this; omega
  have hcl := cellsI_length ys
  obtain ⟨A, c, rfl, hsh, -⟩ := hx.shows
  rcases Nat.eq_zero_or_pos m with h0 | h0
  · -- nothing is appended
    have hys : ys = [] := List.eq_nil_of_length_eq_zero (by omega)
    subst hys
    obtain rfl : m = 0 := by simpa using hxl.symm
    obtain ⟨A', c', rfl, -, h1, -⟩ := h.shows
    refine ⟨_, w, run_append_nothing (P := P) w t ty 3 i ht hi A' A n c' c h1, by rw [List.append_nil]; exact h, ⟨rfl, rfl, rfl, Nat.le_refl _, fun _ _ _ => rfl⟩, .inl rfl, fun _ _ _ _ => rfl⟩
  · obtain ⟨b, o, e, -⟩ := hsh (by omega)
    subst e
    obtain ⟨v', w', hrun, k1, k2, -, k3⟩ := run_append_own_at (P := P) w B t ty 3 i z 1 8 ht hi hz hsize hby hzs (by decide) v n (cellsI xs) h ⟨b, o, none⟩ m c (cellsI ys) (by rw [hcl]; omega) (cellsI_of_shows hsh) (cellsI_one ys) (by unfold maxLen; omega) (by omega) hB
    refine ⟨v', w', hrun, by rw [cellsI_append] at k1; exact k1, k2, k3, fun g hg q hq => ?_⟩
    rcases h.2 with ⟨rfl, -⟩ | ⟨g', cap, cur, rfl, -, hgg, hnc, hcm, hcs, htk⟩
    · cases hg
    · simp [Value.ownBlock] at hg
      subst hg
      have hcell : ∀ j, j < cap → (w.cell? ⟨g', 0 + j, none⟩).isSome = true ∧ w.frozen? ⟨g', 0 + j, none⟩ = false := by
        intro j hj
        constructor
        · simp only [World.cell?, hgg, Nat.zero_add]
          rw [if_neg (by simp), Array.getElem?_eq_getElem (by omega)]; rfl
        · simp [World.frozen?, hgg]
      by_cases hr : n + m ≤ cap
      · have hrun2 := run_append_room_src (P := P) w t t ty 3 i ht hi g' 0 n cap _ m (cellsI ys) (by rw [hsize]; exact hs) hr
          (fun j hj => by rw [hsize, Nat.mul_one, Nat.add_assoc]; exact (hcell _ (by omega)).1) (fun j hj => by rw [hsize, Nat.mul_one, Nat.add_assoc]; exact (hcell _ (by omega)).2)
        rw [hrun] at hrun2
        injection hrun2 with _ e2
        rw [e2]
        exact World.cell?_setCells_out _ _ _ _ _ (fun _ _ => Or.inl (by simp only [hsize]; omega))
      · have hold : (Builtin.firstCells i.size n (.slice (some ⟨g', 0, none⟩) n cap)).run P w.drew = .ok (cellsI xs).toArray w.drew := by
          rw [hsize]
          refine run_firstCells_some _ 1 n _ _ _ _ (by have := h.1; omega) (fun j u hj => ?_)
          have := h.cellAt j (by
            rcases Nat.lt_or_ge j (cellsI xs).length with q | q
            · have := h.1; omega
            · rw [List.getElem?_eq_none q] at hj; cases hj)
          rw [Addr.add_lit, Nat.zero_add]
          exact (show w.cell? ⟨g', j, none⟩ = some u by rw [this]; exact hj)
        have hrun2 := run_append_grow_src (P := P) w t t ty 3 i z ht hi hz (some ⟨g', 0, none⟩) n cap (cellsI xs) hold _ m (cellsI ys) (by rw [hsize]; exact hs) (by omega) (by omega) (growslice_fits (by omega) (by rw [hby]; omega))
        rw [hrun] at hrun2
        injection hrun2 with _ e2
        rw [e2]
        exact World.cell?_of_block (a := ⟨g', q, none⟩) (Below.heap_alloc w.drew _ g' (Array.getElem?_eq_some_iff.1 hgg).1)
theorem wpList_append_row {P : Program} (w : World) {ops : Array Oper} {rest : List Oper} {o : Oper} {a : Act} {Q : Exit → Act → World → Prop} (hgd : o.guard = none) (s x : Operand) (t : TypeId)
    (ho : o.op = .call { callee := .builtin .append, args := #[s, x], argTypes := #[t, t] }) (i : TypeInfo) (z : Value) (ht : P.underlying t = some (.slice 3)) (hi : P.info? 3 = some i) (hz : i.zero = some z) (hsize : i.size = 1) (hby : i.bytes = 8) (hzs : z.cells.size = 1)
    {B n m : Nat} (v xv : Value) {xs ys : List Int} (hv : a.eval s = v) (h : Row1 B v n xs w) (hB : B ≤ w.heap.size) {T : TypeId} (hx : a.eval x = xv) (hy : Row0 w T 1 xv m ys) (hbound : n + m ≤ 2000000000)
    (hK : ∀ v' w', Row1 B v' (n + m) (xs ++ ys) w' → w.grownBy w' v.ownBlock → (v'.ownBlock = v.ownBlock ∨ v'.ownBlock = some w.heap.size) → (∀ g, v.ownBlock = some g → ∀ o, o < n → w'.cell? ⟨g, o, none⟩ = w.cell? ⟨g, o, none⟩) → wpList P ops Q rest (a.put o.dst v') w') : wpList P ops Q (o :: rest) a w := by
  refine wpList_plain hgd fun K hK' => ?_
  obtain ⟨v', w', hrun, r1, r2, r3, r4⟩ := run_append_row (P := P) w t o.type i z ht hi hz hsize hby hzs h hB hy hbound
  unfold Oper.wp
  simp [execOp, ho, resolve, invoke, builtin, hv, hx, hrun, Result.andThen]
  exact hK' _ _ (hK v' w' r1 r2 r3 r4)
end Go.Proofs.Ytfjmhfmhijhpkaa
