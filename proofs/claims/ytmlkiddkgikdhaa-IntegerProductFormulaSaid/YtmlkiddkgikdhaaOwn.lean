/- Slices that a call builds by append. -/
import Derived.Test.YtmlkiddkgikdhaaCmp
import Derived.Test.YtmlkiddkgikdhaaWd
namespace Go.Proofs.Ytmlkiddkgikdhaa
open Go.RowKit FF

section
variable {P : Program} (w : World)
theorem run_append_nothing (t ty e : TypeId) (i : TypeInfo) (ht : P.underlying t = some (.slice e)) (hi : P.info? e = some i) (B A : Option Addr) (n cap c : Nat) (hn : n ≤ cap) :
    (Builtin.append_ #[t, t] ty #[.slice B n cap, .slice A 0 c]).run P w = .ok (.slice B n cap) w := by
  cases A <;> cases B <;> simp [Builtin.append_, run_underlying ht, sizeOf, typeInfo, hi, Builtin.lenOf, Builtin.firstCells, hn, storeCells, loadCells, loadCellsFrom]
theorem wpList_append_nothing {ops : Array Oper} {rest : List Oper} {o : Oper} {a : Act} {Q : Exit → Act → World → Prop} (hgd : o.guard = none) (s x : Operand) (t : TypeId)
    (ho : o.op = .call { callee := .builtin .append, args := #[s, x], argTypes := #[t, t] })
    (e : TypeId) (i : TypeInfo) (ht : P.underlying t = some (.slice e)) (hi : P.info? e = some i)
    (B A : Option Addr) (n cap c : Nat) (hs : a.eval s = .slice B n cap) (hx : a.eval x = .slice A 0 c) (hn : n ≤ cap)
    (h : wpList P ops Q rest (a.put o.dst (.slice B n cap)) w) : wpList P ops Q (o :: rest) a w := by
  refine wpList_plain hgd fun K hK => ?_
  have hr := run_append_nothing (P := P) w t o.type e i ht hi B A n cap c hn
  unfold Oper.wp execOp
  simp only [ho, resolve, invoke, builtin, Sem.run_bind, Sem.run_pure, Result.andThen_ok, List.map_toArray, List.map_cons, List.map_nil, hs, hx, hr]
  exact hK _ _ h
end

theorem own_shows {k : IntKind} {w : World} {B T : Nat} {v : Value} {xs : List Nat} (h : w.ownsRow B T 1 v xs.length (cells k xs)) :
    ∃ A c, v = .slice A xs.length c ∧ Shows k w A xs ∧ xs.length ≤ c ∧ c ≤ maxLen ∧ Fresh B A := by
  rcases h.2 with ⟨rfl, hn⟩ | ⟨g, cap, cur, rfl, hb, hg, hnc, hcm, hcs, ht⟩
  · have : xs = [] := List.eq_nil_of_length_eq_zero hn
    subst this
    exact ⟨none, 0, rfl, Shows.nil, Nat.le_refl _, by simp [maxLen], Fresh.none⟩
  · refine ⟨some ⟨g, 0, none⟩, cap, rfl, fun h0 => ⟨g, 0, rfl, (Array.getElem?_eq_some_iff.1 hg).1, fun i hi => ?_⟩, hnc, hcm, Fresh.mk hb⟩
    have := h.cellAt i (by omega)
    rw [Nat.zero_add, this, cells_get hi]
/-- the cells of machine integers -/
def cellsI (xs : List Int) : List Value := xs.map fun x => Value.int .i64 x
theorem cellsI_length (xs : List Int) : (cellsI xs).length = xs.length := by unfold cellsI; rw [List.length_map]
theorem cellsI_get {xs : List Int} {j : Nat} (h : j < xs.length) : (cellsI xs)[j]? = some (.int .i64 (xs.getD j 0)) := by
  unfold cellsI; rw [List.getElem?_map, List.getElem?_eq_getElem h, List.getD_eq_getElem?_getD, List.getElem?_eq_getElem h]; rfl
theorem cellsI_one (xs : List Int) : ∀ u ∈ cellsI xs, u.oneCell' = true := by
  intro u hu; unfold cellsI at hu; obtain ⟨x, _, rfl⟩ := List.mem_map.1 hu; rfl
theorem cellsI_snoc (xs : List Int) (x : Int) : cellsI xs ++ [.int .i64 x] = cellsI (xs ++ [x]) := by simp [cellsI]
theorem cells_snoc (k : IntKind) (xs : List Nat) (x : Nat) : cells k xs ++ [.int k x] = cells k (xs ++ [x]) := by simp [cells]
theorem cellsI_of_shows {w : World} {ad : Addr} {xs : List Int} (h : ShowsI w (some ad) xs) : ∀ j u, (cellsI xs)[j]? = some u → w.cell? (ad.add j) = some u := by
  intro j u hu
  have hj : j < xs.length := by
    rcases Nat.lt_or_ge j xs.length with h1 | h1
    · exact h1
    · rw [List.getElem?_eq_none (by rw [cellsI_length]; exact h1)] at hu; cases hu
  obtain ⟨b, o, e, hb, hc⟩ := h (by omega)
  injection e with e
  subst e
  rw [cellsI_get hj] at hu
  rw [← hu, ← hc j hj, Addr.add_lit]
theorem own_showsI {w : World} {B T : Nat} {v : Value} {xs : List Int} (h : w.ownsRow B T 1 v xs.length (cellsI xs)) :
    ∃ A c, v = .slice A xs.length c ∧ ShowsI w A xs ∧ xs.length ≤ c ∧ c ≤ maxLen ∧ Fresh B A := by
  rcases h.2 with ⟨rfl, hn⟩ | ⟨g, cap, cur, rfl, hb, hg, hnc, hcm, hcs, ht⟩
  · have : xs = [] := List.eq_nil_of_length_eq_zero hn
    subst this
    exact ⟨none, 0, rfl, ShowsI.nil, Nat.le_refl _, by simp [maxLen], Fresh.none⟩
  · refine ⟨some ⟨g, 0, none⟩, cap, rfl, fun h0 => ⟨g, 0, rfl, (Array.getElem?_eq_some_iff.1 hg).1, fun i hi => ?_⟩, hnc, hcm, Fresh.mk hb⟩
    have := h.cellAt i (by omega)
    rw [Nat.zero_add, this, cellsI_get hi]
/-- the block that a slice owns is not below -/
theorem own_row_ge {w : World} {B T : Nat} {v : Value} {n : Nat} {xs : List Value} (h : w.ownsRow B T 1 v n xs) : ∀ k, v.ownBlock = some k → B ≤ k := fun k hk => (h.lt k hk).1
end Go.Proofs.Ytmlkiddkgikdhaa
