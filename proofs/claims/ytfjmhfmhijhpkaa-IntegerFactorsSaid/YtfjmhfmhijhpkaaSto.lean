/- A list of steps that a call builds by append. -/
import Derived.Test.YtfjmhfmhijhpkaaRw0
import Derived.Test.YtfjmhfmhijhpkaaRgt
namespace Go.Proofs.Ytfjmhfmhijhpkaa
open Go.RowKit FF

/-- a row of integers stays where a row of another type grows -/
theorem Row0.besideT {wr w2 : World} {T T' : TypeId} {size size' n n' base : Nat} {v v' : Value} {xs : List Int} {vs : List Value} (h : Row0 wr T size v n xs) (h' : wr.ownsRow base T' size' v' n' vs) (hT : T ≠ T') (hg : wr.grownBy w2 v'.ownBlock) : Row0 w2 T size v n xs := by
  refine ⟨h.1, ?_⟩
  rcases h.2 with h0 | ⟨g, cap, cur, h1, h2, h3, h4⟩
  · exact .inl h0
  · refine .inr ⟨g, cap, cur, h1, h2, ?_, h4⟩
    rw [hg.block g (Array.getElem?_eq_some_iff.1 h3).1 (fun e => ?_)]
    · exact h3
    · rcases h'.2 with ⟨rfl, -⟩ | ⟨g', cap', cur', rfl, -, h3', -⟩
      · cases e
      · simp [Value.ownBlock] at e
        subst e
        rw [h3] at h3'
        injection h3' with h3'
        injection h3' with _ e2
        exact hT e2
/-- a list of a call's own stays where a row of another type grows -/
theorem Got.besideT {w wr w2 : World} {T T' : TypeId} {size size' n n' base : Nat} {v v' : Value} {xs : List Int} {vs : List Value} (h : Got w T size v n xs wr) (h' : wr.ownsRow base T' size' v' n' vs) (hT : T ≠ T') (hg : wr.grownBy w2 v'.ownBlock) (hb : Below w.heap.size w w2) : Got w T size v n xs w2 := by
  refine ⟨⟨h.1.1, ?_⟩, hb⟩
  rcases h.1.2 with h0 | ⟨g, cap, cur, h1, h2, h3, h4⟩
  · exact .inl h0
  · refine .inr ⟨g, cap, cur, h1, h2, ?_, h4⟩
    rw [hg.block g (Array.getElem?_eq_some_iff.1 h3).1 (fun e => ?_)]
    · exact h3
    · rcases h'.2 with ⟨rfl, -⟩ | ⟨g', cap', cur', rfl, -, h3', -⟩
      · cases e
      · simp [Value.ownBlock] at e
        subst e
        rw [h3] at h3'
        injection h3' with h3'
        injection h3' with _ e2
        exact hT e2
/-- a box of three cells, none frozen -/
def C3 (W : World) (b : Nat) (v0 v1 v2 : Value) : Prop := b < W.heap.size ∧ W.cell? ⟨b, 0, none⟩ = some v0 ∧ W.cell? ⟨b, 1, none⟩ = some v1 ∧ W.cell? ⟨b, 2, none⟩ = some v2 ∧ ∀ i, W.frozen? ⟨b, i, none⟩ = false
theorem C3.new (W : World) (v0 v1 v2 : Value) (T : TypeId) : C3 (W.alloc (.cells #[v0, v1, v2] T)) W.heap.size v0 v1 v2 :=
  ⟨by simp, by simp [go_sem], by simp [go_sem], by simp [go_sem], fun i => by simp [go_sem]⟩
theorem C3.keep {W W' : World} {b : Nat} {v0 v1 v2 : Value} (h : C3 W b v0 v1 v2) (hb : Below W.heap.size W W') : C3 W' b v0 v1 v2 :=
  ⟨Nat.lt_of_lt_of_le h.1 hb.size, (hb.cell (p := ⟨b, 0, none⟩) h.1).trans h.2.1, (hb.cell (p := ⟨b, 1, none⟩) h.1).trans h.2.2.1, (hb.cell (p := ⟨b, 2, none⟩) h.1).trans h.2.2.2.1, fun i => (hb.frozen (p := ⟨b, i, none⟩) h.1).trans (h.2.2.2.2 i)⟩
theorem C3.drewN {W : World} {b : Nat} {v0 v1 v2 : Value} (h : C3 W b v0 v1 v2) (n : Nat) : C3 (W.drewN n) b v0 v1 v2 := h.keep (below_drewN (Below.refl _ _) n)
theorem C3.mid {W : World} {b : Nat} {v0 v1 v2 : Value} (h : C3 W b v0 v1 v2) (u : Value) : C3 (W.setCell ⟨b, 1, none⟩ u) b v0 u v2 := by
  obtain ⟨h0, h1, h2, h3, h4⟩ := h
  exact ⟨by simpa [World.setCell] using h0, by simp [go_sem, h1], by simp [go_sem, h2], by simp [go_sem, h3], fun i => by simp [go_sem, h4 i]⟩
theorem C3.third {W : World} {b : Nat} {v0 v1 v2 : Value} (h : C3 W b v0 v1 v2) (u : Value) : C3 (W.setCell ⟨b, 2, none⟩ u) b v0 v1 u := by
  obtain ⟨h0, h1, h2, h3, h4⟩ := h
  exact ⟨by simpa [World.setCell] using h0, by simp [go_sem, h1], by simp [go_sem, h2], by simp [go_sem, h3], fun i => by simp [go_sem, h4 i]⟩
/-- the number in the second cell of a box -/
def midIn (w : World) (g : Nat) : Nat := match w.cell? ⟨g, 1, none⟩ with | some (.int _ r) => r.toNat | _ => 0
theorem C3.midIn {W : World} {b : Nat} {v0 v2 : Value} {r : Int} (h : C3 W b v0 (.int .i64 r) v2) : midIn W b = r.toNat := by
  unfold Go.Proofs.Ytfjmhfmhijhpkaa.midIn; rw [h.2.2.1]
/-- a step, and where its primes lie -/
abbrev Refs : Type := Stpp × Option Addr × Nat
def cellsOf (x : Refs) : List Value := [.int .i64 x.1.1, .int .i64 x.1.2.1, .slice x.2.1 x.1.2.2.length x.2.2]
/-- a list of steps, built since the world w -/
def GotS (w : World) (v : Value) (rs : List Refs) (wr : World) : Prop :=
  wr.ownsRow w.heap.size 48 3 v rs.length (rs.flatMap cellsOf) ∧ Below w.heap.size w wr ∧ ∀ x ∈ rs, Row0 wr 3 1 (.slice x.2.1 x.1.2.2.length x.2.2) x.1.2.2.length x.1.2.2
section
variable {w wr : World} {v : Value} {rs : List Refs}
theorem GotS.start (h : Below w.heap.size w wr) : GotS w (.slice none 0 0) [] wr := ⟨⟨by simp, .inl ⟨rfl, rfl⟩⟩, h, (fun x hx => by cases hx)⟩
theorem GotS.row_ge (h : GotS w v rs wr) : ∀ k, v.ownBlock = some k → w.heap.size ≤ k := by
  intro k hk
  rcases h.1.2 with ⟨rfl, _⟩ | ⟨g, cap, cur, rfl, hb, _⟩
  · cases hk
  · simp [Value.ownBlock] at hk; omega
theorem GotS.keep {w2 : World} (h : GotS w v rs wr) (hb : Below wr.heap.size wr w2) : GotS w v rs w2 := by
  refine ⟨⟨h.1.1, ?_⟩, h.2.1.trans (hb.mono h.2.1.size), fun x hx => (h.2.2 x hx).keep hb⟩
  rcases h.1.2 with h0 | ⟨g, cap, cur, h1, h2, h3, h4⟩
  · exact .inl h0
  · refine .inr ⟨g, cap, cur, h1, h2, ?_, h4⟩
    rw [hb.block g (Array.getElem?_eq_some_iff.1 h3).1]; exact h3
theorem GotS.drewN (h : GotS w v rs wr) (m : Nat) : GotS w v rs (wr.drewN m) := h.keep (below_drewN (Below.refl _ _) m)

theorem wpList_append_gotS {P : Program} {ops : Array Oper} {rest : List Oper} {o : Oper} {a : Act} {Q : Exit → Act → World → Prop} (hgd : o.guard = none) (s x : Operand) (t : TypeId)
    (ho : o.op = .call { callee := .builtin .append, args := #[s, x], argTypes := #[t, t] })
    (i : TypeInfo) (z : Value) (bytes : Nat) (ht : P.underlying t = some (.slice 48)) (hi : P.info? 48 = some i) (hz : i.zero = some z)
    (hsize : i.size = 3) (hby : i.bytes = bytes) (hzs : z.cells.size = 3)
    (v : Value) (rs : List Refs) (hs : a.eval s = v) {w wr : World} (hG : GotS w v rs wr) (news : Array Value) (T' : TypeId) (y : Refs) (hn : news.toList = cellsOf y) (c : Nat)
    (hy : Row0 wr 3 1 (.slice y.2.1 y.1.2.2.length y.2.2) y.1.2.2.length y.1.2.2)
    (hx : a.eval x = .slice (some ⟨wr.heap.size, 0, none⟩) 1 c) (hbound : (rs.length + 1) * bytes ≤ 140737488355328) (h63 : rs.length + 1 ≤ maxLen)
    (h : ∀ v' w', GotS w v' (rs ++ [y]) w' → (wr.alloc (.cells news T')).grownBy w' v.ownBlock → wpList P ops Q rest (a.put o.dst v') w') : wpList P ops Q (o :: rest) a (wr.alloc (.cells news T')) := by
  have hB : Below wr.heap.size wr (wr.alloc (.cells news T')) := (Below.refl _ _).alloc (Nat.le_refl _) _
  have hG2 := hG.keep hB
  refine wpList_append_own (wr.alloc (.cells news T')) hgd s x t ho w.heap.size 48 i z 3 bytes ht hi hz hsize hby hzs (by decide) v rs.length _ hs hG2.1 ⟨wr.heap.size, 0, none⟩ 1 c (cellsOf y) hx rfl (fun j u hj => ?_) (fun u hu => ?_) h63 hbound hG2.2.1.size (fun v' w' h1 h2 _ => h v' w' ⟨?_, ?_, ?_⟩ h2)
  · rw [Addr.add_lit, Nat.zero_add, World.cell?_alloc_at (w := wr) news T' wr.heap.size j rfl, ← Array.getElem?_toList, hn, hj]
  · rcases y with ⟨⟨N, R, l⟩, A, c⟩
    simp only [cellsOf, List.mem_cons, List.not_mem_nil, or_false] at hu
    rcases hu with rfl | rfl | rfl <;> rfl
  · rw [List.length_append, List.flatMap_append]
    simpa using h1
  · exact Below.grown hG2.2.1 h2 hG2.2.1.size hG2.row_ge
  · intro u hu
    rcases List.mem_append.1 hu with g | g
    · exact (hG2.2.2 u g).besideT hG2.1 (by decide) h2
    · rw [List.mem_singleton.1 g]
      exact (hy.keep hB).besideT hG2.1 (by decide) h2
theorem cellsOf_get : ∀ (rs : List Refs) (i d : Nat) (x : Refs), rs[i]? = some x → d < 3 → (rs.flatMap cellsOf)[i * 3 + d]? = (cellsOf x)[d]?
  | [], _, _, _, h, _ => by simp at h
  | y :: rs, 0, d, x, h, hd => by
    have e : y = x := by simpa using h
    rw [List.flatMap_cons, Nat.zero_mul, Nat.zero_add, List.getElem?_append_left (by simpa [cellsOf] using hd), e]
  | y :: rs, i + 1, d, x, h, hd => by
    rw [List.flatMap_cons, List.getElem?_append_right (by simp [cellsOf]; omega)]
    have : (i + 1) * 3 + d - (cellsOf y).length = i * 3 + d := by simp [cellsOf]; omega
    rw [this]
    exact cellsOf_get rs i d x (by simpa using h) hd
theorem GotS.shows {w wr : World} {v : Value} {rs : List Refs} (h : GotS w v rs wr) : ∃ A c, v = .slice A rs.length c ∧ ShowsS wr A (rs.map fun x => x.1) ∧ rs.length ≤ c ∧ c ≤ maxLen := by
  rcases h.1.2 with ⟨rfl, hn⟩ | ⟨g, cap, cur, rfl, hb, hg, hnc, hcm, hcs, ht⟩
  · have : rs = [] := List.eq_nil_of_length_eq_zero hn
    subst this
    exact ⟨none, 0, rfl, (fun h0 => absurd h0 (by simp)), Nat.le_refl _, by simp [maxLen]⟩
  · refine ⟨some ⟨g, 0, none⟩, cap, rfl, fun h0 => ⟨g, 0, rfl, (Array.getElem?_eq_some_iff.1 hg).1, fun i hi => ?_⟩, hnc, hcm⟩
    rw [List.length_map] at hi
    have hx : rs[i]? = some rs[i] := List.getElem?_eq_getElem hi
    have e : (rs.map fun x => x.1).getD i (0, 0, []) = rs[i].1 := by rw [List.getD_eq_getElem?_getD, List.getElem?_map, hx]; rfl
    rw [e]
    have hc : ∀ d, d < 3 → wr.cell? ⟨g, 0 + i * 3 + d, none⟩ = (cellsOf rs[i])[d]? := fun d hd => by
      rw [← cellsOf_get rs i d _ hx hd, ← h.1.cellAt (i * 3 + d) (by omega)]
      simp
    obtain ⟨A', c', e1, s1, c1, c2⟩ := (h.2.2 rs[i] (List.getElem_mem hi)).shows
    injection e1 with f1 f2 f3
    refine ⟨rs[i].2.1, rs[i].2.2, hc 0 (by omega), hc 1 (by omega), hc 2 (by omega), by rw [f1]; exact s1, by rw [f3]; exact c1, by rw [f3]; exact c2⟩
end
end Go.Proofs.Ytfjmhfmhijhpkaa
