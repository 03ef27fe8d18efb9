/- A map from integers to steps of the call's own. -/
import Derived.Test.YtfjmhfmhijhpkaaMps
import Derived.Test.YtfjmhfmhijhpkaaSto
import Derived.Test.YtfjmhfmhijhpkaaCer
import Derived.Lib.SlKeysI
namespace Go.Proofs.Ytfjmhfmhijhpkaa
open Go.RowKit FF
open Go.Maps (Keyed int_keyed keyOf_int_mk)

/-- how an element reads: as the value that it is -/
def heldR : Value → Option (DataW Value × List MemPlace) := fun v => some (.held v, [])
def stepV (x : Refs) : Value := .agg #[.int .i64 x.1.1, .int .i64 x.1.2.1, .slice x.2.1 x.1.2.2.length x.2.2]
def keysOf (rs : List Refs) : List Int := rs.map fun x => x.1.1
theorem zeroStep (w : World) : (zeroValue 48).run Try.prog w = .ok (.agg #[.int .i64 0, .int .i64 0, .slice none 0 0]) w := by kernel_rfl
/-- block b is a map from the numbers of these steps to the steps -/
def MapS (w : World) (b n : Nat) (rs : List Refs) : Prop :=
  ∃ es : List (Lit × DataW Value), w.ownsMap Try.prog 3 heldR b n (.map es) ∧ es.Pairwise (fun p q => p.1 ≠ q.1) ∧ (∀ p ∈ es, ∃ x : Int, p.1 = .int .i64 x) ∧
    (∀ q : Int, Maps.has (.map es : DataW Value) (.int .i64 q) = decide (q ∈ keysOf rs)) ∧ (∀ x ∈ rs, ∀ z, (DataW.map es).atKey (.int .i64 x.1.1) z = .held (stepV x)) ∧ (keysOf rs).Nodup
theorem MapS.made (w : World) : MapS (w.alloc (.map #[] 0)) w.heap.size 0 [] :=
  ⟨[], World.ownsMap_made _ _ _ _, .nil, (fun p hp => by cases hp), (fun q => by simp [Maps.has_eq, keysOf]), (fun x hx => by cases hx), .nil⟩
theorem MapS.kept {w w' : World} {b n : Nat} {rs : List Refs} {row : Option Nat} (h : MapS w b n rs) (hg : w.grownBy w' row) (hne : some b ≠ row) : MapS w' b n rs := by
  obtain ⟨D, h1, h2⟩ := h
  exact ⟨D, h1.kept hg hne, h2⟩
theorem MapS.of_block {w w' : World} {b n : Nat} {rs : List Refs} (h : MapS w b n rs) (hb : w'.heap[b]? = w.heap[b]?) : MapS w' b n rs := by
  obtain ⟨D, ⟨es, clock, g1, g2⟩, h2⟩ := h
  exact ⟨D, ⟨es, clock, by rw [hb]; exact g1, g2⟩, h2⟩
theorem MapS.lt {w : World} {b n : Nat} {rs : List Refs} (h : MapS w b n rs) : b < w.heap.size := by
  obtain ⟨D, h1, -⟩ := h
  exact h1.lt
theorem MapS.keep {w w' : World} {b n : Nat} {rs : List Refs} (h : MapS w b n rs) (hb : Below w.heap.size w w') : MapS w' b n rs := h.of_block (hb.block b h.lt)
theorem MapS.nodup {w : World} {b n : Nat} {rs : List Refs} (h : MapS w b n rs) : (keysOf rs).Nodup := by
  obtain ⟨D, -, -, -, -, -, h2⟩ := h
  exact h2
/-- the looked up step, with whether it is there -/
theorem wpList_lookup_stepok (w : World) {ops : Array Oper} {rest : List Oper} {o : Oper} {a : Act} {Q : Exit → Act → World → Prop} (hg : o.guard = none) (m x : Operand) (hop : o.op = Op.lookup 110 m x true)
    (b n : Nat) (rs : List Refs) (hm : a.eval m = .map (some b)) (hS : MapS w b n rs) (q : Int) (hx : a.eval x = .int .i64 q) (hq : I64 q)
    (hK : ∀ (u v : Int) (A : Option Addr) (l c : Nat), wpList Try.prog ops Q rest (a.put o.dst (.tuple #[.agg #[.int .i64 u, .int .i64 v, .slice A l c], .bool (decide (q ∈ keysOf rs))])) w) : wpList Try.prog ops Q (o :: rest) a w := by
  obtain ⟨es, h1, h2, h3, h4, h5, h6⟩ := hS
  refine wpList_lookup_own_ok w hg m x 110 hop 3 48 intKey Try.underlying110 heldR (zeroStep w) (.held (.agg #[.int .i64 0, .int .i64 0, .slice none 0 0])) [] rfl b n (.map es) hm h1 _ (.int .i64 q) hx (keyOf_int_mk Try.underlying3 (WalkArith.wf_i64 hq)) ?_
  intro v ps hv
  rw [h4 q]
  by_cases hmem : q ∈ keysOf rs
  · obtain ⟨y, hy, rfl⟩ := List.mem_map.1 hmem
    rw [h5 y hy] at hv
    injection hv with hv
    injection hv with hv
    injection hv with hv
    subst hv
    exact hK _ _ _ _ _
  · rw [Maps.atKey_of_not_has (by rw [h4 q]; exact decide_eq_false hmem)] at hv
    injection hv with hv
    injection hv with hv
    injection hv with hv
    subst hv
    exact hK _ _ _ _ _
/-- the step of a number that is there -/
theorem wpList_lookup_step (w : World) {ops : Array Oper} {rest : List Oper} {o : Oper} {a : Act} {Q : Exit → Act → World → Prop} (hg : o.guard = none) (m x : Operand) (hop : o.op = Op.lookup 110 m x false)
    (b n : Nat) (rs : List Refs) (hm : a.eval m = .map (some b)) (hS : MapS w b n rs) (y : Refs) (hy : y ∈ rs) (hx : a.eval x = .int .i64 y.1.1) (hq : I64 y.1.1)
    (hK : wpList Try.prog ops Q rest (a.put o.dst (stepV y)) w) : wpList Try.prog ops Q (o :: rest) a w := by
  obtain ⟨es, h1, h2, h3, h4, h5, h6⟩ := hS
  obtain ⟨v, ps, hrun, hv⟩ := h1.lookup (kl := .int .i64 y.1.1) intKey Try.underlying110 (zeroStep w) (show heldR (.agg #[.int .i64 0, .int .i64 0, .slice none 0 0]) = some (.held (.agg #[.int .i64 0, .int .i64 0, .slice none 0 0]), []) from rfl) (keyOf_int_mk Try.underlying3 (WalkArith.wf_i64 hq))
  rw [h5 y hy] at hv
  injection hv with hv
  injection hv with hv
  injection hv with hv
  subst hv
  refine wpList_plain hg fun K' hK' => ?_
  unfold Oper.wp
  simp [execOp, hop, hm, hx, hrun, Result.andThen]
  exact hK' _ _ hK
theorem mem_insertW {H : Type} (x : Lit × DataW H) : ∀ (l : List (Lit × DataW H)) (p : Lit × DataW H), p ∈ DataW.insert x l → p = x ∨ p ∈ l
  | [], p, h => by simp [DataW.insert] at h; exact .inl h
  | y :: r, p, h => by
    unfold DataW.insert at h
    split at h
    · rcases List.mem_cons.1 h with h | h
      · exact .inl h
      · exact .inr h
    · rcases List.mem_cons.1 h with h | h
      · exact .inr (by rw [h]; simp)
      · rcases mem_insertW x r p h with h | h
        · exact .inl h
        · exact .inr (List.mem_cons_of_mem _ h)
/-- a new step -/
theorem wpList_update_step (w : World) {ops : Array Oper} {rest : List Oper} {o : Oper} {a : Act} {Q : Exit → Act → World → Prop} (hg : o.guard = none) (m x v : Operand) (hop : o.op = Op.mapUpdate 110 m x v)
    (b n : Nat) (rs : List Refs) (hm : a.eval m = .map (some b)) (hS : MapS w b n rs) (hn : n < maxLen) (y : Refs) (hnew : y.1.1 ∉ keysOf rs) (hx : a.eval x = .int .i64 y.1.1) (hv : a.eval v = stepV y) (hq : I64 y.1.1)
    (hK : ∀ w', MapS w' b (n + 1) (rs ++ [y]) → w.grownBy w' (some b) → wpList Try.prog ops Q rest (a.put o.dst undef) w') : wpList Try.prog ops Q (o :: rest) a w := by
  obtain ⟨es, h1, h2, h3, h4, h5, h6⟩ := hS
  refine wpList_mapUpdate_own w hg m x v 110 hop 3 48 intKey Try.underlying110 heldR b n _ hm h1 hn _ _ _ hx hv (keyOf_int_mk Try.underlying3 (WalkArith.wf_i64 hq)) (.held (stepV y)) [] rfl ?_
  intro w' g4 g5
  have hk : WideAt.IsKeyLit (.int .i64 y.1.1) := by trivial
  have hM : Maps.IsMap (.map es : DataW Value) := ⟨es, rfl⟩
  obtain ⟨es2, e2, p2⟩ := Maps.Tidy.put (D := .map es) (k := .int .i64 y.1.1) ⟨es, rfl, h2⟩ hk (.held (stepV y))
  have e3 := e2
  unfold DataW.put at e3
  dsimp only at e3
  injection e3 with e3
  rw [e2] at g4
  refine hK w' ⟨es2, g4, p2, fun p hp => ?_, fun q => ?_, fun z hz d => ?_, ?_⟩ g5
  · rw [← e3] at hp
    rcases mem_insertW _ _ _ hp with h | h
    · exact ⟨_, by rw [h]⟩
    · exact h3 p (List.mem_filter.1 h).1
  · rw [← e2]
    by_cases hqy : q = y.1.1
    · rw [hqy, Maps.has_put_same hM hk]
      exact (decide_eq_true (by simp [keysOf])).symm
    · rw [Maps.has_put_other (by intro e; injection e with _ e; exact hqy e), h4 q]
      have : (q ∈ keysOf rs) = (q ∈ keysOf (rs ++ [y])) := by simp [keysOf, hqy]
      simp only [this]
  · rw [← e2]
    rcases List.mem_append.1 hz with hz | hz
    · rw [Maps.atKey_put_other (by intro e; injection e with _ e; exact hnew (by rw [← e]; exact List.mem_map.2 ⟨z, hz, rfl⟩)), h5 z hz]
    · rw [List.mem_singleton.1 hz, Maps.atKey_put_same hM hk]
  · show (List.map _ (rs ++ [y])).Nodup
    rw [List.map_append, List.nodup_append]
    exact ⟨h6, by simp, fun a ha c hc e => hnew (by
      rw [List.map_cons, List.map_nil, List.mem_singleton] at hc
      rw [← hc, ← e]; exact ha)⟩
/-- the keys -/
theorem MapS.keys {w : World} {b n : Nat} {rs : List Refs} (h : MapS w b n rs) :
    ∃ D : DataW Value, w.ownsMap Try.prog 3 heldR b n D ∧ (keysOf rs).Perm (intKeys D) ∧ Maps.size D = rs.length := by
  obtain ⟨es, h1, h2, h3, h4, h5, h6⟩ := h
  have hp : (keysOf rs).Perm (intKeys (.map es : DataW Value)) := perm_intKeys h2 h3 h6 (fun x => by rw [h4 x, decide_eq_true_iff])
  refine ⟨.map es, h1, hp, ?_⟩
  have := hp.length_eq
  simp only [keysOf, intKeys, List.length_map] at this
  rw [this]; rfl
end Go.Proofs.Ytfjmhfmhijhpkaa
