/- A law of regions that draw their order: an invariant that each operation keeps holds behind the region, whatever the order. -/
import Derived.Test.YtimdkjbmeogpoaaGreatDoorUQa0
namespace Go.Proofs.YtimdkjbmeogpoaaGreatDoor
open Go.RowKit FF
section
variable {P : Program} {ops : Array Oper} {Q : Exit → Act → World → Prop}
theorem mem_ready {md : Region.Mode} {listed : Array Bool} {i : Nat} (h : i ∈ Region.ready md ops listed) :
  i < ops.size ∧ listed.getD i true = false ∧ ∀ o, ops[i]? = some o → ∀ e ∈ o.after, Region.binds md e = true → listed.getD e.on false = true := by
 unfold Region.ready at h
 obtain ⟨h1, h2⟩ := List.mem_filter.1 h
 have hi := List.mem_range.1 h1
 simp only [Bool.and_eq_true, Bool.not_eq_true'] at h2
 refine ⟨hi, h2.1, fun o ho e he hb => ?_⟩
 have h3 := h2.2
 rw [ho] at h3
 simp only [Option.map_some, Option.getD_some, Array.all_eq_true'] at h3
 have := h3 e he
 rw [hb] at this
 simpa using this
theorem ready_least {listed : Array Bool} (hl : listed.size = ops.size) (dag : ∀ (i : Nat) (o : Oper), ops[i]? = some o → ∀ e ∈ o.after, Region.binds .any e = true → e.on < i)
  (h : Region.ready .any ops listed = []) : ∀ i, i < ops.size → listed.getD i false = true := by
 intro i
 induction i using Nat.strongRecOn with
 | ind i ih =>
  intro hi
  apply Classical.byContradiction
  intro hno
  have hf : listed.getD i true = false := by
   have : listed.getD i false = listed[i]'(by omega) := by simp [Array.getD, hl, hi]
   rw [this] at hno
   simp [Array.getD, hl, hi]
   simpa using hno
  have : i ∈ Region.ready .any ops listed := by
   unfold Region.ready
   refine List.mem_filter.2 ⟨List.mem_range.2 hi, ?_⟩
   simp only [Bool.and_eq_true, Bool.not_eq_true']
   refine ⟨hf, ?_⟩
   rw [Array.getElem?_eq_getElem hi]
   simp only [Option.map_some, Option.getD_some, Array.all_eq_true']
   intro e he
   cases hb : Region.binds .any e
   ·rfl
   ·have hlt := dag i _ (Array.getElem?_eq_getElem hi) e he hb
    rw [ih e.on hlt (by omega)]
    rfl
  rw [h] at this
  cases this
theorem count_set_false {listed : Array Bool} {i : Nat} (h : listed.getD i true = false) :
  (listed.setIfInBounds i true).toList.count false + 1 = listed.toList.count false := by
 have hi : i < listed.size := by
  apply Classical.byContradiction
  intro hn
  simp [Array.getD, hn] at h
 have hv : listed.toList[i]'(by simpa using hi) = false := by simpa [Array.getD, hi] using h
 have hp : 0 < listed.toList.count false := List.count_pos_iff.2 (hv ▸ List.getElem_mem _)
 rw [Array.toList_setIfInBounds, List.count_set (by simpa using hi), hv]
 have e1 : ((false : Bool) == false) = true := rfl
 have e2 : ((true : Bool) == false) = false := rfl
 rw [e1, e2]
 rw [if_pos rfl, if_neg (by simp)]
 omega
theorem wpAny_inv (J : Array Bool → Act → World → Prop) (dag : ∀ (i : Nat) (o : Oper), ops[i]? = some o → ∀ e ∈ o.after, Region.binds .any e = true → e.on < i)
  (hstep : ∀ listed a w i o, J listed a w → listed.size = ops.size → ops[i]? = some o → listed.getD i true = false → (∀ e ∈ o.after, Region.binds .any e = true → listed.getD e.on false = true) → wpOp P ops Q i (J (listed.setIfInBounds i true)) a w)
  (hend : ∀ listed a w, J listed a w → (∀ i, i < ops.size → listed.getD i false = true) → Q .normal a w) :
  ∀ fuel listed a w, listed.size = ops.size → listed.toList.count false ≤ fuel → J listed a w → wpAny P .any ops Q fuel listed a w := by
 intro fuel
 induction fuel with
 | zero =>
  intro listed a w hs hc hJ
  have hr : Region.ready .any ops listed = [] := by
   rw [List.eq_nil_iff_forall_not_mem]
   intro i hi
   have := count_set_false (mem_ready hi).2.1
   omega
  exact ⟨hr, hend _ _ _ hJ (ready_least hs dag hr)⟩
 | succ fuel ih =>
  intro listed a w hs hc hJ
  refine ⟨fun hr => hend _ _ _ hJ (ready_least hs dag hr), fun i hi => ?_⟩
  obtain ⟨h1, h2, h3⟩ := mem_ready hi
  have ho := Array.getElem?_eq_getElem h1
  refine wpOp_mono (fun a' w' h => ih _ a' w' (by simpa using hs) ?_ h) (hstep listed a w i _ hJ hs ho h2 (h3 _ ho))
  have := count_set_false h2
  omega
def dstAt (ops : Array Oper) (i : Nat) : Option Tmp := (ops[i]?).bind (·.dst)
def putAll (tmps : Array Value) (l : List Tmp) (y : Nat → Value) : Array Value := l.foldl (fun t d => t.setIfInBounds d (y d)) tmps
theorem putAll_size (l : List Tmp) (y : Nat → Value) : ∀ tmps, (putAll tmps l y).size = tmps.size := by
 induction l with
 | nil => intro tmps; rfl
 | cons d l ih => intro tmps; exact (ih _).trans (by simp)
theorem putAll_get (l : List Tmp) (y : Nat → Value) (j : Nat) : ∀ tmps : Array Value, j < tmps.size → (putAll tmps l y)[j]? = if j ∈ l then some (y j) else tmps[j]? := by
 induction l with
 | nil => intro tmps _; simp [putAll]
 | cons d l ih =>
  intro tmps hj
  have h := ih (tmps.setIfInBounds d (y d)) (by simpa using hj)
  have e : putAll tmps (d :: l) y = putAll (tmps.setIfInBounds d (y d)) l y := rfl
  rw [e, h]
  by_cases h1 : j ∈ l
  ·simp [h1]
  ·rw [if_neg h1]
   by_cases h2 : d = j
   ·subst h2
    simp [hj]
   ·rw [Array.getElem?_setIfInBounds_ne h2, if_neg (by simp [h1, Ne.symm h2])]
structure BoxS where
 at' : Nat
 slot : Nat
 st : Nat
 zero : Array Value
 fin : Array Value
structure BoxO where
 g : Nat
 st : Nat
 zero : Array Value
 fin : Array Value
def depB (o : Oper) (j : Nat) : Bool := o.after.any fun e => Region.binds .any e && e.on == j
theorem depB_listed {o : Oper} {j : Nat} {listed : Array Bool} (h : depB o j = true) (hd : ∀ e ∈ o.after, Region.binds .any e = true → listed.getD e.on false = true) : listed.getD j false = true := by
 unfold depB at h
 obtain ⟨e, he, h2⟩ := Array.any_eq_true'.1 h
 simp only [Bool.and_eq_true, beq_iff_eq] at h2
 exact h2.2 ▸ hd e he h2.1
structure Only (g : Nat) (W W' : World) : Prop where
 os : W'.os = W.os
 tape : W'.tape = W.tape
 output : W'.output = W.output
 size : W'.heap.size = W.heap.size
 block : ∀ k, k ≠ g → W'.heap[k]? = W.heap[k]?
theorem Only.setCell (W : World) (g k : Nat) (v : Value) : Only g W (W.setCell ⟨g, k, none⟩ v) := by
 have hb := (Below.refl g W).setCell (p := ⟨g, k, none⟩) (Nat.le_refl _) v
 refine ⟨hb.os, hb.tape, hb.output, by simp, fun j hj => ?_⟩
 exact Below.heap_setCell _ _ _ _ hj
theorem Only.trans {g : Nat} {A B C : World} (h : Only g A B) (k : Only g B C) : Only g A C :=
 ⟨k.os.trans h.os, k.tape.trans h.tape, k.output.trans h.output, k.size.trans h.size, fun i hi => (k.block i hi).trans (h.block i hi)⟩
theorem Only.below {g b : Nat} {w W W' : World} (h : Only g W W') (hb : Below b w W) (hg : b ≤ g) : Below b w W' :=
 ⟨h.os.trans hb.os, h.tape.trans hb.tape, h.output.trans hb.output, by rw [h.size]; exact hb.size, fun k hk => (h.block k (by omega)).trans (hb.block k hk)⟩
theorem Cells.put2 {W : World} {b : Nat} {v0 v1 : Value} (hc : Cells W b #[v0, v1]) (u0 u1 : Value) : Cells ((W.setCell ⟨b, 0, none⟩ u0).setCell ⟨b, 1, none⟩ u1) b #[u0, u1] := by
 have h0 : W.cell? ⟨b, 0, none⟩ = some v0 := hc.2.1 0 (by simp)
 have h1 : W.cell? ⟨b, 1, none⟩ = some v1 := hc.2.1 1 (by simp)
 refine ⟨by simpa [World.setCell] using hc.1, fun i hi => ?_, fun i => by simp [go_sem, hc.2.2 i]⟩
 match i, hi with
 | 0, _ => simp [go_sem, h0]
 | 1, _ => simp [go_sem, h1]
theorem Cells.of_block {W W' : World} {b : Nat} {vs : Array Value} (h : Cells W b vs) (hs : W.heap.size ≤ W'.heap.size) (hb : W'.heap[b]? = W.heap[b]?) : Cells W' b vs := by
 have hB : Below (b + 1) { W with heap := W.heap.extract b (b+1) } { W with heap := W.heap.extract b (b+1) } := Below.refl _ _
 clear hB
 refine ⟨Nat.lt_of_lt_of_le h.1 hs, fun i hi => ?_, fun i => ?_⟩
 ·rw [← h.2.1 i hi]; simp only [World.cell?, hb]
 ·rw [← h.2.2 i]; simp only [World.frozen?, hb]
theorem Cells.only {W W' : World} {b g : Nat} {vs : Array Value} (h : Cells W b vs) (ho : Only g W W') (hg : b ≠ g) : Cells W' b vs :=
 h.of_block (Nat.le_of_eq ho.size.symm) (ho.block b hg)
variable {a : Act} {w : World} {B : Nat} {vals : List (Nat × Nat × Value)} {bxs : List BoxS} {olds : List BoxO}
structure RJ (ops : Array Oper) (a : Act) (B : Nat) (w : World) (vals : List (Nat × Nat × Value)) (bxs : List BoxS) (olds : List BoxO) (listed : Array Bool) (a' : Act) (W : World) : Prop where
 defers : a'.defers = a.defers
 size : a'.tmps.size = a.tmps.size
 frame : ∀ t, (∀ (i : Nat) (o : Oper), ops[i]? = some o → o.dst ≠ some t) → a'.tmps.getD t undef = a.tmps.getD t undef
 below : Below B w W
 val : ∀ x ∈ vals, listed.getD x.1 false = true → a'.tmps.getD x.2.1 undef = x.2.2
 box : ∀ b ∈ bxs, listed.getD b.at' false = true → ∃ g, a'.tmps.getD b.slot undef = .pointer (some ⟨g, 0, none⟩) ∧ w.heap.size ≤ g ∧ Cells W g (if listed.getD b.st false = true then b.fin else b.zero)
 old : ∀ c ∈ olds, Cells W c.g (if listed.getD c.st false = true then c.fin else c.zero)
 ord : ∀ b ∈ bxs, listed.getD b.st false = true → listed.getD b.at' false = true
 apart : ∀ b ∈ bxs, ∀ c ∈ bxs, b.at' ≠ c.at' → listed.getD b.at' false = true → listed.getD c.at' false = true → a'.tmps.getD b.slot undef ≠ a'.tmps.getD c.slot undef
def fr (a : Act) (ds : List Tmp) (y : Nat → Value) : Act := ⟨putAll a.tmps ds y, a.defers⟩
def OpVal (P : Program) (a : Act) (B : Nat) (w : World) (vals : List (Nat × Nat × Value)) (bxs : List BoxS) (olds : List BoxO) (ds : List Tmp) (i : Nat) (o : Oper) : Prop :=
 ∃ v, (∀ x ∈ vals, x.1 = i → x.2.2 = v) ∧ (∀ b ∈ bxs, b.at' ≠ i ∧ b.st ≠ i) ∧ (∀ c ∈ olds, c.st ≠ i) ∧
  ∀ y W, Below B w W → (∀ c ∈ olds, c.st = 999 → Cells W c.g c.zero) → (∀ x ∈ vals, depB o x.1 = true → y x.2.1 = x.2.2) → ∀ K Q', (∀ W', Below W.heap.size W W' → K ((fr a ds y).put o.dst v) W') → Oper.wp P o (fr a ds y) W K Q'
def OpBox (P : Program) (a : Act) (vals : List (Nat × Nat × Value)) (bxs : List BoxS) (olds : List BoxO) (ds : List Tmp) (i : Nat) (o : Oper) : Prop :=
 (∀ x ∈ vals, x.1 ≠ i) ∧ (∀ c ∈ olds, c.st ≠ i) ∧ (∃ b ∈ bxs, b.at' = i ∧ (b.st = i → b.fin = b.zero) ∧ (∀ c ∈ bxs, (c.at' = i → c = b) ∧ (c.st = i → c = b)) ∧
  ∃ T, ∀ y W, ∀ K Q', K ((fr a ds y).put o.dst (.pointer (some ⟨W.heap.size, 0, none⟩))) (W.alloc (.cells b.zero T)) → Oper.wp P o (fr a ds y) W K Q')
def OpSto (P : Program) (a : Act) (B : Nat) (w : World) (vals : List (Nat × Nat × Value)) (bxs : List BoxS) (olds : List BoxO) (ds : List Tmp) (i : Nat) (o : Oper) : Prop :=
 (∀ x ∈ vals, x.1 ≠ i) ∧ (∀ c ∈ olds, c.st ≠ i) ∧ (∃ b ∈ bxs, b.st = i ∧ b.at' ≠ i ∧ (∀ c ∈ bxs, c.at' ≠ i ∧ (c.st = i → c = b) ∧ (c.at' = b.at' → c = b)) ∧ depB o b.at' = true ∧
  ∀ y W g, Below B w W → (∀ x ∈ vals, depB o x.1 = true → y x.2.1 = x.2.2) → y b.slot = .pointer (some ⟨g, 0, none⟩) → w.heap.size ≤ g → Cells W g b.zero → ∀ K Q', (∀ W', Cells W' g b.fin → Only g W W' → K ((fr a ds y).put o.dst undef) W') → Oper.wp P o (fr a ds y) W K Q')
def OpOld (P : Program) (a : Act) (B : Nat) (w : World) (vals : List (Nat × Nat × Value)) (bxs : List BoxS) (olds : List BoxO) (ds : List Tmp) (i : Nat) (o : Oper) : Prop :=
 (∀ x ∈ vals, x.1 ≠ i) ∧ (∀ b ∈ bxs, b.at' ≠ i ∧ b.st ≠ i) ∧ (∃ c ∈ olds, c.st = i ∧ B ≤ c.g ∧ (∀ d ∈ olds, (d.st = i → d = c) ∧ (d.g = c.g → d = c)) ∧
  ∀ y W, Below B w W → (∀ x ∈ vals, depB o x.1 = true → y x.2.1 = x.2.2) → Cells W c.g c.zero → ∀ K Q', (∀ W', Cells W' c.g c.fin → Only c.g W W' → K ((fr a ds y).put o.dst undef) W') → Oper.wp P o (fr a ds y) W K Q')
def GuardIs (vals : List (Nat × Nat × Value)) (o : Oper) (j : Nat) (want b : Bool) : Prop := o.guard = some (j, want) ∧ depB o j = true ∧ ∃ x ∈ vals, x.1 = j ∧ x.2.2 = .bool b
def OpOk (P : Program) (a : Act) (B : Nat) (w : World) (vals : List (Nat × Nat × Value)) (bxs : List BoxS) (olds : List BoxO) (ds : List Tmp) (i : Nat) (o : Oper) : Prop :=
 ((o.guard = none ∨ ∃ j b, GuardIs vals o j b b) ∧ (OpVal P a B w vals bxs olds ds i o ∨ OpBox P a vals bxs olds ds i o ∨ OpSto P a B w vals bxs olds ds i o ∨ OpOld P a B w vals bxs olds ds i o)) ∨
 ((∃ j b, GuardIs vals o j (!b) b) ∧ (∀ x ∈ vals, x.1 = i → x.2.2 = undef) ∧ (∀ b ∈ bxs, b.at' ≠ i ∧ b.st ≠ i) ∧ (∀ c ∈ olds, c.st ≠ i))
theorem getD_put_ne {a : Act} {d : Option Tmp} {v : Value} {t : Nat} (h : d ≠ some t) : (a.put d v).tmps.getD t undef = a.tmps.getD t undef := by
 cases d with
 | none => rfl
 | some d =>
  have hd : d ≠ t := fun e => h (by rw [e])
  simp only [Act.put, Array.getD_eq_getD_getElem?, Array.getElem?_setIfInBounds_ne hd]
theorem getD_put_eq {a : Act} {v : Value} {t : Nat} (h : t < a.tmps.size) : (a.put (some t) v).tmps.getD t undef = v := by
 simp only [Act.put, Array.getD_eq_getD_getElem?, Array.getElem?_setIfInBounds_self_of_lt h, Option.getD_some]
theorem put_size (a : Act) (d : Option Tmp) (v : Value) : (a.put d v).tmps.size = a.tmps.size := by
 cases d <;> simp [Act.put]
theorem put_defers (a : Act) (d : Option Tmp) (v : Value) : (a.put d v).defers = a.defers := by
 cases d <;> simp [Act.put]
theorem getD_listed {listed : Array Bool} {i j : Nat} (hi : i < listed.size) : (listed.setIfInBounds i true).getD j false = if j = i then true else listed.getD j false := by
 by_cases h : j = i
 ·subst h; simp [Array.getD_eq_getD_getElem?, Array.getElem?_setIfInBounds_self_of_lt hi]
 ·rw [if_neg h]; simp [Array.getD_eq_getD_getElem?, Array.getElem?_setIfInBounds_ne (Ne.symm h)]
theorem RJ.lit {listed : Array Bool} {a' : Act} {W : World} (h : RJ ops a B w vals bxs olds listed a' W) : a' = fr a (ops.toList.filterMap (·.dst)) (fun t => a'.tmps.getD t undef) := by
 rcases a' with ⟨tm, df⟩
 have hd := h.defers; have hs := h.size; have hf := h.frame
 simp only [fr] at hd hs hf ⊢
 rw [hd]
 congr 1
 apply Array.ext_getElem?
 intro j
 by_cases hj : j < a.tmps.size
 ·rw [putAll_get _ _ _ _ hj]
  have hj' : j < tm.size := by rw [hs]; exact hj
  by_cases hm : j ∈ ops.toList.filterMap (·.dst)
  ·rw [if_pos hm]; simp [Array.getD, hj']
  ·rw [if_neg hm]
   have := hf j (fun i o ho hd => hm (List.mem_filterMap.2 ⟨o, by rw [Array.mem_toList_iff]; exact Array.mem_of_getElem? ho, hd⟩))
   simp only [Array.getD, hj, hj', dite_true] at this
   rw [Array.getElem?_eq_getElem hj, Array.getElem?_eq_getElem hj']
   exact congrArg some this
 ·rw [Array.getElem?_eq_none (by rw [hs]; omega), Array.getElem?_eq_none (by rw [putAll_size]; omega)]
theorem RJ.step {listed : Array Bool} {a' : Act} {W : World} {i : Nat} {o : Oper} (h : RJ ops a B w vals bxs olds listed a' W) (hs : listed.size = ops.size) (ho : ops[i]? = some o) (hn : listed.getD i true = false)
  (hd : ∀ e ∈ o.after, Region.binds .any e = true → listed.getD e.on false = true)
  (nodup : ∀ (i j : Nat) (o o' : Oper) (t : Tmp), ops[i]? = some o → ops[j]? = some o' → o.dst = some t → o'.dst = some t → i = j)
  (vok : ∀ x ∈ vals, (ops[x.1]?).bind (·.dst) = some x.2.1 ∧ x.2.1 < a.tmps.size) (bok : ∀ b ∈ bxs, (ops[b.at']?).bind (·.dst) = some b.slot ∧ b.slot < a.tmps.size) (hBw : B ≤ w.heap.size) (olt : ∀ c ∈ olds, c.g < w.heap.size) (h999 : ops.size ≤ 999)
  {ds : List Tmp} (hds : ops.toList.filterMap (·.dst) = ds) (hok : OpOk P a B w vals bxs olds ds i o) : wpOp P ops Q i (RJ ops a B w vals bxs olds (listed.setIfInBounds i true)) a' W := by
 have hi : i < listed.size := by
  rw [hs]; exact (Array.getElem?_eq_some_iff.1 ho).1
 have hnf : listed.getD i false = false := by
  simpa [Array.getD, hi] using hn
 have hL := fun j => getD_listed (listed := listed) (i := i) (j := j) hi
 have hslot : ∀ j t, j ≠ i → (ops[j]?).bind (·.dst) = some t → o.dst ≠ some t := by
  intro j t hj h1 h2
  cases hoj : ops[j]? with
  | none => rw [hoj] at h1; cases h1
  | some oj => rw [hoj] at h1; exact hj (nodup j i oj o t hoj ho h1 h2)
 have hV : ∀ x ∈ vals, depB o x.1 = true → a'.tmps.getD x.2.1 undef = x.2.2 := fun x hx hdx => h.val x hx (depB_listed hdx hd)
 have hlit := h.lit
 rw [hds] at hlit
 have hY : ∃ y : Nat → Value, (∀ t, a'.tmps.getD t undef = y t) ∧ a' = fr a ds y := ⟨_, fun _ => rfl, hlit⟩
 obtain ⟨y, hy, hay⟩ := hY
 simp only [hy] at hV
 clear hlit
 have hyi : ∀ j want b, GuardIs vals o j want b → Region.wanted o (yielded ops a'.tmps) = (b == want) := by
  rintro j want b ⟨g1, g2, x, hx, rfl, hxb⟩
  have h1 := h.val x hx (depB_listed g2 hd)
  have h2 := vok x hx
  have h3 : x.2.1 < a'.tmps.size := by rw [h.size]; exact h2.2
  rw [hxb] at h1
  have h4 : a'.tmps[x.2.1]? = some (.bool b) := by
   rw [Array.getElem?_eq_getElem h3]
   simpa [Array.getD, h3] using h1
  simp only [Region.wanted, g1, yielded, h2.1, Option.bind_some, h4]
  cases b <;> cases want <;> rfl
 have hvo : ∀ v, ∀ x ∈ vals, x.1 ≠ i → listed.getD x.1 false = true → (a'.put o.dst v).tmps.getD x.2.1 undef = x.2.2 := fun v x hx hxi hl => by
  rw [getD_put_ne (hslot _ _ hxi (vok x hx).1)]; exact h.val x hx hl
 have hbo : ∀ v, ∀ b ∈ bxs, b.at' ≠ i → (a'.put o.dst v).tmps.getD b.slot undef = a'.tmps.getD b.slot undef := fun v b hb hbi =>
  getD_put_ne (hslot _ _ hbi (bok b hb).1)
 have hfr : ∀ v t, (∀ (i : Nat) (o : Oper), ops[i]? = some o → o.dst ≠ some t) → (a'.put o.dst v).tmps.getD t undef = a.tmps.getD t undef := fun v t ht => by
  rw [getD_put_ne (ht i o ho)]; exact h.frame t ht
 have hBW : B ≤ W.heap.size := Nat.le_trans hBw h.below.size
 have holdk : ∀ {W' : World}, Below W.heap.size W W' → (∀ c ∈ olds, c.st ≠ i) → ∀ c ∈ olds, Cells W' c.g (if (listed.setIfInBounds i true).getD c.st false = true then c.fin else c.zero) := fun hB hne c hc => by
  rw [hL, if_neg (hne c hc)]
  exact (h.old c hc).keep hB
 have hval : ∀ v, (∀ x ∈ vals, x.1 = i → x.2.2 = v) → (∀ b ∈ bxs, b.at' ≠ i ∧ b.st ≠ i) → (∀ c ∈ olds, c.st ≠ i) → ∀ W', Below W.heap.size W W' → RJ ops a B w vals bxs olds (listed.setIfInBounds i true) (a'.put o.dst v) W' := by
  intro v hv1 hv2 hv4 W' hB
  refine ⟨(put_defers ..).trans h.defers, (put_size ..).trans h.size, hfr v, h.below.trans (hB.mono hBW), fun x hx hl => ?_, fun b hb hl => ?_, holdk hB hv4, fun b hb hl => ?_, fun b hb c hc hbc hl1 hl2 => ?_⟩
  ·by_cases hxi : x.1 = i
   ·have h1 := (vok x hx)
    rw [hxi, ho] at h1
    have h2 : o.dst = some x.2.1 := h1.1
    rw [h2, getD_put_eq (by rw [h.size]; exact h1.2), hv1 x hx hxi]
   ·rw [hL, if_neg hxi] at hl
    exact hvo v x hx hxi hl
  ·rw [hL, if_neg (hv2 b hb).1] at hl
   obtain ⟨g, g1, g2, g3⟩ := h.box b hb hl
   refine ⟨g, (hbo v b hb (hv2 b hb).1).trans g1, g2, ?_⟩
   rw [hL, if_neg (hv2 b hb).2]
   exact g3.keep hB
  ·rw [hL, if_neg (hv2 b hb).2] at hl
   rw [hL, if_neg (hv2 b hb).1]
   exact h.ord b hb hl
  ·rw [hL, if_neg (hv2 b hb).1] at hl1
   rw [hL, if_neg (hv2 c hc).1] at hl2
   rw [hbo v b hb (hv2 b hb).1, hbo v c hc (hv2 c hc).1]
   exact h.apart b hb c hc hbc hl1 hl2
 unfold wpOp
 rw [ho]
 rcases hok with ⟨hg, hok⟩ | ⟨⟨j, b, hg⟩, hu1, hu2, hu3⟩
 rotate_left
 ·simp only [hyi _ _ _ hg, show (b == !b) = false by cases b <;> rfl, Bool.false_eq_true, if_false]
  exact hval undef hu1 hu2 hu3 W (Below.refl _ _)
 have hw : Region.wanted o (yielded ops a'.tmps) = true := by
  rcases hg with hg | ⟨j, b, hg⟩
  ·simp only [Region.wanted, hg]
  ·rw [hyi _ _ _ hg]; cases b <;> rfl
 simp only [hw, if_true]
 refine .inl ?_
 have hO : ∀ c ∈ olds, c.st = 999 → Cells W c.g c.zero := fun c hc hn => by
  have := h.old c hc
  rwa [hn, show listed.getD 999 false = false from by simp [Array.getD, show ¬ 999 < listed.size by omega], if_neg (by simp)] at this
 rcases hok with ⟨v, hv1, hv2, hv4, hv3⟩ | ⟨hx0, ho4, b, hb, hbi, hbf, hbu, T, hb3⟩ | ⟨hx0, ho4, b, hb, hbi, hbn, hbu, hbd, hb3⟩ | ⟨hx0, hb0, c0, hc0, hci, hcB, hcu, hc3⟩
 ·rw [hay]
  refine hv3 y W h.below hO hV _ _ (fun W' hB => ?_)
  rw [← hay]
  exact hval v hv1 hv2 hv4 W' hB
 ·have hB : Below W.heap.size W (W.alloc (.cells b.zero T)) := (Below.refl _ _).alloc (Nat.le_refl _) _
  have hdst : o.dst = some b.slot := by
   have h1 := (bok b hb).1
   rw [hbi, ho] at h1; exact h1
  have hnew : (a'.put o.dst (.pointer (some ⟨W.heap.size, 0, none⟩))).tmps.getD b.slot undef = .pointer (some ⟨W.heap.size, 0, none⟩) := by
   rw [hdst, getD_put_eq (by rw [h.size]; exact (bok b hb).2)]
  have hne : ∀ c ∈ bxs, c ≠ b → c.at' ≠ i ∧ c.st ≠ i := fun c hc hcb => ⟨fun e => hcb ((hbu c hc).1 e), fun e => hcb ((hbu c hc).2 e)⟩
  have hold : ∀ c ∈ bxs, c ≠ b → listed.getD c.at' false = true → (a'.put o.dst (.pointer (some ⟨W.heap.size, 0, none⟩))).tmps.getD c.slot undef ≠ .pointer (some ⟨W.heap.size, 0, none⟩) := by
   intro c hc hcb hl e
   rw [hbo _ c hc (hne c hc hcb).1] at e
   obtain ⟨g, g1, g2, g3⟩ := h.box c hc hl
   rw [g1] at e
   injection e with e; injection e with e; injection e with e
   exact absurd g3.1 (by omega)
  rw [hay]
  refine hb3 y W _ _ ?_
  rw [← hay]
  refine ⟨(put_defers ..).trans h.defers, (put_size ..).trans h.size, hfr _, h.below.trans (hB.mono hBW), fun x hx hl => ?_, fun c hc hl => ?_, holdk hB ho4, fun c hc hl => ?_, fun c hc d hd' hcd hl1 hl2 => ?_⟩
  ·rw [hL, if_neg (hx0 x hx)] at hl
   exact hvo _ x hx (hx0 x hx) hl
  ·by_cases hcb : c = b
   ·subst hcb
    refine ⟨_, hnew, h.below.size, ?_⟩
    have hst : listed.getD c.st false = false := by
     cases hh : listed.getD c.st false
     ·rfl
     ·have := h.ord c hc hh
      rw [hbi, hnf] at this; cases this
    by_cases hsi : c.st = i
    ·rw [hL, if_pos hsi, if_pos rfl, hbf hsi]
     exact Cells.new _ _ _ rfl
    ·rw [hL, if_neg hsi, hst]
     exact Cells.new _ _ _ rfl
   ·rw [hL, if_neg (hne c hc hcb).1] at hl
    obtain ⟨g, g1, g2, g3⟩ := h.box c hc hl
    refine ⟨g, (hbo _ c hc (hne c hc hcb).1).trans g1, g2, ?_⟩
    rw [hL, if_neg (hne c hc hcb).2]
    exact g3.keep hB
  ·by_cases hcb : c = b
   ·subst hcb; rw [hL, if_pos hbi]
   ·rw [hL, if_neg (hne c hc hcb).2] at hl
    rw [hL, if_neg (hne c hc hcb).1]
    exact h.ord c hc hl
  ·by_cases hcb : c = b
   ·subst hcb
    by_cases hdb : d = c
    ·subst hdb; exact absurd rfl hcd
    ·rw [hL, if_neg (hne d hd' hdb).1] at hl2
     rw [hnew]
     exact fun e => hold d hd' hdb hl2 e.symm
   ·rw [hL, if_neg (hne c hc hcb).1] at hl1
    by_cases hdb : d = b
    ·subst hdb
     rw [hnew]
     exact hold c hc hcb hl1
    ·rw [hL, if_neg (hne d hd' hdb).1] at hl2
     rw [hbo _ c hc (hne c hc hcb).1, hbo _ d hd' (hne d hd' hdb).1]
     exact h.apart c hc d hd' hcd hl1 hl2
 ·have hla := depB_listed hbd hd
  obtain ⟨g, g1, g2, g3⟩ := h.box b hb hla
  rw [hbi, hnf] at g3
  have g1' := g1
  rw [hy] at g1'
  rw [hay]
  refine hb3 y W g h.below hV g1' g2 g3 _ _ (fun W' hC hOn => ?_)
  rw [← hay]
  refine ⟨(put_defers ..).trans h.defers, (put_size ..).trans h.size, hfr _, hOn.below h.below (Nat.le_trans hBw g2), fun x hx hl => ?_, fun c hc hl => ?_, fun c hc => ?_, fun c hc hl => ?_, fun c hc d hd' hcd hl1 hl2 => ?_⟩
  ·rw [hL, if_neg (hx0 x hx)] at hl
   exact hvo _ x hx (hx0 x hx) hl
  ·rw [hL, if_neg (hbu c hc).1] at hl
   by_cases hcb : c = b
   ·subst hcb
    refine ⟨g, (hbo _ c hc (hbu c hc).1).trans g1, g2, ?_⟩
    rw [hL, if_pos hbi, if_pos rfl]
    exact hC
   ·have hcs : c.st ≠ i := fun e => hcb ((hbu c hc).2.1 e)
    obtain ⟨g', k1, k2, k3⟩ := h.box c hc hl
    refine ⟨g', (hbo _ c hc (hbu c hc).1).trans k1, k2, ?_⟩
    rw [hL, if_neg hcs]
    refine k3.only hOn (fun e => ?_)
    by_cases hat : c.at' = b.at'
    ·exact hcb ((hbu c hc).2.2 hat)
    ·refine h.apart c hc b hb hat hl hla ?_
     rw [k1, g1, e]
  ·rw [hL, if_neg (ho4 c hc)]
   exact (h.old c hc).only hOn (by have := olt c hc; omega)
  ·rw [hL, if_neg (hbu c hc).1]
   by_cases hci : c.st = i
   ·have := (hbu c hc).2.1 hci
    rw [this]; exact hla
   ·rw [hL, if_neg hci] at hl
    exact h.ord c hc hl
  ·rw [hL, if_neg (hbu c hc).1] at hl1
   rw [hL, if_neg (hbu d hd').1] at hl2
   rw [hbo _ c hc (hbu c hc).1, hbo _ d hd' (hbu d hd').1]
   exact h.apart c hc d hd' hcd hl1 hl2
 ·have hz := h.old c0 hc0
  rw [hci, hnf, if_neg (by simp)] at hz
  rw [hay]
  refine hc3 y W h.below hV hz _ _ (fun W' hC hOn => ?_)
  rw [← hay]
  refine ⟨(put_defers ..).trans h.defers, (put_size ..).trans h.size, hfr _, hOn.below h.below hcB, fun x hx hl => ?_, fun b hb hl => ?_, fun c hc => ?_, fun b hb hl => ?_, fun b hb c hc hbc hl1 hl2 => ?_⟩
  ·rw [hL, if_neg (hx0 x hx)] at hl
   exact hvo _ x hx (hx0 x hx) hl
  ·rw [hL, if_neg (hb0 b hb).1] at hl
   obtain ⟨g, k1, k2, k3⟩ := h.box b hb hl
   refine ⟨g, (hbo _ b hb (hb0 b hb).1).trans k1, k2, ?_⟩
   rw [hL, if_neg (hb0 b hb).2]
   exact k3.only hOn (by have := olt c0 hc0; omega)
  ·by_cases hcc : c = c0
   ·subst hcc
    rw [hL, if_pos hci, if_pos rfl]; exact hC
   ·rw [hL, if_neg (fun e => hcc ((hcu c hc).1 e))]
    exact (h.old c hc).only hOn (fun e => hcc ((hcu c hc).2 e))
  ·rw [hL, if_neg (hb0 b hb).2] at hl
   rw [hL, if_neg (hb0 b hb).1]
   exact h.ord b hb hl
  ·rw [hL, if_neg (hb0 b hb).1] at hl1
   rw [hL, if_neg (hb0 c hc).1] at hl2
   rw [hbo _ b hb (hb0 b hb).1, hbo _ c hc (hb0 c hc).1]
   exact h.apart b hb c hc hbc hl1 hl2
def regB (ops : Array Oper) (n : Nat) (vs : List (Nat × Nat)) (bs : List (Nat × Nat × Nat)) : Bool :=
 ((List.range ops.size).all fun i => ((ops[i]?).map fun o => o.after.all fun e => !Region.binds .any e || decide (e.on < i)).getD true) &&
 ((List.range ops.size).all fun i => (List.range ops.size).all fun j => i == j || (match dstAt ops i, dstAt ops j with | some d, some e => d != e | _, _ => true)) &&
 (vs.all fun x => dstAt ops x.1 == some x.2 && decide (x.2 < n)) &&
 (bs.all fun b => dstAt ops b.1 == some b.2.1 && decide (b.2.1 < n) && decide (b.2.2 < ops.size)) && decide (ops.size ≤ 999)
theorem wp_region_inv {id : Nat} (B : Nat) (vals : List (Nat × Nat × Value)) (bxs : List BoxS) (olds : List BoxO) (ds : List Tmp) (hBw : B ≤ w.heap.size) (hds : ops.toList.filterMap (·.dst) = ds) (hm : P.follows .mixedOrders = true)
  (hB : regB ops a.tmps.size (vals.map fun x => (x.1, x.2.1)) (bxs.map fun b => (b.at', b.slot, b.st)) = true)
  (hold : ∀ c ∈ olds, Cells w c.g c.zero ∧ (c.st < ops.size ∨ c.fin = c.zero))
  (hops : ∀ (i : Nat) (o : Oper), ops[i]? = some o → OpOk P a B w vals bxs olds ds i o)
  (hend : ∀ (y : Nat → Value) W, Below B w W → (∀ c ∈ olds, Cells W c.g c.fin) → (∀ x ∈ vals, y x.2.1 = x.2.2) → (∀ b ∈ bxs, ∃ g, y b.slot = .pointer (some ⟨g, 0, none⟩) ∧ w.heap.size ≤ g ∧ Cells W g b.fin) →
   (∀ b ∈ bxs, ∀ c ∈ bxs, b.at' ≠ c.at' → y b.slot ≠ y c.slot) → Q .normal (fr a ds y) W) :
  (Code.region id ops true).wp P Q a w := by
 unfold regB at hB
 simp only [Bool.and_eq_true] at hB
 obtain ⟨⟨⟨⟨h1, h2⟩, h3⟩, h4⟩, h5⟩ := hB
 have h999 : ops.size ≤ 999 := by simpa using h5
 clear h5
 have dag : ∀ (i : Nat) (o : Oper), ops[i]? = some o → ∀ e ∈ o.after, Region.binds .any e = true → e.on < i := by
  intro i o ho e he hb
  have hi := (Array.getElem?_eq_some_iff.1 ho).1
  have := List.all_eq_true.1 h1 i (List.mem_range.2 hi)
  rw [ho] at this
  simp only [Option.map_some, Option.getD_some, Array.all_eq_true'] at this
  have := this e he
  rw [hb] at this
  simpa using this
 have nodup : ∀ (i j : Nat) (o o' : Oper) (t : Tmp), ops[i]? = some o → ops[j]? = some o' → o.dst = some t → o'.dst = some t → i = j := by
  intro i j o o' t ho ho' hd hd'
  have hi := (Array.getElem?_eq_some_iff.1 ho).1
  have hj := (Array.getElem?_eq_some_iff.1 ho').1
  have := List.all_eq_true.1 (List.all_eq_true.1 h2 i (List.mem_range.2 hi)) j (List.mem_range.2 hj)
  simp only [dstAt, ho, ho', Option.bind_some, hd, hd'] at this
  simpa using this
 have vok : ∀ x ∈ vals, (ops[x.1]?).bind (·.dst) = some x.2.1 ∧ x.2.1 < a.tmps.size := by
  intro x hx
  have := List.all_eq_true.1 h3 _ (List.mem_map_of_mem hx)
  simp only [Bool.and_eq_true, beq_iff_eq, decide_eq_true_eq] at this
  exact this
 have bok : ∀ b ∈ bxs, ((ops[b.at']?).bind (·.dst) = some b.slot ∧ b.slot < a.tmps.size) ∧ b.st < ops.size := by
  intro b hb
  have := List.all_eq_true.1 h4 _ (List.mem_map_of_mem hb)
  simp only [Bool.and_eq_true, beq_iff_eq, decide_eq_true_eq] at this
  exact this
 have hrep : ∀ j, (Array.replicate ops.size false).getD j false = false := fun j => by simp [Array.getD]
 refine wp_region_any hm (wpAny_inv (RJ ops a B w vals bxs olds) dag (fun listed a' W i o hJ hs ho hn hd => hJ.step hs ho hn hd nodup vok (fun b hb => (bok b hb).1) hBw (fun c hc => (hold c hc).1.1) h999 hds (hops i o ho)) (fun listed a' W hJ hl => ?_) _ _ _ _ (by simp) (by simp) ?_)
 ·have hlt : ∀ (i t : Nat), (ops[i]?).bind (·.dst) = some t → i < ops.size := by
   intro i t h
   apply Classical.byContradiction
   intro hn
   rw [Array.getElem?_eq_none (by omega)] at h
   cases h
  have hv := fun x hx => hJ.val x hx (hl _ (hlt _ _ (vok x hx).1))
  have hbx := fun b hb => hJ.box b hb (hl _ (hlt _ _ (bok b hb).1.1))
  have e := hJ.lit
  rw [hds] at e
  rw [e]
  have hoc : ∀ c ∈ olds, Cells W c.g c.fin := fun c hc => by
   have := hJ.old c hc
   rcases (hold c hc).2 with h5 | h5
   ·rwa [hl _ h5, if_pos rfl] at this
   ·rw [← h5] at this; split at this <;> exact this
  refine hend _ W hJ.below hoc hv (fun b hb => ?_) (fun b hb c hc hbc => hJ.apart b hb c hc hbc (hl _ (hlt _ _ (bok b hb).1.1)) (hl _ (hlt _ _ (bok c hc).1.1)))
  have := hbx b hb
  rw [hl _ (bok b hb).2] at this
  exact this
 ·refine ⟨rfl, rfl, fun _ _ => rfl, ⟨rfl, rfl, rfl, Nat.le_refl _, fun _ _ => rfl⟩, fun x hx hl => ?_, fun b hb hl => ?_, fun c hc => ?_, fun b hb hl => ?_, fun b hb c hc _ hl => ?_⟩
  ·rw [hrep] at hl; cases hl
  ·rw [hrep] at hl; cases hl
  ·rw [hrep, if_neg (by simp)]; exact (hold c hc).1.keep ⟨rfl, rfl, rfl, Nat.le_refl _, fun _ _ => rfl⟩
  ·rw [hrep] at hl; cases hl
  ·rw [hrep] at hl; cases hl
end
theorem val_only {vals : List (Nat × Nat × Value)} {i d : Nat} {v : Value} (h : vals.filter (fun x => x.1 == i) = [(i, d, v)]) : ∀ x ∈ vals, x.1 = i → x.2.2 = v := by
 intro x hx he
 have : x ∈ vals.filter (fun x => x.1 == i) := List.mem_filter.2 ⟨hx, by simp [he]⟩
 rw [h, List.mem_singleton] at this
 rw [this]
theorem val_none {vals : List (Nat × Nat × Value)} {i : Nat} (h : vals.filter (fun x => x.1 == i) = []) : ∀ x ∈ vals, x.1 ≠ i := by
 intro x hx he
 have : x ∈ vals.filter (fun x => x.1 == i) := List.mem_filter.2 ⟨hx, by simp [he]⟩
 rw [h] at this
 cases this
theorem val_get {vals : List (Nat × Nat × Value)} {j t : Nat} {v : Value} (h : vals.find? (fun x => x.1 == j) = some (j, t, v)) : (j, t, v) ∈ vals := List.mem_of_find?_eq_some h
def AllFrom (C : Nat → Oper → Prop) : Nat → List Oper → Prop
 | _, [] => True
 | k, o :: l => C k o ∧ AllFrom C (k + 1) l
theorem AllFrom.get {C : Nat → Oper → Prop} : ∀ (l : List Oper) (k : Nat), AllFrom C k l → ∀ (i : Nat) (o : Oper), l[i]? = some o → C (k + i) o
 | [], _, _, i, o, h => by simp at h
 | x :: l, k, ⟨h1, h2⟩, 0, o, h => by
  have : x = o := by simpa using h
  exact this ▸ h1
 | x :: l, k, ⟨h1, h2⟩, i + 1, o, h => by
  have := AllFrom.get l (k + 1) h2 i o (by simpa using h)
  rwa [show k + 1 + i = k + (i + 1) by omega] at this
theorem forall_ops {C : Nat → Oper → Prop} {l : List Oper} (h : AllFrom C 0 l) : ∀ (i : Nat) (o : Oper), l.toArray[i]? = some o → C i o := fun i o ho => by
 have := AllFrom.get l 0 h i o (by simpa using ho)
 rwa [Nat.zero_add] at this
end Go.Proofs.YtimdkjbmeogpoaaGreatDoor
namespace Go.Proofs.YtimdkjbmeogpoaaGreatDoor
abbrev zz2 : Array Value := #[.bool false, .slice none 0 0, .bool false, .slice none 0 0]
abbrev zz4 : Array Value := #[.bool false, .slice none 0 0, .bool false, .slice none 0 0, .bool false, .slice none 0 0, .bool false, .slice none 0 0]
abbrev zz8 : Array Value := #[.bool false, .slice none 0 0, .bool false, .slice none 0 0, .bool false, .slice none 0 0, .bool false, .slice none 0 0, .bool false, .slice none 0 0, .bool false, .slice none 0 0, .bool false, .slice none 0 0, .bool false, .slice none 0 0]
end Go.Proofs.YtimdkjbmeogpoaaGreatDoor
