/- Regions that draw, of operations that yield closed values and of stores into boxes that were there: a law by words. -/
import Derived.Test.YtimdkjbmeogpoaaGreatDoorTRpg
namespace Go.Proofs.YtimdkjbmeogpoaaGreatDoor
open Go.RowKit FF
structure BxC where
  g : Nat
  st : Nat
  old : Array Value
  new : Array Value
section
variable {P : Program} {ops : Array Oper} {Q : Exit → Act → World → Prop} {a : Act} {w : World} {B : Nat} {pr : List (Nat × Nat × Value)} {olds : List BxC} {ds : List Tmp}
structure SJ (ops : Array Oper) (a : Act) (B : Nat) (w : World) (pr : List (Nat × Nat × Value)) (olds : List BxC) (listed : Array Bool) (a' : Act) (W : World) : Prop where
  defers : a'.defers = a.defers
  size : a'.tmps.size = a.tmps.size
  frame : ∀ t, (∀ (i : Nat) (o : Oper), ops[i]? = some o → o.dst ≠ some t) → a'.tmps.getD t undef = a.tmps.getD t undef
  below : Below B w W
  big : w.heap.size ≤ W.heap.size
  val : ∀ x ∈ pr, listed.getD x.1 false = true → a'.tmps.getD x.2.1 undef = x.2.2
  old : ∀ c ∈ olds, Cells W c.g (if listed.getD c.st false = true then c.new else c.old)
def SVal (P : Program) (a : Act) (B : Nat) (w : World) (pr : List (Nat × Nat × Value)) (olds : List BxC) (ds : List Tmp) (i : Nat) (o : Oper) : Prop :=
  (∀ c ∈ olds, c.st ≠ i) ∧ ∃ d v, pr.filter (fun x => x.1 == i) = [(i, d, v)] ∧
    ∀ y W, Below B w W → w.heap.size ≤ W.heap.size → (∀ c ∈ olds, c.st = 999 → Cells W c.g c.old) → (∀ x ∈ pr, depB o x.1 = true → y x.2.1 = x.2.2) → Yl P o (fr a ds y) W (VC v)
def SSto (P : Program) (a : Act) (B : Nat) (pr : List (Nat × Nat × Value)) (olds : List BxC) (ds : List Tmp) (i : Nat) (o : Oper) : Prop :=
  o.dst = none ∧ (∀ x ∈ pr, x.1 ≠ i) ∧ (∃ c ∈ olds, c.st = i ∧ B ≤ c.g ∧ (∀ d ∈ olds, (d.st = i → d = c) ∧ (d.g = c.g → d = c)) ∧
    ∀ y W, Cells W c.g c.old → (∀ x ∈ pr, depB o x.1 = true → y x.2.1 = x.2.2) → ∀ K Q', (∀ W', Cells W' c.g c.new → Only c.g W W' → K ((fr a ds y).put o.dst undef) W') → WpS P o (fr a ds y) W K Q')
def SOk (P : Program) (a : Act) (B : Nat) (w : World) (pr : List (Nat × Nat × Value)) (olds : List BxC) (ds : List Tmp) (i : Nat) (o : Oper) : Prop :=
  o.guard = none ∧ (SVal P a B w pr olds ds i o ∨ SSto P a B pr olds ds i o)
theorem SJ.lit {listed : Array Bool} {a' : Act} {W : World} (h : SJ ops a B w pr olds listed a' W) : a' = fr a (ops.toList.filterMap (·.dst)) (fun t => a'.tmps.getD t undef) := by
  rcases a' with ⟨tm, df⟩
  have hd := h.defers; have hs := h.size; have hf := h.frame
  simp only [fr] at hd hs hf ⊢
  rw [hd]
  congr 1
  apply Array.ext_getElem?
  intro j
  by_cases hj : j < a.tmps.size
  · rw [putAll_get _ _ _ _ hj]
    have hj' : j < tm.size := by rw [hs]; exact hj
    by_cases hm : j ∈ ops.toList.filterMap (·.dst)
    · rw [if_pos hm]; simp [Array.getD, hj']
    · rw [if_neg hm]
      have := hf j (fun i o ho hd => hm (List.mem_filterMap.2 ⟨o, by rw [Array.mem_toList_iff]; exact Array.mem_of_getElem? ho, hd⟩))
      simp only [Array.getD, hj, hj', dite_true] at this
      rw [Array.getElem?_eq_getElem hj, Array.getElem?_eq_getElem hj']
      exact congrArg some this
  · rw [Array.getElem?_eq_none (by rw [hs]; omega), Array.getElem?_eq_none (by rw [putAll_size]; omega)]
theorem SJ.step {listed : Array Bool} {a' : Act} {W : World} {i : Nat} {o : Oper} (h : SJ ops a B w pr olds listed a' W) (hs : listed.size = ops.size) (ho : ops[i]? = some o) (hn : listed.getD i true = false)
    (hd : ∀ e ∈ o.after, Region.binds .any e = true → listed.getD e.on false = true)
    (nodup : ∀ (i j : Nat) (o o' : Oper) (t : Tmp), ops[i]? = some o → ops[j]? = some o' → o.dst = some t → o'.dst = some t → i = j)
    (vok : ∀ x ∈ pr, (ops[x.1]?).bind (·.dst) = some x.2.1 ∧ x.2.1 < a.tmps.size) (hBw : B ≤ w.heap.size) (h999 : ops.size ≤ 999)
    (hds : ops.toList.filterMap (·.dst) = ds) (hok : SOk P a B w pr olds ds i o) : wpOp P ops Q i (SJ ops a B w pr olds (listed.setIfInBounds i true)) a' W := by
  have hi : i < listed.size := by
    rw [hs]; exact (Array.getElem?_eq_some_iff.1 ho).1
  have hL := fun j => getD_listed (listed := listed) (i := i) (j := j) hi
  have hnf : listed.getD i false = false := by simpa [Array.getD, hi] using hn
  have hslot : ∀ j t, j ≠ i → (ops[j]?).bind (·.dst) = some t → o.dst ≠ some t := by
    intro j t hj h1 h2
    cases hoj : ops[j]? with
    | none => rw [hoj] at h1; cases h1
    | some oj => rw [hoj] at h1; exact hj (nodup j i oj o t hoj ho h1 h2)
  have hV : ∀ x ∈ pr, depB o x.1 = true → a'.tmps.getD x.2.1 undef = x.2.2 := fun x hx hdx => h.val x hx (depB_listed hdx hd)
  have hlit := h.lit
  rw [hds] at hlit
  have hY : ∃ y : Nat → Value, (∀ t, a'.tmps.getD t undef = y t) ∧ a' = fr a ds y := ⟨_, fun _ => rfl, hlit⟩
  obtain ⟨y, hy, hay⟩ := hY
  simp only [hy] at hV
  clear hlit
  have hvo : ∀ v, ∀ x ∈ pr, x.1 ≠ i → (a'.put o.dst v).tmps.getD x.2.1 undef = a'.tmps.getD x.2.1 undef := fun v x hx hxi =>
    getD_put_ne (hslot _ _ hxi (vok x hx).1)
  have hfr : ∀ v t, (∀ (i : Nat) (o : Oper), ops[i]? = some o → o.dst ≠ some t) → (a'.put o.dst v).tmps.getD t undef = a.tmps.getD t undef := fun v t ht => by
    rw [getD_put_ne (ht i o ho)]; exact h.frame t ht
  have hBW : B ≤ W.heap.size := Nat.le_trans hBw h.big
  have hO : ∀ c ∈ olds, c.st = 999 → Cells W c.g c.old := fun c hc hn => by
    have := h.old c hc
    rw [hn, show listed.getD 999 false = false from by simp [Array.getD, show ¬ 999 < listed.size by omega], if_neg (by simp)] at this
    exact this
  unfold wpOp
  rw [ho]
  obtain ⟨hg, hok⟩ := hok
  have hw : Region.wanted o (yielded ops a'.tmps) = true := by simp only [Region.wanted, hg]
  simp only [hw, if_true]
  refine .inl ?_
  rcases hok with ⟨hne, d, v, hq, hok⟩ | ⟨hdn, hx0, c0, hc0, hci, hcB, hcu, hc3⟩
  · rw [hay]
    refine (hok y W h.below h.big hO hV).out _ _ (fun v' W' hB hv => ?_)
    rw [← hay]
    have hv' : v' = v := hv
    subst hv'
    refine ⟨(put_defers ..).trans h.defers, (put_size ..).trans h.size, hfr v', h.below.trans (hB.mono hBW), Nat.le_trans h.big hB.size, fun x hx hl => ?_, fun c hc => ?_⟩
    · by_cases hxi : x.1 = i
      · have hm : x ∈ pr.filter (fun x => x.1 == i) := List.mem_filter.2 ⟨hx, by simpa using hxi⟩
        rw [hq] at hm
        obtain rfl := List.mem_singleton.1 hm
        have h1 := (vok _ hx)
        simp only at h1
        rw [ho] at h1
        have h2 : o.dst = some d := h1.1
        rw [h2, getD_put_eq (by rw [h.size]; exact h1.2)]
      · rw [hL, if_neg hxi] at hl
        rw [hvo v' x hx hxi]
        exact h.val x hx hl
    · rw [hL, if_neg (hne c hc)]
      exact (h.old c hc).keep hB
  · have hz := h.old c0 hc0
    rw [hci, hnf, if_neg (by simp)] at hz
    rw [hay]
    refine (hc3 y W hz hV _ _ (fun W' hC hOn => ?_)).out
    rw [← hay]
    have hput : ∀ v t, (a'.put o.dst v).tmps.getD t undef = a'.tmps.getD t undef := fun v t => by rw [hdn]; rfl
    refine ⟨(put_defers ..).trans h.defers, (put_size ..).trans h.size, hfr _, hOn.below h.below hcB, by rw [hOn.size]; exact h.big, fun x hx hl => ?_, fun c hc => ?_⟩
    · rw [hL, if_neg (hx0 x hx)] at hl
      rw [hput]
      exact h.val x hx hl
    · by_cases hcc : c = c0
      · subst hcc
        rw [hL, if_pos hci, if_pos rfl]; exact hC
      · rw [hL, if_neg (fun e => hcc ((hcu c hc).1 e))]
        exact (h.old c hc).only hOn (fun e => hcc ((hcu c hc).2 e))
theorem wp_region_sto {id : Nat} (B : Nat) (pr : List (Nat × Nat × Value)) (olds : List BxC) (ds : List Tmp) (hBw : B ≤ w.heap.size) (hds : ops.toList.filterMap (·.dst) = ds) (hm : P.follows .mixedOrders = true)
    (hB : fullB ops a.tmps.size (pr.map fun x => (x.1, x.2.1)) [] [] = true) (hold : ∀ c ∈ olds, Cells w c.g c.old)
    (hops : ∀ (i : Nat) (o : Oper), ops[i]? = some o → SOk P a B w pr olds ds i o)
    (hend : ∀ (y : Nat → Value) W, Below B w W → (∀ c ∈ olds, (c.st = 999 → Cells W c.g c.old) ∧ (c.st < ops.size → Cells W c.g c.new)) → (∀ x ∈ pr, y x.2.1 = x.2.2) → Q .normal (fr a ds y) W) :
    (Code.region id ops true).wp P Q a w := by
  unfold fullB at hB
  simp only [Bool.and_eq_true] at hB
  obtain ⟨⟨⟨⟨⟨h1, h2⟩, h3⟩, -⟩, h5⟩, -⟩ := hB
  have h999 : ops.size ≤ 999 := by simpa using h5
  clear h5
  have dag : ∀ (i : Nat) (o : Oper), ops[i]? = some o → ∀ e ∈ o.after, Region.binds .any e = true → e.on < i := by
    intro i o ho e he hb
    have hi := (Array.getElem?_eq_some_iff.1 ho).1
    have := List.all_eq_true.1 h1 i (List.mem_range.2 hi)
    rw [ho] at this
    simp only [Option.map_some, Option.getD_some, Array.all_eq_true'] at this
    have := this e he
    rw [hb] at this
    simpa using this
  have nodup : ∀ (i j : Nat) (o o' : Oper) (t : Tmp), ops[i]? = some o → ops[j]? = some o' → o.dst = some t → o'.dst = some t → i = j := by
    intro i j o o' t ho ho' hd hd'
    have hi := (Array.getElem?_eq_some_iff.1 ho).1
    have hj := (Array.getElem?_eq_some_iff.1 ho').1
    have := List.all_eq_true.1 (List.all_eq_true.1 h2 i (List.mem_range.2 hi)) j (List.mem_range.2 hj)
    simp only [dstAt, ho, ho', Option.bind_some, hd, hd'] at this
    simpa using this
  have vok : ∀ x ∈ pr, (ops[x.1]?).bind (·.dst) = some x.2.1 ∧ x.2.1 < a.tmps.size := by
    intro x hx
    have := List.all_eq_true.1 h3 _ (List.mem_map_of_mem hx)
    simp only [Bool.and_eq_true, beq_iff_eq, decide_eq_true_eq] at this
    exact this
  have hrep : ∀ j, (Array.replicate ops.size false).getD j false = false := fun j => by simp [Array.getD]
  refine wp_region_any hm (wpAny_inv (fun listed a' W => listed.size = ops.size ∧ SJ ops a B w pr olds listed a' W) dag (fun listed a' W i o hJ hs ho hn hd => wpOp_mono (fun a'' W'' hh => ⟨by simpa using hs, hh⟩) (hJ.2.step hs ho hn hd nodup vok hBw h999 hds (hops i o ho))) (fun listed a' W hJ' hl => ?_) _ _ _ _ (by simp) (by simp) ⟨by simp, ?_⟩)
  · obtain ⟨hsz, hJ⟩ := hJ'
    have hlt : ∀ (i t : Nat), (ops[i]?).bind (·.dst) = some t → i < ops.size := by
      intro i t h
      apply Classical.byContradiction
      intro hn
      rw [Array.getElem?_eq_none (by omega)] at h
      cases h
    have hv := fun x hx => hJ.val x hx (hl _ (hlt _ _ (vok x hx).1))
    have e := hJ.lit
    rw [hds] at e
    rw [e]
    refine hend _ W hJ.below (fun c hc => ⟨fun h9 => ?_, fun h9 => ?_⟩) hv
    · have := hJ.old c hc
      rw [h9, show listed.getD 999 false = false from by simp [Array.getD, show ¬ 999 < listed.size by omega], if_neg (by simp)] at this
      exact this
    · have := hJ.old c hc
      rw [hl _ h9, if_pos rfl] at this; exact this
  · refine ⟨rfl, rfl, fun _ _ => rfl, ⟨rfl, rfl, rfl, Nat.le_refl _, fun _ _ => rfl⟩, Nat.le_refl _, fun x hx hl => ?_, fun c hc => ?_⟩
    · rw [hrep] at hl; cases hl
    · rw [hrep, if_neg (by simp)]; exact (hold c hc).keep ⟨rfl, rfl, rfl, Nat.le_refl _, fun _ _ => rfl⟩
theorem SOk.val {i : Nat} {o : Oper} {d : Tmp} {v : Value} (hg : o.guard = none) (hne : (olds.all fun c => c.st != i) = true) (hq : pr.filter (fun x => x.1 == i) = [(i, d, v)])
    (h : ∀ y W, Below B w W → w.heap.size ≤ W.heap.size → (∀ c ∈ olds, c.st = 999 → Cells W c.g c.old) → (∀ x ∈ pr, depB o x.1 = true → y x.2.1 = x.2.2) → Yl P o (fr a ds y) W (VC v)) : SOk P a B w pr olds ds i o :=
  ⟨hg, .inl ⟨fun c hc => by simpa using List.all_eq_true.1 hne c hc, d, v, hq, h⟩⟩
theorem SOk.sto {i : Nat} {o : Oper} {c : BxC} (hg : o.guard = none) (hdn : o.dst = none) (hp : (pr.all fun x => x.1 != i) = true) (hc : c ∈ olds) (hi : c.st = i) (hB : B ≤ c.g) (hu : ∀ d ∈ olds, (d.st = i → d = c) ∧ (d.g = c.g → d = c))
    (h : ∀ y W, Cells W c.g c.old → (∀ x ∈ pr, depB o x.1 = true → y x.2.1 = x.2.2) → ∀ K Q', (∀ W', Cells W' c.g c.new → Only c.g W W' → K ((fr a ds y).put o.dst undef) W') → WpS P o (fr a ds y) W K Q') : SOk P a B w pr olds ds i o :=
  ⟨hg, .inr ⟨hdn, fun x hx => by simpa using List.all_eq_true.1 hp x hx, c, hc, hi, hB, hu, h⟩⟩
theorem sgt {o : Oper} {y : Nat → Value} (hV : ∀ x ∈ pr, depB o x.1 = true → y x.2.1 = x.2.2) (j : Nat) {t : Nat} {v : Value} (hf : pr.find? (fun x => x.1 == j) = some (j, t, v)) (hd : depB o j = true := by kernel_rfl) (h : (ds.contains t && decide (t < a.tmps.size)) = true := by kernel_rfl) : (fr a ds y).eval (.tmp t) = v :=
  (fr_in h).trans (hV _ (List.mem_of_find?_eq_some hf) hd)
end
end Go.Proofs.YtimdkjbmeogpoaaGreatDoor
