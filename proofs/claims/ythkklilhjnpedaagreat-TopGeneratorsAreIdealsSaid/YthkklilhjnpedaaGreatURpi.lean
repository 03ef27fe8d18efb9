/- Sums, products with fractions, negatives, conjugates, products in the reference; fractions that are valid. Norms and inverses, in the program and in the reference. Inverses, in the program and in the reference. Boxes of a call's own that are read and written. -/
import Derived.Test.YthkklilhjnpedaaGreatURpt
import Derived.RangeFuncNested
import Derived.RangeFuncBound
import Derived.RangeFuncCalls
import Derived.RangeFuncLeaves
import Derived.RangeFuncBox
import Derived.Shelf.Abstract
import Derived.Shelf.RegionOpen
import Derived.OwnWalkIn
import Derived.TacticsInMore
import Derived.OrdersIn
import Derived.Test.YthkklilhjnpedaaGreatUQa0
import Derived.Test.YthkklilhjnpedaaGreatUIntA
import Derived.Test.YthkklilhjnpedaaGreatUQn0
section
namespace Go.Proofs.YthkklilhjnpedaaGreat
open Go.RowKit FF
section
variable {P : Program} {ops : Array Oper} {Q : Exit → Act → World → Prop} {a : Act} {w : World} {pr : List Wd} {ex : World → Prop} {ds : List Tmp} {k l n : Nat}
theorem rowsIn_wide' {P : Program} {row : String} {args : Array Value} {w : World} {R : Value → World → Prop} (h : Rows P row args w R) : RowsIn (Fence.wide.inRound l) n P row args w R :=
  fun c cs _ => let ⟨v, w', r, s⟩ := h c cs; ⟨v, w', r, stepsIn_wide.2 s⟩
theorem Yl.wpIn {o : Oper} {W : World} {q : Value → World → Prop} {K : Act → World → Prop} {Q' : Exit → Act → World → Prop} (h : Yl P o a W q) (hnd : ∀ c, o.op ≠ .defer c) (hK : ∀ v W', Below W.heap.size W W' → q v W' → K (a.put o.dst v) W') : o.wpIn (Fence.wide.inRound l) n P a W K Q' := by
  refine ⟨fun _ _ => trivial, ?_⟩
  rw [Oper.semAt_eq _ _ _ hnd]
  have hh := h.out K (fun _ _ _ => False) hK
  unfold Oper.wp at hh
  generalize (execOp a.eval o).run P W = r at *
  cases r with
  | ok x w' =>
    cases x <;> simp only [Oper.uponIn, Oper.upon] at hh ⊢ <;>
      first
        | exact hh
        | exact ⟨fun h => (by cases h), CallsIn.inRound l (callsIn_wide.2 (Calls.mono hh (fun e w'' he => by
            cases e with
            | returned v => exact he
            | panicked c => exact he.elim
            | outgrown => obtain ⟨_, _, hf⟩ := he; exact hf.elim)))⟩
        | exact ⟨fun h => (by cases h), rowsIn_wide' hh⟩
        | exact hh.elim
  | halt x w' => cases x <;> simp only [Oper.upon] at hh ⊢ <;> exact hh.elim
def noDefer (o : Oper) : Bool := match o.op with
  | .defer _ => false
  | _ => true
theorem no_defer (h : ops.all noDefer = true) : ∀ (i : Nat) (o : Oper), ops[i]? = some o → ∀ c, o.op ≠ .defer c := fun i o ho c e => by
  have := Array.all_eq_true_iff_forall_mem.1 h o (Array.mem_of_getElem? ho)
  simp [noDefer, e] at this
theorem wpAnyIn_inv (J : Array Bool → Act → World → Prop) (dag : ∀ (i : Nat) (o : Oper), ops[i]? = some o → ∀ e ∈ o.after, Region.binds .any e = true → e.on < i)
    (hstep : ∀ listed a w i o, J listed a w → listed.size = ops.size → ops[i]? = some o → listed.getD i true = false → (∀ e ∈ o.after, Region.binds .any e = true → listed.getD e.on false = true) → wpOpIn (Fence.wide.inRound l) n P ops Q i (J (listed.setIfInBounds i true)) a w)
    (hend : ∀ listed a w, J listed a w → (∀ i, i < ops.size → listed.getD i false = true) → Q .normal a w) :
    ∀ fuel listed a w, listed.size = ops.size → listed.toList.count false ≤ fuel → J listed a w → wpAnyIn (Fence.wide.inRound l) n P .any ops Q fuel listed a w := by
  intro fuel
  induction fuel with
  | zero =>
    intro listed a w hs hc hJ
    have hr : Region.ready .any ops listed = [] := by
      rw [List.eq_nil_iff_forall_not_mem]
      intro i hi
      have := count_set_false (mem_ready hi).2.1
      omega
    exact ⟨hr, hend _ _ _ hJ (ready_least hs dag hr)⟩
  | succ fuel ih =>
    intro listed a w hs hc hJ
    refine ⟨fun hr => hend _ _ _ hJ (ready_least hs dag hr), fun i hi => ?_⟩
    obtain ⟨h1, h2, h3⟩ := mem_ready hi
    have ho := Array.getElem?_eq_getElem h1
    refine wpOpIn_mono (fun a' w' h => ih _ a' w' (by simpa using hs) ?_ h) (hstep listed a w i _ hJ hs ho h2 (h3 _ ho))
    have := count_set_false h2
    omega
theorem TJ.stepIn {listed : Array Bool} {a' : Act} {W : World} {i : Nat} {o : Oper} (h : TJ k ops a w pr ex listed a' W) (hs : listed.size = ops.size) (ho : ops[i]? = some o) (hn : listed.getD i true = false)
    (hd : ∀ e ∈ o.after, Region.binds .any e = true → listed.getD e.on false = true)
    (nodup : ∀ (i j : Nat) (o o' : Oper) (t : Tmp), ops[i]? = some o → ops[j]? = some o' → o.dst = some t → o'.dst = some t → i = j) (hk : ∀ x ∈ pr, Keeps x.2.2) (hex : Keeps (fun _ => ex))
    (vok : ∀ x ∈ pr, (ops[x.1]?).bind (·.dst) = some x.2.1 ∧ x.2.1 < a.tmps.size)
    (hik : i < k) (hds : (ops.toList.take k).filterMap (·.dst) = ds) (hnd : ∀ (i : Nat) (o : Oper), ops[i]? = some o → ∀ c, o.op ≠ .defer c) (hok : VOk P ops a w pr ex ds i o) : wpOpIn (Fence.wide.inRound l) n P ops Q i (TJ k ops a w pr ex (listed.setIfInBounds i true)) a' W := by
  have hi : i < listed.size := by
    rw [hs]; exact (Array.getElem?_eq_some_iff.1 ho).1
  have hL := fun j => getD_listed (listed := listed) (i := i) (j := j) hi
  have hslot : ∀ j t, j ≠ i → (ops[j]?).bind (·.dst) = some t → o.dst ≠ some t := by
    intro j t hj h1 h2
    cases hoj : ops[j]? with
    | none => rw [hoj] at h1; cases h1
    | some oj => rw [hoj] at h1; exact hj (nodup j i oj o t hoj ho h1 h2)
  have hV : ∀ x ∈ pr, depB o x.1 = true → x.2.2 (a'.tmps.getD x.2.1 undef) W := fun x hx hdx => h.val x hx (depB_listed hdx hd)
  have hnf : listed.getD i false = false := by simpa [Array.getD, hi] using hn
  have hU : ∀ t, laterB ops i t = true → a'.tmps.getD t undef = a.tmps.getD t undef := fun t ht => by
    obtain ⟨oj, hm, hj⟩ := Array.any_eq_true'.1 ht
    simp only [Bool.and_eq_true, beq_iff_eq] at hj
    obtain ⟨j, hjs, hje⟩ := Array.mem_iff_getElem.1 hm
    have hoj : ops[j]? = some oj := by rw [Array.getElem?_eq_getElem hjs, hje]
    refine h.init j oj t hoj hj.1 ?_
    cases hl : listed.getD j false with
    | false => rfl
    | true =>
      have := h.closed j oj hoj hl i hj.2
      rw [hnf] at this; cases this
  have hlit := h.lit
  rw [hds] at hlit
  have hY : ∃ y : Nat → Value, (∀ t, a'.tmps.getD t undef = y t) ∧ a' = fr a ds y := ⟨_, fun _ => rfl, hlit⟩
  obtain ⟨y, hy, hay⟩ := hY
  simp only [hy] at hV hU
  clear hlit
  have hyi : ∀ j want b, FGuard pr o j want b → Region.wanted o (yielded ops a'.tmps) = (b == want) := by
    rintro j want b ⟨g1, g2, x, hx, rfl, hxb⟩
    have h1 := hxb _ _ (h.val x hx (depB_listed g2 hd))
    have h2 := vok x hx
    have h3 : x.2.1 < a'.tmps.size := by rw [h.size]; exact h2.2
    have h4 : a'.tmps[x.2.1]? = some (.bool b) := by
      rw [Array.getElem?_eq_getElem h3]
      simpa [Array.getD, h3] using h1
    simp only [Region.wanted, g1, yielded, h2.1, Option.bind_some, h4]
    cases b <;> cases want <;> rfl
  have hinit : ∀ (v : Value) (j : Nat) (oj : Oper) (t : Tmp), ops[j]? = some oj → oj.dst = some t → (listed.setIfInBounds i true).getD j false = false → (a'.put o.dst v).tmps.getD t undef = a.tmps.getD t undef := fun v j oj t hoj hjd hl => by
    rw [hL] at hl
    by_cases hji : j = i
    · rw [if_pos hji] at hl; cases hl
    · rw [if_neg hji] at hl
      rw [getD_put_ne (hslot j t hji (by rw [hoj]; exact hjd))]
      exact h.init j oj t hoj hjd hl
  have hclosed : ∀ (j : Nat) (oj : Oper), ops[j]? = some oj → (listed.setIfInBounds i true).getD j false = true → ∀ k, depB oj k = true → (listed.setIfInBounds i true).getD k false = true := fun j oj hoj hl k hk' => by
    rw [hL]
    split
    · rfl
    · rw [hL] at hl
      by_cases hji : j = i
      · subst hji
        rw [ho] at hoj
        injection hoj with hoj
        subst hoj
        exact depB_listed hk' hd
      · rw [if_neg hji] at hl
        exact h.closed j oj hoj hl k hk'
  have hval : ∀ v W', Below W.heap.size W W' → (∀ x ∈ pr, x.1 = i → x.2.2 v W') → TJ k ops a w pr ex (listed.setIfInBounds i true) (a'.put o.dst v) W' := by
    intro v W' hB hv1
    refine ⟨(put_defers ..).trans h.defers, (put_size ..).trans h.size, fun t ht => by rw [getD_put_ne (ht i o hik ho)]; exact h.frame t ht, h.below.trans (hB.mono h.below.size), hex undef _ _ h.ext hB, fun x hx hl => ?_, hinit v, hclosed⟩
    by_cases hxi : x.1 = i
    · have h1 := (vok x hx)
      rw [hxi, ho] at h1
      have h2 : o.dst = some x.2.1 := h1.1
      rw [h2, getD_put_eq (by rw [h.size]; exact h1.2)]
      exact hv1 x hx hxi
    · rw [hL, if_neg hxi] at hl
      rw [getD_put_ne (hslot _ _ hxi (vok x hx).1)]
      exact hk x hx _ _ _ (h.val x hx hl) hB
  unfold wpOpIn
  rw [ho]
  rcases hok with ⟨hg, d, q, hq, hok⟩ | ⟨⟨j, b, hg⟩, hu1⟩
  rotate_left
  · simp only [hyi _ _ _ hg, show (b == !b) = false by cases b <;> rfl, Bool.false_eq_true, if_false]
    exact ⟨fun _ _ => trivial, hval undef W (Below.refl _ _) (fun x hx e => hu1 x hx e W)⟩
  have hw : Region.wanted o (yielded ops a'.tmps) = true := by
    rcases hg with hg | ⟨j, b, hg⟩
    · simp only [Region.wanted, hg]
    · rw [hyi _ _ _ hg]; cases b <;> rfl
  simp only [hw, if_true]
  rw [hay]
  refine (hok y W h.below h.ext hV hU).wpIn (hnd i o ho) (fun v W' hB hv => ?_)
  rw [← hay]
  exact hval v W' hB (word_only hq hv)
theorem wpIn_region_tail {id : Nat} (k : Nat) (pr : List Wd) (ex : World → Prop) (ds : List Tmp) (hds : (ops.toList.take k).filterMap (·.dst) = ds) (hm : P.follows .mixedOrders = true)
    (hB : fullB ops a.tmps.size (pr.map fun x => (x.1, x.2.1)) [] [] = true) (hpk : (pr.all fun x => decide (x.1 < k)) = true) (ht : waitB ops k = true) (hk : KeepsL pr) (hex : Keeps (fun _ => ex)) (h0 : ex w) (hkn : k < ops.size) (hnd : ∀ (i : Nat) (o : Oper), ops[i]? = some o → ∀ c, o.op ≠ .defer c)
    (hops : ∀ (i : Nat) (o : Oper), i < k → ops[i]? = some o → VOk P ops a w pr ex ds i o)
    (hend : ∀ (y : Nat → Value) W, Below w.heap.size w W → ex W → (∀ x ∈ pr, x.2.2 (y x.2.1) W) → wpListIn (Fence.wide.inRound l) n P ops Q (ops.toList.drop k) (fr a ds y) W) :
    (Code.region id ops true).wpIn (Fence.wide.inRound l) n P Q a w := by
  unfold fullB at hB
  simp only [Bool.and_eq_true] at hB
  obtain ⟨⟨⟨⟨⟨h1, h2⟩, h3⟩, -⟩, -⟩, -⟩ := hB
  have dag : ∀ (i : Nat) (o : Oper), ops[i]? = some o → ∀ e ∈ o.after, Region.binds .any e = true → e.on < i := by
    intro i o ho e he hb
    have hi := (Array.getElem?_eq_some_iff.1 ho).1
    have := List.all_eq_true.1 h1 i (List.mem_range.2 hi)
    rw [ho] at this
    simp only [Option.map_some, Option.getD_some, Array.all_eq_true'] at this
    have := this e he
    rw [hb] at this
    simpa using this
  have dag2 : ∀ (j : Nat) (oj : Oper), ops[j]? = some oj → ∀ q, depB oj q = true → q < j := by
    intro j oj hoj q hq
    obtain ⟨e, he, h2⟩ := Array.any_eq_true'.1 hq
    simp only [Bool.and_eq_true, beq_iff_eq] at h2
    have := dag j oj hoj e he h2.1
    omega
  have nodup : ∀ (i j : Nat) (o o' : Oper) (t : Tmp), ops[i]? = some o → ops[j]? = some o' → o.dst = some t → o'.dst = some t → i = j := by
    intro i j o o' t ho ho' hd hd'
    have hi := (Array.getElem?_eq_some_iff.1 ho).1
    have hj := (Array.getElem?_eq_some_iff.1 ho').1
    have := List.all_eq_true.1 (List.all_eq_true.1 h2 i (List.mem_range.2 hi)) j (List.mem_range.2 hj)
    simp only [dstAt, ho, ho', Option.bind_some, hd, hd'] at this
    simpa using this
  have vok : ∀ x ∈ pr, (ops[x.1]?).bind (·.dst) = some x.2.1 ∧ x.2.1 < a.tmps.size := by
    intro x hx
    have := List.all_eq_true.1 h3 _ (List.mem_map_of_mem hx)
    simp only [Bool.and_eq_true, beq_iff_eq, decide_eq_true_eq] at this
    exact this
  have hrep : ∀ j, (Array.replicate ops.size false).getD j false = false := fun j => by simp [Array.getD]
  refine wpIn_region_any hm (wpAnyIn_inv (fun listed a' W => listed.size = ops.size ∧ ((∀ i, k ≤ i → listed.getD i false = false) ∧ TJ k ops a w pr ex listed a' W ∨ ∃ m, k ≤ m ∧ (∀ i, listed.getD i false = decide (i < m)) ∧ wpListIn (Fence.wide.inRound l) n P ops Q (ops.toList.drop m) a' W)) dag
    (fun listed a' W i o hJ hs ho hn hd => ?_) (fun listed a' W hJ' hl => ?_) _ _ _ _ (by simp) (by simp) ⟨by simp, .inl ⟨fun i _ => hrep i, ?_⟩⟩)
  · have hi : i < ops.size := (Array.getElem?_eq_some_iff.1 ho).1
    have hL := fun j => getD_listed (listed := listed) (i := i) (j := j) (by rw [hs]; exact hi)
    have hnf : listed.getD i false = false := by simpa [Array.getD, hs, hi] using hn
    have hdrop : ops.toList.drop i = o :: ops.toList.drop (i + 1) := by
      have h5 : i < ops.toList.length := by simpa using hi
      rw [List.drop_eq_getElem_cons h5]
      congr 1
      have := (Array.getElem?_eq_some_iff.1 ho).2
      simpa using this
    have hgo : ∀ act, wpListIn (Fence.wide.inRound l) n P ops Q (ops.toList.drop i) act W → (∀ j, j < i → listed.getD j false = true) → (∀ j, i < j → listed.getD j false = false) → k ≤ i →
        wpOpIn (Fence.wide.inRound l) n P ops Q i (fun a'' W'' => (listed.setIfInBounds i true).size = ops.size ∧ ((∀ q, k ≤ q → (listed.setIfInBounds i true).getD q false = false) ∧ TJ k ops a w pr ex (listed.setIfInBounds i true) a'' W'' ∨ ∃ m, k ≤ m ∧ (∀ q, (listed.setIfInBounds i true).getD q false = decide (q < m)) ∧ wpListIn (Fence.wide.inRound l) n P ops Q (ops.toList.drop m) a'' W'')) act W := by
      intro act hw hlo hhi hki
      rw [hdrop] at hw
      refine wpOpIn_mono (K := wpListIn (Fence.wide.inRound l) n P ops Q (ops.toList.drop (i + 1))) (fun a'' W'' hh => ⟨by simpa using hs, .inr ⟨i + 1, by omega, fun q => ?_, hh⟩⟩) ?_
      · rw [hL]
        by_cases hqi : q = i
        · subst hqi; simp
        · rw [if_neg hqi]
          rcases Nat.lt_or_gt_of_ne hqi with h | h
          · rw [hlo q h]; simp; omega
          · rw [hhi q h]; simp; omega
      · unfold wpOpIn
        rw [ho]
        exact hw
    rcases hJ with ⟨-, ⟨hk0, hT⟩ | ⟨m, hkm, hlm, hw⟩⟩
    · by_cases hik : i < k
      · refine wpOpIn_mono (fun a'' W'' hh => ⟨by simpa using hs, .inl ⟨fun q hq => ?_, hh⟩⟩) (hT.stepIn hs ho hn hd nodup hk.all hex vok hik hds hnd (hops i o hik ho))
        rw [hL, if_neg (by omega)]; exact hk0 q hq
      · have hall := tail_all ht (Nat.le_of_not_lt hik) hi ho hd (fun j oj _ hoj hlj q hq => hT.closed j oj hoj hlj q hq)
        have hike : i = k := by
          by_cases h : i = k
          · exact h
          · have := hall k (by omega)
            rw [hk0 k (Nat.le_refl _)] at this; cases this
        subst hike
        have hv : ∀ x ∈ pr, x.2.2 (a'.tmps.getD x.2.1 undef) W := fun x hx => hT.val x hx (hall _ (by simpa using List.all_eq_true.1 hpk x hx))
        have e := hT.lit
        rw [hds] at e
        have hw := hend (fun t => a'.tmps.getD t undef) W hT.below hT.ext hv
        rw [← e] at hw
        exact hgo a' hw hall (fun j hj => hk0 j (by omega)) (Nat.le_refl _)
    · have hge : m ≤ i := by
        have h5 := hlm i
        rw [hnf] at h5
        have := of_decide_eq_false h5.symm
        omega
      have hall := tail_all ht (Nat.le_trans hkm hge) hi ho hd (fun j oj _ hoj hlj q hq => by
        rw [hlm] at hlj ⊢
        have := dag2 j oj hoj q hq
        have h6 := of_decide_eq_true hlj
        exact decide_eq_true (by omega))
      have him : i = m := by
        by_cases h : i = m
        · exact h
        · have := hall m (by omega)
          rw [hlm] at this
          have := of_decide_eq_true this
          omega
      subst him
      exact hgo a' hw hall (fun j hj => by rw [hlm]; simp; omega) hkm
  · rcases hJ' with ⟨-, ⟨hk0, hT⟩ | ⟨m, hkm, hlm, hw⟩⟩
    · have := hl k hkn
      rw [hk0 k (Nat.le_refl _)] at this; cases this
    · have hsm : ops.size ≤ m := by
        apply Classical.byContradiction
        intro hn
        have := hl m (by omega)
        rw [hlm] at this
        have := of_decide_eq_true this
        omega
      rw [List.drop_eq_nil_of_le (by simpa using hsm)] at hw
      exact hw
  · have hd0 : Below w.heap.size w { w with drawn := w.drawn + 1 } := ⟨rfl, rfl, rfl, Nat.le_refl _, fun _ _ => rfl⟩
    refine ⟨rfl, rfl, fun _ _ => rfl, hd0, hex undef _ _ h0 hd0, fun x hx hl => ?_, fun _ _ _ _ _ _ => rfl, fun j _ _ hl => ?_⟩
    · rw [hrep] at hl; cases hl
    · rw [hrep] at hl; cases hl
end
end Go.Proofs.YthkklilhjnpedaaGreat
end
section
namespace Go.Proofs.YthkklilhjnpedaaGreat
open Go.RowKit FF
structure Bxs (w : World) (L : List (Nat × Array Value)) (w' : World) : Prop where
  below : Below w.heap.size w w'
  bx : ∀ x ∈ L, x.1 < w'.heap.size ∧ ∀ i, i < x.2.size → w'.cell? ⟨x.1, i, none⟩ = x.2[i]?
section
variable {w w0 w1 : World} {L : List (Nat × Array Value)}
theorem Reg.bxs {r n : Nat} (h : Reg w L r n w0) : Bxs w L w0 := ⟨h.below, fun x hx => ⟨(h.bx x hx).1, (h.bx x hx).2.2⟩⟩
end
end Go.Proofs.YthkklilhjnpedaaGreat
namespace Go.Proofs.YthkklilhjnpedaaGreat
open Go.RowKit FF
structure Bx (w : World) (L : List (Nat × Array Value)) (W : World) : Prop where
  below : Below w.heap.size w W
  own : ∀ x ∈ L, w.heap.size ≤ x.1 ∧ Cells W x.1 x.2
section
variable {w W W' : World} {L : List (Nat × Array Value)} {b : Nat} {v0 v1 v2 v3 v4 : Value}
theorem Bx.keep (h : Bx w L W) (hb : Below W.heap.size W W') : Bx w L W' := ⟨h.below.trans (hb.mono h.below.size), fun x hx => ⟨(h.own x hx).1, (h.own x hx).2.keep hb⟩⟩
theorem Bx.nil (h : Below w.heap.size w W) : Bx w [] W := ⟨h, fun x hx => by cases hx⟩
theorem Bx.cons {vs : Array Value} (h : Bx w L W) (hb : w.heap.size ≤ b) (hc : Cells W b vs) : Bx w ((b, vs) :: L) W :=
  ⟨h.below, fun x hx => by
    rcases List.mem_cons.1 hx with e | e
    · subst e; exact ⟨hb, hc⟩
    · exact h.own x e⟩
theorem Bx.new (h : Bx w L W) (vs : Array Value) (T : TypeId) : Bx w ((W.heap.size, vs) :: L) (W.alloc (.cells vs T)) :=
  (h.keep ((Below.refl _ _).alloc (Nat.le_refl _) _)).cons h.below.size (Cells.new W vs T rfl)
end
end Go.Proofs.YthkklilhjnpedaaGreat
end
