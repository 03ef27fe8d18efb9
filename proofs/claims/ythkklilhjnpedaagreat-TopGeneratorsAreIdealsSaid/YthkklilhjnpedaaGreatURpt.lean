/- Polynomials: normal form. -/
import Derived.Test.YthkklilhjnpedaaGreatURpg
import Derived.Test.YthkklilhjnpedaaGreatUGsl
import Derived.Great.BuildSlice
import Derived.Test.YthkklilhjnpedaaGreatUUnits0
import Derived.BigRegion
section
namespace Go.Proofs.YthkklilhjnpedaaGreat
open Go.RowKit FF
section
variable {P : Program} {ops : Array Oper} {Q : Exit → Act → World → Prop} {a : Act} {w : World} {pr : List Wd} {ex : World → Prop} {ds : List Tmp} {k : Nat}
structure TJ (k : Nat) (ops : Array Oper) (a : Act) (w : World) (pr : List Wd) (ex : World → Prop) (listed : Array Bool) (a' : Act) (W : World) : Prop where
  defers : a'.defers = a.defers
  size : a'.tmps.size = a.tmps.size
  frame : ∀ t, (∀ (i : Nat) (o : Oper), i < k → ops[i]? = some o → o.dst ≠ some t) → a'.tmps.getD t undef = a.tmps.getD t undef
  below : Below w.heap.size w W
  ext : ex W
  val : ∀ x ∈ pr, listed.getD x.1 false = true → x.2.2 (a'.tmps.getD x.2.1 undef) W
  init : ∀ (j : Nat) (oj : Oper) (t : Tmp), ops[j]? = some oj → oj.dst = some t → listed.getD j false = false → a'.tmps.getD t undef = a.tmps.getD t undef
  closed : ∀ (j : Nat) (oj : Oper), ops[j]? = some oj → listed.getD j false = true → ∀ i, depB oj i = true → listed.getD i false = true
theorem TJ.lit {listed : Array Bool} {a' : Act} {W : World} (h : TJ k ops a w pr ex listed a' W) : a' = fr a ((ops.toList.take k).filterMap (·.dst)) (fun t => a'.tmps.getD t undef) := by
  rcases a' with ⟨tm, df⟩
  have hd := h.defers; have hs := h.size; have hf := h.frame
  simp only [fr] at hd hs hf ⊢
  rw [hd]
  congr 1
  apply Array.ext_getElem?
  intro j
  by_cases hj : j < a.tmps.size
  · rw [putAll_get _ _ _ _ hj]
    have hj' : j < tm.size := by rw [hs]; exact hj
    by_cases hm : j ∈ (ops.toList.take k).filterMap (·.dst)
    · rw [if_pos hm]; simp [Array.getD, hj']
    · rw [if_neg hm]
      have := hf j (fun i o hik ho hd => hm (List.mem_filterMap.2 ⟨o, List.mem_of_getElem? (i := i) (by rw [List.getElem?_take_of_lt hik, Array.getElem?_toList]; exact ho), hd⟩))
      simp only [Array.getD, hj, hj', dite_true] at this
      rw [Array.getElem?_eq_getElem hj, Array.getElem?_eq_getElem hj']
      exact congrArg some this
  · rw [Array.getElem?_eq_none (by rw [hs]; omega), Array.getElem?_eq_none (by rw [putAll_size]; omega)]
theorem TJ.step {listed : Array Bool} {a' : Act} {W : World} {i : Nat} {o : Oper} (h : TJ k ops a w pr ex listed a' W) (hs : listed.size = ops.size) (ho : ops[i]? = some o) (hn : listed.getD i true = false)
    (hd : ∀ e ∈ o.after, Region.binds .any e = true → listed.getD e.on false = true)
    (nodup : ∀ (i j : Nat) (o o' : Oper) (t : Tmp), ops[i]? = some o → ops[j]? = some o' → o.dst = some t → o'.dst = some t → i = j) (hk : ∀ x ∈ pr, Keeps x.2.2) (hex : Keeps (fun _ => ex))
    (vok : ∀ x ∈ pr, (ops[x.1]?).bind (·.dst) = some x.2.1 ∧ x.2.1 < a.tmps.size)
    (hik : i < k) (hds : (ops.toList.take k).filterMap (·.dst) = ds) (hok : VOk P ops a w pr ex ds i o) : wpOp P ops Q i (TJ k ops a w pr ex (listed.setIfInBounds i true)) a' W := by
  have hi : i < listed.size := by
    rw [hs]; exact (Array.getElem?_eq_some_iff.1 ho).1
  have hL := fun j => getD_listed (listed := listed) (i := i) (j := j) hi
  have hslot : ∀ j t, j ≠ i → (ops[j]?).bind (·.dst) = some t → o.dst ≠ some t := by
    intro j t hj h1 h2
    cases hoj : ops[j]? with
    | none => rw [hoj] at h1; cases h1
    | some oj => rw [hoj] at h1; exact hj (nodup j i oj o t hoj ho h1 h2)
  have hV : ∀ x ∈ pr, depB o x.1 = true → x.2.2 (a'.tmps.getD x.2.1 undef) W := fun x hx hdx => h.val x hx (depB_listed hdx hd)
  have hnf : listed.getD i false = false := by simpa [Array.getD, hi] using hn
  have hU : ∀ t, laterB ops i t = true → a'.tmps.getD t undef = a.tmps.getD t undef := fun t ht => by
    obtain ⟨oj, hm, hj⟩ := Array.any_eq_true'.1 ht
    simp only [Bool.and_eq_true, beq_iff_eq] at hj
    obtain ⟨j, hjs, hje⟩ := Array.mem_iff_getElem.1 hm
    have hoj : ops[j]? = some oj := by rw [Array.getElem?_eq_getElem hjs, hje]
    refine h.init j oj t hoj hj.1 ?_
    cases hl : listed.getD j false with
    | false => rfl
    | true =>
      have := h.closed j oj hoj hl i hj.2
      rw [hnf] at this; cases this
  have hlit := h.lit
  rw [hds] at hlit
  have hY : ∃ y : Nat → Value, (∀ t, a'.tmps.getD t undef = y t) ∧ a' = fr a ds y := ⟨_, fun _ => rfl, hlit⟩
  obtain ⟨y, hy, hay⟩ := hY
  simp only [hy] at hV hU
  clear hlit
  have hyi : ∀ j want b, FGuard pr o j want b → Region.wanted o (yielded ops a'.tmps) = (b == want) := by
    rintro j want b ⟨g1, g2, x, hx, rfl, hxb⟩
    have h1 := hxb _ _ (h.val x hx (depB_listed g2 hd))
    have h2 := vok x hx
    have h3 : x.2.1 < a'.tmps.size := by rw [h.size]; exact h2.2
    have h4 : a'.tmps[x.2.1]? = some (.bool b) := by
      rw [Array.getElem?_eq_getElem h3]
      simpa [Array.getD, h3] using h1
    simp only [Region.wanted, g1, yielded, h2.1, Option.bind_some, h4]
    cases b <;> cases want <;> rfl
  have hinit : ∀ (v : Value) (j : Nat) (oj : Oper) (t : Tmp), ops[j]? = some oj → oj.dst = some t → (listed.setIfInBounds i true).getD j false = false → (a'.put o.dst v).tmps.getD t undef = a.tmps.getD t undef := fun v j oj t hoj hjd hl => by
    rw [hL] at hl
    by_cases hji : j = i
    · rw [if_pos hji] at hl; cases hl
    · rw [if_neg hji] at hl
      rw [getD_put_ne (hslot j t hji (by rw [hoj]; exact hjd))]
      exact h.init j oj t hoj hjd hl
  have hclosed : ∀ (j : Nat) (oj : Oper), ops[j]? = some oj → (listed.setIfInBounds i true).getD j false = true → ∀ k, depB oj k = true → (listed.setIfInBounds i true).getD k false = true := fun j oj hoj hl k hk' => by
    rw [hL]
    split
    · rfl
    · rw [hL] at hl
      by_cases hji : j = i
      · subst hji
        rw [ho] at hoj
        injection hoj with hoj
        subst hoj
        exact depB_listed hk' hd
      · rw [if_neg hji] at hl
        exact h.closed j oj hoj hl k hk'
  have hval : ∀ v W', Below W.heap.size W W' → (∀ x ∈ pr, x.1 = i → x.2.2 v W') → TJ k ops a w pr ex (listed.setIfInBounds i true) (a'.put o.dst v) W' := by
    intro v W' hB hv1
    refine ⟨(put_defers ..).trans h.defers, (put_size ..).trans h.size, fun t ht => by rw [getD_put_ne (ht i o hik ho)]; exact h.frame t ht, h.below.trans (hB.mono h.below.size), hex undef _ _ h.ext hB, fun x hx hl => ?_, hinit v, hclosed⟩
    by_cases hxi : x.1 = i
    · have h1 := (vok x hx)
      rw [hxi, ho] at h1
      have h2 : o.dst = some x.2.1 := h1.1
      rw [h2, getD_put_eq (by rw [h.size]; exact h1.2)]
      exact hv1 x hx hxi
    · rw [hL, if_neg hxi] at hl
      rw [getD_put_ne (hslot _ _ hxi (vok x hx).1)]
      exact hk x hx _ _ _ (h.val x hx hl) hB
  unfold wpOp
  rw [ho]
  rcases hok with ⟨hg, d, q, hq, hok⟩ | ⟨⟨j, b, hg⟩, hu1⟩
  rotate_left
  · simp only [hyi _ _ _ hg, show (b == !b) = false by cases b <;> rfl, Bool.false_eq_true, if_false]
    exact hval undef W (Below.refl _ _) (fun x hx e => hu1 x hx e W)
  have hw : Region.wanted o (yielded ops a'.tmps) = true := by
    rcases hg with hg | ⟨j, b, hg⟩
    · simp only [Region.wanted, hg]
    · rw [hyi _ _ _ hg]; cases b <;> rfl
  simp only [hw, if_true]
  refine .inl ?_
  rw [hay]
  refine (hok y W h.below h.ext hV hU).out _ _ (fun v W' hB hv => ?_)
  rw [← hay]
  exact hval v W' hB (word_only hq hv)
def waitB (ops : Array Oper) (k : Nat) : Bool := (List.range ops.size).all fun i => decide (i < k) || (List.range i).all fun j => (List.range (i + 1)).any fun q => decide (j < q) && ((ops[q]?).map fun o => depB o j).getD false
theorem tail_all {listed : Array Bool} {i : Nat} {o : Oper} (ht : waitB ops k = true) (hik : k ≤ i) (hi : i < ops.size) (ho : ops[i]? = some o) (hd : ∀ e ∈ o.after, Region.binds .any e = true → listed.getD e.on false = true)
    (hc : ∀ (j : Nat) (oj : Oper), j < i → ops[j]? = some oj → listed.getD j false = true → ∀ q, depB oj q = true → listed.getD q false = true) : ∀ j, j < i → listed.getD j false = true := by
  have h1 := List.all_eq_true.1 ht i (List.mem_range.2 hi)
  simp only [Bool.or_eq_true, decide_eq_true_eq] at h1
  have h2 := h1.resolve_left (by omega)
  have key : ∀ n j, j < i → i ≤ j + n → listed.getD j false = true := by
    intro n
    induction n with
    | zero => intro j hj hn; omega
    | succ n ih =>
      intro j hj hn
      have h3 := List.all_eq_true.1 h2 j (List.mem_range.2 hj)
      obtain ⟨q, hq, h4⟩ := List.any_eq_true.1 h3
      simp only [Bool.and_eq_true, decide_eq_true_eq] at h4
      obtain ⟨h5, h6⟩ := h4
      have hqi := List.mem_range.1 hq
      cases hoq : ops[q]? with
      | none => rw [hoq] at h6; cases h6
      | some oq =>
        rw [hoq] at h6
        have h7 : depB oq j = true := by simpa using h6
        by_cases hqe : q = i
        · subst hqe
          rw [ho] at hoq
          injection hoq with hoq
          subst hoq
          exact depB_listed h7 hd
        · exact hc q oq (by omega) hoq (ih q (by omega) (by omega)) j h7
  exact fun j hj => key i j hj (by omega)
theorem wp_region_tail {id : Nat} (k : Nat) (pr : List Wd) (ex : World → Prop) (ds : List Tmp) (hds : (ops.toList.take k).filterMap (·.dst) = ds) (hm : P.follows .mixedOrders = true)
    (hB : fullB ops a.tmps.size (pr.map fun x => (x.1, x.2.1)) [] [] = true) (hpk : (pr.all fun x => decide (x.1 < k)) = true) (ht : waitB ops k = true) (hk : KeepsL pr) (hex : Keeps (fun _ => ex)) (h0 : ex w) (hkn : k < ops.size)
    (hops : ∀ (i : Nat) (o : Oper), i < k → ops[i]? = some o → VOk P ops a w pr ex ds i o)
    (hend : ∀ (y : Nat → Value) W, Below w.heap.size w W → ex W → (∀ x ∈ pr, x.2.2 (y x.2.1) W) → wpList P ops Q (ops.toList.drop k) (fr a ds y) W) :
    (Code.region id ops true).wp P Q a w := by
  unfold fullB at hB
  simp only [Bool.and_eq_true] at hB
  obtain ⟨⟨⟨⟨⟨h1, h2⟩, h3⟩, -⟩, -⟩, -⟩ := hB
  have dag : ∀ (i : Nat) (o : Oper), ops[i]? = some o → ∀ e ∈ o.after, Region.binds .any e = true → e.on < i := by
    intro i o ho e he hb
    have hi := (Array.getElem?_eq_some_iff.1 ho).1
    have := List.all_eq_true.1 h1 i (List.mem_range.2 hi)
    rw [ho] at this
    simp only [Option.map_some, Option.getD_some, Array.all_eq_true'] at this
    have := this e he
    rw [hb] at this
    simpa using this
  have dag2 : ∀ (j : Nat) (oj : Oper), ops[j]? = some oj → ∀ q, depB oj q = true → q < j := by
    intro j oj hoj q hq
    obtain ⟨e, he, h2⟩ := Array.any_eq_true'.1 hq
    simp only [Bool.and_eq_true, beq_iff_eq] at h2
    have := dag j oj hoj e he h2.1
    omega
  have nodup : ∀ (i j : Nat) (o o' : Oper) (t : Tmp), ops[i]? = some o → ops[j]? = some o' → o.dst = some t → o'.dst = some t → i = j := by
    intro i j o o' t ho ho' hd hd'
    have hi := (Array.getElem?_eq_some_iff.1 ho).1
    have hj := (Array.getElem?_eq_some_iff.1 ho').1
    have := List.all_eq_true.1 (List.all_eq_true.1 h2 i (List.mem_range.2 hi)) j (List.mem_range.2 hj)
    simp only [dstAt, ho, ho', Option.bind_some, hd, hd'] at this
    simpa using this
  have vok : ∀ x ∈ pr, (ops[x.1]?).bind (·.dst) = some x.2.1 ∧ x.2.1 < a.tmps.size := by
    intro x hx
    have := List.all_eq_true.1 h3 _ (List.mem_map_of_mem hx)
    simp only [Bool.and_eq_true, beq_iff_eq, decide_eq_true_eq] at this
    exact this
  have hrep : ∀ j, (Array.replicate ops.size false).getD j false = false := fun j => by simp [Array.getD]
  refine wp_region_any hm (wpAny_inv (fun listed a' W => listed.size = ops.size ∧ ((∀ i, k ≤ i → listed.getD i false = false) ∧ TJ k ops a w pr ex listed a' W ∨ ∃ m, k ≤ m ∧ (∀ i, listed.getD i false = decide (i < m)) ∧ wpList P ops Q (ops.toList.drop m) a' W)) dag
    (fun listed a' W i o hJ hs ho hn hd => ?_) (fun listed a' W hJ' hl => ?_) _ _ _ _ (by simp) (by simp) ⟨by simp, .inl ⟨fun i _ => hrep i, ?_⟩⟩)
  · have hi : i < ops.size := (Array.getElem?_eq_some_iff.1 ho).1
    have hL := fun j => getD_listed (listed := listed) (i := i) (j := j) (by rw [hs]; exact hi)
    have hnf : listed.getD i false = false := by simpa [Array.getD, hs, hi] using hn
    have hdrop : ops.toList.drop i = o :: ops.toList.drop (i + 1) := by
      have h5 : i < ops.toList.length := by simpa using hi
      rw [List.drop_eq_getElem_cons h5]
      congr 1
      have := (Array.getElem?_eq_some_iff.1 ho).2
      simpa using this
    have hgo : ∀ act, wpList P ops Q (ops.toList.drop i) act W → (∀ j, j < i → listed.getD j false = true) → (∀ j, i < j → listed.getD j false = false) → k ≤ i →
        wpOp P ops Q i (fun a'' W'' => (listed.setIfInBounds i true).size = ops.size ∧ ((∀ q, k ≤ q → (listed.setIfInBounds i true).getD q false = false) ∧ TJ k ops a w pr ex (listed.setIfInBounds i true) a'' W'' ∨ ∃ m, k ≤ m ∧ (∀ q, (listed.setIfInBounds i true).getD q false = decide (q < m)) ∧ wpList P ops Q (ops.toList.drop m) a'' W'')) act W := by
      intro act hw hlo hhi hki
      rw [hdrop] at hw
      refine wpOp_mono (K := wpList P ops Q (ops.toList.drop (i + 1))) (fun a'' W'' hh => ⟨by simpa using hs, .inr ⟨i + 1, by omega, fun q => ?_, hh⟩⟩) ?_
      · rw [hL]
        by_cases hqi : q = i
        · subst hqi; simp
        · rw [if_neg hqi]
          rcases Nat.lt_or_gt_of_ne hqi with h | h
          · rw [hlo q h]; simp; omega
          · rw [hhi q h]; simp; omega
      · unfold wpOp
        rw [ho]
        exact hw
    rcases hJ with ⟨-, ⟨hk0, hT⟩ | ⟨m, hkm, hlm, hw⟩⟩
    · by_cases hik : i < k
      · refine wpOp_mono (fun a'' W'' hh => ⟨by simpa using hs, .inl ⟨fun q hq => ?_, hh⟩⟩) (hT.step hs ho hn hd nodup hk.all hex vok hik hds (hops i o hik ho))
        rw [hL, if_neg (by omega)]; exact hk0 q hq
      · have hall := tail_all ht (Nat.le_of_not_lt hik) hi ho hd (fun j oj _ hoj hlj q hq => hT.closed j oj hoj hlj q hq)
        have hike : i = k := by
          by_cases h : i = k
          · exact h
          · have := hall k (by omega)
            rw [hk0 k (Nat.le_refl _)] at this; cases this
        subst hike
        have hv : ∀ x ∈ pr, x.2.2 (a'.tmps.getD x.2.1 undef) W := fun x hx => hT.val x hx (hall _ (by simpa using List.all_eq_true.1 hpk x hx))
        have e := hT.lit
        rw [hds] at e
        have hw := hend (fun t => a'.tmps.getD t undef) W hT.below hT.ext hv
        rw [← e] at hw
        exact hgo a' hw hall (fun j hj => hk0 j (by omega)) (Nat.le_refl _)
    · have hge : m ≤ i := by
        have h5 := hlm i
        rw [hnf] at h5
        have := of_decide_eq_false h5.symm
        omega
      have hall := tail_all ht (Nat.le_trans hkm hge) hi ho hd (fun j oj _ hoj hlj q hq => by
        rw [hlm] at hlj ⊢
        have := dag2 j oj hoj q hq
        have h6 := of_decide_eq_true hlj
        exact decide_eq_true (by omega))
      have him : i = m := by
        by_cases h : i = m
        · exact h
        · have := hall m (by omega)
          rw [hlm] at this
          have := of_decide_eq_true this
          omega
      subst him
      exact hgo a' hw hall (fun j hj => by rw [hlm]; simp; omega) hkm
  · rcases hJ' with ⟨-, ⟨hk0, hT⟩ | ⟨m, hkm, hlm, hw⟩⟩
    · have := hl k hkn
      rw [hk0 k (Nat.le_refl _)] at this; cases this
    · have hsm : ops.size ≤ m := by
        apply Classical.byContradiction
        intro hn
        have := hl m (by omega)
        rw [hlm] at this
        have := of_decide_eq_true this
        omega
      rw [List.drop_eq_nil_of_le (by simpa using hsm)] at hw
      exact hw
  · have hd0 : Below w.heap.size w { w with drawn := w.drawn + 1 } := ⟨rfl, rfl, rfl, Nat.le_refl _, fun _ _ => rfl⟩
    refine ⟨rfl, rfl, fun _ _ => rfl, hd0, hex undef _ _ h0 hd0, fun x hx hl => ?_, fun _ _ _ _ _ _ => rfl, fun j _ _ hl => ?_⟩
    · rw [hrep] at hl; cases hl
    · rw [hrep] at hl; cases hl
end
theorem forall_lt {C : Nat → Oper → Prop} {l : List Oper} (k : Nat) (h : AllFrom C 0 (l.take k)) : ∀ (i : Nat) (o : Oper), i < k → l.toArray[i]? = some o → C i o := fun i o hik ho => by
  have := AllFrom.get (l.take k) 0 h i o (by rw [List.getElem?_take_of_lt hik]; simpa using ho)
  rwa [Nat.zero_add] at this
theorem Keeps.vi (z : Int) : Keeps (VI z) := (Firm.vi z).keeps
theorem map_four {ρ : Operand → Value} {x z r s : Operand} {u t v q : Value} (h : ρ x = u) (k : ρ z = t) (l : ρ r = v) (m : ρ s = q) : (#[x, z, r, s] : Array Operand).map ρ = #[u, t, v, q] := by simp [h, k, l, m]
theorem run_row_at {P : Program} {W : World} {T : TypeId} {g o n c k : Nat} {E : TypeId} {i : TypeInfo} (hT : P.underlying T = some (.slice E)) (hi : P.info? E = some i) (h : k < n) : (Instr.indexAt T (.slice (some ⟨g, o, none⟩) n c) (.int .i64 (k : Int))).run P W = .ok (.pointer (some ⟨g, o + k * i.size, none⟩)) W := by
  have e : (asIntOf (Value.int IntKind.i64 (k : Int))).run P W = .ok (.i64, (k : Int)) W := rfl
  simp [Instr.indexAt, run_underlying hT, sizeOf, typeInfo, hi, Addr.add, e, h, Result.andThen]
section
variable {P : Program} {a : Act} {W : World} {o : Oper} {g k : Nat} {x j : Operand}
theorem Yl.rowAt {S E : TypeId} {i : TypeInfo} {b off n c m : Nat} (hT : P.underlying S = some (.slice E)) (hi : P.info? E = some i) (hs : i.size = m) (ho : o.op = .indexAddr S x j) (hx : a.eval x = .slice (some ⟨b, off, none⟩) n c) (hj : a.eval j = .int .i64 (k : Int)) (h : k < n) : Yl P o a W (VC (.pointer (some ⟨b, off + k * m, none⟩))) := by
  subst hs
  exact .indexAddr ho hx hj (run_row_at hT hi h) rfl
theorem Yl.loadL {T : TypeId} {n : Nat} {us : List Value} {d : TypeDesc} (ho : o.op = .load T x) (hx : a.eval x = .pointer (some ⟨g, k, none⟩)) (hc : ∀ d u, us[d]? = some u → W.cell? ⟨g, k + d, none⟩ = some u)
    (hn : us.length = n) (hu : P.underlying T = some d) (hd : d.isRow = true) (hi : (P.info? T).map (·.size) = some n) {q : Value → World → Prop} (hq : q (.agg us.toArray) W) : Yl P o a W q := by
  refine ⟨fun K Q' hK => ?_⟩
  exact wp_load_mid T x ho g k hx us d (fun j v hv => hc j v hv) hu hd (by rw [hi]; simpa using hn.symm) (hK _ W (Below.refl _ _) hq)
theorem two_cells {u v : Value} (h0 : W.cell? ⟨g, k, none⟩ = some u) (h1 : W.cell? ⟨g, k + 1, none⟩ = some v) : ∀ d z, [u, v][d]? = some z → W.cell? ⟨g, k + d, none⟩ = some z := by
  intro d z hz
  rcases d with _ | _ | d
  · injection hz with hz; subst hz; exact h0
  · injection hz with hz; subst hz; exact h1
  · simp at hz
end
theorem Yl.loadI {a : Act} {W : World} {o : Oper} {g k : Nat} {x : Operand} {u v : Value} {z : Int} (ho : o.op = .load 47 x) (hx : a.eval x = .pointer (some ⟨g, k, none⟩)) (h0 : W.cell? ⟨g, k, none⟩ = some u) (h1 : W.cell? ⟨g, k + 1, none⟩ = some v) (hI : IC W u v z) : Yl Tryz.prog o a W (VI z) :=
  .loadL (us := [u, v]) ho hx (two_cells h0 h1) rfl Tryz.underlying47 rfl (by kernel_rfl) ⟨u, v, rfl, hI⟩
theorem Yl.loadI' {a : Act} {w W : World} {o : Oper} {g k : Nat} {x : Operand} {u v : Value} {z : Int} (hB : Below w.heap.size w W) (hg : g < w.heap.size) (h0 : w.cell? ⟨g, k, none⟩ = some u) (h1 : w.cell? ⟨g, k + 1, none⟩ = some v) (hI : IC w u v z) (ho : o.op = .load 47 x) (hx : a.eval x = .pointer (some ⟨g, k, none⟩)) : Yl Tryz.prog o a W (VI z) :=
  .loadI ho hx ((hB.cell (p := ⟨g, k, none⟩) hg).trans h0) ((hB.cell (p := ⟨g, k + 1, none⟩) hg).trans h1) (hI.keep hB)
theorem wrapK_nat {n : Nat} (h : n ≤ 4000000000) : IntKind.i64.wrap (n : Int) = n := by
  exact IntWalk.i64_in _ (by omega)
section
variable {P : Program} {a : Act} {W : World} {o : Oper} {x z : Operand} {S D : TypeId} {p q : Nat}
theorem Yl.addN (ho : o.op = .binOp .add S x z D) (hx : a.eval x = .int .i64 (p : Int)) (hz : a.eval z = .int .i64 (q : Int)) (h : p + q ≤ 4000000000) : Yl P o a W (VC (.int .i64 ((p + q : Nat) : Int))) := by
  refine .binOp ho hx hz ?_ rfl
  have := wrapK_nat h
  push_cast at this
  simp [go_sem, eqGuard, this]
end
theorem Yl.makeFunc1 {P : Program} {a : Act} {W : World} {o : Oper} {x : Operand} {fn : Fn} {v : Value} (ho : o.op = .makeFunc fn #[] #[x]) (hx : a.eval x = v) : Yl P o a W (VC (.func fn #[] #[v])) :=
  .instr (s := Instr.makeFunc fn #[] #[v]) (by simp only [execOp, ho, List.map_toArray, List.map_cons, List.map_nil, hx]) (by simp [Instr.makeFunc]) rfl
def OneI (z : Int) : Value → World → Prop := fun s W => ∃ g u v, s = .slice (some ⟨g, 0, none⟩) 1 1 ∧ g < W.heap.size ∧ W.cell? ⟨g, 0, none⟩ = some u ∧ W.cell? ⟨g, 1, none⟩ = some v ∧ IC W u v z
theorem Keeps.oneI (z : Int) : Keeps (OneI z) := by
  rintro s W W' ⟨g, u, v, e, h0, h1, h2, h3⟩ hb
  exact ⟨g, u, v, e, Nat.lt_of_lt_of_le h0 hb.size, (hb.cell (p := ⟨g, 0, none⟩) h0).trans h1, (hb.cell (p := ⟨g, 1, none⟩) h0).trans h2, h3.keep hb⟩
theorem Yl.buildI {a : Act} {W : World} {o : Oper} {x : Operand} {T : TypeId} {u v : Value} {z : Int} (hT : Tryz.prog.underlying T = some (.slice 47)) (ho : o.op = .buildSlice T 1 #[(0, x)]) (hx : a.eval x = .agg #[u, v]) (hI : IC W u v z) : Yl Tryz.prog o a W (OneI z) := by
  refine ⟨fun K Q' hK => ?_⟩
  obtain ⟨i0, hi, hz0, hz1, hz2⟩ := info_parts info_Int
  refine wp_buildSlice T 47 1 #[(0, x)] ho #[u, v] i0 _ hT hi hz0 (by rw [hz1]; decide) (by rw [hz1]; decide) ?_ ?_
  · obtain ⟨A, c, rfl, rfl, -⟩ := hI
    rw [hz1]
    simp only [List.map_toArray, List.map_cons, List.map_nil, hx]
    kernel_rfl
  · have hB := (Below.refl W.heap.size W).alloc (Nat.le_refl _) (.cells #[u, v] 47)
    exact hK _ _ hB ⟨W.heap.size, u, v, rfl, by simp, by simp [go_sem], by simp [go_sem], hI.keep hB⟩
end Go.Proofs.YthkklilhjnpedaaGreat
end
section
namespace Go.Proofs.YthkklilhjnpedaaGreat
open Go.RowKit FF
theorem wrap_nat {n : Nat} (h : n ≤ 2000000) : wrap64 (n : Int) = n := by unfold wrap64; omega
def lenOf : Value → Nat
  | .slice _ n _ => n
  | _ => 0
set_option maxRecDepth 3000 in
set_option maxHeartbeats 2000000 in
theorem normal_any {v : Value} {l : List Int} {k : Nat} {w : World} (hv : VP l v w) (hk : ∀ x ∈ l, Wn k x) (hk4 : k ≤ 300) (hl : l.length ≤ 1000000) : Calls Tryz.prog 84 #[v] w (PostW (fun r W => ∃ rs, OwnN w r rs W ∧ rs.map (fun x => x.1) = stripZ l) w) := by
  obtain ⟨i0, hi, hz0, hz1, hz2⟩ := info_parts info_Int
  have HI := Lib.hid hi; have HZ0 := Lib.hid hz0; have HZ1 := Lib.hid hz1; have HZ2 := Lib.hid hz2
  clear hi hz0 hz1 hz2
  obtain ⟨A, c, rfl, h1, h2⟩ := hv.len
  have HV := Lib.hid hv; have HK := Lib.hid hk
  clear hv hk
  have hN := Lib.hid (fun (W : World) (u u' : Value) (z : Int) (h : IC W u u' z) (hz : Wn k z) => cNormal h hz (by omega))
  go_enter Tryz.func84, Tryz.ntmps84
  go_wp2_with fail
  go_loopw [3, 5, 8] (fun s3 _ s8 wr => ∃ (i : Nat) (rs : List IRef), s8 = .int .i64 i ∧ i ≤ l.length ∧ rs.map (fun x => x.1) = l.take i ∧ OwnN w s3 rs wr) (fun _ _ s8 _ => (l.length - (intOf s8).toNat))
  case atStart => exact ⟨0, [], rfl, Nat.zero_le _, rfl, OwnN.start (Below.refl _ _)⟩
  case round =>
    obtain ⟨i, rs, rfl, hil, hrs, hG⟩ := hrel
    have HG := Lib.hid hG; have HR := Lib.hid hrs
    clear hG hrs
    by_cases hlt : i < l.length
    · have hti := decide_eq_true (p := ((i : Nat) : Int) < ((l.length : Nat) : Int)) (by omega)
      obtain ⟨z, hz⟩ : ∃ z, l[i]? = some z := ⟨_, List.getElem?_eq_getElem hlt⟩
      obtain ⟨b, o, s, A', m, c', rfl, q0, q1, g, hb⟩ := (HV.out.keep (HG.out.1.2.1)).at hz
      have GI := Lib.hid g
      clear g
      go_wp2_with fail
      have BA := (Below.refl wr.heap.size wr).alloc (Nat.le_refl _) (.cells #[.bool s, .slice A' m c'] 47)
      refine (hN.out _ _ _ z (GI.out.keep BA) (HK.out z (List.mem_of_getElem? hz))).mono ?_
      rintro e w1 ⟨_, rfl, ⟨p, q, rfl, h⟩, hb1⟩
      obtain ⟨y, rfl, rfl, rfl, hy⟩ := h.ref
      have HG1 := Lib.hid (HG.out.keep (BA.trans (hb1.mono (by simp))))
      have HY := Lib.hid hy
      clear BA hb1 hy h q0 q1 GI HG hb
      go_wp2_with (at_builtin; refine wpList_append_int rfl (.tmp 12) (.tmp 15) 91 rfl i0 Tryz.underlying91 HI.out HZ0.out HZ1.out HZ2.out (HG1.out.keep ((Below.refl _ _).alloc (Nat.le_refl _) _)) y (HY.out.keep ((Below.refl _ _).alloc (Nat.le_refl _) _)) ⟨w1.heap.size, 0, none⟩ 1 rfl rfl (by simp [go_sem]) (by simp [go_sem]) (by have := congrArg List.length HR.out; simp at this; omega) ?_; intro v' w2 hg2 hgr; have HG2 := Lib.hid hg2; clear hg2 hgr)
      refine ⟨⟨i + 1, rs ++ [y], by push_cast; rfl, hlt, ?_, HG2.out⟩, ?_⟩
      · rw [List.map_append, HR.out, List.take_add_one, hz]; rfl
      · show l.length - ((i : Int) + 1).toNat < l.length - (i : Int).toNat
        omega
    · have hti := decide_eq_false (p := ((i : Nat) : Int) < ((l.length : Nat) : Int)) (by omega)
      have hS : stripZ (rs.map fun x => x.1) = stripZ l := by rw [HR.out, List.take_of_length_le (by omega)]
      have HS := Lib.hid hS
      have hlen : rs.length ≤ 1000000 := by have := congrArg List.length HR.out; simp at this; omega
      clear hS HR hN HK HV HI HZ0 HZ1 HZ2
      obtain ⟨W6, hW6⟩ : ∃ W6 : World, W6 = wr := ⟨_, rfl⟩
      subst hW6
      go_wp2_with fail
      go_loopw [3] (fun s3 wr => ∃ rs : List IRef, OwnN w s3 rs wr ∧ stripZ (rs.map fun x => x.1) = stripZ l ∧ rs.length ≤ 1000000) (fun s3 _ => lenOf s3)
      case atStart => exact ⟨rs, HG.out, HS.out, hlen⟩
      case round =>
        obtain ⟨rs2, hG2, hS2, hl2⟩ := hrel
        rcases List.eq_nil_or_concat rs2 with rfl | ⟨rs3, y, rfl⟩
        · obtain ⟨A2, c2, rfl, -, -⟩ := hG2.1.vp.len
          have HG2 := Lib.hid hG2; have HS2 := Lib.hid hS2
          clear hG2 hS2
          go_wp2_with fail
          go_ret
          exact ⟨_, rfl, ⟨[], HG2.out, HS2.out⟩, HG2.out.1.2.1⟩
        · rw [List.concat_eq_append] at hG2 hS2 hl2
          have hl3 : (rs3 ++ [y]).length = rs3.length + 1 := by simp
          obtain ⟨g, cap, hv, hc1, hc2, hlt⟩ := hG2.form (by omega)
          rw [hl3] at hv
          subst hv
          obtain ⟨q0, q1, hy⟩ := hG2.cell hl3.symm (i := rs3.length) (x := y) (by simp)
          rw [hl3] at hl2 hc1
          rw [List.map_append] at hS2
          simp only [List.map_cons, List.map_nil] at hS2
          have HG2 := Lib.hid hG2; have HS2 := Lib.hid hS2; have HY := Lib.hid hy
          clear hG2 hS2 hl3 hy
          rw [Nat.zero_add] at q0 q1
          obtain ⟨n, hn⟩ : ∃ n, n = rs3.length := ⟨_, rfl⟩
          have HN := Lib.hid hn
          rw [← hn] at q0 q1 hl2 hc1 HG2 ⊢
          clear hn hc2
          have hw := wrap_nat (n := n) (Nat.le_trans (Nat.le_of_succ_le hl2) (by decide))
          have hcap : n ≤ cap := Nat.le_of_succ_le hc1
          have hn1 : n ≤ 1000000 := Nat.le_of_succ_le hl2
          have HL := Lib.hid hn1
          clear hl2 hc1 hn1
          go_wp2_with fail
          refine (wZero_any HY.out.ic).mono ?_
          rintro e w1 ⟨rfl, hb1⟩
          have HG3 := Lib.hid (HG2.out.keep hb1)
          by_cases h0 : y.1 = 0
          · have hd := decide_eq_true h0
            have hS3 := HS2.out
            rw [h0, stripZ_zero] at hS3
            have HS3 := Lib.hid hS3
            clear hS3
            obtain hnn := HN.out
            have HP := Lib.hid (OwnN.pop (rs := rs3) (y := y) (w := w) (W := w1) (g := g) (cap := cap) (by rw [← hnn]; exact HG3.out))
            rw [← hnn] at HP
            clear hnn
            go_wp2_with fail
            exact ⟨⟨rs3, HP.out, HS3.out, by have := HN.out; have := HL.out; omega⟩, Nat.lt_succ_self n⟩
          · have hd := decide_eq_false h0
            have hS3 := HS2.out
            rw [stripZ_ne _ h0] at hS3
            have HS3 := Lib.hid hS3
            clear hS3
            go_wp2_with fail
            go_ret
            exact ⟨_, rfl, ⟨rs3 ++ [y], HG3.out, by rw [List.map_append]; exact HS3.out⟩, HG3.out.1.2.1⟩
end Go.Proofs.YthkklilhjnpedaaGreat
end
