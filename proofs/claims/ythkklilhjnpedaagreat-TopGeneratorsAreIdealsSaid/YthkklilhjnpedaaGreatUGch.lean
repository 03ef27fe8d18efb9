/- The order of quadruples. -/
import Derived.Test.YthkklilhjnpedaaGreatURpt
import Derived.Test.YthkklilhjnpedaaGreatUGsm
import Derived.Maps.Own
import Derived.Maps.OwnOps
import Derived.Maps.OwnSet
import Derived.Maps.Views
import Derived.Test.YthkklilhjnpedaaGreatUOpen0
import Derived.Test.YthkklilhjnpedaaGreatUHqa
import Derived.Test.YthkklilhjnpedaaGreatURpf
section
namespace Go.Proofs.YthkklilhjnpedaaGreat
open Go.RowKit FF
open Go.Maps (Keyed string_keyed)
def eNum : El Int where
  T := 3
  n := 1
  bytes := 8
  z := .int .i64 0
  E := fun x cs _ => cs = [.int .i64 x]
  Bad := fun _ => False
  pos := by decide
  small := by decide
  zn := rfl
  zg := fun _ _ h => h
  len := by rintro x cs W rfl; rfl
  one := by
    rintro x cs W rfl y hy
    obtain rfl := List.mem_singleton.1 hy
    exact ⟨rfl, fun h => h⟩
  alt := fun h _ _ => h
theorem eNum_bad (x : Int) (cs : List Value) (W : World) (h : eNum.E x cs W) : ∃ u r, cs = u :: r ∧ NoSlice u := by
  obtain rfl : cs = [.int .i64 x] := h
  exact ⟨_, _, rfl, fun ⟨A, n, c, e⟩ => by cases e⟩
def eRow : El (List Int) := eSl eNum 35 eNum_bad (fun _ h => h.elim)
def eStr : El (List UInt8) where
  T := 9
  n := 1
  bytes := 16
  z := .string ⟨#[]⟩
  E := fun s cs _ => cs = [.string ⟨s.toArray⟩]
  Bad := fun _ => False
  pos := by decide
  small := by decide
  zn := rfl
  zg := fun _ _ h => h
  len := by rintro x cs W rfl; rfl
  one := by
    rintro x cs W rfl y hy
    obtain rfl := List.mem_singleton.1 hy
    exact ⟨rfl, fun h => h⟩
  alt := fun h _ _ => h
def NP (l : List Int) : Value → World → Prop := Sl eNum l
theorem np_at {l : List Int} {A : Option Addr} {n c : Nat} {W : World} (h : NP l (.slice A n c) W) {i : Nat} {z : Int} (hi : l[i]? = some z) : ∃ b o, A = some ⟨b, o, none⟩ ∧ b < W.heap.size ∧ W.cell? ⟨b, o + i, none⟩ = some (.int .i64 z) := by
  obtain ⟨b, o, cs, e, hb, hcs, hc⟩ := Sl.at h hi
  obtain rfl : cs = [.int .i64 z] := hcs
  have := hc 0 _ rfl
  rw [show o + i * eNum.n + 0 = o + i from by show o + i * 1 + 0 = o + i; omega] at this
  exact ⟨b, o, e, hb, this⟩
theorem sl_str_at {l : List (List UInt8)} {A : Option Addr} {n c : Nat} {W : World} (h : Sl eStr l (.slice A n c) W) {i : Nat} {z : List UInt8} (hi : l[i]? = some z) : ∃ b o, A = some ⟨b, o, none⟩ ∧ b < W.heap.size ∧ W.cell? ⟨b, o + i, none⟩ = some (.string ⟨z.toArray⟩) := by
  obtain ⟨b, o, cs, e, hb, hcs, hc⟩ := Sl.at h hi
  obtain rfl : cs = [.string ⟨z.toArray⟩] := hcs
  have := hc 0 _ rfl
  rw [show o + i * eStr.n + 0 = o + i from by show o + i * 1 + 0 = o + i; omega] at this
  exact ⟨b, o, e, hb, this⟩
theorem sl_row_at {l : List (List Int)} {A : Option Addr} {n c : Nat} {W : World} (h : Sl eRow l (.slice A n c) W) {i : Nat} {z : List Int} (hi : l[i]? = some z) : ∃ b o u, A = some ⟨b, o, none⟩ ∧ b < W.heap.size ∧ W.cell? ⟨b, o + i, none⟩ = some u ∧ NP z u W := by
  obtain ⟨b, o, cs, e, hb, ⟨u, rfl, hu⟩, hc⟩ := Sl.at h hi
  have := hc 0 _ rfl
  rw [show o + i * eRow.n + 0 = o + i from by show o + i * 1 + 0 = o + i; omega] at this
  exact ⟨b, o, u, e, hb, this, hu⟩
def GV (names : List (List UInt8)) (edges : List (List Int)) (a b : Value) (W : World) : Prop := Sl eStr names a W ∧ Sl eRow edges b W
theorem GV.keep {names : List (List UInt8)} {edges : List (List Int)} {a b : Value} {W W' : World} (h : GV names edges a b W) (hb : Below W.heap.size W W') : GV names edges a b W' := ⟨h.1.keep hb, h.2.keep hb⟩
def GBox (R : Nat) (a b : Value) (W : World) : Prop := R < W.heap.size ∧ W.cell? ⟨R, 0, none⟩ = some a ∧ W.cell? ⟨R, 1, none⟩ = some b
theorem GBox.keep {R : Nat} {a b : Value} {W W' : World} (h : GBox R a b W) (hb : Below W.heap.size W W') : GBox R a b W' := ⟨Nat.lt_of_lt_of_le h.1 hb.size, (hb.cell (p := ⟨R, 0, none⟩) h.1).trans h.2.1, (hb.cell (p := ⟨R, 1, none⟩) h.1).trans h.2.2⟩
theorem GBox.new {a b : Value} {W : World} : GBox W.heap.size a b (W.alloc (.cells #[a, b] 38)) := ⟨by simp, by simp [go_sem], by simp [go_sem]⟩
set_option maxRecDepth 3000 in
set_option maxHeartbeats 1000000 in
theorem has_any {A : Option Addr} {n c : Nat} {b : Value} {x : Int} (h0 : 0 ≤ x) (h1 : x < n) (w : World) : Calls Tryz.prog 31 #[.agg #[.slice A n c, b], .int .i64 x] w (PostW (VC (.bool true)) w) := by
  have d1 : decide ((0 : Int) ≤ x) = true := decide_eq_true h0
  have d2 : decide (x < (n : Int)) = true := decide_eq_true h1
  clear h0 h1
  go_enter Tryz.func31, Tryz.ntmps31
  go_wp2_with fail
  go_ret
  exact ⟨_, rfl, rfl, (Below.refl _ _).alloc (Nat.le_refl _) _⟩
def ascL : List Int → Bool
  | x :: y :: l => decide (x ≤ y) && ascL (y :: l)
  | _ => true
theorem ascL_at : ∀ {l : List Int} {i : Nat} {x y : Int}, ascL l = true → l[i]? = some x → l[i + 1]? = some y → x ≤ y
  | [], _, _, _, _, h, _ => by simp at h
  | [_], i, _, _, _, _, h => by simp at h
  | a :: b :: l, 0, x, y, h, hx, hy => by
    unfold ascL at h
    rw [Bool.and_eq_true] at h
    have e1 : a = x := by simpa using hx
    have e2 : b = y := by simpa using hy
    rw [← e1, ← e2]; exact of_decide_eq_true h.1
  | a :: b :: l, i + 1, x, y, h, hx, hy => by
    unfold ascL at h
    rw [Bool.and_eq_true] at h
    exact ascL_at (l := b :: l) (i := i) h.2 (by simpa using hx) (by simpa using hy)
def rowOk (n : Nat) (l : List Int) : Bool := decide (l.length ≤ 400) && l.all (fun v => decide (0 ≤ v) && decide (v < n)) && ascL l
set_option maxRecDepth 3000 in
set_option maxHeartbeats 4000000 in
theorem checkNb_any {A : Option Addr} {n c : Nat} {b v : Value} {l : List Int} {w : World} (hv : NP l v w) (hok : rowOk n l = true) : Calls Tryz.prog 60 #[.agg #[.slice A n c, b], v] w (PostW (VC (.int .i64 0)) w) := by
  unfold rowOk at hok
  simp only [Bool.and_eq_true, decide_eq_true_eq] at hok
  obtain ⟨⟨k1, k2⟩, k3⟩ := hok
  have HV := Lib.hid hv
  obtain ⟨A', c', rfl, h1, h2⟩ := hv.len
  obtain ⟨m, hm⟩ : ∃ m, m = l.length := ⟨_, rfl⟩
  have d0 := decide_eq_false (p := (400 : Int) < (m : Int)) (by omega)
  have HM := Lib.hid hm; have HL := Lib.hid (show m ≤ 400 by omega); have HAsc := Lib.hid k3
  have HIn := Lib.hid (show ∀ x ∈ l, 0 ≤ x ∧ x < (n : Int) from fun x hx => by have := List.all_eq_true.1 k2 x hx; simpa using this)
  have HLe := Lib.hid (show ∀ i : Nat, i < m → ∃ z, l[i]? = some z from fun i hi => ⟨_, List.getElem?_eq_getElem (by omega)⟩)
  rw [← hm] at h1 ⊢
  clear hv k1 k2 k3 hm
  go_enter Tryz.func60, Tryz.ntmps60
  go_wp2_with fail
  obtain ⟨W1, hW1⟩ : ∃ W1, W1 = w.alloc (.cells #[.slice A n c, b] 38) := ⟨_, rfl⟩
  have HB1 := Lib.hid (show Below w.heap.size w W1 by rw [hW1]; exact (Below.refl _ _).alloc (Nat.le_refl _) _)
  have HG1 := Lib.hid (show GBox w.heap.size (.slice A n c) b W1 by rw [hW1]; exact GBox.new)
  rw [← hW1]
  clear hW1
  go_loopw [4, 5, 6, 12] (fun s4 _ _ s12 wr => ∃ i : Nat, s4 = .int .i64 0 ∧ s12 = .int .i64 i ∧ i ≤ m ∧ Below W1.heap.size W1 wr) (fun _ _ _ s12 _ => (m - (intOf s12).toNat))
  case atStart => exact ⟨0, rfl, rfl, Nat.zero_le _, Below.refl _ _⟩
  case round =>
    obtain ⟨i, rfl, rfl, hil, hB⟩ := hrel
    have HB := Lib.hid hB
    clear hB
    by_cases hlt : i < m
    · have hti := decide_eq_true (p := ((i : Nat) : Int) < ((m : Nat) : Int)) (by omega)
      obtain ⟨z, hz⟩ := HLe.out i hlt
      have HZ := Lib.hid hz
      obtain ⟨b', o', rfl, hb', q0⟩ := np_at ((HV.out.keep HB1.out).keep HB.out) hz
      obtain ⟨-, g0, g1⟩ := HG1.out.keep HB.out
      have HZi := Lib.hid (HIn.out z (List.mem_of_getElem? hz))
      clear hz hb'
      go_wp2_with fail
      refine (has_any HZi.out.1 HZi.out.2 _).mono ?_
      rintro e w1 ⟨_, rfl, rfl, hb1⟩
      have HB2 := Lib.hid (HB.out.trans (hb1.mono HB.out.size))
      clear hb1 q0 g0 g1
      by_cases h0 : 0 < i
      · obtain ⟨j, rfl⟩ : ∃ j, i = j + 1 := ⟨i - 1, by omega⟩
        obtain ⟨y, hy⟩ := HLe.out j (by omega)
        obtain ⟨b2, o2, eb, hb2, q0⟩ := np_at ((HV.out.keep HB1.out).keep HB2.out) hy
        have hyz := ascL_at HAsc.out hy HZ.out
        have d1 := decide_eq_true (p := (0 : Int) < ((j : Nat) : Int) + 1) (by omega)
        have d2 := decide_eq_false (p := z < y) (by omega)
        have d3 := decide_eq_true (p := (0 : Int) < ((j + 1 : Nat) : Int)) (by omega)
        have d4 := decide_eq_true (p := (0 : Nat) < j + 1) (by omega)
        injection eb with eb
        injection eb with eb1 eb2
        subst eb1 eb2
        have hwj : wrap64 (j : Int) = j := by have := HL.out; unfold wrap64; omega
        clear hy hb2 hyz h0
        go_wp2_with fail
        clear hwj
        have hl1 : j + 1 < m := hlt
        have hcast : (j : Int) + 1 + 1 = ((j + 1 : Nat) : Int) + 1 := by push_cast; rfl
        refine ⟨⟨j + 1 + 1, rfl, by rw [hcast, wrap_succ hl1 (by have := HL.out; omega)], hl1, HB2.out⟩, ?_⟩
        rw [hcast, wrap_succ hl1 (by have := HL.out; omega)]; simp only [intOf]; omega
      · obtain rfl : i = 0 := by omega
        clear h0
        go_wp2_with fail
        refine ⟨⟨1, rfl, rfl, hlt, HB2.out⟩, ?_⟩
        simp only [intOf]; omega
    · have hti := decide_eq_false (p := ((i : Nat) : Int) < ((m : Nat) : Int)) (by omega)
      go_wp2_with fail
      go_ret
      exact ⟨_, rfl, rfl, HB1.out.trans (HB.out.mono HB1.out.size)⟩
theorem strKey : Keyed Tryz.prog 9 := string_keyed Tryz.underlying9
theorem zeroBool' (w : World) : (zeroValue 4).run Tryz.prog w = .ok (.bool false) w := by kernel_rfl
def SetS (w : World) (b n : Nat) (S : List (List UInt8)) : Prop :=
  ∃ D : DataW Unit, w.ownsMap Tryz.prog 9 (plainElem Tryz.prog 4) b n D ∧ Maps.IsMap D ∧ ∀ q : List UInt8, D.atKey (.string q) (.lit (.bool false)) = .lit (.bool (decide (q ∈ S)))
theorem SetS.made (w : World) : SetS (w.alloc (.map #[] 0)) w.heap.size 0 [] :=
  ⟨.map [], World.ownsMap_made _ _ _ _, Maps.isMap_empty, fun q => by simp [DataW.atKey]⟩
theorem SetS.keep {w w' : World} {b n : Nat} {S : List (List UInt8)} (h : SetS w b n S) (hb : Below w.heap.size w w') : SetS w' b n S := by
  obtain ⟨D, ⟨es, clock, g1, g2⟩, h2⟩ := h
  exact ⟨D, ⟨es, clock, by rw [hb.block b (Array.getElem?_eq_some_iff.1 g1).1]; exact g1, g2⟩, h2⟩
theorem plainElem_bool_inv' {P : Program} {e : TypeId} (he : P.underlying e = some .bool) {v : Value} {x : Bool} {ps : List MemPlace} (h : plainElem (H := Unit) P e v = some (.lit (.bool x), ps)) : v = .bool x := by
  unfold plainElem at h
  rw [he] at h
  cases v <;> simp at h
  rw [h.1]
theorem wpList_lookup_setS (w : World) {ops : Array Oper} {rest : List Oper} {o : Oper} {a : Act} {Q : Exit → Act → World → Prop} (hg : o.guard = none) (m x : Operand) (hop : o.op = Op.lookup 99 m x false)
    (b n : Nat) (S : List (List UInt8)) (hm : a.eval m = .map (some b)) (hS : SetS w b n S) (q : List UInt8) (hx : a.eval x = .string ⟨q.toArray⟩) (hq : q.length ≤ 1000)
    (hK : wpList Tryz.prog ops Q rest (a.put o.dst (.bool (decide (q ∈ S)))) w) : wpList Tryz.prog ops Q (o :: rest) a w := by
  obtain ⟨D, h1, h2, h3⟩ := hS
  obtain ⟨v, ps, hrun, hv⟩ := h1.lookup strKey Tryz.underlying99 (zeroBool' w) (plainElem_bool Tryz.underlying4 false) (WideMaps.keyOf_string_mk (s := ⟨q.toArray⟩) Tryz.underlying9 (show q.toArray.size ≤ maxLen by simp; unfold maxLen; omega))
  simp only at hv
  rw [h3 q] at hv
  obtain rfl := plainElem_bool_inv' Tryz.underlying4 hv
  refine wpList_plain hg fun K' hK' => ?_
  unfold Oper.wp
  simp [execOp, hop, hm, hx, hrun, Result.andThen]
  exact hK' _ _ hK
theorem wpList_update_setS (w : World) {ops : Array Oper} {rest : List Oper} {o : Oper} {a : Act} {Q : Exit → Act → World → Prop} (hg : o.guard = none) (m x v : Operand) (hop : o.op = Op.mapUpdate 99 m x v)
    (b n : Nat) (S : List (List UInt8)) (hm : a.eval m = .map (some b)) (hS : SetS w b n S) (hn : n < maxLen) (q : List UInt8) (hx : a.eval x = .string ⟨q.toArray⟩) (hv : a.eval v = .bool true) (hq : q.length ≤ 1000)
    (hK : ∀ w', SetS w' b (n + 1) (q :: S) → w.grownBy w' (some b) → wpList Tryz.prog ops Q rest (a.put o.dst undef) w') : wpList Tryz.prog ops Q (o :: rest) a w := by
  obtain ⟨D, h1, h2, h3⟩ := hS
  refine wpList_mapUpdate_own w hg m x v 99 hop 9 4 strKey Tryz.underlying99 _ b n D hm h1 hn _ _ _ hx hv (WideMaps.keyOf_string_mk (s := ⟨q.toArray⟩) Tryz.underlying9 (show q.toArray.size ≤ maxLen by simp; unfold maxLen; omega)) _ [] (plainElem_bool Tryz.underlying4 true) ?_
  intro w' h4 h5
  refine hK w' ⟨_, h4, h2.put _ _, fun r => ?_⟩ h5
  simp only
  by_cases hr : r = q
  · subst hr
    rw [Maps.atKey_put_same h2 (by trivial)]
    simp
  · rw [Maps.atKey_put_other (by intro e; injection e with e2; exact hr e2), h3 r]
    simp [hr]
end Go.Proofs.YthkklilhjnpedaaGreat
end
section
namespace Go.Proofs.YthkklilhjnpedaaGreat
open Go.RowKit FF
def nameOk (s : List UInt8) : Bool := decide (0 < s.length) && decide (s.length ≤ 40) && s.all (fun b => decide (b.toNat < 128) && (b != 32 && b != 10))
def distinctB : List (List UInt8) → Bool
  | [] => true
  | s :: l => !l.contains s && distinctB l
def okG (names : List (List UInt8)) (edges : List (List Int)) : Bool := decide (names.length = edges.length) && decide (names.length ≤ 2500) && names.all nameOk && distinctB names && edges.all (rowOk names.length)
theorem distinct_at : ∀ {l : List (List UInt8)} {i j : Nat} {x y : List UInt8}, distinctB l = true → l[i]? = some x → l[j]? = some y → i < j → x ≠ y
  | [], _, _, _, _, _, h, _, _ => by simp at h
  | s :: l, 0, 0, _, _, _, _, _, h => by omega
  | s :: l, 0, j + 1, x, y, h, hx, hy, _ => by
    unfold distinctB at h
    rw [Bool.and_eq_true] at h
    have e : s = x := by simpa using hx
    subst e
    rintro rfl
    have : l.contains s = true := List.contains_iff_mem.2 (List.mem_of_getElem? (by simpa using hy))
    rw [this] at h; simp at h
  | s :: l, i + 1, 0, _, _, _, _, _, h => by omega
  | s :: l, i + 1, j + 1, x, y, h, hx, hy, hij => by
    unfold distinctB at h
    rw [Bool.and_eq_true] at h
    exact distinct_at (l := l) (i := i) (j := j) h.2 (by simpa using hx) (by simpa using hy) (by omega)
theorem info_Row : (Tryz.prog.info? 35).map (fun i => (i.zero, i.size, i.bytes)) = some (some (.slice none 0 0), 1, 24) := by kernel_rfl
theorem indexAny_none (cs : List UInt8) : ∀ l : List UInt8, (∀ b ∈ l, b ∉ cs) → Lib.indexAny l cs = -1
  | [], _ => rfl
  | b :: l, h => by
    have ih := indexAny_none cs l (fun x hx => h x (List.mem_cons_of_mem _ hx))
    have hb := h b (List.mem_cons_self ..)
    simp [Lib.indexAny, ih, hb]
theorem containsAny_no {s : List UInt8} (h : s.all (fun b => decide (b.toNat < 128) && (b != 32 && b != 10)) = true) : Lib.containsAny s [32, 10] = false := by
  unfold Lib.containsAny
  rw [indexAny_none [32, 10] s (fun b hb => by
    have := List.all_eq_true.1 h b hb
    simp only [Bool.and_eq_true, bne_iff_ne] at this
    simp [this.2.1, this.2.2])]
  rfl
set_option maxRecDepth 3000 in
set_option maxHeartbeats 4000000 in
theorem check_any {a b : Value} {names : List (List UInt8)} {edges : List (List Int)} {w : World} (hg : GV names edges a b w) (hok : okG names edges = true) : Calls Tryz.prog 30 #[.agg #[a, b]] w (PostW (VC (.int .i64 0)) w) := by
  unfold okG at hok
  simp only [Bool.and_eq_true, decide_eq_true_eq] at hok
  obtain ⟨⟨⟨⟨k1, k2⟩, k3⟩, k4⟩, k5⟩ := hok
  have HG := Lib.hid hg
  obtain ⟨A, c, rfl, h1, h2⟩ := hg.1.len
  obtain ⟨A', c', rfl, h1', h2'⟩ := hg.2.len
  obtain ⟨n, hn⟩ : ∃ n, n = names.length := ⟨_, rfl⟩
  rw [← k1] at h1' ⊢
  rw [← hn] at h1 h1' ⊢
  have d0 := decide_eq_false (p := (2500 : Int) < (n : Int)) (by omega)
  have HN := Lib.hid hn; have HE := Lib.hid (show edges.length = n by omega); have HL := Lib.hid (show n ≤ 2500 by omega)
  have HDi := Lib.hid k4
  have HNa := Lib.hid (show ∀ s ∈ names, nameOk s = true from fun s hs => List.all_eq_true.1 k3 s hs)
  have HRo := Lib.hid (show ∀ l ∈ edges, rowOk n l = true from fun l hl => by rw [hn]; exact List.all_eq_true.1 k5 l hl)
  rw [← k1, ← hn] at HG
  clear hg k1 k2 k3 k4 k5 hn
  have hmm := @run_makeMap Tryz.prog
  go_enter Tryz.func30, Tryz.ntmps30
  go_wp2_with fail
  clear hmm
  obtain ⟨R, hR⟩ : ∃ R, R = w.heap.size := ⟨_, rfl⟩
  have hS0 := SetS.made (w.alloc (.cells #[.slice A n c, .slice A' n c'] 38))
  have hsz : (w.alloc (.cells #[.slice A n c, .slice A' n c'] 38)).heap.size = R + 1 := by rw [hR]; simp
  have hG0 : GBox R (.slice A n c) (.slice A' n c') ((w.alloc (.cells #[.slice A n c, .slice A' n c'] 38)).alloc (.map #[] 0)) := by
    rw [hR]; exact GBox.new.keep ((Below.refl _ _).alloc (Nat.le_refl _) _)
  have hB0 := ((Below.refl w.heap.size w).alloc (Nat.le_refl _) (.cells #[.slice A n c, .slice A' n c'] 38)).alloc (by simp) (.map #[] 0)
  rw [hsz] at hS0
  rw [← hR]
  obtain ⟨W1, hW1⟩ : ∃ W1, W1 = (w.alloc (.cells #[.slice A n c, .slice A' n c'] 38)).alloc (.map #[] 0) := ⟨_, rfl⟩
  rw [← hW1] at hS0 hG0 hB0
  rw [← hW1]
  have HS0 := Lib.hid hS0; have HG0 := Lib.hid hG0; have HB0 := Lib.hid hB0; have HR := Lib.hid hR
  clear hS0 hG0 hB0 hsz hW1 hR
  go_loopw [2, 4, 5, 6, 22] (fun s2 _ _ _ s22 wr => ∃ (i : Nat) (S : List (List UInt8)), s2 = .int .i64 0 ∧ s22 = .int .i64 i ∧ i ≤ n ∧ SetS wr (R + 1) i S ∧ (∀ x ∈ S, x ∈ names.take i) ∧ GBox R (.slice A n c) (.slice A' n c') wr ∧ Below w.heap.size w wr) (fun _ _ _ _ s22 _ => (n - (intOf s22).toNat))
  case atStart => exact ⟨0, [], rfl, rfl, Nat.zero_le _, HS0.out, (fun x hx => by cases hx), HG0.out, HB0.out⟩
  case round =>
    obtain ⟨i, S, rfl, rfl, hil, hS, hSn, hGB, hB⟩ := hrel
    have HS := Lib.hid hS; have HSn := Lib.hid hSn; have HGB := Lib.hid hGB; have HB := Lib.hid hB
    clear hS hSn hB
    by_cases hlt : i < n
    · have hti := decide_eq_true (p := ((i : Nat) : Int) < ((n : Nat) : Int)) (by omega)
      obtain ⟨s, hs⟩ : ∃ s, names[i]? = some s := ⟨_, List.getElem?_eq_getElem (by have := HN.out; omega)⟩
      obtain ⟨l, hl⟩ : ∃ l, edges[i]? = some l := ⟨_, List.getElem?_eq_getElem (by have := HE.out; omega)⟩
      obtain ⟨bn, on, rfl, hbn, q0⟩ := sl_str_at (HG.out.1.keep HB.out) hs
      obtain ⟨be, oe, ue, rfl, hbe, q1, hue⟩ := sl_row_at (HG.out.2.keep HB.out) hl
      have HUe := Lib.hid hue; have HQ1 := Lib.hid q1; have HBe := Lib.hid hbe; have HSi := Lib.hid hs; have HLi := Lib.hid hl
      obtain ⟨-, g0, g1⟩ := hGB
      have hno := HNa.out s (List.mem_of_getElem? hs)
      unfold nameOk at hno
      simp only [Bool.and_eq_true, decide_eq_true_eq] at hno
      obtain ⟨⟨n1, n2⟩, n3⟩ := hno
      have HN2 := Lib.hid n2; have HN3 := Lib.hid n3
      have e1 : s.isEmpty = false := by cases s with | nil => simp at n1 | cons => rfl
      have e2 : decide ((40 : Int) < (s.length : Int)) = false := decide_eq_false (by omega)
      have HCa := Lib.hid (fun w => Tryz.strings_ContainsAny_laid ⟨s.toArray⟩ ⟨#[32, 10]⟩ w (by show s.toArray.size < _; simp; omega) (by decide) (fun j b hj => by
        have hb := List.all_eq_true.1 n3 b (List.mem_of_getElem? (by simpa using hj))
        simp only [Bool.and_eq_true, decide_eq_true_eq] at hb
        exact hb.1) (fun j b hj => by
          have hb : b ∈ [(32 : UInt8), 10] := List.mem_of_getElem? hj
          simp only [List.mem_cons, List.not_mem_nil, or_false] at hb
          rcases hb with rfl | rfl <;> decide))
      rw [show (⟨s.toArray⟩ : ByteArray).data.toList = s from rfl, show (⟨#[32, 10]⟩ : ByteArray).data.toList = [32, 10] from rfl, containsAny_no n3] at HCa
      have hns : decide (s ∈ S) = false := decide_eq_false (fun hm => by
        obtain ⟨j, hj⟩ := List.mem_iff_getElem?.1 (HSn.out s hm)
        rw [List.getElem?_take] at hj
        split at hj
        · rename_i hji; exact distinct_at HDi.out hj hs hji rfl
        · cases hj)
      have HNs := Lib.hid hns
      clear hs hl hue q1 hbe hbn n2 n3 n1 hns
      go_wp2_with fail
      refine (HCa.out _).mono ?_
      rintro e w1 ⟨rfl, hb1⟩
      have HS1 := Lib.hid (HS.out.keep hb1); have HGB1 := Lib.hid (HGB.out.keep hb1); have HB1 := Lib.hid (HB.out.trans (hb1.mono HB.out.size))
      clear hb1 q0 g0 g1 e1 e2
      have hnS := of_decide_eq_false HNs.out
      go_upto_region 14 with (first | (at_lookup; refine wpList_lookup_setS _ rfl (.tmp 38) (.tmp 39) rfl (R + 1) i S rfl HS1.out s rfl (by have := HN2.out; omega) ?_) | (at_mapUpdate; refine wpList_update_setS _ rfl (.tmp 41) (.tmp 42) (.const (.bool true)) rfl (R + 1) i S rfl HS1.out (by have := HL.out; unfold maxLen; omega) s rfl rfl (by have := HN2.out; omega) ?_; intro w2 hs2 hg2; have HS2 := Lib.hid hs2; have HGr := Lib.hid hg2; clear hs2 hg2))
      have hB2 : Below w.heap.size w w2 := HB1.out.grown HGr.out (HB1.out.size) (fun k e => by injection e with e; rw [← e, HR.out]; omega)
      have hG2 : GBox R (.slice (some ⟨bn, on, none⟩) n c) (.slice (some ⟨be, oe, none⟩) n c') w2 := by
        obtain ⟨x0, x1, x2⟩ := HGB1.out
        have hb := HGr.out.block R x0 (fun e => by injection e with e; omega)
        have hc : ∀ i, w2.cell? ⟨R, i, none⟩ = w1.cell? ⟨R, i, none⟩ := fun i => by simp only [World.cell?, hb]
        exact ⟨Nat.lt_of_lt_of_le x0 HGr.out.size, (hc 0).trans x1, (hc 1).trans x2⟩
      have HB2 := Lib.hid hB2; have HG2 := Lib.hid hG2
      obtain ⟨be2, oe2, ue2, ee, hbe2, q2, hue2⟩ := sl_row_at (HG.out.2.keep hB2) HLi.out
      injection ee with ee
      injection ee with ee1 ee2
      subst ee1 ee2
      have HQ2 := Lib.hid q2; have HU2 := Lib.hid hue2; have HBe2 := Lib.hid hbe2
      have HCk := Lib.hid (fun (W : World) (hb : Below w2.heap.size w2 W) => checkNb_any (A := some ⟨bn, on, none⟩) (n := n) (c := c) (b := .slice (some ⟨be, oe, none⟩) n c') (v := ue2) (l := l) (w := W) (Sl.keep hue2 hb) (HRo.out l (List.mem_of_getElem? HLi.out)))
      clear hB2 hG2 q2 hue2 hbe2 hnS
      obtain ⟨i1, hi1, -, hi2, -⟩ := info_parts info_Row
      have HI := Lib.hid hi1; have HI2 := Lib.hid hi2
      have HLt := Lib.hid hlt
      clear hi1 hi2
      refine wp_region_val [(0, 43, VC (.agg #[.slice (some ⟨bn, on, none⟩) n c, .slice (some ⟨be, oe, none⟩) n c'])), (1, 44, VC (.pointer (some ⟨R, 1, none⟩))), (2, 45, VC (.slice (some ⟨be, oe, none⟩) n c')), (3, 46, VC (.int .i64 (i : Int))), (4, 47, VC (.pointer (some ⟨be, oe + i * 1, none⟩))), (5, 48, VC ue2), (6, 49, VC (.int .i64 0)), (7, 6, VC (.int .i64 0))] (fun _ => True) [43, 44, 45, 46, 47, 48, 49, 6] (by kernel_rfl) (by kernel_rfl) (by kernel_rfl) ⟨Keeps.vc _, Keeps.vc _, Keeps.vc _, Keeps.vc _, Keeps.vc _, Keeps.vc _, Keeps.vc _, Keeps.vc _, trivial⟩ (fun _ _ _ _ _ => trivial) trivial (forall_ops ⟨?_, ?_, ?_, ?_, ?_, ?_, ?_, ?_, trivial⟩) ?_
      · exact .of rfl rfl fun y W hB hE hV hU => by obtain ⟨x0, x1, x2⟩ := HG2.out.keep hB; exact .loadL (us := [.slice (some ⟨bn, on, none⟩) n c, .slice (some ⟨be, oe, none⟩) n c']) rfl (fr_out (v := (.pointer (some ⟨R, 0, none⟩))) (by kernel_rfl) (by kernel_rfl)) (two_cells x1 x2) rfl Tryz.underlying38 rfl (by kernel_rfl) rfl
      · exact .of rfl rfl fun y W hB hE hV hU => .fieldAddr rfl (fr_out (v := (.pointer (some ⟨R, 0, none⟩))) (by kernel_rfl) (by kernel_rfl)) (by kernel_rfl) rfl
      · exact .of rfl rfl fun y W hB hE hV hU => .load1 rfl ((fr_in (by kernel_rfl)).trans (hget hV 1 rfl (by kernel_rfl))) (run_load_one Tryz.underlying36 rfl (HG2.out.keep hB).2.2) rfl
      · exact .of rfl rfl fun y W hB hE hV hU => .move rfl (fr_out (v := (.int .i64 (i : Int))) (by kernel_rfl) (by kernel_rfl)) rfl
      · exact .of rfl rfl fun y W hB hE hV hU => .rowAt Tryz.underlying36 HI.out HI2.out rfl ((fr_in (by kernel_rfl)).trans (hget hV 2 rfl (by kernel_rfl))) ((fr_in (by kernel_rfl)).trans (hget hV 3 rfl (by kernel_rfl))) HLt.out
      · exact .of rfl rfl fun y W hB hE hV hU => .load1 rfl ((fr_in (by kernel_rfl)).trans (hget hV 4 rfl (by kernel_rfl))) (run_load_one Tryz.underlying35 rfl (by rw [Nat.mul_one]; exact (hB.cell (p := ⟨be, oe + i, none⟩) HBe2.out).trans HQ2.out)) rfl
      · exact .of rfl rfl fun y W hB hE hV hU => .call Tryz.func60 (by kernel_rfl) rfl rfl rfl (map_two ((fr_in (by kernel_rfl)).trans (hget hV 0 rfl (by kernel_rfl))) ((fr_in (by kernel_rfl)).trans (hget hV 5 rfl (by kernel_rfl)))) (HCk.out W hB)
      · exact .of rfl rfl fun y W hB hE hV hU => .assign rfl ((fr_in (by kernel_rfl)).trans (hget hV 6 rfl (by kernel_rfl))) rfl
      intro y W hB hE hV
      have e6 : y 6 = .int .i64 0 := hend hV 7 rfl
      have HB3 := Lib.hid hB
      clear hB hE hV
      generalize hact : fr _ _ y = act
      simp only [fr, putAll, List.foldl_cons, List.foldl_nil, e6] at hact
      subst hact
      clear e6
      go_wp2_with fail
      refine ⟨⟨i + 1, s :: S, rfl, by rw [wrap_succ HLt.out (by have := HL.out; omega)], HLt.out, HS2.out.keep HB3.out, (fun x hx => ?_), HG2.out.keep HB3.out, HB2.out.trans (HB3.out.mono HB2.out.size)⟩, ?_⟩
      · rw [List.take_add_one, HSi.out]
        rcases List.mem_cons.1 hx with rfl | hx
        · simp
        · exact List.mem_append_left _ (HSn.out x hx)
      · rw [wrap_succ HLt.out (by have := HL.out; omega)]; simp only [intOf]; omega
    · have hti := decide_eq_false (p := ((i : Nat) : Int) < ((n : Nat) : Int)) (by omega)
      go_wp2_with fail
      go_ret
      exact ⟨_, rfl, rfl, HB.out⟩
set_option maxHeartbeats 1000000 in
theorem small_any {a b : Value} {names : List (List UInt8)} {edges : List (List Int)} {w : World} (hg : GV names edges a b w) (hok : okG names edges = true) (hl : names.length ≤ 60) : Calls Tryz.prog 48 #[.agg #[a, b]] w (PostW (VC (.int .i64 0)) w) := by
  have hB := (Below.refl w.heap.size w).alloc (Nat.le_refl _) (.cells #[a, b] 38)
  have HC := Lib.hid (check_any (hg.keep hB) hok); have HG := Lib.hid (GBox.new (a := a) (b := b) (W := w)); have HB := Lib.hid hB
  obtain ⟨A, c, rfl, -, -⟩ := hg.1.len
  have d0 := decide_eq_false (p := (60 : Int) < (names.length : Int)) (by omega)
  clear hg hok hl hB
  generalize names.length = n at *
  go_enter Tryz.func48, Tryz.ntmps48
  go_wp2_with fail
  refine HC.out.mono ?_
  rintro e w1 ⟨_, rfl, rfl, hb1⟩
  obtain ⟨-, g0, g1⟩ := HG.out.keep hb1
  have HB1 := Lib.hid (HB.out.trans (hb1.mono HB.out.size))
  clear hb1
  go_wp2_with fail
  go_ret
  exact ⟨_, rfl, rfl, HB1.out⟩
def NBox (R : Nat) (d : Int) (W : World) : Prop := R < W.heap.size ∧ W.cell? ⟨R, 0, none⟩ = some (.int .i64 d)
theorem NBox.keep {R : Nat} {d : Int} {W W' : World} (h : NBox R d W) (hb : Below W.heap.size W W') : NBox R d W' := ⟨Nat.lt_of_lt_of_le h.1 hb.size, (hb.cell (p := ⟨R, 0, none⟩) h.1).trans h.2⟩
set_option maxHeartbeats 1000000 in
theorem degree1_any {A : Option Addr} {n c R : Nat} {w : World} (h : NBox R (n : Int) w) : Calls Tryz.prog 47 #[.slice A n c, .pointer (some ⟨R, 0, none⟩)] w (PostW (VC (.bool false)) w) := by
  have h1 := h.2
  clear h
  go_enter Tryz.func47, Tryz.ntmps47
  go_wp2_with fail
  go_ret
  exact ⟨_, rfl, rfl, Below.refl _ _⟩
set_option maxRecDepth 3000 in
set_option maxHeartbeats 2000000 in
theorem indexR_any {v : Value} {l : List (List Int)} {d R : Nat} {w : World} (hv : Sl eRow l v w) (hl : l.length ≤ 1000000) (hd : ∀ x ∈ l, x.length = d) (hR : NBox R (d : Int) w) :
    Calls Tryz.prog 72 #[v, .func (.func 47) #[] #[.pointer (some ⟨R, 0, none⟩)]] w (PostW (VC (.int .i64 (-1))) w) := by
  obtain ⟨A, c, rfl, h1, h2⟩ := hv.len
  obtain ⟨n, hn⟩ : ∃ n, n = l.length := ⟨_, rfl⟩
  have HV := Lib.hid hv; have HL := Lib.hid (show n ≤ 1000000 by omega); have HD := Lib.hid hd; have HN := Lib.hid hn; have HR := Lib.hid hR
  have HLe := Lib.hid (show ∀ i : Nat, i < n → ∃ z, l[i]? = some z from fun i hi => ⟨_, List.getElem?_eq_getElem (by omega)⟩)
  rw [← hn] at h1 ⊢
  clear hv hl hd hn hR
  go_enter Tryz.func72, Tryz.ntmps72
  go_wp2_with fail
  go_loopw [4, 5, 8] (fun s4 _ s8 wr => ∃ i : Nat, s4 = .int .i64 0 ∧ s8 = .int .i64 i ∧ i ≤ n ∧ Below w.heap.size w wr) (fun _ _ s8 _ => (n - (intOf s8).toNat))
  case atStart => exact ⟨0, rfl, rfl, Nat.zero_le _, Below.refl _ _⟩
  case round =>
    obtain ⟨i, rfl, rfl, hil, hB⟩ := hrel
    have HB := Lib.hid hB
    clear hB
    by_cases hlt : i < n
    · have hti := decide_eq_true (p := ((i : Nat) : Int) < ((n : Nat) : Int)) (by omega)
      obtain ⟨z, hz⟩ := HLe.out i hlt
      obtain ⟨b, o, u, rfl, hb, q0, hu⟩ := sl_row_at (HV.out.keep HB.out) hz
      obtain ⟨A1, c1, rfl, -, -⟩ := Sl.len hu
      have HCl := Lib.hid (degree1_any (A := A1) (n := d) (c := c1) (HR.out.keep HB.out))
      rw [HD.out z (List.mem_of_getElem? hz)] at q0
      clear hu hz hb
      go_wp2_with fail
      refine HCl.out.mono ?_
      rintro e w1 ⟨_, rfl, rfl, hb1⟩
      have HB1 := Lib.hid (HB.out.trans (hb1.mono HB.out.size))
      clear hb1 q0
      go_wp2_with fail
      refine ⟨⟨i + 1, rfl, by rw [wrap_succ hlt HL.out], hlt, HB1.out⟩, ?_⟩
      rw [wrap_succ hlt HL.out]; simp only [intOf]; omega
    · have hti := decide_eq_false (p := ((i : Nat) : Int) < ((n : Nat) : Int)) (by omega)
      go_wp2_with fail
      go_ret
      exact ⟨_, rfl, rfl, HB.out⟩
set_option maxHeartbeats 1000000 in
theorem containsR_any {v : Value} {l : List (List Int)} {d R : Nat} {w : World} (hv : Sl eRow l v w) (hl : l.length ≤ 1000000) (hd : ∀ x ∈ l, x.length = d) (hR : NBox R (d : Int) w) :
    Calls Tryz.prog 46 #[v, .func (.func 47) #[] #[.pointer (some ⟨R, 0, none⟩)]] w (PostW (VC (.bool false)) w) := by
  have HI := Lib.hid (indexR_any hv hl hd hR)
  obtain ⟨A, c, rfl, -, -⟩ := hv.len
  clear hv hl hd hR
  go_enter Tryz.func46, Tryz.ntmps46
  go_wp2_with fail
  refine HI.out.mono ?_
  rintro e w1 ⟨_, rfl, rfl, hb1⟩
  have HB1 := Lib.hid hb1
  clear hb1
  go_wp2_with fail
  go_ret
  exact ⟨_, rfl, rfl, HB1.out⟩
set_option maxRecDepth 3000 in
set_option maxHeartbeats 2000000 in
theorem degree_any {a b : Value} {names : List (List UInt8)} {edges : List (List Int)} {d : Nat} {w : World} (hg : GV names edges a b w) (hok : okG names edges = true) (hd : ∀ x ∈ edges, x.length = d) (h0 : 0 < edges.length) : Calls Tryz.prog 22 #[.agg #[a, b]] w (PostW (VC (.tuple #[.int .i64 (d : Int), .int .i64 0])) w) := by
  have hB := (Below.refl w.heap.size w).alloc (Nat.le_refl _) (.cells #[a, b] 38)
  have HC := Lib.hid (check_any (hg.keep hB) hok); have HG := Lib.hid (GBox.new (a := a) (b := b) (W := w)); have HB := Lib.hid hB; have HGV := Lib.hid hg
  have hle : edges.length ≤ 2500 := by
    unfold okG at hok
    simp only [Bool.and_eq_true, decide_eq_true_eq] at hok
    omega
  obtain ⟨A, c, rfl, -, -⟩ := hg.1.len
  obtain ⟨A', c', rfl, -, -⟩ := hg.2.len
  obtain ⟨x, hx⟩ : ∃ x, edges[0]? = some x := ⟨_, List.getElem?_eq_getElem h0⟩
  have HX := Lib.hid hx; have HD := Lib.hid hd; have HLe := Lib.hid hle
  obtain ⟨m, hm⟩ : ∃ m, edges.length = m + 1 := ⟨edges.length - 1, by omega⟩
  have HCo := Lib.hid (fun (W : World) (R : Nat) (h : Below w.heap.size w W) (hR : NBox R (d : Int) W) => containsR_any (d := d) (hg.2.keep h) (by omega) hd hR)
  have HGV2 := Lib.hid hg.2
  rw [hm] at HC HG HB HCo HGV2 ⊢
  clear hg hok hB hd h0 hx hle hm HGV
  go_enter Tryz.func22, Tryz.ntmps22
  go_wp2_with fail
  refine HC.out.mono ?_
  rintro e w1 ⟨_, rfl, rfl, hb1⟩
  obtain ⟨g8, g0, g1⟩ := HG.out.keep hb1
  have HB1 := Lib.hid (HB.out.trans (hb1.mono HB.out.size))
  obtain ⟨b, o, u, rfl, hb, q0, hu⟩ := sl_row_at (HGV2.out.keep HB1.out) HX.out
  obtain ⟨A1, c1, rfl, -, -⟩ := Sl.len hu
  rw [HD.out x (List.mem_of_getElem? HX.out), Nat.add_zero] at q0
  have hm0 : ((m : Int) + 1 == 0) = false := by simp; omega
  clear hb1 hu hb
  go_upto_region 7 with fail
  have hbN := (Below.refl w1.heap.size w1).alloc (Nat.le_refl _) (.cells #[.int .i64 (d : Int)] 3)
  have hN : NBox w1.heap.size (d : Int) (w1.alloc (.cells #[.int .i64 (d : Int)] 3)) := ⟨by simp, by simp [go_sem]⟩
  have hG2 : GBox w.heap.size _ _ (w1.alloc (.cells #[.int .i64 (d : Int)] 3)) := GBox.keep (a := .slice A names.length c) (b := .slice (some ⟨b, o, none⟩) (m + 1) c') ⟨g8, g0, g1⟩ hbN
  obtain ⟨W2, hW2⟩ : ∃ W2, W2 = w1.alloc (.cells #[.int .i64 (d : Int)] 3) := ⟨_, rfl⟩
  rw [← hW2] at hbN hN hG2
  rw [← hW2]
  have HB2 := Lib.hid (HB1.out.trans (hbN.mono HB1.out.size)); have HN := Lib.hid hN
  have HC2 := Lib.hid (HCo.out _ _ HB2.out hN)
  obtain ⟨-, g2, g3⟩ := hG2
  clear hbN hN hW2 g0 g1 g8 q0 hm0 HCo
  go_wp2_with fail
  refine HC2.out.mono ?_
  rintro e w3 ⟨_, rfl, rfl, hb3⟩
  have HB3 := Lib.hid (HB2.out.trans (hb3.mono HB2.out.size))
  obtain ⟨-, n0⟩ := HN.out.keep hb3
  clear hb3 g2 g3
  go_wp2_with fail
  go_ret2
  exact ⟨_, rfl, rfl, HB3.out⟩
end Go.Proofs.YthkklilhjnpedaaGreat
end
section
namespace Go.Proofs.YthkklilhjnpedaaGreat
open Go.RowKit FF
def hcs (x : Hw) : List Value := [.int .i64 x.a, .int .i64 x.b, .int .i64 x.c, .int .i64 x.d]
def eHur : El Hw where
  T := 58
  n := 4
  bytes := 32
  z := .agg #[.int .i64 0, .int .i64 0, .int .i64 0, .int .i64 0]
  E := fun x cs _ => cs = hcs x
  Bad := fun _ => False
  pos := by decide
  small := by decide
  zn := rfl
  zg := fun _ _ h => h
  len := by rintro x cs W rfl; rfl
  one := by
    rintro x cs W rfl y hy
    simp only [hcs, List.mem_cons, List.not_mem_nil, or_false] at hy
    rcases hy with rfl | rfl | rfl | rfl <;> exact ⟨rfl, fun h => h⟩
  alt := fun h _ _ => h
def qcs (x : Qt) : List Value := [.int .i64 x.w, .int .i64 x.x, .int .i64 x.y, .int .i64 x.z, .int .i64 x.d]
def eQt : El Qt where
  T := 31
  n := 5
  bytes := 40
  z := .agg #[.int .i64 0, .int .i64 0, .int .i64 0, .int .i64 0, .int .i64 0]
  E := fun x cs _ => cs = qcs x
  Bad := fun _ => False
  pos := by decide
  small := by decide
  zn := rfl
  zg := fun _ _ h => h
  len := by rintro x cs W rfl; rfl
  one := by
    rintro x cs W rfl y hy
    simp only [qcs, List.mem_cons, List.not_mem_nil, or_false] at hy
    rcases hy with rfl | rfl | rfl | rfl | rfl <;> exact ⟨rfl, fun h => h⟩
  alt := fun h _ _ => h
set_option maxHeartbeats 2000000 in
theorem unitsLess_any (x y : Hw) (w : World) : Calls Tryz.prog 70 #[hv x, hv y] w (GrowP w (.int .i64 (cmpQ y x))) := by
  have HC := Lib.hid (fun (W : World) => qcmp_any y x W)
  obtain ⟨a, b, c, d⟩ := x
  obtain ⟨e, f, g, h⟩ := y
  generalize cmpQ ⟨e, f, g, h⟩ ⟨a, b, c, d⟩ = r at *
  unfold hv cv at *
  go_enter Tryz.func70, Tryz.ntmps70
  go_wp2_with fail
  refine (HC.out _).mono ?_
  rintro e w1 ⟨rfl, n, os, rfl⟩
  go_wp2_with fail
  go_ret
  exact ⟨rfl, n, _, by rw [Sort.alloc_eq_grow, Sort.alloc_eq_grow, Sort.grow_grow, grow_drewN, Sort.grow_grow]⟩
set_option maxHeartbeats 2000000 in
theorem ofLess_any (x y : Hw) (w : World) : Calls Tryz.prog 38 #[hv x, hv y] w (GrowP w (.int .i64 (cmpQ x y))) := by
  have HC := Lib.hid (fun (W : World) => qcmp_any x y W)
  obtain ⟨a, b, c, d⟩ := x
  obtain ⟨e, f, g, h⟩ := y
  generalize cmpQ ⟨a, b, c, d⟩ ⟨e, f, g, h⟩ = r at *
  unfold hv cv at *
  go_enter Tryz.func38, Tryz.ntmps38
  go_wp2_with fail
  refine (HC.out _).mono ?_
  rintro e w1 ⟨rfl, n, os, rfl⟩
  go_wp2_with fail
  go_ret
  exact ⟨rfl, n, _, by rw [Sort.alloc_eq_grow, Sort.alloc_eq_grow, Sort.grow_grow, grow_drewN, Sort.grow_grow]⟩
end Go.Proofs.YthkklilhjnpedaaGreat
end
section
namespace Go.Proofs.YthkklilhjnpedaaGreat
open Go.RowKit FF
instance : Inhabited Hw := ⟨⟨0, 0, 0, 0⟩⟩
theorem heap_sortWorldK {α : Type} [Inhabited α] (enc : α → List Value) (k : Nat) (W : World) (blk off n : Nat) (d : Array α) (os : Array Obj) {j : Nat} (hj : j < W.heap.size) (hn : j ≠ blk) : (sortWorldK enc k W blk off n d os).heap[j]? = W.heap[j]? := by
  simp only [sortWorldK, Sort.grow, Sort.putRowK, Sort.putRow, Sort.mapBlock, Sort.ahead]
  rw [Array.getElem?_append_left (by simpa using hj), Array.getElem?_modify, if_neg (Ne.symm hn)]
theorem size_sortWorldK {α : Type} [Inhabited α] (enc : α → List Value) (k : Nat) (W : World) (blk off n : Nat) (d : Array α) (os : Array Obj) : W.heap.size ≤ (sortWorldK enc k W blk off n d os).heap.size := by
  simp [sortWorldK, Sort.grow, Sort.putRowK, Sort.putRow, Sort.mapBlock, Sort.ahead]
theorem below_sortWorldK {α : Type} [Inhabited α] (enc : α → List Value) (k : Nat) (w W : World) (blk off n : Nat) (d : Array α) (os : Array Obj) (hb : Below w.heap.size w W) (hblk : w.heap.size ≤ blk) : Below w.heap.size w (sortWorldK enc k W blk off n d os) := by
  refine ⟨hb.os, hb.tape, hb.output, ?_, fun j hj => ?_⟩
  · have := hb.size
    simp [sortWorldK, Sort.grow, Sort.putRowK, Sort.putRow, Sort.mapBlock, Sort.ahead]; omega
  · rw [heap_sortWorldK enc k W blk off n d os (Nat.lt_of_lt_of_le hj hb.size) (by omega)]
    exact hb.block j hj
theorem hcs_get (x : Hw) {d : Nat} (h : d < 4) : (hcs x)[d]? = some (hcs x)[d]! := by
  rw [getElem!_pos (hcs x) d (by simpa [hcs] using h)]
  exact List.getElem?_eq_getElem _
theorem own_holds {w W : World} {g cap : Nat} {rs : List (Hw × List Value)} (h : Own eHur w (.slice (some ⟨g, 0, none⟩) rs.length cap) rs W) : Sort.HoldsK hcs 4 W g 0 (rs.map (·.1)).toArray := by
  intro j hj
  rw [Sort.size_flatK] at hj
  rw [Sort.get_flatK _ _ _ _ hj]
  have hsz : (rs.map (·.1)).toArray.size = rs.length := by simp
  rw [hsz] at hj
  have h1 : j / 4 < rs.length := (Nat.div_lt_iff_lt_mul (by decide)).2 hj
  have h2 : j % 4 < 4 := Nat.mod_lt _ (by decide)
  have h3 : j = j / 4 * 4 + j % 4 := by rw [Nat.mul_comm]; exact (Nat.div_add_mod j 4).symm
  obtain ⟨hc, he⟩ := h.cell (List.getElem?_eq_getElem h1)
  have he' : rs[j / 4].2 = hcs rs[j / 4].1 := he
  have h4 : (rs.map (·.1)).toArray[j / 4]! = rs[j / 4].1 := by
    rw [getElem!_pos _ _ (by simpa using h1)]; simp
  refine ⟨?_, h.fz _⟩
  rw [h4]
  have h5 := hc (j % 4) _ (by rw [he']; exact hcs_get _ h2)
  rw [Nat.zero_add]
  rw [show j / 4 * eHur.n + j % 4 = j from h3.symm] at h5
  exact h5
theorem holds_sl {W : World} {g cap : Nat} {l : List Hw} (h : Sort.HoldsK hcs 4 W g 0 l.toArray) (hg : g < W.heap.size) (h1 : l.length ≤ cap) (h2 : cap ≤ maxLen) : Sl eHur l (.slice (some ⟨g, 0, none⟩) l.length cap) W := by
  refine ⟨_, _, rfl, h1, h2, fun _ => ⟨g, 0, rfl, hg, fun i z hz => ⟨hcs z, rfl, fun d u hd => ?_⟩⟩⟩
  have hi : i < l.length := (List.getElem?_eq_some_iff.1 hz).1
  have hd4 : d < 4 := by have := (List.getElem?_eq_some_iff.1 hd).1; simpa [hcs] using this
  have h3 := (h.cell (i := i) (c := d) (by simpa using hi) hd4).1
  have h4 : l.toArray[i]! = z := by
    rw [getElem!_pos _ _ (by simpa using hi)]
    simpa using (List.getElem?_eq_some_iff.1 hz).2
  rw [h4, ← hcs_get z hd4, hd] at h3
  exact h3
def AscBy (cf : Hw → Hw → Int) (l : List Hw) : Prop := l.Pairwise fun x y => ¬ cf y x < 0
theorem sort_hur (g : Nat) (eg : ∀ args w, (callFunc g args).run Tryz.prog w = .ok (.enter g args) w) (cf : Hw → Hw → Int) (hO : Sort.SWO (ltOf cf)) (hcmp : ∀ x y W, Calls Tryz.prog g #[hv x, hv y] W (GrowP W (.int .i64 (cf x y))))
    {w W : World} {v : Value} {rs : List (Hw × List Value)} (h : Own eHur w v rs W) (hne : 0 < rs.length) (hl : rs.length ≤ 1000000) :
    Calls Tryz.prog 37 #[v, .func (.func g) #[] #[]] W fun e w' => e = .returned (.tuple #[]) ∧ (∃ l, l.Perm (rs.map (·.1)) ∧ AscBy cf l ∧ Sl eHur l v w') ∧ Below w.heap.size w w' := by
  obtain ⟨b, cap, rfl, h1, h2, h3, h4⟩ := h.form hne
  have hH := own_holds h
  have hs : (rs.map (·.1)).toArray.size = rs.length := by simp
  have hcl : CmpLays Tryz.prog g #[] hcs 4 cf b 0 (rs.map (·.1)).toArray.size W := fun m os dk _ x y => (hcmp x y _).mono fun e w' hg => by
    obtain ⟨rfl, n, os', rfl⟩ := hg
    exact ⟨rfl, n, os', rfl⟩
  have hc := AnyQ.slices_SortFunc Tryz.sortH 4 Tryz.isAgg58 Tryz.sizeOf58 hcs (fun _ => rfl) (fun x v hv => by
    simp only [hcs, List.mem_cons, List.not_mem_nil, or_false] at hv
    rcases hv with rfl | rfl | rfl | rfl <;> rfl) cf hO g #[] b 0 cap (rs.map (·.1)).toArray W eg hcl hH h4 (by rw [hs]; omega)
  rw [hs] at hc
  refine hc.mono ?_
  rintro e w' ⟨rfl, d', n, os, ⟨hp1, hp2, hp3⟩, hso, rfl⟩
  rw [hs] at hp1
  have hd : d'.toList.Perm (rs.map (·.1)) := by
    have e1 : (d'.extract 0 rs.length).toList = d'.toList := by simp [← hp1]
    have e2 : ((rs.map (·.1)).toArray.extract 0 rs.length).toList = rs.map (·.1) := by simp; exact List.take_of_length_le (by simp)
    rw [e1, e2] at hp3
    exact hp3
  have hlen : d'.toList.length = rs.length := by simp [hp1]
  refine ⟨rfl, ⟨d'.toList, hd, ?_, ?_⟩, below_sortWorldK hcs 4 w W b 0 n d' os h.below h3⟩
  · refine List.pairwise_iff_getElem.2 fun i j hi hj hij hlt => ?_
    have := hso i j (Nat.zero_le _) hij (by rw [hlen] at hj; exact hj)
    have hi' : i < d'.size := by simpa using hi
    have hj' : j < d'.size := by simpa using hj
    rw [getElem!_pos d' i hi', getElem!_pos d' j hj'] at this
    unfold ltOf at this
    exact of_decide_eq_false this (by simpa using hlt)
  · have hh := holdsK_sortWorldK_c hcs 4 W b 0 _ d' n os hH h4 (by rw [hp1, hs])
    have hh2 : Sort.HoldsK hcs 4 (sortWorldK hcs 4 W b 0 n d' os) b 0 d'.toList.toArray := by rw [Array.toArray_toList]; exact hh
    have := holds_sl (l := d'.toList) (cap := cap) hh2 (Nat.lt_of_lt_of_le h4 (size_sortWorldK hcs 4 W b 0 n d' os)) (by rw [hlen]; exact h1) h2
    rw [hlen] at this
    exact this
end Go.Proofs.YthkklilhjnpedaaGreat
end
section
namespace FF
theorem cmpI_neg {a b : Int} : cmpI a b < 0 ↔ a < b := by
  unfold cmpI
  split
  · simp only [*]; decide
  · split <;> simp only [*] <;> decide
def Lx (x y : Hw) : Prop := x.a < y.a ∨ (x.a = y.a ∧ (x.b < y.b ∨ (x.b = y.b ∧ (x.c < y.c ∨ (x.c = y.c ∧ x.d < y.d)))))
theorem cmpQ_neg {x y : Hw} : cmpQ x y < 0 ↔ Lx x y := by
  unfold cmpQ Lx
  split
  · split
    · split
      · rw [cmpI_neg]; omega
      · rw [cmpI_neg]; omega
    · rw [cmpI_neg]; omega
  · rw [cmpI_neg]; omega
theorem Lx.irrefl (x : Hw) : ¬ Lx x x := by unfold Lx; omega
theorem Lx.trans {x y z : Hw} (h : Lx x y) (k : Lx y z) : Lx x z := by unfold Lx at *; omega
theorem Lx.ntrans {x y z : Hw} (h : ¬ Lx x y) (k : ¬ Lx y z) : ¬ Lx x z := by unfold Lx at *; omega
theorem Lx.anti {x y : Hw} (h : ¬ Lx x y) (k : ¬ Lx y x) : x = y := by
  obtain ⟨a, b, c, d⟩ := x
  obtain ⟨e, f, g, i⟩ := y
  unfold Lx at *
  simp only at h k
  simp only [Hw.mk.injEq]
  omega
theorem asc_perm {R : Hw → Hw → Prop} (hR : ∀ x y, R x y → R y x → x = y) : ∀ {l l' : List Hw}, l.Perm l' → l.Pairwise R → l'.Pairwise R → l = l'
  | [], l', hp, _, _ => (List.nil_perm.1 hp).symm
  | x :: l, [], hp, _, _ => absurd hp.length_eq (by simp)
  | x :: l, y :: l', hp, h1, h2 => by
    rw [List.pairwise_cons] at h1 h2
    have hxy : x = y := by
      rcases List.mem_cons.1 (hp.mem_iff.1 (List.mem_cons_self ..) : x ∈ y :: l') with e | e
      · exact e
      · rcases List.mem_cons.1 (hp.mem_iff.2 (List.mem_cons_self ..) : y ∈ x :: l) with e' | e'
        · exact e'.symm
        · exact hR _ _ (h1.1 y e') (h2.1 x e)
    subst hxy
    rw [asc_perm hR hp.cons_inv h1.2 h2.2]
def units0 : List Hw := [⟨2,0,0,0⟩, ⟨-2,0,0,0⟩, ⟨0,2,0,0⟩, ⟨0,-2,0,0⟩, ⟨0,0,2,0⟩, ⟨0,0,-2,0⟩, ⟨0,0,0,2⟩, ⟨0,0,0,-2⟩]
def sgu (k i : Nat) : Int := if k >>> i &&& 1 = 1 then -1 else 1
def units1 : List Hw := (List.range 16).map fun k => ⟨sgu k 0, sgu k 1, sgu k 2, sgu k 3⟩
theorem units_perm : unitsA.Perm (units0 ++ units1) := by decide +kernel
instance (x y : Hw) : Decidable (Lx x y) := by unfold Lx; infer_instance
theorem units_asc : unitsA.Pairwise fun x y => ¬ Lx x y := by decide +kernel
end FF
end
