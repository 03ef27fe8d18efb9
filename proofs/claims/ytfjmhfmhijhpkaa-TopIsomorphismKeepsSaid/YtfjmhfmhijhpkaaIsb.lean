/- The box that is searched for the images of i and j: plain. -/
import Derived.Test.YtfjmhfmhijhpkaaQn0
namespace FF

/-- the element at a place of the box -/
def qk (k : Nat) : Qt := ⟨0, (k / 289 % 17 : Nat) - 8, (k / 17 % 17 : Nat) - 8, (k % 17 : Nat) - 8, (k / 4913 : Nat) + 1⟩
/-- what is found among the first places -/
def pick (P : Qt → Bool) (m : Nat) : List Qt := ((List.range m).map qk).filter P
theorem pick_zero (P : Qt → Bool) : pick P 0 = [] := rfl
theorem pick_succ (P : Qt → Bool) (m : Nat) : pick P (m + 1) = pick P m ++ (if P (qk m) then [qk m] else []) := by
  unfold pick
  rw [List.range_succ, List.map_append, List.filter_append]
  simp only [List.map_cons, List.map_nil, List.filter_cons, List.filter_nil]
theorem pick_yes {P : Qt → Bool} {m : Nat} {q : Qt} (e : qk m = q) (h : P q = true) : pick P (m + 1) = pick P m ++ [q] := by
  rw [pick_succ, e, if_pos h]
theorem pick_no {P : Qt → Bool} {m : Nat} {q : Qt} (e : qk m = q) (h : P q = false) : pick P (m + 1) = pick P m := by
  rw [pick_succ, e, if_neg (by simp [h]), List.append_nil]
theorem pick_length (P : Qt → Bool) (m : Nat) : (pick P m).length ≤ m := by
  unfold pick
  refine Nat.le_trans (List.length_filter_le _ _) ?_
  simp
theorem pick_prefix (P : Qt → Bool) {m n : Nat} (h : m ≤ n) : pick P m <+: pick P n := by
  obtain ⟨k, rfl⟩ := Nat.le.dest h
  induction k with
  | zero => exact List.prefix_rfl
  | succ k ih => exact (ih (Nat.le_add_right _ _)).trans ⟨_, by rw [← Nat.add_assoc]; exact (pick_succ P (m + k)).symm⟩
/-- the numbers of an element of the box -/
structure InBox (q : Qt) : Prop where
  w : q.w = 0
  x : -8 ≤ q.x ∧ q.x ≤ 8
  y : -8 ≤ q.y ∧ q.y ≤ 8
  z : -8 ≤ q.z ∧ q.z ≤ 8
  d : 1 ≤ q.d ∧ q.d ≤ 2
theorem InBox.qk {k : Nat} (h : k < 9826) : InBox (qk k) := by
  refine ⟨rfl, ?_, ?_, ?_, ?_⟩ <;> (simp only [FF.qk]; omega)
theorem InBox.qB {q : Qt} (h : InBox q) : qB q = true := by
  obtain ⟨h0, h1, h2, h3, h4⟩ := h
  exact qB_iff.2 ⟨by omega, by omega, by omega, by omega, by omega⟩
theorem mem_pick {P : Qt → Bool} {q : Qt} {m : Nat} (hm : m ≤ 9826) (h : q ∈ pick P m) : InBox q ∧ P q = true := by
  unfold pick at h
  obtain ⟨h1, h2⟩ := List.mem_filter.1 h
  obtain ⟨k, hk, rfl⟩ := List.mem_map.1 h1
  exact ⟨InBox.qk (by have := List.mem_range.1 hk; omega), h2⟩
/-- the place of an element -/
def idx (d x y z : Int) : Nat := ((((d - 1) * 17 + (x + 8)) * 17 + (y + 8)) * 17 + (z + 8)).toNat
theorem qk_idx {d x y z : Int} (hd : 1 ≤ d ∧ d ≤ 2) (hx : -8 ≤ x ∧ x ≤ 8) (hy : -8 ≤ y ∧ y ≤ 8) (hz : -8 ≤ z ∧ z ≤ 8) : qk (idx d x y z) = ⟨0, x, y, z, d⟩ := by
  unfold qk idx
  obtain ⟨a, rfl⟩ : ∃ a : Nat, d = a + 1 := ⟨(d - 1).toNat, by omega⟩
  obtain ⟨b, rfl⟩ : ∃ b : Nat, x = b - 8 := ⟨(x + 8).toNat, by omega⟩
  obtain ⟨c, rfl⟩ : ∃ c : Nat, y = c - 8 := ⟨(y + 8).toNat, by omega⟩
  obtain ⟨e, rfl⟩ : ∃ e : Nat, z = e - 8 := ⟨(z + 8).toNat, by omega⟩
  have e : (((((a : Int) + 1 - 1) * 17 + (b - 8 + 8)) * 17 + (c - 8 + 8)) * 17 + ((e : Int) - 8 + 8)).toNat = ((a * 17 + b) * 17 + c) * 17 + e := by omega
  rw [e]
  simp only [Qt.mk.injEq]
  refine ⟨trivial, ?_, ?_, ?_, ?_⟩ <;> omega
theorem idx_start : idx 1 (-8) (-8) (-8) = 0 := rfl
theorem idx_end : idx 3 (-8) (-8) (-8) = 9826 := rfl
theorem idx_z {d x y z : Int} (hd : 1 ≤ d) (hx : -8 ≤ x) (hy : -8 ≤ y) (hz : -8 ≤ z) : idx d x y (z + 1) = idx d x y z + 1 := by unfold idx; omega
theorem idx_y (d x y : Int) : idx d x (y + 1) (-8) = idx d x y 9 := by unfold idx; congr 1; omega
theorem idx_x (d x : Int) : idx d (x + 1) (-8) (-8) = idx d x 9 (-8) := by unfold idx; congr 1; omega
theorem idx_d (d : Int) : idx (d + 1) (-8) (-8) (-8) = idx d 9 (-8) (-8) := by unfold idx; congr 1; omega
theorem idx_lt {d x y z : Int} (hd : 1 ≤ d ∧ d ≤ 2) (hx : -8 ≤ x ∧ x ≤ 8) (hy : -8 ≤ y ∧ y ≤ 8) (hz : -8 ≤ z ∧ z ≤ 8) : idx d x y z < 9826 := by unfold idx; omega

/-- the first pair in a relation -/
def firstP (r : Qt → Qt → Bool) : List Qt → List Qt → Option (Qt × Qt)
  | [], _ => none
  | p :: l, m => match m.find? (r p) with
    | some q => some (p, q)
    | none => firstP r l m
theorem firstP_append (r : Qt → Qt → Bool) (l l' m : List Qt) : firstP r (l ++ l') m = match firstP r l m with | some x => some x | none => firstP r l' m := by
  induction l with
  | nil => rfl
  | cons p l ih =>
    simp only [List.cons_append, firstP]
    cases m.find? (r p) with
    | some q => rfl
    | none => exact ih
theorem firstP_snoc_none {r : Qt → Qt → Bool} {l m : List Qt} {p : Qt} (h : firstP r l m = none) (hp : m.find? (r p) = none) : firstP r (l ++ [p]) m = none := by
  rw [firstP_append, h]; simp only [firstP, hp]
theorem firstP_snoc_some {r : Qt → Qt → Bool} {l m : List Qt} {p q : Qt} (h : firstP r l m = none) (hp : m.find? (r p) = some q) : firstP r (l ++ [p]) m = some (p, q) := by
  rw [firstP_append, h]; simp only [firstP, hp]
theorem firstP_prefix {r : Qt → Qt → Bool} {l l' m : List Qt} {x : Qt × Qt} (h : firstP r l m = some x) (hp : l <+: l') : firstP r l' m = some x := by
  obtain ⟨k, rfl⟩ := hp
  rw [firstP_append, h]
theorem firstP_mem {r : Qt → Qt → Bool} {l m : List Qt} {p q : Qt} (h : firstP r l m = some (p, q)) : p ∈ l ∧ q ∈ m ∧ r p q = true := by
  induction l with
  | nil => cases h
  | cons a l ih =>
    simp only [firstP] at h
    cases hf : m.find? (r a) with
    | some b =>
      rw [hf] at h
      injection h with h
      injection h with h1 h2
      subst h1 h2
      exact ⟨List.mem_cons_self, List.mem_of_find?_eq_some hf, List.find?_some hf⟩
    | none =>
      rw [hf] at h
      obtain ⟨h1, h2, h3⟩ := ih h
      exact ⟨List.mem_cons_of_mem _ h1, h2, h3⟩
theorem takeQ_snoc {l : List Qt} {i : Nat} {q : Qt} (h : l[i]? = some q) : l.take (i + 1) = l.take i ++ [q] := by
  rw [List.take_add_one, h]; rfl
theorem find_hit {f : Qt → Bool} {m : List Qt} {k : Nat} {q : Qt} (h0 : (m.take k).find? f = none) (h : m[k]? = some q) (hq : f q = true) : m.find? f = some q := by
  have e : m = m.take (k + 1) ++ m.drop (k + 1) := (List.take_append_drop (k + 1) m).symm
  rw [e, takeQ_snoc h, List.find?_append, List.find?_append, h0]
  simp [hq]
theorem find_step {f : Qt → Bool} {m : List Qt} {k : Nat} {q : Qt} (h0 : (m.take k).find? f = none) (h : m[k]? = some q) (hq : f q = false) : (m.take (k + 1)).find? f = none := by
  rw [takeQ_snoc h, List.find?_append, h0]
  simp [hq]
theorem firstP_hit {r : Qt → Qt → Bool} {l m : List Qt} {i : Nat} {p q : Qt} (h0 : firstP r (l.take i) m = none) (h : l[i]? = some p) (hq : m.find? (r p) = some q) : firstP r l m = some (p, q) := by
  refine firstP_prefix (l := l.take (i + 1)) ?_ (List.take_prefix _ _)
  rw [takeQ_snoc h]
  exact firstP_snoc_some h0 hq
theorem firstP_step {r : Qt → Qt → Bool} {l m : List Qt} {i : Nat} {p : Qt} (h0 : firstP r (l.take i) m = none) (h : l[i]? = some p) (hq : m.find? (r p) = none) : firstP r (l.take (i + 1)) m = none := by
  rw [takeQ_snoc h]
  exact firstP_snoc_none h0 hq
/-- what the search yields: the images and the error -/
def isoX (o : Option (Qt × Qt)) : Qt := match o with | some x => x.1 | none => Qt.zero
def isoY (o : Option (Qt × Qt)) : Qt := match o with | some x => x.2 | none => Qt.zero
end FF
