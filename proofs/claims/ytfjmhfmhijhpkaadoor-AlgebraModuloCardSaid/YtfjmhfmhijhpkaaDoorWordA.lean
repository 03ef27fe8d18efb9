/- Slices that show lists of numbers; what keeps them. Words of integers: of, size, made, Of, negative. Words of integers: Of. Words: compare. Words: plus, minus. -/
import Derived.Test.YtfjmhfmhijhpkaaDoorBase
import Derived.Test.YtfjmhfmhijhpkaaDoorWd
import Derived.Below
import Derived.Handy
import Derived.Deep.Draws
import Derived.Deep.AppendSrc
import Derived.OwnWalk
import Derived.Deep.OwnRows
namespace Go.Proofs.YtfjmhfmhijhpkaaDoor
open Go.RowKit FF
/-- the slice at A shows the numbers xs -/
def Shows (k : IntKind) (w : World) (A : Option Addr) (xs : List Nat) : Prop :=
  0 < xs.length → ∃ b o, A = some ⟨b, o, none⟩ ∧ b < w.heap.size ∧ ∀ i, i < xs.length → w.cell? ⟨b, o + i, none⟩ = some (.int k (xs.getD i 0 : Nat))

section
variable {k : IntKind} {w w' : World} {A : Option Addr} {xs : List Nat}
theorem Shows.nil : Shows k w A [] := fun h => absurd h (by simp)
theorem Shows.keep (h : Shows k w A xs) (hs : w.heap.size ≤ w'.heap.size) (hk : ∀ p : Addr, p.block < w.heap.size → w'.cell? p = w.cell? p) : Shows k w' A xs := by
  intro hn
  obtain ⟨b, o, e, hb, hc⟩ := h hn
  exact ⟨b, o, e, by omega, fun i hi => (hk ⟨b, o + i, none⟩ hb).trans (hc i hi)⟩
theorem Shows.below (h : Shows k w A xs) (hb : Below w.heap.size w w') : Shows k w' A xs := h.keep hb.size fun _ hp => hb.cell hp
theorem Shows.drewN (h : Shows k w A xs) (n : Nat) : Shows k (w.drewN n) A xs := h
theorem Shows.alloc (h : Shows k w A xs) (o : Obj) : Shows k (w.alloc o) A xs := h.keep (by simp) fun p hp => World.cell?_alloc_lt w o p hp
theorem Shows.take (h : Shows k w A xs) (n : Nat) : Shows k w A (xs.take n) := by
  intro hn
  rw [List.length_take] at hn
  obtain ⟨b, o, e, hb, hc⟩ := h (by omega)
  refine ⟨b, o, e, hb, fun i hi => ?_⟩
  rw [List.length_take] at hi
  rw [hc i (by omega)]
  simp only [List.getD_eq_getElem?_getD]
  rw [List.getElem?_take_of_lt (by omega)]
end

/-- an address that is nil, or in a block from B on -/
def Fresh (B : Nat) (A : Option Addr) : Prop := ∀ a, A = some a → B ≤ a.block
theorem Fresh.none {B : Nat} : Fresh B none := fun _ h => by cases h
theorem Fresh.mk {B b o : Nat} (h : B ≤ b) : Fresh B (some ⟨b, o, Option.none⟩) := fun a e => by injection e with e; subst e; exact h
theorem Fresh.mono {B B' : Nat} {A : Option Addr} (h : Fresh B A) (hB : B' ≤ B) : Fresh B' A := fun a e => Nat.le_trans hB (h a e)
theorem Shows.setCell {k : IntKind} {w : World} {A : Option Addr} {xs : List Nat} {B : Nat} (h : Shows k w A xs) (hf : Fresh B A) {p : Addr} (hp : p.block < B) (v : Value) : Shows k (w.setCell p v) A xs := by
  intro hn
  obtain ⟨b, o, e, hb, hc⟩ := h hn
  refine ⟨b, o, e, by simpa [World.setCell] using hb, fun i hi => ?_⟩
  rw [World.cell?_setCell_other w p ⟨b, o + i, Option.none⟩ v (fun e2 => by
    have := hf _ e
    have e3 : p.block = b := by rw [e2]
    simp at this
    omega)]
  exact hc i hi
theorem ret_slice {A : Option Addr} {m n : Nat} (h : m = n) : Ending.returned (.slice A m m) = .returned (.slice A n n) := by rw [h]
/-- the base of words -/
def WB : Nat := 4294967296
theorem WB2 : 2 ≤ WB := by unfold WB; omega
/-- the length of a number in words -/
def wl (n : Nat) : Nat := (digs WB n).length
theorem wl_zero : wl 0 = 0 := rfl
theorem wl_eq_zero {n : Nat} : wl n = 0 ↔ n = 0 := digs_nil WB2

theorem Shows.trim {w : World} {A : Option Addr} {xs : List Nat} (h : Shows .u32 w A xs) (hd : Dig WB xs) : Shows .u32 w A (digs WB (val WB xs)) := by
  have key : ∀ f k, k ≤ f → k ≤ xs.length → val WB (xs.take k) = val WB xs → ∃ j, xs.take j = digs WB (val WB xs) := by
    intro f
    induction f with
    | zero => intro k h1 h2 h3
              exact ⟨0, take_trim WB2 hd (by omega) (by rw [show k = 0 by omega] at h3; exact h3) (fun h => absurd h (by omega))⟩
    | succ f ih =>
      intro k h1 h2 h3
      by_cases h0 : k = 0
      · subst h0; exact ⟨0, take_trim WB2 hd (by omega) h3 (fun h => absurd h (by omega))⟩
      · by_cases hx : xs.getD (k - 1) 0 = 0
        · exact ih (k - 1) (by omega) (by omega) (val_take_zero (by omega) hx (by rw [show k - 1 + 1 = k by omega]; exact h3))
        · exact ⟨k, take_trim WB2 hd h2 h3 (fun _ => hx)⟩
  obtain ⟨j, hj⟩ := key xs.length xs.length (Nat.le_refl _) (Nat.le_refl _) (by rw [List.take_of_length_le (Nat.le_refl _)])
  rw [← hj]; exact h.take j

end Go.Proofs.YtfjmhfmhijhpkaaDoor
namespace Go.Proofs.YtfjmhfmhijhpkaaDoor
open Go.RowKit FF

section
variable {P : Program} (w : World)
/-- append onto nil of what lies behind an address, whatever the two slice types are -/
theorem wpList_append_fresh {ops : Array Oper} {rest : List Oper} {o : Oper} {a : Act} {Q : Exit → Act → World → Prop} (hgd : o.guard = none) (s x : Operand) (t tx : TypeId)
    (ho : o.op = .call { callee := .builtin .append, args := #[s, x], argTypes := #[t, tx] })
    (e e' : TypeId) (i : TypeInfo) (z : Value) (ht : P.underlying t = some (.slice e)) (htx : P.underlying tx = some (.slice e')) (hi : P.info? e = some i) (hz : i.zero = some z)
    (hsize : i.size = 1) (hby : i.bytes ≤ 64) (hs : a.eval s = .slice none 0 0)
    (ad : Addr) (m c : Nat) (news : List Value) (hx : a.eval x = .slice (some ad) m c) (hl : news.length = m) (hnews : ∀ j u, news[j]? = some u → w.cell? (ad.add j) = some u) (h1 : ∀ u ∈ news, u.oneCell' = true)
    (h0 : 0 < m) (hm : m ≤ 1073741824)
    (h : ∀ (cap : Nat) (more : Array Value), m ≤ cap → cap ≤ maxLen → wpList P ops Q rest (a.put o.dst (.slice (some ⟨w.heap.size, 0, none⟩) m cap)) (w.drew.alloc (.cells (news.toArray ++ more) e))) :
    wpList P ops Q (o :: rest) a w := by
  refine wpList_plain hgd fun K hK => ?_
  have hsrc : Src P i.size tx (.slice (some ad) m c) m news w := Src.ofSlice w htx ad m c news (by rw [hsize, hl, Nat.mul_one]) hnews h1
  have hmb : m * i.bytes ≤ 281474976710656 := Nat.le_trans (Nat.mul_le_mul hm hby) (by decide)
  have hr := run_append_grow_src (P := P) w t tx o.type e i z ht hi hz none 0 0 [] (run_firstCells_none w.drew i.size 0 0 0) (.slice (some ad) m c) m news hsrc (by omega) (by omega)
    (by rw [Nat.zero_add, nextslicecap_zero h0]; exact hmb)
  unfold Oper.wp execOp
  simp only [ho, resolve, invoke, builtin, Sem.run_bind, Sem.run_pure, Result.andThen_ok, List.map_toArray, List.map_cons, List.map_nil, hs, hx, hr]
  refine hK _ _ ?_
  have hge := grownCap_ge w (0 + m) 0 e
  have hcm := grownCap_le_maxLen w (0 + m) 0 e (by simp only [maxLen]; omega)
  have := h (grownCap w (0 + m) 0 e) (Builtin.zeroCells z.cells (grownCap w (0 + m) 0 e - (0 + m))) (by omega) hcm
  simpa only [Nat.zero_add, List.nil_append] using this
end

theorem Shows.new {k : IntKind} {w : World} {cs : Array Value} {T : TypeId} {xs : List Nat} (h : ∀ i, i < xs.length → cs[i]? = some (.int k (xs.getD i 0 : Nat))) :
    Shows k (w.alloc (.cells cs T)) (some ⟨w.heap.size, 0, none⟩) xs := by
  intro _
  refine ⟨w.heap.size, 0, rfl, by simp, fun i hi => ?_⟩
  rw [Nat.zero_add]
  exact (World.cell?_alloc_at (w := w) cs T w.heap.size i rfl).trans (h i hi)

theorem dig_two (n : Nat) (hn : n < 18446744073709551616) : Dig WB [n % 4294967296, n / 4294967296] ∧ val WB [n % 4294967296, n / 4294967296] = n := by
  unfold WB
  refine ⟨fun x hx => ?_, by simp only [val]; omega⟩
  simp at hx
  rcases hx with rfl | rfl <;> omega

theorem info_u32 : (Tryd.prog.info? 121).map (fun i => (i.zero, i.size, i.bytes)) = some (some (.int .u32 0), 1, 4) := by kernel_rfl
theorem info_int : (Tryd.prog.info? 3).map (fun i => (i.zero, i.size, i.bytes)) = some (some (.int .i64 0), 1, 8) := by kernel_rfl

/-- the cells of words -/
def cells (k : IntKind) (xs : List Nat) : List Value := xs.map fun x : Nat => Value.int k (x : Int)
theorem cells_length (k : IntKind) (xs : List Nat) : (cells k xs).length = xs.length := by unfold cells; rw [List.length_map]
theorem cells_get {k : IntKind} {xs : List Nat} {j : Nat} (h : j < xs.length) : (cells k xs)[j]? = some (.int k (xs.getD j 0 : Nat)) := by
  unfold cells; rw [List.getElem?_map, List.getElem?_eq_getElem h, List.getD_eq_getElem?_getD, List.getElem?_eq_getElem h]; rfl
theorem cells_one (k : IntKind) (xs : List Nat) : ∀ u ∈ cells k xs, u.oneCell' = true := by
  intro u hu; unfold cells at hu; obtain ⟨x, _, rfl⟩ := List.mem_map.1 hu; rfl
theorem cells_of_shows {k : IntKind} {w : World} {ad : Addr} {xs : List Nat} (h : Shows k w (some ad) xs) : ∀ j u, (cells k xs)[j]? = some u → w.cell? (ad.add j) = some u := by
  intro j u hu
  have hj : j < xs.length := by
    rcases Nat.lt_or_ge j xs.length with h1 | h1
    · exact h1
    · rw [List.getElem?_eq_none (by rw [cells_length]; exact h1)] at hu; cases hu
  obtain ⟨b, o, e, hb, hc⟩ := h (by omega)
  injection e with e
  subst e
  rw [cells_get hj] at hu
  rw [← hu, ← hc j hj, Addr.add_lit]

end Go.Proofs.YtfjmhfmhijhpkaaDoor
namespace Go.Proofs.YtfjmhfmhijhpkaaDoor
open Go.RowKit FF

/-- a variable that the call laid keeps its cells while callees lay new blocks -/
theorem slot_keep {w w1 : World} {cs : Array Value} {T : TypeId} (hb : Below (w.heap.size + 1) (w.alloc (.cells cs T)) w1) :
    (∀ i, w1.cell? ⟨w.heap.size, i, none⟩ = cs[i]?) ∧ (∀ i, w1.frozen? ⟨w.heap.size, i, none⟩ = false) ∧ w.heap.size < w1.heap.size := by
  refine ⟨fun i => ?_, fun i => ?_, ?_⟩
  · rw [hb.cell (p := ⟨w.heap.size, i, none⟩) (Nat.lt_succ_self _)]; exact World.cell?_alloc_at (w := w) cs T w.heap.size i rfl
  · rw [hb.frozen (p := ⟨w.heap.size, i, none⟩) (Nat.lt_succ_self _)]; simp
  · have := hb.size; rw [World.size_alloc] at this; omega
theorem below_slot {w w1 : World} {o : Obj} (hb : Below (w.heap.size + 1) (w.alloc o) w1) : Below w.heap.size w w1 :=
  ((Below.refl _ _).alloc (Nat.le_refl _) _).trans (hb.mono (Nat.le_succ _))

theorem wl_u64 {n : Nat} (h : n < 18446744073709551616) : wl n ≤ 2 := digs_length_le WB2 (by unfold WB; omega)

end Go.Proofs.YtfjmhfmhijhpkaaDoor
namespace Go.Proofs.YtfjmhfmhijhpkaaDoor
open Go.RowKit FF

end Go.Proofs.YtfjmhfmhijhpkaaDoor
namespace Go.Proofs.YtfjmhfmhijhpkaaDoor
open Go.RowKit FF

theorem below_drewN {B : Nat} {a w : World} (h : Below B a w) (n : Nat) : Below B a (w.drewN n) := ⟨h.os, h.tape, h.output, h.size, h.block⟩
/-- a new block of words, the first ones laid -/
def rowF (ds : List Nat) : Nat → Value := fun j => .int .u32 (ds.getD j 0 : Nat)
theorem rowF_nil : (fun _ : Nat => Value.int .u32 0) = rowF [] := by funext j; simp [rowF]
theorem rowIs_snoc {w : World} {G T n : Nat} {ds : List Nat} {d : Nat} (h : w.rowIs G T n (rowF ds)) : (w.setCell ⟨G, ds.length, none⟩ (.int .u32 (d : Nat))).rowIs G T n (rowF (ds ++ [d])) := by
  refine (h.set ds.length (.int .u32 (d : Nat))).congr fun i _ => ?_
  unfold rowF
  rw [getD_snoc]
  split <;> rfl
theorem rowIs_shows {w : World} {G T n : Nat} {ds : List Nat} (h : w.rowIs G T n (rowF ds)) (hl : ds.length = n) : Shows .u32 w (some ⟨G, 0, none⟩) ds := by
  intro _
  refine ⟨G, 0, rfl, h.lt, fun i hi => ?_⟩
  rw [Nat.zero_add]
  exact h.cell (by omega)

end Go.Proofs.YtfjmhfmhijhpkaaDoor
