/- Sums, products with fractions, negatives, conjugates, products in the reference; fractions that are valid. Norms and inverses, in the program and in the reference. Inverses, in the program and in the reference. Boxes of a call's own that are read and written. -/
import Derived.Test.YtfjmhfmhijhpkaaQj0
import Derived.Test.YtfjmhfmhijhpkaaQn0
namespace Go.Proofs.Ytfjmhfmhijhpkaa
open Go.RowKit FF

/-- a fraction that may be an argument -/
def frB (n d : Int) : Bool := decide (d ≠ 0 ∧ (-1000000000 ≤ n ∧ n ≤ 1000000000) ∧ (-1000000000 ≤ d ∧ d ≤ 1000000000))
def frE (n d : Int) : Int := if frB n d then 0 else 3
theorem frB_iff {n d : Int} : frB n d = true ↔ d ≠ 0 ∧ (-1000000000 ≤ n ∧ n ≤ 1000000000) ∧ (-1000000000 ≤ d ∧ d ≤ 1000000000) := by unfold frB; rw [decide_eq_true_iff]
theorem frE_cases (n d : Int) : (frB n d = true ∧ frE n d = 0) ∨ (frB n d = false ∧ frE n d = 3) := by unfold frE; cases frB n d <;> simp
def scaleQ (n d : Int) (q : Qt) : Qt := ⟨q.w * n, q.x * n, q.y * n, q.z * n, q.d * d⟩
theorem scaleQ_fit {n d : Int} {q : Qt} (hq : qB q = true) (h : frB n d = true) : fitBound (scaleQ n d q) ∧ (scaleQ n d q).d ≠ 0 := by
  obtain ⟨h0, h1, h2, h3, h4⟩ := qB_iff.1 hq
  obtain ⟨hd, hn, hd2⟩ := frB_iff.1 h
  have b0 := mulb h0 hn; have b1 := mulb h1 hn; have b2 := mulb h2 hn; have b3 := mulb h3 hn
  have b4 := mulb (m := 1000000) (x := q.d) ⟨by omega, by omega⟩ hd2
  have b5 : q.d * d ≠ 0 := Int.mul_ne_zero (by omega) hd
  simp only [Int.reduceMul, Int.reduceNeg] at *
  refine ⟨⟨?_, ?_, ?_, ?_, ?_⟩, ?_⟩ <;> simp only [scaleQ] <;> omega

end Go.Proofs.Ytfjmhfmhijhpkaa
namespace Go.Proofs.Ytfjmhfmhijhpkaa
open Go.RowKit FF

/-- boxes that stay -/
structure Bxs (w : World) (L : List (Nat × Array Value)) (w' : World) : Prop where
  below : Below w.heap.size w w'
  bx : ∀ x ∈ L, x.1 < w'.heap.size ∧ ∀ i, i < x.2.size → w'.cell? ⟨x.1, i, none⟩ = x.2[i]?
section
variable {w w0 w1 : World} {L : List (Nat × Array Value)}
theorem Bxs.keep (h : Bxs w L w0) (hb : Below w0.heap.size w0 w1) : Bxs w L w1 :=
  ⟨h.below.trans (hb.mono h.below.size), fun x hx => ⟨Nat.lt_of_lt_of_le (h.bx x hx).1 hb.size, fun i hi => (hb.cell (p := ⟨x.1, i, none⟩) (h.bx x hx).1).trans ((h.bx x hx).2 i hi)⟩⟩
theorem Bxs.box (h : Bxs w L w0) {b : Nat} {vs : Array Value} (hm : (b, vs) ∈ L) (i : Nat) (hi : i < vs.size) : w0.cell? ⟨b, i, none⟩ = vs[i]? := (h.bx (b, vs) hm).2 i hi
theorem Bxs.two (h : Bxs w L w0) {b : Nat} {v0 v1 : Value} (hm : (b, #[v0, v1]) ∈ L) : w0.cell? ⟨b, 0, none⟩ = some v0 ∧ w0.cell? ⟨b, 1, none⟩ = some v1 := ⟨h.box hm 0 (by simp), h.box hm 1 (by simp)⟩
theorem Bxs.four (h : Bxs w L w0) {b : Nat} {v0 v1 v2 v3 : Value} (hm : (b, #[v0, v1, v2, v3]) ∈ L) : w0.cell? ⟨b, 0, none⟩ = some v0 ∧ w0.cell? ⟨b, 1, none⟩ = some v1 ∧ w0.cell? ⟨b, 2, none⟩ = some v2 ∧ w0.cell? ⟨b, 3, none⟩ = some v3 := ⟨h.box hm 0 (by simp), h.box hm 1 (by simp), h.box hm 2 (by simp), h.box hm 3 (by simp)⟩
theorem Bxs.five (h : Bxs w L w0) {b : Nat} {v0 v1 v2 v3 v4 : Value} (hm : (b, #[v0, v1, v2, v3, v4]) ∈ L) : w0.cell? ⟨b, 0, none⟩ = some v0 ∧ w0.cell? ⟨b, 1, none⟩ = some v1 ∧ w0.cell? ⟨b, 2, none⟩ = some v2 ∧ w0.cell? ⟨b, 3, none⟩ = some v3 ∧ w0.cell? ⟨b, 4, none⟩ = some v4 :=
  ⟨h.box hm 0 (by simp), h.box hm 1 (by simp), h.box hm 2 (by simp), h.box hm 3 (by simp), h.box hm 4 (by simp)⟩
theorem Bxs.nil (h : Below w.heap.size w w0) : Bxs w [] w0 := ⟨h, fun x hx => by cases hx⟩
theorem Bxs.cons (h : Bxs w L w0) {b : Nat} {vs : Array Value} (hc : Cells w0 b vs) : Bxs w ((b, vs) :: L) w0 :=
  ⟨h.below, fun x hx => by
    rcases List.mem_cons.1 hx with e | e
    · subst e; exact ⟨hc.1, hc.2.1⟩
    · exact h.bx x e⟩
theorem Reg.bxs {r n : Nat} (h : Reg w L r n w0) : Bxs w L w0 := ⟨h.below, fun x hx => ⟨(h.bx x hx).1, (h.bx x hx).2.2⟩⟩
end
@[local go_sem] theorem run_idx0' (c0 c1 c2 c3 : Value) (w : World) : (Instr.index 97 (.agg #[c0, c1, c2, c3]) (.int .i64 0)).run Try.prog w = .ok c0 w := by kernel_rfl

set_option maxHeartbeats 4000000 in
set_option maxRecDepth 100000 in
theorem qnorm_any (p0 p1 p2 p3 p4 a b : Int) (w : World) (hq : qB ⟨p0, p1, p2, p3, p4⟩ = true) (ha : aE a b = 0) :
    Calls Try.prog 49 #[cv p0 p1 p2 p3, .agg #[.int .i64 a, .int .i64 b]] w fun r w' => r = .returned (.int .i64 (nmQ a b ⟨p0, p1, p2, p3, p4⟩)) ∧ Below w.heap.size w w' := by
  obtain ⟨h0, h1, h2, h3, h4⟩ := qB_iff.1 hq
  simp only at h0 h1 h2 h3 h4
  obtain ⟨-, -, ha', hb'⟩ := aE_zero.1 ha
  have HK := Lib.hid (fun w => qconj_any p0 p1 p2 p3 w (by omega) (by omega) (by omega))
  have ht : ∃ m1 m2 m3 : Int, ∀ w, Calls Try.prog 76 #[cv p0 p1 p2 p3, .agg #[.int .i64 a, .int .i64 b], cv p0 (-p1) (-p2) (-p3)] w fun r w' => r = .returned (cv (nmQ a b ⟨p0, p1, p2, p3, p4⟩) m1 m2 m3) ∧ Below w.heap.size w w' := by
    have h := fun w => qtimes_raw p0 p1 p2 p3 p0 (-p1) (-p2) (-p3) a b w h0 h1 h2 h3 h0 (by unfold small6; omega) (by unfold small6; omega) (by unfold small6; omega) ha' hb'
    have e : p0 * p0 + a * p1 * (-p1) + b * p2 * (-p2) - a * b * p3 * (-p3) = nmQ a b ⟨p0, p1, p2, p3, p4⟩ := by simp only [nmQ]; grind
    simp only [e] at h
    exact ⟨_, _, _, h⟩
  obtain ⟨m1, m2, m3, ht⟩ := ht
  have HT := Lib.hid ht
  clear ht h0 h1 h2 h3 h4 ha' hb' hq ha
  generalize nmQ a b ⟨p0, p1, p2, p3, p4⟩ = N at *
  unfold cv at *
  generalize -p1 = n1 at *
  generalize -p2 = n2 at *
  generalize -p3 = n3 at *
  go_enter Try.func49, Try.ntmps49
  go_wp2_with fail
  obtain ⟨W7, hW7⟩ : ∃ W7 : World, W7 = ((w.alloc (.cells #[.int .i64 p0, .int .i64 p1, .int .i64 p2, .int .i64 p3] 97)).alloc (.cells #[.int .i64 a, .int .i64 b] 23)) := ⟨_, rfl⟩
  rw [← hW7]
  have HG := show Bxs w [(w.heap.size, #[.int .i64 p0, .int .i64 p1, .int .i64 p2, .int .i64 p3]), (w.heap.size + 1, #[.int .i64 a, .int .i64 b])] W7 from
    hW7 ▸ ((Bxs.nil (below_2 _ _)).cons (Cells.new _ _ _ (by simp))).cons ((Cells.new _ _ _ rfl).alloc _)
  have MK := Lib.hid (fun w' (h : Bxs w [(w.heap.size, #[.int .i64 p0, .int .i64 p1, .int .i64 p2, .int .i64 p3]), (w.heap.size + 1, #[.int .i64 a, .int .i64 b])] w') => And.intro h (And.intro (h.four (List.mem_cons_self ..)) (h.two (List.mem_cons_of_mem _ (List.mem_cons_self ..)))))
  have HG2 := Lib.hid (MK.out _ (HG.keep (Below.refl _ _).drew))
  clear hW7 HG
  go_region_held3 (fun w' => Bxs w [(w.heap.size, #[.int .i64 p0, .int .i64 p1, .int .i64 p2, .int .i64 p3]), (w.heap.size + 1, #[.int .i64 a, .int .i64 b])] w' ∧ (w'.cell? ⟨w.heap.size, 0, none⟩ = some (.int .i64 p0) ∧ w'.cell? ⟨w.heap.size, 1, none⟩ = some (.int .i64 p1) ∧ w'.cell? ⟨w.heap.size, 2, none⟩ = some (.int .i64 p2) ∧ w'.cell? ⟨w.heap.size, 3, none⟩ = some (.int .i64 p3)) ∧ (w'.cell? ⟨w.heap.size + 1, 0, none⟩ = some (.int .i64 a) ∧ w'.cell? ⟨w.heap.size + 1, 1, none⟩ = some (.int .i64 b)))
    (first
      | assumption
      | exact HG2.out
      | exact MK.out _ (Bxs.keep (And.left (by assumption)) (by assumption)))
    (first
      | (go_at_call 85; (with_reducible refine (HK.out _).mono ?_); rintro e w' ⟨rfl, hb⟩)
      | (go_at_call 76; (with_reducible refine (HT.out _).mono ?_); rintro e w' ⟨rfl, hb⟩))
  have hR : Bxs w [(w.heap.size, #[.int .i64 p0, .int .i64 p1, .int .i64 p2, .int .i64 p3]), (w.heap.size + 1, #[.int .i64 a, .int .i64 b])] _ := (by assumption : _ ∧ _).1
  go_wp2_with fail
  go_ret
  exact ⟨rfl, hR.below⟩
end Go.Proofs.Ytfjmhfmhijhpkaa
namespace Go.Proofs.Ytfjmhfmhijhpkaa
open Go.RowKit FF

def ivE (a b : Int) (q : Qt) : Int := if nmQ a b q = 0 then 10 else fitE (invN a b q)
def ivQ (a b : Int) (q : Qt) : Qt := if nmQ a b q = 0 then Qt.zero else fitQ (invN a b q)
/-- an element if there is no error before -/
def orQ (E : Int) (q : Qt) : Qt := if E = 0 then q else Qt.zero
def orE (E F : Int) : Int := if E = 0 then F else E
theorem invN_fit {a b : Int} {q : Qt} (hq : qB q = true) (ha : aE a b = 0) : fitBound (invN a b q) := by
  obtain ⟨h0, h1, h2, h3, h4⟩ := qB_iff.1 hq
  obtain ⟨-, -, ha', hb'⟩ := aE_zero.1 ha
  have hn := nm_bound ha' hb' hq
  have hd : -1000000 ≤ q.d ∧ q.d ≤ 1000000 := by omega
  have b0 := mulb h0 hd
  have b1 := mulb (x := -q.x) (m := 1000000) (by omega) hd
  have b2 := mulb (x := -q.y) (m := 1000000) (by omega) hd
  have b3 := mulb (x := -q.z) (m := 1000000) (by omega) hd
  simp only [Int.reduceMul, Int.reduceNeg] at *
  refine ⟨⟨?_, ?_⟩, ⟨?_, ?_⟩, ⟨?_, ?_⟩, ⟨?_, ?_⟩, ⟨?_, ?_⟩⟩ <;> simp only [invN] <;> omega

end Go.Proofs.Ytfjmhfmhijhpkaa
namespace Go.Proofs.Ytfjmhfmhijhpkaa
open Go.RowKit FF

/-- boxes of the call's own, with what they hold -/
structure Bx (w : World) (L : List (Nat × Array Value)) (W : World) : Prop where
  below : Below w.heap.size w W
  own : ∀ x ∈ L, w.heap.size ≤ x.1 ∧ Cells W x.1 x.2
section
variable {w W W' : World} {L : List (Nat × Array Value)} {b : Nat} {v0 v1 v2 v3 v4 : Value}
theorem Bx.keep (h : Bx w L W) (hb : Below W.heap.size W W') : Bx w L W' := ⟨h.below.trans (hb.mono h.below.size), fun x hx => ⟨(h.own x hx).1, (h.own x hx).2.keep hb⟩⟩
theorem Bx.nil (h : Below w.heap.size w W) : Bx w [] W := ⟨h, fun x hx => by cases hx⟩
theorem Bx.cons {vs : Array Value} (h : Bx w L W) (hb : w.heap.size ≤ b) (hc : Cells W b vs) : Bx w ((b, vs) :: L) W :=
  ⟨h.below, fun x hx => by
    rcases List.mem_cons.1 hx with e | e
    · subst e; exact ⟨hb, hc⟩
    · exact h.own x e⟩
theorem Bx.new (h : Bx w L W) (vs : Array Value) (T : TypeId) : Bx w ((W.heap.size, vs) :: L) (W.alloc (.cells vs T)) :=
  (h.keep ((Below.refl _ _).alloc (Nat.le_refl _) _)).cons h.below.size (Cells.new W vs T rfl)
theorem Bx.drewN (h : Bx w L W) (n : Nat) : Bx w L (W.drewN n) := h.keep (below_drewN (Below.refl _ _) n)
theorem Bx.sub {L' : List (Nat × Array Value)} (h : Bx w L W) (hs : ∀ x ∈ L', x ∈ L) : Bx w L' W := ⟨h.below, fun x hx => h.own x (hs x hx)⟩
theorem Bx.lt {vs : Array Value} (h : Bx w L W) (hm : (b, vs) ∈ L) : w.heap.size ≤ b ∧ b < W.heap.size := ⟨(h.own _ hm).1, (h.own _ hm).2.1⟩
theorem Bx.two (h : Bx w L W) (hm : (b, #[v0, v1]) ∈ L) : W.cell? ⟨b, 0, none⟩ = some v0 ∧ W.cell? ⟨b, 1, none⟩ = some v1 := (h.own _ hm).2.two
theorem Bx.five (h : Bx w L W) (hm : (b, #[v0, v1, v2, v3, v4]) ∈ L) : W.cell? ⟨b, 0, none⟩ = some v0 ∧ W.cell? ⟨b, 1, none⟩ = some v1 ∧ W.cell? ⟨b, 2, none⟩ = some v2 ∧ W.cell? ⟨b, 3, none⟩ = some v3 ∧ W.cell? ⟨b, 4, none⟩ = some v4 := (h.own _ hm).2.five
theorem Bx.fr {vs : Array Value} (h : Bx w L W) (hm : (b, vs) ∈ L) : W.frozen? ⟨b, 0, none⟩ = false ∧ W.frozen? ⟨b, 1, none⟩ = false ∧ W.frozen? ⟨b, 2, none⟩ = false ∧ W.frozen? ⟨b, 3, none⟩ = false ∧ W.frozen? ⟨b, 4, none⟩ = false := (h.own _ hm).2.fr
/-- a store of five cells -/
theorem Bx.put5 (h : Bx w L W) (hm : (b, #[v0, v1, v2, v3, v4]) ∈ L) (u0 u1 u2 u3 u4 : Value) {L' : List (Nat × Array Value)} (hL : ∀ x ∈ L', (x ∈ L ∧ x.1 ≠ b) ∨ x = (b, #[u0, u1, u2, u3, u4])) :
    ∃ W9, (((((W.setCell ⟨b, 0, none⟩ u0).setCell ⟨b, 1, none⟩ u1).setCell ⟨b, 2, none⟩ u2).setCell ⟨b, 3, none⟩ u3).setCell ⟨b, 4, none⟩ u4) = W9 ∧ Bx w L' W9 ∧ W9.heap.size = W.heap.size ∧ (b, #[u0, u1, u2, u3, u4]) = (b, #[u0, u1, u2, u3, u4]) ∧
      W9.cell? ⟨b, 0, none⟩ = some u0 ∧ W9.cell? ⟨b, 1, none⟩ = some u1 ∧ W9.cell? ⟨b, 2, none⟩ = some u2 ∧ W9.cell? ⟨b, 3, none⟩ = some u3 ∧ W9.cell? ⟨b, 4, none⟩ = some u4 := by
  obtain ⟨W9, e9, B9, C9, K9, S9⟩ := store5 h.below (h.own _ hm).1 (h.own _ hm).2 u0 u1 u2 u3 u4
  refine ⟨W9, e9, ⟨B9, fun x hx => ?_⟩, S9, rfl, C9.five⟩
  rcases hL x hx with ⟨h1, h2⟩ | rfl
  · exact ⟨(h.own x h1).1, K9 _ _ (Ne.symm h2) (h.own x h1).2⟩
  · exact ⟨(h.own _ hm).1, C9⟩
end

theorem mulOk {a b : Int} {p q : Qt} (hp : qB p = true) (hq : qB q = true) (ha : aE a b = 0) : allE a b [p, q] = 0 := allE_zero.2 ⟨ha, by simp [hp, hq]⟩
theorem qMul_ok (a b : Int) (p q : Qt) (w : World) (hp : qB p = true) (hq : qB q = true) (ha : aE a b = 0) :
    Calls Try.prog 33 #[.agg #[.int .i64 a, .int .i64 b], qv p, qv q] w fun r w' => r = .returned (.tuple #[qv (fitQ (mulQ a b p q)), .int .i64 (fitE (mulQ a b p q))]) ∧ Below w.heap.size w w' := by
  obtain ⟨p0, p1, p2, p3, p4⟩ := p
  obtain ⟨q0, q1, q2, q3, q4⟩ := q
  have h := qMul_any a b p0 p1 p2 p3 p4 q0 q1 q2 q3 q4 w
  rw [mulOk hp hq ha] at h
  exact h
/-- the power of a valid element -/
def pwQ (a b : Int) (q : Qt) (n : Int) : Qt := if n < 0 then (if ivE a b q = 0 then powQ a b (ivQ a b q) n.natAbs else Qt.zero) else powQ a b q n.natAbs
def pwE (a b : Int) (q : Qt) (n : Int) : Int := if n < 0 then (if ivE a b q = 0 then powE a b (ivQ a b q) n.natAbs else ivE a b q) else powE a b q n.natAbs
theorem iv_valid {a b : Int} {q : Qt} (h : ivE a b q = 0) : qB (ivQ a b q) = true := by
  unfold ivE at h; unfold ivQ
  split at h
  · cases h
  · rename_i hn
    rw [if_neg hn]
    obtain ⟨h1, h2⟩ := fitE_zero h
    rw [h2]; exact h1

end Go.Proofs.Ytfjmhfmhijhpkaa
