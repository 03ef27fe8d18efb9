/- Words about integers, fractions and matrices that lie in memory; the calls that the fractions of both sides are made of. -/
import Derived.Test.YtfjmhfmhijhpkaaGreatDoorRpf
import Derived.Test.YtfjmhfmhijhpkaaGreatDoorRsu
import Derived.Test.YtfjmhfmhijhpkaaGreatDoorRni
namespace Go.Proofs.YtfjmhfmhijhpkaaGreatDoor
open Go.RowKit FF

def sgB (z : Int) : Bool := decide (z < 0)
def lnW (z : Int) : Nat := wl z.natAbs
/-- two cells that hold an integer -/
def IC (W : World) (u v : Value) (z : Int) : Prop := ∃ A c, u = .bool (sgB z) ∧ v = .slice A (lnW z) c ∧ AI W (decide (z < 0)) A (wl z.natAbs) c z
theorem IC.keep {W W' : World} {u v : Value} {z : Int} (h : IC W u v z) (hb : Below W.heap.size W W') : IC W' u v z := by
  obtain ⟨A, c, h1, h2, h3⟩ := h
  exact ⟨A, c, h1, h2, h3.keep hb⟩
theorem IC.only {W W' : World} {u v : Value} {z : Int} {g : Nat} (h : IC W u v z) (ho : Only g W W') (hg : NoIntAt W g) : IC W' u v z := by
  obtain ⟨A, c, h1, h2, xs, k1, k2, k3⟩ := h
  refine ⟨A, c, h1, h2, xs, k1, fun hp => ?_, k3⟩
  obtain ⟨b, o, e, hb, hc⟩ := k2 hp
  refine ⟨b, o, e, by rw [ho.size]; exact hb, fun i hi => ?_⟩
  rw [← hc i hi]
  have hbg : b ≠ g := fun e => by
    subst e
    have := hc 0 hp
    exact hg _ _ _ this
  simp only [World.cell?, ho.block b hbg]
/-- integers in memory -/
def ICs (W : World) : List (Value × Value × Int) → Prop
  | [] => True
  | x :: l => IC W x.1 x.2.1 x.2.2 ∧ ICs W l
theorem Firm.ics : ∀ l : List (Value × Value × Int), Firm (fun _ W => ICs W l)
  | [] => ⟨fun _ _ _ _ _ => trivial, fun _ _ _ _ _ _ _ => trivial⟩
  | _ :: l => ⟨fun v W W' h hb => ⟨h.1.keep hb, (Firm.ics l).below v W W' h.2 hb⟩, fun v W W' g h ho hg => ⟨h.1.only ho hg, (Firm.ics l).only v W W' g h.2 ho hg⟩⟩
theorem noint_list {z : Array Value} (h : (z.toList.all fun v => match v with | .int _ _ => false | _ => true) = true) : ∀ (i : Nat) (k : IntKind) (n : Int), z[i]? ≠ some (.int k n) := by
  intro i k n e
  have hm : Value.int k n ∈ z.toList := by rw [Array.mem_toList_iff]; exact Array.mem_of_getElem? e
  have := List.all_eq_true.1 h _ hm
  cases this
theorem NoIntAt.new (W : World) {z : Array Value} (T : TypeId) (h : ∀ (i : Nat) (k : IntKind) (n : Int), z[i]? ≠ some (.int k n)) {g : Nat} (hg : W.heap.size = g) : NoIntAt (W.alloc (.cells z T)) g := fun i k n e => by
  subst hg
  rw [cell_new_at] at e
  exact h i k n e
theorem NoIntAt.keep {W W' : World} {g : Nat} (h : NoIntAt W g) (hg : g < W.heap.size) (hb : Below W.heap.size W W') : NoIntAt W' g := fun i k m e => h i k m (by rw [← e]; exact (hb.cell (p := ⟨g, i, none⟩) hg).symm)
/-- an integer -/
def VI (z : Int) : Value → World → Prop := fun v W => ∃ A c, v = .agg #[.bool (sgB z), .slice A (lnW z) c] ∧ IC W (.bool (sgB z)) (.slice A (lnW z) c) z
theorem Firm.vi (z : Int) : Firm (VI z) :=
  ⟨fun _ _ _ ⟨A, c, e, h⟩ hb => ⟨A, c, e, h.keep hb⟩, fun _ _ _ _ ⟨A, c, e, h⟩ ho hg => ⟨A, c, e, h.only ho hg⟩⟩
/-- a fraction -/
def VR (n d : Int) : Value → World → Prop := fun v W => ∃ A c A' c', v = .agg #[.bool (sgB n), .slice A (lnW n) c, .bool (sgB d), .slice A' (lnW d) c'] ∧ IC W (.bool (sgB n)) (.slice A (lnW n) c) n ∧ IC W (.bool (sgB d)) (.slice A' (lnW d) c') d
theorem Firm.vr (n d : Int) : Firm (VR n d) :=
  ⟨fun _ _ _ ⟨A, c, A', c', e, h, k⟩ hb => ⟨A, c, A', c', e, h.keep hb, k.keep hb⟩, fun _ _ _ _ ⟨A, c, A', c', e, h, k⟩ ho hg => ⟨A, c, A', c', e, h.only ho hg, k.only ho hg⟩⟩
/-- a matrix of four fractions -/
def VM (n0 d0 n1 d1 n2 d2 n3 d3 : Int) : Value → World → Prop := fun v W => ∃ A0 c0 B0 e0 A1 c1 B1 e1 A2 c2 B2 e2 A3 c3 B3 e3,
  v = .agg #[.bool (sgB n0), .slice A0 (lnW n0) c0, .bool (sgB d0), .slice B0 (lnW d0) e0, .bool (sgB n1), .slice A1 (lnW n1) c1, .bool (sgB d1), .slice B1 (lnW d1) e1,
    .bool (sgB n2), .slice A2 (lnW n2) c2, .bool (sgB d2), .slice B2 (lnW d2) e2, .bool (sgB n3), .slice A3 (lnW n3) c3, .bool (sgB d3), .slice B3 (lnW d3) e3] ∧
  (IC W (.bool (sgB n0)) (.slice A0 (lnW n0) c0) n0 ∧ IC W (.bool (sgB d0)) (.slice B0 (lnW d0) e0) d0) ∧ (IC W (.bool (sgB n1)) (.slice A1 (lnW n1) c1) n1 ∧ IC W (.bool (sgB d1)) (.slice B1 (lnW d1) e1) d1) ∧
  (IC W (.bool (sgB n2)) (.slice A2 (lnW n2) c2) n2 ∧ IC W (.bool (sgB d2)) (.slice B2 (lnW d2) e2) d2) ∧ (IC W (.bool (sgB n3)) (.slice A3 (lnW n3) c3) n3 ∧ IC W (.bool (sgB d3)) (.slice B3 (lnW d3) e3) d3)
theorem Firm.vm (n0 d0 n1 d1 n2 d2 n3 d3 : Int) : Firm (VM n0 d0 n1 d1 n2 d2 n3 d3) :=
  ⟨fun _ _ _ ⟨A0, c0, B0, e0, A1, c1, B1, e1, A2, c2, B2, e2, A3, c3, B3, e3, e, ⟨h0, k0⟩, ⟨h1, k1⟩, ⟨h2, k2⟩, ⟨h3, k3⟩⟩ hb => ⟨A0, c0, B0, e0, A1, c1, B1, e1, A2, c2, B2, e2, A3, c3, B3, e3, e, ⟨h0.keep hb, k0.keep hb⟩, ⟨h1.keep hb, k1.keep hb⟩, ⟨h2.keep hb, k2.keep hb⟩, ⟨h3.keep hb, k3.keep hb⟩⟩,
   fun _ _ _ _ ⟨A0, c0, B0, e0, A1, c1, B1, e1, A2, c2, B2, e2, A3, c3, B3, e3, e, ⟨h0, k0⟩, ⟨h1, k1⟩, ⟨h2, k2⟩, ⟨h3, k3⟩⟩ ho hg => ⟨A0, c0, B0, e0, A1, c1, B1, e1, A2, c2, B2, e2, A3, c3, B3, e3, e, ⟨h0.only ho hg, k0.only ho hg⟩, ⟨h1.only ho hg, k1.only ho hg⟩, ⟨h2.only ho hg, k2.only ho hg⟩, ⟨h3.only ho hg, k3.only ho hg⟩⟩⟩

/-- a number of at most k words -/
def Wn (k : Nat) (z : Int) : Prop := z.natAbs < WB ^ k
theorem Wn.wl {k : Nat} {z : Int} (h : Wn k z) : wl z.natAbs ≤ k := digs_length_le WB2 h
theorem Wn.mono {j k : Nat} {z : Int} (h : Wn j z) (hjk : j ≤ k) : Wn k z := Nat.lt_of_lt_of_le h (Nat.pow_le_pow_right (by decide) hjk)
theorem Wn.add {k : Nat} {x y : Int} (hx : Wn k x) (hy : Wn k y) : Wn (k + 1) (x + y) := by
  have h1 : 2 * WB ^ k ≤ WB ^ (k + 1) := by rw [Nat.pow_succ, Nat.mul_comm]; exact Nat.mul_le_mul_left _ (by decide)
  unfold Wn at *; omega
theorem Wn.mul {j k : Nat} {x y : Int} (hx : Wn j x) (hy : Wn k y) : Wn (j + k) (x * y) := by
  unfold Wn at *
  rw [Int.natAbs_mul, Nat.pow_add]
  exact Nat.mul_lt_mul_of_le_of_lt (Nat.le_of_lt hx) hy (Nat.pow_pos (by decide))
theorem Wn.of {z : Int} (h : -4294967295 ≤ z ∧ z ≤ 4294967295) : Wn 1 z := by
  show z.natAbs < 4294967296 ^ 1
  rw [Nat.pow_one]; omega
theorem Wn.zero : Wn 1 0 := Wn.of (by omega)

theorem ic_post {w w' : World} {z : Int} {e : Ending} (h : IntPost w z e w') : PostW (VI z) w e w' := by
  obtain ⟨A, c, rfl, h1, h2, h3, -, h5⟩ := h
  exact ⟨_, rfl, ⟨A, c, rfl, A, c, rfl, rfl, AI.of_post h1 h2 h3⟩, h5⟩
theorem cOf (n : Int) (w : World) (hn : I64 n) : Calls Tryz.prog 73 #[.int .i64 n] w (PostW (VI n) w) := (Of_any n w hn).mono fun _ _ h => ic_post h
theorem dOf (n : Int) (w : World) (hn : I64 n) : Calls Tryz.prog 77 #[.int .i64 n] w (PostW (VI n) w) := (rOf_any n w hn).mono fun _ _ h => ic_post h
section
variable {u v u' v' : Value} {x y : Int} {w : World} {j k : Nat}
theorem cMul (hx : IC w u v x) (hy : IC w u' v' y) (h1 : Wn j x) (h2 : Wn k y) (h : j + k ≤ 400) : Calls Tryz.prog 125 #[.agg #[u, v], .agg #[u', v']] w (PostW (VI (x * y)) w) := by
  obtain ⟨A, c, rfl, rfl, g⟩ := hx
  obtain ⟨A', c', rfl, rfl, g'⟩ := hy
  have := h1.wl; have := h2.wl
  exact (Mul_any _ _ _ _ _ _ _ _ x y w g g' (by omega)).mono fun _ _ h => ic_post h
theorem cAdd (hx : IC w u v x) (hy : IC w u' v' y) (h1 : Wn j x) (h2 : Wn k y) (h : j + k ≤ 400) : Calls Tryz.prog 124 #[.agg #[u, v], .agg #[u', v']] w (PostW (VI (x + y)) w) := by
  obtain ⟨A, c, rfl, rfl, g⟩ := hx
  obtain ⟨A', c', rfl, rfl, g'⟩ := hy
  have := h1.wl; have := h2.wl
  exact (Add_any _ _ _ _ _ _ _ _ x y w g g' (by omega)).mono fun _ _ h => ic_post h
theorem cCmp (hx : IC w u v x) (hy : IC w u' v' y) (h1 : Wn j x) (h2 : Wn k y) (h : j + k ≤ 400) : Calls Tryz.prog 126 #[.agg #[u, v], .agg #[u', v']] w (PostW (VC (.int .i64 (sgn (x - y)))) w) := by
  obtain ⟨A, c, rfl, rfl, g⟩ := hx
  obtain ⟨A', c', rfl, rfl, g'⟩ := hy
  have := h1.wl; have := h2.wl
  exact (Cmp_any _ _ _ _ _ _ _ _ x y w g g' (by omega)).mono fun _ _ ⟨h, hb⟩ => ⟨_, h, rfl, hb⟩
theorem dMul (hx : IC w u v x) (hy : IC w u' v' y) (h1 : Wn j x) (h2 : Wn k y) (h : j + k ≤ 400) : Calls Tryz.prog 130 #[.agg #[u, v], .agg #[u', v']] w (PostW (VI (x * y)) w) := by
  obtain ⟨A, c, rfl, rfl, g⟩ := hx
  obtain ⟨A', c', rfl, rfl, g'⟩ := hy
  have := h1.wl; have := h2.wl
  exact (rMul_any _ _ _ _ _ _ _ _ x y w g g' (by omega)).mono fun _ _ h => ic_post h
theorem dAdd (hx : IC w u v x) (hy : IC w u' v' y) (h1 : Wn j x) (h2 : Wn k y) (h : j + k ≤ 400) : Calls Tryz.prog 131 #[.agg #[u, v], .agg #[u', v']] w (PostW (VI (x + y)) w) := by
  obtain ⟨A, c, rfl, rfl, g⟩ := hx
  obtain ⟨A', c', rfl, rfl, g'⟩ := hy
  have := h1.wl; have := h2.wl
  exact (rAdd_any _ _ _ _ _ _ _ _ x y w g g' (by omega)).mono fun _ _ h => ic_post h
theorem dCmp (hx : IC w u v x) (hy : IC w u' v' y) (h1 : Wn j x) (h2 : Wn k y) (h : j + k ≤ 400) : Calls Tryz.prog 129 #[.agg #[u, v], .agg #[u', v']] w (PostW (VC (.int .i64 (sgn (x - y)))) w) := by
  obtain ⟨A, c, rfl, rfl, g⟩ := hx
  obtain ⟨A', c', rfl, rfl, g'⟩ := hy
  have := h1.wl; have := h2.wl
  exact (rCmp_any _ _ _ _ _ _ _ _ x y w g g' (by omega)).mono fun _ _ ⟨h, hb⟩ => ⟨_, h, rfl, hb⟩
end
theorem sgn_eq {x y : Int} : (sgn (x - y) == 0) = decide (x = y) := by
  rcases sgn_cases (x - y) with ⟨h1, h2⟩ | ⟨h1, h2⟩ | ⟨h1, h2⟩ <;> rw [h2] <;> simp <;> omega
/-- cells of a box, one after another -/
theorem Cells.set {W : World} {b : Nat} {vs : Array Value} (h : Cells W b vs) {k : Nat} (hk : k < vs.size) (u : Value) : Cells (W.setCell ⟨b, k, none⟩ u) b (vs.set k u) := by
  have hc : ∃ v, W.cell? ⟨b, k, none⟩ = some v := ⟨vs[k], by rw [h.2.1 k hk, Array.getElem?_eq_getElem hk]⟩
  refine ⟨by rw [(Only.setCell W b k u).size]; exact h.1, fun i hi => ?_, fun i => by simp [go_sem, h.2.2 i]⟩
  rw [Array.getElem?_set]
  by_cases hik : k = i
  · subst hik
    rw [if_pos rfl]
    obtain ⟨v, hv⟩ := hc
    exact World.cell?_setCell_same' _ _ _ (by rw [hv]; rfl)
  · rw [if_neg hik]
    rw [← h.2.1 i (by simpa using hi)]
    simp [go_sem]

theorem Cells.setL {W : World} {b : Nat} {vs vs' : Array Value} (h : Cells W b vs) (k : Nat) (u : Value) (hk : k < vs.size) (he : vs.toList.set k u = vs'.toList) : Cells (W.setCell ⟨b, k, none⟩ u) b vs' := by
  have e : vs.set k u hk = vs' := by
    apply Array.toList_inj.1
    rw [Array.toList_set]; exact he
  rw [← e]
  exact h.set hk u
end Go.Proofs.YtfjmhfmhijhpkaaGreatDoor
