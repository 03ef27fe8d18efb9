/- Bounds in words of sums, products, quotients; three integers' variables in one region. -/
import Derived.Test.YtmlkiddkgikdhaaSho
namespace Go.Proofs.Ytmlkiddkgikdhaa
open Go.RowKit FF

/-- z has at most k words -/
def Ab (k : Nat) (z : Int) : Prop := z.natAbs < WB ^ k
theorem Ab.wl {k : Nat} {z : Int} (h : Ab k z) : wl z.natAbs ≤ k := digs_length_le WB2 h
theorem Ab.of_ai {w : World} {s : Bool} {A : Option Addr} {n c : Nat} {z : Int} (h : AI w s A n c z) : Ab n z := by
  obtain ⟨xs, rfl, -, hd, -, -, rfl, -⟩ := h
  unfold Ab
  rw [sval_natAbs]
  exact val_lt hd
theorem WB_pos_pow (k : Nat) : 0 < WB ^ k := Nat.pow_pos (by decide)
theorem Ab.mono {j k : Nat} {z : Int} (h : Ab j z) (hjk : j ≤ k) : Ab k z := Nat.lt_of_lt_of_le h (Nat.pow_le_pow_right (by decide) hjk)
theorem two_pow_le (k : Nat) : 2 * WB ^ k ≤ WB ^ (k + 1) := by
  rw [Nat.pow_succ, Nat.mul_comm]
  exact Nat.mul_le_mul_left _ (by decide)
theorem Ab.add {k : Nat} {x y : Int} (hx : Ab k x) (hy : Ab k y) : Ab (k + 1) (x + y) := by
  have := two_pow_le k
  unfold Ab at *
  omega
theorem Ab.sub {k : Nat} {x y : Int} (hx : Ab k x) (hy : Ab k y) : Ab (k + 1) (x - y) := by
  have := two_pow_le k
  unfold Ab at *
  omega
theorem Ab.mul {j k : Nat} {x y : Int} (hx : Ab j x) (hy : Ab k y) : Ab (j + k) (x * y) := by
  unfold Ab at *
  rw [Int.natAbs_mul, Nat.pow_add]
  exact Nat.mul_lt_mul'' hx hy
theorem Ab.div {k : Nat} {x y : Int} (hx : Ab k x) : Ab k (x / y) := Nat.lt_of_le_of_lt (Int.natAbs_ediv_le_natAbs x y) hx
theorem Ab.rem {k : Nat} {x y : Int} (hy : Ab k y) : Ab k (remZ x y) := by
  unfold Ab remZ at *
  split
  · exact WB_pos_pow k
  · rename_i h
    have h1 := Int.emod_nonneg x h
    have h2 := Int.emod_lt x h
    omega
theorem Ab.gcd {k : Nat} {x y : Int} (hx : Ab k x) (hy : Ab k y) : Ab k ((Int.gcd x y : Nat) : Int) := by
  unfold Ab at *
  rw [Int.natAbs_natCast]
  by_cases h : x = 0
  · subst h; rw [Int.gcd_zero_left]; exact hy
  · exact Nat.lt_of_le_of_lt (Nat.le_of_dvd (by omega) (show Nat.gcd x.natAbs y.natAbs ∣ x.natAbs from Nat.gcd_dvd_left _ _)) hx

/-- the six cells of three integers' variables, in one region -/
abbrev Sxyz (w : World) (x0 x1 y0 y1 z0 z1 : Value) (w' : World) : Prop :=
  Below w.heap.size w w' ∧ w'.cell? ⟨w.heap.size, 0, none⟩ = some x0 ∧ w'.cell? ⟨w.heap.size, 1, none⟩ = some x1 ∧ w'.cell? ⟨w.heap.size + 1, 0, none⟩ = some y0 ∧ w'.cell? ⟨w.heap.size + 1, 1, none⟩ = some y1 ∧ w'.cell? ⟨w.heap.size + 1 + 1, 0, none⟩ = some z0 ∧ w'.cell? ⟨w.heap.size + 1 + 1, 1, none⟩ = some z1 ∧ w.heap.size + 1 + 1 < w'.heap.size
theorem Sxyz.keep {w : World} {x0 x1 y0 y1 z0 z1 : Value} {w0 w1 : World} (h : Sxyz w x0 x1 y0 y1 z0 z1 w0) (hb : Below w0.heap.size w0 w1) : Sxyz w x0 x1 y0 y1 z0 z1 w1 := by
  obtain ⟨b, h1, h2, h3, h4, h5, h6, h9⟩ := h
  have k : ∀ p : Addr, p.block ≤ w.heap.size + 1 + 1 → w1.cell? p = w0.cell? p := fun p hp => hb.cell (by omega)
  exact ⟨b.trans (hb.mono b.size), by rw [k _ (by simp; omega)]; exact h1, by rw [k _ (by simp; omega)]; exact h2, by rw [k _ (by simp)]; exact h3, by rw [k _ (by simp)]; exact h4, by rw [k _ (by simp)]; exact h5, by rw [k _ (by simp)]; exact h6, Nat.lt_of_lt_of_le h9 hb.size⟩
/-- an integer's variable -/
def Has (W : World) (a : Nat) (v0 v1 : Value) : Prop := a < W.heap.size ∧ W.cell? ⟨a, 0, none⟩ = some v0 ∧ W.cell? ⟨a, 1, none⟩ = some v1
theorem Has.keep {W W' : World} {a : Nat} {v0 v1 : Value} (h : Has W a v0 v1) (b : Below W.heap.size W W') : Has W' a v0 v1 := by
  obtain ⟨h1, h2, h3⟩ := h
  exact ⟨Nat.lt_of_lt_of_le h1 b.size, by rw [b.cell (p := ⟨a, 0, none⟩) h1]; exact h2, by rw [b.cell (p := ⟨a, 1, none⟩) h1]; exact h3⟩
theorem Has.new (W : World) (v0 v1 : Value) (T : TypeId) : Has (W.alloc (.cells #[v0, v1] T)) W.heap.size v0 v1 :=
  ⟨by simp, by rw [World.cell?_alloc_at _ _ _ _ rfl]; rfl, by rw [World.cell?_alloc_at _ _ _ _ rfl]; rfl⟩
theorem Has.alloc {W : World} {a : Nat} {v0 v1 : Value} (h : Has W a v0 v1) (o : Obj) : Has (W.alloc o) a v0 v1 := h.keep ((Below.refl _ _).alloc (Nat.le_refl _) _)
/-- integers' variables, the newest first -/
def Hs (W : World) : List (Nat × Value × Value) → Prop
  | [] => True
  | p :: l => Has W p.1 p.2.1 p.2.2 ∧ Hs W l
theorem Hs.keep {W W' : World} (b : Below W.heap.size W W') : ∀ {l : List (Nat × Value × Value)}, Hs W l → Hs W' l
  | [], _ => trivial
  | _ :: _, h => ⟨h.1.keep b, Hs.keep b h.2⟩
theorem Hs.new {W : World} {l : List (Nat × Value × Value)} (h : Hs W l) (v0 v1 : Value) (T : TypeId) : Hs (W.alloc (.cells #[v0, v1] T)) ((W.heap.size, v0, v1) :: l) :=
  ⟨Has.new W v0 v1 T, h.keep ((Below.refl _ _).alloc (Nat.le_refl _) _)⟩
theorem below_new {w W : World} (h : Below w.heap.size w W) (o : Obj) : Below w.heap.size w (W.alloc o) := h.trans (((Below.refl _ _).alloc (Nat.le_refl _) _).mono h.size)
theorem below_then {w W W' : World} (h : Below w.heap.size w W) (b : Below W.heap.size W W') : Below w.heap.size w W' := h.trans (b.mono h.size)
theorem sgn_flip (x y : Int) : sgn (y - x) = - sgn (x - y) := by
  unfold sgn
  split <;> split <;> (try split) <;> (try split) <;> omega
end Go.Proofs.Ytmlkiddkgikdhaa
