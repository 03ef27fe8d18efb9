/- Matrices modulo a prime in the reference. -/
import Derived.Test.YtfjmhfmhijhpkaaSmb
namespace Go.Proofs.Ytfjmhfmhijhpkaa
open Go.RowKit FF

theorem mod_twice {n m : Int} (h : 0 < m) : (n.tmod m + m).tmod m = n % m := by
  have h1 := Int.lt_tmod_of_pos n h
  rw [Int.tmod_eq_emod_of_nonneg (by omega), Int.add_emod_right]
  have h3 : n.tmod m = n + m * (-n.tdiv m) := by rw [Int.mul_neg, Int.tmod_def]; omega
  rw [h3, Int.add_mul_emod_self_left]
theorem below_set4 {B b : Nat} {w W : World} (h : Below B w W) (hb : B ≤ b) (v0 v1 v2 v3 : Value) : Below B w ((((W.setCell ⟨b, 0, none⟩ v0).setCell ⟨b, 1, none⟩ v1).setCell ⟨b, 2, none⟩ v2).setCell ⟨b, 3, none⟩ v3) := by
  simpa using (((h.setCell (p := ⟨b, 0, none⟩) hb v0).setCell (p := ⟨b, 1, none⟩) hb v1).setCell (p := ⟨b, 2, none⟩) hb v2).setCell (p := ⟨b, 3, none⟩) hb v3
/-- a product that is small -/
theorem mm_b {p x y z t : Int} (p9 : p ≤ 10000) (hx : 0 ≤ x ∧ x < p) (hy : 0 ≤ y ∧ y < p) (hz : 0 ≤ z ∧ z < p) (ht : 0 ≤ t ∧ t < p) :
    (0 ≤ x * y ∧ x * y ≤ 100000000) ∧ (0 ≤ z * t ∧ z * t ≤ 100000000) ∧ 0 ≤ x * y + z * t ∧ (x * y + z * t).tmod p = (x * y + z * t) % p := by
  have h1 := mulb (x := x) (y := y) (m := 10000) (n := 10000) (by omega) (by omega)
  have h2 := mulb (x := z) (y := t) (m := 10000) (n := 10000) (by omega) (by omega)
  have h3 := Int.mul_nonneg hx.1 hy.1
  have h4 := Int.mul_nonneg hz.1 ht.1
  simp only [Int.reduceMul] at h1 h2
  exact ⟨⟨h3, h1.2⟩, ⟨h4, h2.2⟩, by omega, Int.tmod_eq_emod_of_nonneg (by omega)⟩

abbrev Res4 (r : Nat) (w' : World) : Prop :=
  w'.cell? ⟨r, 0, none⟩ = some (cellA w' ⟨r, 0, none⟩) ∧ w'.cell? ⟨r, 1, none⟩ = some (cellA w' ⟨r, 1, none⟩) ∧ w'.cell? ⟨r, 2, none⟩ = some (cellA w' ⟨r, 2, none⟩) ∧ w'.cell? ⟨r, 3, none⟩ = some (cellA w' ⟨r, 3, none⟩) ∧ w'.frozen? ⟨r, 0, none⟩ = false ∧ w'.frozen? ⟨r, 1, none⟩ = false ∧ w'.frozen? ⟨r, 2, none⟩ = false ∧ w'.frozen? ⟨r, 3, none⟩ = false
section
variable {w w0 w1 : World} {L : List (Nat × Array Value)} {r n : Nat}
theorem Reg.four (h : Reg w L r n w0) {b : Nat} {v0 v1 v2 v3 : Value} (hm : (b, #[v0, v1, v2, v3]) ∈ L) : w0.cell? ⟨b, 0, none⟩ = some v0 ∧ w0.cell? ⟨b, 1, none⟩ = some v1 ∧ w0.cell? ⟨b, 2, none⟩ = some v2 ∧ w0.cell? ⟨b, 3, none⟩ = some v3 := ⟨h.box hm 0 (by simp), h.box hm 1 (by simp), h.box hm 2 (by simp), h.box hm 3 (by simp)⟩
theorem Reg.res4 (h : Reg w L r 4 w0) : Res4 r w0 := ⟨cellA_of (h.rc 0 (by omega)), cellA_of (h.rc 1 (by omega)), cellA_of (h.rc 2 (by omega)), cellA_of (h.rc 3 (by omega)), h.fr 0, h.fr 1, h.fr 2, h.fr 3⟩
theorem Reg.set4 (h : Reg w L r 4 w0) (u0 u1 u2 u3 : Value) : Reg w L r 4 ((((w0.setCell ⟨r, 0, none⟩ u0).setCell ⟨r, 1, none⟩ u1).setCell ⟨r, 2, none⟩ u2).setCell ⟨r, 3, none⟩ u3) := (((h.set 0 u0).set 1 u1).set 2 u2).set 3 u3
theorem Reg.fin4 (h : Reg w L r 4 w0) (u0 u1 u2 u3 : Value) : ∃ W9, ((((w0.setCell ⟨r, 0, none⟩ u0).setCell ⟨r, 1, none⟩ u1).setCell ⟨r, 2, none⟩ u2).setCell ⟨r, 3, none⟩ u3) = W9 ∧
    W9.cell? ⟨r, 0, none⟩ = some u0 ∧ W9.cell? ⟨r, 1, none⟩ = some u1 ∧ W9.cell? ⟨r, 2, none⟩ = some u2 ∧ W9.cell? ⟨r, 3, none⟩ = some u3 ∧ Below w.heap.size w W9 := by
  obtain ⟨v0, h0⟩ := h.rc 0 (by omega)
  obtain ⟨v1, h1⟩ := h.rc 1 (by omega)
  obtain ⟨v2, h2⟩ := h.rc 2 (by omega)
  obtain ⟨v3, h3⟩ := h.rc 3 (by omega)
  refine ⟨_, rfl, ?_, ?_, ?_, ?_, (h.set4 u0 u1 u2 u3).below⟩ <;> simp [go_sem, h0, h1, h2, h3]
end

end Go.Proofs.Ytfjmhfmhijhpkaa
