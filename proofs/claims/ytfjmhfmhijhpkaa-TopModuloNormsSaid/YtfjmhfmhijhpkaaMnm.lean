/- Modulo a prime the norm is a determinant, the trace a trace. -/
import Derived.Test.YtfjmhfmhijhpkaaQn0
namespace FF
theorem Mats.cg {A B p u v x y m n : Int} (h : Mats A B p u v x y m n) : Cg p x A ∧ Cg p m (-A * v) ∧ Cg p n (-u) ∧ Cg p (u * u) (B + A * (v * v)) := by
  obtain ⟨k1, e1⟩ := h.hx; obtain ⟨k2, e2⟩ := h.hm; obtain ⟨k3, e3⟩ := h.hn; obtain ⟨k4, e4⟩ := h.hu
  exact ⟨⟨-k1, by rw [Int.mul_neg]; omega⟩, ⟨-k2, by rw [Int.mul_neg, e2]; omega⟩, ⟨-k3, by rw [Int.mul_neg, e3]; omega⟩, ⟨k4, by rw [e4]; omega⟩⟩
/-- the entries of the matrix of an element, as they are reckoned -/
def en0 (p u v x W X Y Z : Int) : Int := (W + X * 0 + Y * u + Z * ((x * v) % p)) % p
def en1 (p m n x X Y Z : Int) : Int := (X * x + Y * m + Z * ((x * n) % p)) % p
def en2 (p u v X Y Z : Int) : Int := (X * 1 + Y * v + Z * (u % p)) % p
def en3 (p m n W X Y Z : Int) : Int := (W + X * 0 + Y * n + Z * (m % p)) % p
section
variable {A B p u v x y m n W X Y Z : Int}
theorem en_cg (h : Mats A B p u v x y m n) : Cg p (en0 p u v x W X Y Z) (W + Y * u + Z * (A * v)) ∧ Cg p (en1 p m n x X Y Z) (X * A + Y * (-A * v) + Z * (A * (-u))) ∧
    Cg p (en2 p u v X Y Z) (X + Y * v + Z * u) ∧ Cg p (en3 p m n W X Y Z) (W + Y * (-u) + Z * (-A * v)) := by
  obtain ⟨hx, hm, hn, -⟩ := h.cg
  refine ⟨?_, ?_, ?_, ?_⟩
  · refine (Cg.emod p _).trans ?_
    have h1 := ((Cg.emod p (x * v)).trans (hx.mul_right v)).mul_left Z
    rw [Int.mul_zero, Int.add_zero]
    exact (Cg.refl p _).add h1
  · refine (Cg.emod p _).trans ?_
    exact ((hx.mul_left X).add (hm.mul_left Y)).add (((Cg.emod p (x * n)).trans (hx.mul hn)).mul_left Z)
  · refine (Cg.emod p _).trans ?_
    rw [Int.mul_one]
    exact (Cg.refl p _).add ((Cg.emod p u).mul_left Z)
  · refine (Cg.emod p _).trans ?_
    rw [Int.mul_zero, Int.add_zero]
    exact ((Cg.refl p W).add (hn.mul_left Y)).add (((Cg.emod p m).trans hm).mul_left Z)
theorem det_mod (h : Mats A B p u v x y m n) : (en0 p u v x W X Y Z * en3 p m n W X Y Z - en1 p m n x X Y Z * en2 p u v X Y Z - (W * W - A * X * X - B * Y * Y + A * B * Z * Z)) % p = 0 := by
  obtain ⟨h0, h1, h2, h3⟩ := en_cg (W := W) (X := X) (Y := Y) (Z := Z) h
  obtain ⟨-, -, -, hu⟩ := h.cg
  have hd := ((h0.mul h3).sub (h1.mul h2)).sub (Cg.refl p (W * W - A * X * X - B * Y * Y + A * B * Z * Z))
  refine Int.emod_eq_zero_of_dvd (Cg.zero_iff.1 (hd.trans ?_))
  have e : (W + Y * u + Z * (A * v)) * (W + Y * (-u) + Z * (-A * v)) - (X * A + Y * (-A * v) + Z * (A * (-u))) * (X + Y * v + Z * u) - (W * W - A * X * X - B * Y * Y + A * B * Z * Z) = (A * Z * Z - Y * Y) * (u * u - (B + A * (v * v))) := by grind
  rw [e]
  have h5 := (hu.sub (Cg.refl p (B + A * (v * v)))).mul_left (A * Z * Z - Y * Y)
  rw [Int.sub_self, Int.mul_zero] at h5
  exact h5
theorem tr_mod (h : Mats A B p u v x y m n) : (en0 p u v x W X Y Z + en3 p m n W X Y Z - 2 * W) % p = 0 := by
  obtain ⟨h0, -, -, h3⟩ := en_cg (W := W) (X := X) (Y := Y) (Z := Z) h
  refine Int.emod_eq_zero_of_dvd (Cg.zero_iff.1 (((h0.add h3).sub (Cg.refl p (2 * W))).trans (Cg.of_eq ?_)))
  grind
end
end FF
