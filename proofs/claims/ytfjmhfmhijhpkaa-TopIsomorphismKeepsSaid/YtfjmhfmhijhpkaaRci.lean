/- Images of i and j: which are accepted by the reference; a slice of elements that came in. -/
import Derived.Test.YtfjmhfmhijhpkaaIso
import Derived.Test.YtfjmhfmhijhpkaaOpen4
namespace Go.Proofs.Ytfjmhfmhijhpkaa
open Go.RowKit Go.WideShapes Go.ChangeShapes Go.Joins Go.Deep FF

theorem sqB_smul {a b n k : Int} {q : Qt} (hk : k ≠ 0) : sqB a b n (smul k q) = sqB a b n q := by
  have hkk : k * k ≠ 0 := Int.mul_ne_zero hk hk
  have z : ∀ x : Int, k * k * x = 0 ↔ x = 0 := fun x => ⟨fun h => (Int.mul_eq_zero.1 h).resolve_left hkk, fun h => by rw [h, Int.mul_zero]⟩
  have e : ∀ x : Int, k * k * x = n * (k * q.d) * (k * q.d) ↔ x = n * q.d * q.d := fun x => by
    rw [show n * (k * q.d) * (k * q.d) = k * k * (n * q.d * q.d) by grind]
    exact ⟨fun h => Int.eq_of_mul_eq_mul_left hkk h, fun h => by rw [h]⟩
  unfold sqB
  rw [mulQ_smul, Bool.eq_iff_iff]
  simp only [smul, Bool.and_eq_true, beq_iff_eq, z, e]
theorem opB_smul {a b k l : Int} {p q : Qt} (hk : k ≠ 0) (hl : l ≠ 0) : opB a b (smul k p) (smul l q) = opB a b p q := by
  have hkk : k * l ≠ 0 := Int.mul_ne_zero hk hl
  have z : ∀ x y : Int, k * l * x + k * l * y = 0 ↔ x + y = 0 := fun x y => by
    rw [← Int.mul_add]
    exact ⟨fun h => (Int.mul_eq_zero.1 h).resolve_left hkk, fun h => by rw [h, Int.mul_zero]⟩
  unfold opB
  rw [mulQ_smul, mulQ_smul, Int.mul_comm l k, Bool.eq_iff_iff]
  simp only [smul, Bool.and_eq_true, beq_iff_eq, z]
theorem sqB_nrm {a b n : Int} {q : Qt} (hd : q.d ≠ 0) : sqB a b n (nrm q) = sqB a b n q := by
  conv => rhs; rw [nrm_spec q]
  rw [sqB_smul (gs_ne hd)]
theorem opB_nrm {a b : Int} {p q : Qt} (hp : p.d ≠ 0) (hq : q.d ≠ 0) : opB a b (nrm p) (nrm q) = opB a b p q := by
  conv => rhs; rw [nrm_spec p, nrm_spec q]
  rw [opB_smul (gs_ne hp) (gs_ne hq)]

end Go.Proofs.Ytfjmhfmhijhpkaa
