/- Integers of several words: machine integers. -/
import Derived.Test.YtfjmhfmhijhpkaaGreatDoorRni
namespace Go.Proofs.YtfjmhfmhijhpkaaGreatDoor
open Go.RowKit FF

def smallV (z : Int) : Int := if -9223372036854775808 ≤ z ∧ z ≤ 9223372036854775807 then z else 0
def smallB (z : Int) : Bool := decide (-9223372036854775808 ≤ z ∧ z ≤ 9223372036854775807)
theorem two_words {a : Nat} (h : wl a ≤ 2) : a = (digs WB a).getD 1 0 * 4294967296 + (digs WB a).getD 0 0 := by
  have h1 := val_take_succ' (B := WB) (digs WB a) 1
  have h2 := val_take_succ' (B := WB) (digs WB a) 0
  rw [List.take_of_length_le (show (digs WB a).length ≤ 1 + 1 from h), val_digs' WB2] at h1
  rw [h2] at h1
  simp only [List.take_zero, val, Nat.pow_zero, Nat.one_mul, Nat.pow_one, Nat.zero_add] at h1
  unfold WB at *
  omega
theorem wl_big {a : Nat} (h : 2 < wl a) : 18446744073709551616 ≤ a := by
  apply Classical.byContradiction
  intro hc
  have := wl_u64 (n := a) (by omega)
  omega

end Go.Proofs.YtfjmhfmhijhpkaaGreatDoor
