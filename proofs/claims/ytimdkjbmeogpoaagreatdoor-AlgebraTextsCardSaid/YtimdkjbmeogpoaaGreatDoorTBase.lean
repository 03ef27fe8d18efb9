/- Words that all walks of this family use. -/
import Derived.Test.YtimdkjbmeogpoaaGreatDoorRows
import Derived.WalkKit
import Derived.WalkSpells
import Derived.WalkLawsBesides
import Derived.IntWalk
import Derived.Outline
import Derived.Deep.QuietTactic
import Derived.BigQuiet
import Derived.Lib.Hide
import Derived.Test.YtimdkjbmeogpoaaGreatDoorTNt
namespace Go.Proofs.YtimdkjbmeogpoaaGreatDoor
open Go.RowKit FF
theorem ret_int {k : IntKind} {a b : Int} (h : a = b) : Ending.returned (.int k a) = .returned (.int k b) := by rw [h]
theorem ret_bool {a b : Bool} (h : a = b) : Ending.returned (.bool a) = .returned (.bool b) := by rw [h]
theorem ret_two {k l : IntKind} {a b c d : Int} (h : a = b) (g : c = d) : Ending.returned (.tuple #[.int k a, .int l c]) = .returned (.tuple #[.int k b, .int l d]) := by rw [h, g]
def I64 (a : Int) : Prop := -9223372036854775808 ≤ a ∧ a ≤ 9223372036854775807
def Ret (w : World) (v : Value) (e : Ending) (w' : World) : Prop := e = .returned v ∧ ∃ n, w' = w.drewN n
theorem Ret.mk {w : World} {v : Value} (n : Nat) : Ret w v (.returned v) (w.drewN n) := ⟨rfl, n, rfl⟩
theorem Ret.eq {w : World} {v v' : Value} (n : Nat) (h : Ending.returned v = .returned v') : Ret w v' (.returned v) (w.drewN n) := ⟨h, n, rfl⟩
theorem Ret.eq0 {w : World} {v v' : Value} (h : Ending.returned v = .returned v') : Ret w v' (.returned v) w := ⟨h, 0, rfl⟩
theorem beq_t {a b : Int} (h : (a == b) = true) : a = b := beq_iff_eq.1 h
theorem beq_f {a b : Int} (h : (a == b) = false) : a ≠ b := beq_eq_false_iff_ne.1 h
theorem t_beq {a b : Int} (h : a = b) : (a == b) = true := beq_iff_eq.2 h
theorem f_beq {a b : Int} (h : a ≠ b) : (a == b) = false := beq_eq_false_iff_ne.2 h
theorem tmod_emod {a m : Int} (hm : 0 < m) : a % m = if a.tmod m < 0 then a.tmod m + m else a.tmod m := by
  have h := Int.emod_eq_tmod (a := a) (b := m)
  have e0 := Int.emod_nonneg a (b := m) (by omega)
  have e1 := Int.emod_lt_of_pos a hm
  have t1 := Int.tmod_lt_of_pos a hm
  have t2 := Int.lt_tmod_of_pos a hm
  by_cases hc : 0 ≤ a ∨ m ∣ a
  · rw [if_pos hc] at h; rw [if_neg (by omega)]; omega
  · rw [if_neg hc] at h; rw [if_pos (by omega)]; omega
theorem gcd_tmod (a b : Int) : Int.gcd b (a.tmod b) = Int.gcd a b := by
  unfold Int.gcd; rw [Int.natAbs_tmod, Nat.gcd_comm, ← Nat.gcd_rec, Nat.gcd_comm]
end Go.Proofs.YtimdkjbmeogpoaaGreatDoor
