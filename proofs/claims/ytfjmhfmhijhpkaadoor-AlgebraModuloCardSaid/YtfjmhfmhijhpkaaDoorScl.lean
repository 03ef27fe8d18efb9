/- Products with fractions in the program; which fractions are valid. -/
import Derived.Test.YtfjmhfmhijhpkaaDoorQo0
namespace Go.Proofs.YtfjmhfmhijhpkaaDoor
open Go.RowKit FF

/-- what abs gives, the least number too -/
def absW (n : Int) : Int := if n = -9223372036854775808 then n else n.natAbs
set_option maxHeartbeats 400000 in
theorem qabs64_any (n : Int) (w : World) (h : I64 n) : Calls Tryd.prog 49 #[.int .i64 n] w (Ret w (.int .i64 (absW n))) := by
  by_cases hm : n = -9223372036854775808
  · subst hm
    have e : absW (-9223372036854775808) = -9223372036854775808 := rfl
    rw [e]
    have e9 : wrap64 9223372036854775808 = -9223372036854775808 := by kernel_rfl
    go_enter Tryd.func49, Tryd.ntmps49
    go_wp2_with fail
    go_ret
    exact Ret.eq0 rfl
  · have e : absW n = n.natAbs := if_neg hm
    rw [e]
    exact qabs_any n w (by have := h.1; omega) h.2
theorem absW_le {n : Int} : absW n ≤ 1000000000 ↔ n ≤ 1000000000 ∧ (-1000000000 ≤ n ∨ n = -9223372036854775808) := by
  unfold absW; split <;> omega

/-- the error of a product with a fraction -/
def sclE (n d : Int) (q : Qt) : Int := if qE q = 0 then (if frB n d = true then fitE (scaleQ n d q) else 3) else qE q
def sclQ (n d : Int) (q : Qt) : Qt := if qE q = 0 then (if frB n d = true then fitQ (scaleQ n d q) else Qt.zero) else Qt.zero
end Go.Proofs.YtfjmhfmhijhpkaaDoor
