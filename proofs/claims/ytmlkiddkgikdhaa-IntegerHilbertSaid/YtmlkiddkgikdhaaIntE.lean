/- Contracts of the integer package's functions on machine integers, part E: the Hilbert symbol. -/
import Derived.Test.YtmlkiddkgikdhaaIntC
import Derived.Test.YtmlkiddkgikdhaaIntD
import Derived.Test.YtmlkiddkgikdhaaNtH
import Derived.Test.YtmlkiddkgikdhaaSpC
import Derived.Deep.RegionWith
namespace Go.Proofs.Ytmlkiddkgikdhaa
open Go.RowKit FF

theorem isPrime_any (n : Int) (w : World) :
    Calls Try.prog 72 #[.int .i64 n] w (Ret w (.bool (isPB n))) := isPrime_raw n w

set_option maxHeartbeats 400000 in
theorem three_any (n : Int) (w : World) (hn : I64 n) :
    Calls Try.prog 133 #[.int .i64 n] w (Ret w (.bool (three n))) := by
  have hM := Lib.hid (fun w => mod_any n 4 w hn (by omega) ⟨by omega, by omega⟩)
  have hT := Lib.hid (show (n % 4 == 3) = three n from rfl)
  go_enter Try.func133, Try.ntmps133
  go_wp2_with fail
  refine (hM.out _).mono ?_
  rintro e w' ⟨rfl, n1, rfl⟩
  go_wp2
  go_ret
  exact Ret.eq _ (ret_bool hT.out)

set_option maxHeartbeats 400000 in
theorem far_any (n : Int) (w : World) (hn : I64 n) :
    Calls Try.prog 134 #[.int .i64 n] w (Ret w (.bool (far n))) := by
  have hM := Lib.hid (fun w => mod_any n 8 w hn (by omega) ⟨by omega, by omega⟩)
  have hT := Lib.hid (show (n % 8 == 3 || n % 8 == 5) = far n from rfl)
  go_enter Try.func134, Try.ntmps134
  rcases Bool.eq_false_or_eq_true (n % 8 == 3) with d | d
  · have hF := Lib.hid (show far n = true by rw [← hT.out, d]; rfl)
    go_wp2_with fail
    refine (hM.out _).mono ?_
    rintro e w' ⟨rfl, n1, rfl⟩
    go_wp2
    go_ret
    exact Ret.eq _ (ret_bool hF.out.symm)
  · have hF := Lib.hid (show (n % 8 == 5) = far n by rw [← hT.out, d]; rfl)
    go_wp2_with fail
    refine (hM.out _).mono ?_
    rintro e w' ⟨rfl, n1, rfl⟩
    go_wp2_with fail
    refine (hM.out _).mono ?_
    rintro e w' ⟨rfl, n2, rfl⟩
    go_wp2
    go_ret
    exact Ret.eq _ (ret_bool hF.out)

set_option maxHeartbeats 400000 in
theorem hilbert_zero (a b : Int) (w : World) :
    Calls Try.prog 84 #[.int .i64 a, .int .i64 b, .int .i64 0] w (Ret w (.int .i64 (Hil a b 0))) := by
  have hT := Lib.hid (show Hil a b 0 = if a < 0 ∧ b < 0 then -1 else 1 from if_pos rfl)
  go_enter Try.func84, Try.ntmps84
  by_cases h1 : a < 0
  · by_cases h2 : b < 0
    · go_wp2
      go_ret
      exact Ret.eq0 (ret_int (by rw [hT.out, if_pos ⟨h1, h2⟩]))
    · go_wp2
      go_ret
      exact Ret.eq0 (ret_int (by rw [hT.out, if_neg (fun h => absurd h.2 (by omega))]))
  · go_wp2
    go_ret
    exact Ret.eq0 (ret_int (by rw [hT.out, if_neg (fun h => absurd h.1 (by omega))]))

end Go.Proofs.Ytmlkiddkgikdhaa
