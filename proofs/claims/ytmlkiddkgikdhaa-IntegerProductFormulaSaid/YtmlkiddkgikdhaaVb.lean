/- Small functions of the verifier's base: Mod, Within, Abs. -/
import Derived.Test.YtmlkiddkgikdhaaRefA
namespace Go.Proofs.Ytmlkiddkgikdhaa
open Go.RowKit FF
set_option maxHeartbeats 400000 in
theorem bMod_any (a m : Int) (w : World) (ha : I64 a) (h3 : 0 < m) (hm : I64 m) :
    Calls Try.prog 32 #[.int .i64 a, .int .i64 m] w (Ret w (.int .i64 (a % m))) := by
  obtain ⟨h1, h2⟩ := ha
  obtain ⟨_, h4⟩ := hm
  have t1 := Int.tmod_lt_of_pos a h3
  have t2 := Int.lt_tmod_of_pos a h3
  have ee := Lib.hid (tmod_emod (a := a) h3)
  go_enter Try.func32, Try.ntmps32
  go_wp2
  · have hlt : a.tmod m < 0 := by assumption
    go_ret
    exact Ret.eq0 (ret_int (by rw [ee.out, if_pos hlt]))
  · have hlt : 0 ≤ a.tmod m := by assumption
    go_ret
    exact Ret.eq0 (ret_int (by rw [ee.out, if_neg (by omega)]))

set_option maxHeartbeats 400000 in
theorem bWithin_any (n lo hi : Int) (w : World) :
    Calls Try.prog 27 #[.int .i64 n, .int .i64 lo, .int .i64 hi] w (Ret w (.bool (winB n lo hi))) := by
  have hF := Lib.hid (show (decide (lo ≤ n) && decide (n ≤ hi)) = winB n lo hi from rfl)
  go_enter Try.func27, Try.ntmps27
  by_cases h1 : lo ≤ n
  · have hF2 := Lib.hid (show decide (n ≤ hi) = winB n lo hi by rw [← hF.out, decide_eq_true h1]; rfl)
    clear hF
    go_wp2
    go_ret
    exact Ret.eq0 (ret_bool hF2.out)
  · have hF2 := Lib.hid (show false = winB n lo hi by rw [← hF.out, decide_eq_false h1]; rfl)
    clear hF
    go_wp2
    go_ret
    exact Ret.eq0 (ret_bool hF2.out)

set_option maxHeartbeats 400000 in
theorem bAbs_any (n : Int) (w : World) (h1 : -9223372036854775807 ≤ n) (h2 : n ≤ 9223372036854775807) :
    Calls Try.prog 66 #[.int .i64 n] w (Ret w (.int .i64 n.natAbs)) := by
  by_cases h : n < 0
  · have hN := Lib.hid (show (n.natAbs : Int) = -n by omega)
    go_enter Try.func66, Try.ntmps66
    go_wp2
    go_ret
    exact Ret.eq0 (ret_int hN.out.symm)
  · have hN := Lib.hid (show (n.natAbs : Int) = n by omega)
    go_enter Try.func66, Try.ntmps66
    go_wp2
    go_ret
    exact Ret.eq0 (ret_int hN.out.symm)

end Go.Proofs.Ytmlkiddkgikdhaa
