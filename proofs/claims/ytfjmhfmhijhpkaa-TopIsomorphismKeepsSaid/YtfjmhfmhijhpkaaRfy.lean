/- ramifies: the algebra (-1, 3) is ramified at 2 and 3 alone. -/
import Derived.Test.YtfjmhfmhijhpkaaRrm
namespace Go.Proofs.Ytfjmhfmhijhpkaa
open Go.RowKit FF

theorem ramR_ex (w : World) : Calls Try.prog 26 #[.agg #[.int .i64 (-1), .int .i64 3]] w fun e w' => ∃ A c, e = .returned (.tuple #[.slice A 2 c, .bool false, .int .i64 0]) ∧ ShowsI w' A [2, 3] ∧ Below w.heap.size w w' := by
  have h := Ramified_good (-1) 3 w (by decide)
  rw [ram_ex, show defB (-1) 3 = false from rfl] at h
  refine h.mono ?_
  rintro e w' ⟨A, c, rfl, hs, -, -, hb⟩
  exact ⟨A, c, rfl, hs, hb⟩
theorem hil_ex (w : World) : Calls Try.prog 27 #[.int .i64 (-1), .int .i64 3, .int .i64 3] w fun e w' => e = .returned (.tuple #[.int .i64 (-1), .int .i64 0]) ∧ Below w.heap.size w w' := by
  have h := Hilbert_any (-1) 3 3 w
  rw [show hilV (-1) 3 3 = -1 by kernel_rfl, show hilE (-1) 3 3 = 0 by kernel_rfl] at h
  refine h.mono ?_
  rintro e w' ⟨rfl, n, rfl⟩
  exact ⟨rfl, below_drewN (Below.refl _ _) n⟩
theorem ints_ex (A A' : Option Addr) (c c' : Nat) (w : World) (hx : ShowsI w A [2, 3]) (hy : ShowsI w A' [2, 3]) :
    Calls Try.prog 42 #[.slice A 2 c, .slice A' 2 c'] w (Ret w (.bool true)) := Ints_any A A' [2, 3] [2, 3] c c' w hx hy (by decide)
theorem shows23 {w : World} {T : TypeId} : ShowsI (w.alloc (.cells #[.int .i64 2, .int .i64 3] T)) (some ⟨w.heap.size, 0, none⟩) [2, 3] :=
  ShowsI.new fun i hi => by match i, hi with | 0, _ => rfl | 1, _ => rfl
set_option maxHeartbeats 4000000 in
theorem ramifies_any (w : World) : Calls Try.prog 8 #[] w fun e w' => e = .returned (.bool true) ∧ Below w.heap.size w w' := by
  have HR := Lib.hid ramR_ex
  have HH := Lib.hid hil_ex
  go_enter Try.func8, Try.ntmps8
  go_wp2_with fail
  refine (HR.out _).mono ?_
  rintro e1 w1 ⟨A, c, rfl, hs, hb1⟩
  have HS := Lib.hid hs; have HB1 := Lib.hid hb1
  clear hs hb1
  go_wp2_with fail
  refine (HH.out _).mono ?_
  rintro e2 w2 ⟨rfl, hb2⟩
  have HS2 := Lib.hid (HS.out.below hb2); have HB2 := Lib.hid (HB1.out.trans (hb2.mono HB1.out.size))
  clear hb2 HS HB1
  go_wp2_with fail
  refine (ints_ex _ _ _ _ _ (HS2.out.alloc _) shows23).mono ?_
  rintro e3 w3 ⟨rfl, n3, rfl⟩
  go_wp2_with fail
  go_ret
  exact ⟨rfl, below_drewN (HB2.out.alloc HB2.out.size _) n3⟩
end Go.Proofs.Ytfjmhfmhijhpkaa
