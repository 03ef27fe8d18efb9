/- Integers of several words: greatest common divisor, comparison, machine integers. -/
import Derived.Test.YtfjmhfmhijhpkaaGreatDoorRnh
namespace Go.Proofs.YtfjmhfmhijhpkaaGreatDoor
open Go.RowKit FF

/-- what holds at the head of Gcd's loop -/
def GcdRel (G L : Nat) (W0 : World) (B0 : Nat) (gk : Nat) (s5 s6 : Value) (wr : World) : Prop :=
  ∃ (A1 : Option Addr) (c1 : Nat) (A2 : Option Addr) (c2 a b : Nat), s5 = .slice A1 (wl a) c1 ∧ s6 = .slice A2 (wl b) c2 ∧ gk = b ∧ Nat.gcd a b = G ∧ wl a ≤ c1 ∧ c1 ≤ maxLen ∧ wl b ≤ c2 ∧ c2 ≤ maxLen ∧ wl a ≤ L ∧ wl b ≤ L ∧
    Shows .u32 wr A1 (digs WB a) ∧ Shows .u32 wr A2 (digs WB b) ∧ Below B0 W0 wr

/-- the sign of an integer -/
def sgn (z : Int) : Int := if z = 0 then 0 else if z < 0 then -1 else 1
theorem below_under2 {w w1 : World} {o1 o2 : Obj} (h : Below ((w.alloc o1).alloc o2).heap.size ((w.alloc o1).alloc o2) w1) : Below w.heap.size w w1 :=
  (((Below.refl _ _).alloc (Nat.le_refl _) _).alloc (by simp) _).trans (h.mono (by simp; omega))
theorem wl_pos {n : Nat} (h : n ≠ 0) : 0 < wl n := Nat.pos_of_ne_zero fun e => h (wl_eq_zero.1 e)

set_option maxRecDepth 100000 in
set_option maxHeartbeats 2000000 in
theorem Cmp_any (s t : Bool) (A A' : Option Addr) (n m c c' : Nat) (x y : Int) (w : World) (hx : AI w s A n c x) (hy : AI w t A' m c' y) (hl : n + m ≤ 900000) :
    Calls Tryz.prog 126 #[.agg #[.bool s, .slice A n c], .agg #[.bool t, .slice A' m c']] w fun e w' => e = .returned (.int .i64 (sgn (x - y))) ∧ Below w.heap.size w w' := by
  have HS := Lib.hid (fun w' h h' => Sub_any s t A A' n m c c' x y w' h h' hl)
  have HX := Lib.hid hx; have HY := Lib.hid hy
  clear hx hy hl
  generalize x - y = z at *
  have key : (z = 0 ∧ sgn z = 0) ∨ (z < 0 ∧ sgn z = -1) ∨ (0 < z ∧ sgn z = 1) := by
    unfold sgn
    by_cases h0 : z = 0
    · exact .inl ⟨h0, if_pos h0⟩
    · by_cases h1 : z < 0
      · exact .inr (.inl ⟨h1, by rw [if_neg h0, if_pos h1]⟩)
      · exact .inr (.inr ⟨by omega, by rw [if_neg h0, if_neg h1]⟩)
  unfold IntPost at HS
  have key2 : (decide (z < 0) = false ∧ (((wl z.natAbs : Nat) : Int) == 0) = true ∧ sgn z = 0) ∨ (decide (z < 0) = true ∧ (((wl z.natAbs : Nat) : Int) == 0) = false ∧ sgn z = -1) ∨ (decide (z < 0) = false ∧ (((wl z.natAbs : Nat) : Int) == 0) = false ∧ sgn z = 1) := by
    rcases key with ⟨h0, h2⟩ | ⟨h0, h2⟩ | ⟨h0, h2⟩
    · exact .inl ⟨decide_eq_false (by omega), t_beq (by rw [h0]; rfl), h2⟩
    · exact .inr (.inl ⟨decide_eq_true h0, f_beq (by have := wl_pos (n := z.natAbs) (by omega); omega), h2⟩)
    · exact .inr (.inr ⟨decide_eq_false (by omega), f_beq (by have := wl_pos (n := z.natAbs) (by omega); omega), h2⟩)
  clear key
  generalize sgn z = g at *
  generalize decide (z < 0) = d at *
  rcases key2 with ⟨h0, h1, h2⟩ | ⟨h0, h1, h2⟩ | ⟨h0, h1, h2⟩
  all_goals
    subst h2
    subst h0
    go_enter Tryz.func126, Tryz.ntmps126
    go_wp2_with fail
    refine (HS.out _ (HX.out.alloc _ |>.alloc _) (HY.out.alloc _ |>.alloc _)).mono ?_
    rintro e w1 ⟨A1, c1, rfl, -, -, -, -, hb⟩
    have hB := Lib.hid (below_under2 hb)
    clear hb HS HX HY
    generalize wl z.natAbs = l at *
    go_wp2_with fail
    go_ret
    exact ⟨rfl, hB.out.alloc hB.out.size _⟩
end Go.Proofs.YtfjmhfmhijhpkaaGreatDoor
