/- IsModulo of the reference accepts the matrices that are right. -/
import Derived.Test.YtfjmhfmhijhpkaaMdg
namespace Go.Proofs.Ytfjmhfmhijhpkaa
open Go.RowKit FF

/-- the eight entries -/
def ent (x u m v n : Int) (k : Nat) : Int := match k with
  | 0 => 0 | 1 => x | 2 => 1 | 3 => 0 | 4 => u | 5 => m | 6 => v | _ => n
theorem ent_win {A Bb p u v x y m n : Int} (h : Mats A Bb p u v x y m n) (k : Nat) : winB (ent x u m v n k) 0 (p - 1) = true := by
  have := h.pp; have := h.u0; have := h.v0; have := h.x0; have := h.m0; have := h.n0
  rw [winB_iff]
  unfold ent
  split <;> omega
theorem ent_cell {W : World} {g : Nat} {x u m v n : Int} (h : Cells W g #[.int .i64 0, .int .i64 x, .int .i64 1, .int .i64 0, .int .i64 u, .int .i64 m, .int .i64 v, .int .i64 n]) (k : Nat) (hk : k < 8) : W.cell? ⟨g, k, none⟩ = some (.int .i64 (ent x u m v n k)) := by
  rw [h.2.1 k (by simpa using hk)]
  match k, hk with
  | 0, _ => rfl
  | 1, _ => rfl
  | 2, _ => rfl
  | 3, _ => rfl
  | 4, _ => rfl
  | 5, _ => rfl
  | 6, _ => rfl
  | 7, _ => rfl
theorem bMod_b (a m : Int) (w : World) (ha : I64 a) (h3 : 0 < m) (hm : I64 m) :
    Calls Try.prog 17 #[.int .i64 a, .int .i64 m] w fun r w' => r = .returned (.int .i64 (a % m)) ∧ Below w.heap.size w w' := by
  refine (bMod_any a m w ha h3 hm).mono ?_
  rintro e w' ⟨rfl, n, rfl⟩
  exact ⟨rfl, below_drewN (Below.refl _ _) n⟩

end Go.Proofs.Ytfjmhfmhijhpkaa
