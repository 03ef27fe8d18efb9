/- A word about slices of numbers; a slice of elements. -/
import Derived.Test.YtfjmhfmhijhpkaaRpf
import Derived.Test.YtfjmhfmhijhpkaaGoq
namespace Go.Proofs.Ytfjmhfmhijhpkaa
open Go.RowKit FF

/-- a slice of n elements whose cells are the numbers xs -/
def VS (n : Nat) (xs : List Int) : Value → World → Prop := fun v W => ∃ A c, v = .slice A n c ∧ ShowsI W A xs ∧ n ≤ c ∧ c ≤ maxLen
theorem showsI_below {w w' : World} {A : Option Addr} {xs : List Int} (h : ShowsI w A xs) (hb : Below w.heap.size w w') : ShowsI w' A xs := by
  intro h0
  obtain ⟨b, o, e, hlt, hc⟩ := h h0
  exact ⟨b, o, e, Nat.lt_of_lt_of_le hlt hb.size, fun i hi => (hb.cell (p := ⟨b, _, none⟩) hlt).trans (hc i hi)⟩
theorem showsI_only {w w' : World} {A : Option Addr} {xs : List Int} {g : Nat} (h : ShowsI w A xs) (ho : Only g w w') (hg : NoIntAt w g) : ShowsI w' A xs := by
  intro h0
  obtain ⟨b, o, e, hlt, hc⟩ := h h0
  have hne : b ≠ g := fun e => by subst e; exact hg _ _ _ (hc 0 h0)
  refine ⟨b, o, e, by rw [ho.size]; exact hlt, fun i hi => ?_⟩
  rw [← hc i hi]
  simp only [World.cell?, ho.block b hne]
theorem Firm.vs (n : Nat) (xs : List Int) : Firm (VS n xs) :=
  ⟨fun _ _ _ ⟨A, c, e, h, k⟩ hb => ⟨A, c, e, showsI_below h hb, k⟩, fun _ _ _ _ ⟨A, c, e, h, k⟩ ho hg => ⟨A, c, e, showsI_only h ho hg, k⟩⟩
theorem calls_vc {P : Program} {f : FuncId} {args : Array Value} {w : World} {v : Value} (h : Calls P f args w fun r w' => r = .returned v ∧ Below w.heap.size w w') : Calls P f args w (PostW (VC v) w) :=
  h.mono fun _ _ h => ⟨_, h.1, rfl, h.2⟩
theorem calls_ret {P : Program} {f : FuncId} {args : Array Value} {w : World} {v : Value} (h : Calls P f args w (Ret w v)) : Calls P f args w (PostW (VC v) w) :=
  h.mono fun _ _ h => ⟨_, h.1, rfl, h.2.elim fun m hm => hm ▸ below_drewN (Below.refl _ _) m⟩
end Go.Proofs.Ytfjmhfmhijhpkaa
