/- Which algebras are isomorphic, and the first images: the reference. -/
import Derived.Test.YtfjmhfmhijhpkaaVsl
import Derived.Test.YtfjmhfmhijhpkaaRpu
import Derived.Test.YtfjmhfmhijhpkaaTrn
import Derived.Test.YtfjmhfmhijhpkaaRrm
namespace Go.Proofs.Ytfjmhfmhijhpkaa
open Go.RowKit FF

def isoB (a b c d : Int) : Bool := (defB a b == defB c d) && decide (ramL a b 999 = ramL c d 999)
/-- the first images -/
def isoO (a b c d : Int) : Option (Qt × Qt) := firstP (opB c d) (pick (rtB c d a) 9826) (pick (rtB c d b) 9826)
def isoErr (a b c d : Int) : Int := if isoB a b c d = true then (if (isoO a b c d).isSome then 0 else 21) else 12
def isoXX (a b c d : Int) : Qt := if isoB a b c d = true then isoX (isoO a b c d) else Qt.zero
def isoYY (a b c d : Int) : Qt := if isoB a b c d = true then isoY (isoO a b c d) else Qt.zero
theorem iso_no {a b c d : Int} (h : isoB a b c d = false) : isoErr a b c d = 12 ∧ isoXX a b c d = Qt.zero ∧ isoYY a b c d = Qt.zero := by
  unfold isoErr isoXX isoYY; rw [h]; exact ⟨rfl, rfl, rfl⟩
theorem iso_none {a b c d : Int} (h : isoB a b c d = true) (h2 : isoO a b c d = none) : isoErr a b c d = 21 ∧ isoXX a b c d = Qt.zero ∧ isoYY a b c d = Qt.zero := by
  unfold isoErr isoXX isoYY; rw [h, h2]; exact ⟨rfl, rfl, rfl⟩
theorem iso_some {a b c d : Int} {p q : Qt} (h : isoB a b c d = true) (h2 : isoO a b c d = some (p, q)) : isoErr a b c d = 0 ∧ isoXX a b c d = p ∧ isoYY a b c d = q := by
  unfold isoErr isoXX isoYY; rw [h, h2]; exact ⟨rfl, rfl, rfl⟩
theorem ram_word {w w' : World} {l : List Int} {e : Ending} (h : RamPost w l e w') : PostW (VS l.length l) w e w' := by
  obtain ⟨A, c, rfl, h1, h2, h3, h4⟩ := h
  exact ⟨_, rfl, ⟨A, c, rfl, h1, h2, h3⟩, h4⟩
/-- .. that lies in a new block -/
def VF (B n : Nat) (xs : List Int) : Value → World → Prop := fun v W => ∃ A c, v = .slice A n c ∧ (ShowsI W A xs ∧ n ≤ c ∧ c ≤ maxLen) ∧ Fresh B A
theorem Firm.vf (B n : Nat) (xs : List Int) : Firm (VF B n xs) :=
  ⟨fun _ _ _ ⟨A, c, e, ⟨h, k⟩, f⟩ hb => ⟨A, c, e, ⟨showsI_below h hb, k⟩, f⟩, fun _ _ _ _ ⟨A, c, e, ⟨h, k⟩, f⟩ ho hg => ⟨A, c, e, ⟨showsI_only h ho hg, k⟩, f⟩⟩
theorem pure_word {w w' : World} {l : List Qt} {e : Ending} {B : Nat} (h : PurePost w l e w') (hB : B ≤ w.heap.size) : PostW (VF B l.length (qflat l)) w e w' := by
  obtain ⟨A, c, rfl, h1, h2, h3, h4, h5⟩ := h
  exact ⟨_, rfl, ⟨A, c, rfl, ⟨h1, h2, h3⟩, h5.mono hB⟩, h4⟩


end Go.Proofs.Ytfjmhfmhijhpkaa
