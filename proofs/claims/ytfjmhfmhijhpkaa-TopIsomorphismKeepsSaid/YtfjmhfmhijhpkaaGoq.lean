/- Lists of elements in memory. -/
import Derived.Test.YtfjmhfmhijhpkaaOwn0
import Derived.Test.YtfjmhfmhijhpkaaQo0
namespace Go.Proofs.Ytfjmhfmhijhpkaa
open Go.RowKit FF

def qints (q : Qt) : List Int := [q.w, q.x, q.y, q.z, q.d]
def qflat (qs : List Qt) : List Int := qs.flatMap qints
theorem qflat_snoc (qs : List Qt) (q : Qt) : qflat (qs ++ [q]) = qflat qs ++ [q.w, q.x, q.y, q.z, q.d] := by
  unfold qflat
  rw [List.flatMap_append]
  simp [qints]
theorem qflat_get : ∀ (qs : List Qt) (i d : Nat) (q : Qt), qs[i]? = some q → d < 5 → (qflat qs).getD (i * 5 + d) 0 = (qints q).getD d 0
  | [], _, _, _, h, _ => by simp at h
  | y :: qs, 0, d, x, h, hd => by
    have e : y = x := by simpa using h
    unfold qflat
    rw [List.flatMap_cons, List.getD_eq_getElem?_getD, Nat.zero_mul, Nat.zero_add, List.getElem?_append_left (by simpa [qints] using hd), e, ← List.getD_eq_getElem?_getD]
  | y :: qs, i + 1, d, x, h, hd => by
    have ih := qflat_get qs i d x (by simpa using h) hd
    unfold qflat at ih ⊢
    rw [List.flatMap_cons, List.getD_eq_getElem?_getD, List.getElem?_append_right (by simp [qints]; omega)]
    have : (i + 1) * 5 + d - (qints y).length = i * 5 + d := by simp [qints]; omega
    rw [this, ← List.getD_eq_getElem?_getD]
    exact ih
theorem qflat_length (qs : List Qt) : (qflat qs).length = qs.length * 5 := by
  induction qs with
  | nil => rfl
  | cons q qs ih =>
    unfold qflat at ih ⊢
    rw [List.flatMap_cons, List.length_append, ih]
    simp [qints]; omega
/-- an element that is shown -/
theorem ShowsI.quat {w : World} {A : Option Addr} {qs : List Qt} (h : ShowsI w A (qflat qs)) {i : Nat} {q : Qt} (hi : qs[i]? = some q) :
    ∃ b o, A = some ⟨b, o, none⟩ ∧ b < w.heap.size ∧ w.cell? ⟨b, o + i * 5, none⟩ = some (.int .i64 q.w) ∧ w.cell? ⟨b, o + i * 5 + 1, none⟩ = some (.int .i64 q.x) ∧ w.cell? ⟨b, o + i * 5 + 2, none⟩ = some (.int .i64 q.y) ∧
      w.cell? ⟨b, o + i * 5 + 3, none⟩ = some (.int .i64 q.z) ∧ w.cell? ⟨b, o + i * 5 + 4, none⟩ = some (.int .i64 q.d) := by
  have hil : i < qs.length := by
    rcases Nat.lt_or_ge i qs.length with h | h
    · exact h
    · rw [List.getElem?_eq_none h] at hi; cases hi
  have hl := qflat_length qs
  obtain ⟨b, o, e, hb, hc⟩ := h (by omega)
  refine ⟨b, o, e, hb, ?_, ?_, ?_, ?_, ?_⟩
  · have := hc (i * 5) (by omega); rw [this, ← Nat.add_zero (i * 5), qflat_get qs i 0 q hi (by omega)]; rfl
  · have := hc (i * 5 + 1) (by omega); rw [Nat.add_assoc, this, qflat_get qs i 1 q hi (by omega)]; rfl
  · have := hc (i * 5 + 2) (by omega); rw [Nat.add_assoc, this, qflat_get qs i 2 q hi (by omega)]; rfl
  · have := hc (i * 5 + 3) (by omega); rw [Nat.add_assoc, this, qflat_get qs i 3 q hi (by omega)]; rfl
  · have := hc (i * 5 + 4) (by omega); rw [Nat.add_assoc, this, qflat_get qs i 4 q hi (by omega)]; rfl
end Go.Proofs.Ytfjmhfmhijhpkaa
