/- Half words and words: the digits of a number to the base 2^16 and to the base 2^32. -/
import Derived.Test.YtmlkiddkgikdhaaWdP
namespace FF
def HB : Nat := 65536
theorem HB2 : 2 ≤ HB := by decide
/-- the number of half words -/
def hl (n : Nat) : Nat := (digs HB n).length
theorem half_word : ∀ (b v : Nat), v ≤ b → (digs (HB * HB) v).length = (hl v + 1) / 2 ∧ ∀ i, (digs (HB * HB) v).getD i 0 = (digs HB v).getD (2 * i) 0 + HB * (digs HB v).getD (2 * i + 1) 0 := by
  have hW : 2 ≤ HB * HB := by decide
  intro b
  induction b with
  | zero => intro v hv
            obtain rfl : v = 0 := by omega
            refine ⟨rfl, fun i => ?_⟩
            simp [digs_zero]
  | succ b ih =>
    intro v hv
    by_cases h0 : v = 0
    · subst h0
      refine ⟨rfl, fun i => ?_⟩
      simp [digs_zero]
    · have hdd : v / HB / HB = v / (HB * HB) := Nat.div_div_eq_div_mul v HB HB
      have hlt : v / (HB * HB) ≤ b := by
        have := Nat.div_lt_self (Nat.pos_of_ne_zero h0) (show 1 < HB * HB by decide)
        omega
      obtain ⟨i1, i2⟩ := ih _ hlt
      have hmm : v % (HB * HB) = v % HB + HB * (v / HB % HB) := Nat.mod_mul
      unfold hl at *
      rw [digs_pos hW h0, digs_pos HB2 h0, List.length_cons, i1]
      by_cases h1 : v / HB = 0
      · have h2 : v / (HB * HB) = 0 := by rw [← hdd, h1]; rfl
        rw [h1, h2, digs_zero, digs_zero]
        refine ⟨by simp, fun i => ?_⟩
        rw [hmm, h1]
        cases i with
        | zero => simp
        | succ i => simp [show 2 * (i + 1) = 2 * i + 1 + 1 by omega]
      · rw [digs_pos HB2 h1, hdd]
        refine ⟨by simp only [List.length_cons]; omega, fun i => ?_⟩
        cases i with
        | zero => simp [hmm]
        | succ i =>
          rw [show 2 * (i + 1) = 2 * i + 1 + 1 by omega]
          simp only [List.getD_cons_succ]
          exact i2 i
theorem half_len (v : Nat) : (digs (HB * HB) v).length = (hl v + 1) / 2 := (half_word v v (Nat.le_refl _)).1
theorem half_get (v i : Nat) : (digs (HB * HB) v).getD i 0 = (digs HB v).getD (2 * i) 0 + HB * (digs HB v).getD (2 * i + 1) 0 := (half_word v v (Nat.le_refl _)).2 i
theorem take_snoc {α : Type} {xs : List α} {i : Nat} (d : α) (h : i < xs.length) : xs.take (i + 1) = xs.take i ++ [xs.getD i d] := by
  rw [List.take_add_one, List.getElem?_eq_getElem h, List.getD_eq_getElem?_getD, List.getElem?_eq_getElem h]; rfl
end FF
