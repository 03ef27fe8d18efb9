/- Arguments made of integers alone, opened; lists of them. -/
import Derived.Test.YtimdkjbmeogpoaaGreatDoorTOpen0
import Derived.ChangeArms
namespace Go.Proofs.YtimdkjbmeogpoaaGreatDoor
open Go.RowKit Go.WideShapes Go.ChangeShapes Go.Joins Go.Deep FF
section
variable {H : Type} {enc : TypeId × Value → H} {P : Program} {w : World} {base : Nat} {spare : Nat → Bool} {held : Bool}
def intCells (P : Program) : Nat → TypeId → Bool
  | 0, _ => false
  | n + 1, t => match P.underlying t with
    | some (.int .i64) => true
    | some (.struct fs) => (List.range (P.cellsOf t)).all fun j => (List.range fs.size).any fun i => match fs[i]? with
      | some f => decide (f.offset ≤ j ∧ j < f.offset + P.cellsOf f.type) && intCells P n f.type
      | none => false
    | _ => false
theorem intCells_spec : ∀ {n : Nat} {t : TypeId} {fuel : Nat} {cs : List Value} {x : DataW H × List MemPlace}, intCells P n t = true → DataW.trod enc P w base spare held fuel t cs = some x →
    ∀ (j : Nat) (hj : j < cs.length), ∃ a : Int, cs[j] = .int .i64 a ∧ (Lit.int .i64 a).wf = true
  | 0, t, fuel, cs, x, hB, _, j, hj => by simp [intCells] at hB
  | n + 1, t, fuel, cs, x, hB, h, j, hj => by
    unfold intCells at hB
    split at hB
    · rename_i hu
      obtain ⟨a, rfl, _, hw⟩ := DataW.trod_int hu h
      simp only [List.length_cons, List.length_nil] at hj
      obtain rfl : j = 0 := by omega
      exact ⟨a, rfl, hw⟩
    · rename_i fs hu
      obtain ⟨xs, m, _, _, hl, hlen, hf⟩ := DataW.trod_struct hu h
      have h1 := List.all_eq_true.1 hB j (List.mem_range.2 (by omega))
      obtain ⟨i, hi, h2⟩ := List.any_eq_true.1 h1
      split at h2
      · rename_i f hfi
        simp only [Bool.and_eq_true, decide_eq_true_eq] at h2
        obtain ⟨⟨o1, o2⟩, hB2⟩ := h2
        have h3 := hf i f hfi
        have hi' : i < xs.length := by rw [hlen]; exact List.mem_range.1 hi
        rw [List.getElem?_eq_getElem hi'] at h3
        have hj2 : j - f.offset < ((cs.drop f.offset).take (P.cellsOf f.type)).length := by simp only [List.length_take, List.length_drop]; omega
        obtain ⟨a, ha, hw⟩ := intCells_spec hB2 h3 (j - f.offset) hj2
        refine ⟨a, ?_, hw⟩
        rw [List.getElem_take, List.getElem_drop] at ha
        rw [← ha]
        congr 1
        omega
      · exact absurd h2 (by simp)
    · exact absurd hB (by simp)
theorem open_ints (n : Nat) {r : Reach} {b0 : Nat} {t : TypeId} {fs : Array Field} {v : Value} {d : DataW H} {p : List MemPlace} (hB : intCells P n t = true) (ht : P.underlying t = some (.struct fs))
    (hv : Value.okWide P w r b0 t v) (h : DataW.Trod enc P w base spare held t v d p) :
    ∃ l : List Int, v = .agg (l.map (Value.int .i64)).toArray ∧ l.length = P.cellsOf t ∧ ∀ a ∈ l, I64 a := by
  have hc : ∃ cs, v = .agg cs ∧ cs.size = P.cellsOf t := by
    simp only [Value.okWide, ht] at hv
    obtain ⟨cs, h1, h2, _⟩ := hv
    exact ⟨cs, h1, h2⟩
  obtain ⟨cs, rfl, hsz⟩ := hc
  obtain ⟨fuel, hf⟩ := h
  simp only [Value.cells] at hf
  have hall := intCells_spec hB hf
  have key : ∀ l : List Value, (∀ (j : Nat) (hj : j < l.length), ∃ a : Int, l[j] = .int .i64 a ∧ (Lit.int .i64 a).wf = true) → ∃ k : List Int, l = k.map (Value.int .i64) ∧ ∀ a ∈ k, I64 a := by
    intro l
    induction l with
    | nil => exact fun _ => ⟨[], rfl, fun a ha => by cases ha⟩
    | cons c l ih =>
      intro hl
      obtain ⟨a, ha, hw⟩ := hl 0 (by simp)
      obtain ⟨k, hk, hk2⟩ := ih fun j hj => by
        obtain ⟨b, hb, hw2⟩ := hl (j + 1) (by simpa using hj)
        exact ⟨b, by simpa using hb, hw2⟩
      refine ⟨a :: k, ?_, fun b hb => ?_⟩
      · simp only [List.getElem_cons_zero] at ha
        rw [ha, hk]; rfl
      · rcases List.mem_cons.1 hb with e | e
        · subst e; exact i64_of_wf hw
        · exact hk2 b e
  obtain ⟨k, hk, hk2⟩ := key cs.toList hall
  refine ⟨k, ?_, ?_, hk2⟩
  · rw [← hk]
  · have := congrArg List.length hk
    simp at this
    omega
theorem open_5 {n : Nat} {r : Reach} {b0 : Nat} {t : TypeId} {fs : Array Field} {v : Value} {d : DataW H} {p : List MemPlace} (hB : intCells P n t = true) (ht : P.underlying t = some (.struct fs)) (hC : P.cellsOf t = 5)
    (hv : Value.okWide P w r b0 t v) (h : DataW.Trod enc P w base spare held t v d p) :
    ∃ a0 a1 a2 a3 a4 : Int, v = .agg #[.int .i64 a0, .int .i64 a1, .int .i64 a2, .int .i64 a3, .int .i64 a4] ∧ I64 a0 ∧ I64 a1 ∧ I64 a2 ∧ I64 a3 ∧ I64 a4 := by
  obtain ⟨l, rfl, hl, hw⟩ := open_ints n hB ht hv h
  rw [hC] at hl
  match l, hl with
  | [a0, a1, a2, a3, a4], _ => exact ⟨a0, a1, a2, a3, a4, rfl, hw _ (by simp), hw _ (by simp), hw _ (by simp), hw _ (by simp), hw _ (by simp)⟩
end
end Go.Proofs.YtimdkjbmeogpoaaGreatDoor
