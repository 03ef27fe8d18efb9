/- Slices that show lists of numbers; what keeps them. -/
import Derived.Test.YtmlkiddkgikdhaaBase
import Derived.Test.YtmlkiddkgikdhaaWdP
import Derived.Below
import Derived.Handy
import Derived.Deep.Draws
namespace Go.Proofs.Ytmlkiddkgikdhaa
open Go.RowKit FF
/-- the slice at A shows the numbers xs -/
def Shows (k : IntKind) (w : World) (A : Option Addr) (xs : List Nat) : Prop :=
  0 < xs.length → ∃ b o, A = some ⟨b, o, none⟩ ∧ b < w.heap.size ∧ ∀ i, i < xs.length → w.cell? ⟨b, o + i, none⟩ = some (.int k (xs.getD i 0 : Nat))

section
variable {k : IntKind} {w w' : World} {A : Option Addr} {xs : List Nat}
theorem Shows.nil : Shows k w A [] := fun h => absurd h (by simp)
theorem Shows.keep (h : Shows k w A xs) (hs : w.heap.size ≤ w'.heap.size) (hk : ∀ p : Addr, p.block < w.heap.size → w'.cell? p = w.cell? p) : Shows k w' A xs := by
  intro hn
  obtain ⟨b, o, e, hb, hc⟩ := h hn
  exact ⟨b, o, e, by omega, fun i hi => (hk ⟨b, o + i, none⟩ hb).trans (hc i hi)⟩
theorem Shows.below (h : Shows k w A xs) (hb : Below w.heap.size w w') : Shows k w' A xs := h.keep hb.size fun _ hp => hb.cell hp
theorem Shows.drewN (h : Shows k w A xs) (n : Nat) : Shows k (w.drewN n) A xs := h
theorem Shows.alloc (h : Shows k w A xs) (o : Obj) : Shows k (w.alloc o) A xs := h.keep (by simp) fun p hp => World.cell?_alloc_lt w o p hp
theorem Shows.take (h : Shows k w A xs) (n : Nat) : Shows k w A (xs.take n) := by
  intro hn
  rw [List.length_take] at hn
  obtain ⟨b, o, e, hb, hc⟩ := h (by omega)
  refine ⟨b, o, e, hb, fun i hi => ?_⟩
  rw [List.length_take] at hi
  rw [hc i (by omega)]
  simp only [List.getD_eq_getElem?_getD]
  rw [List.getElem?_take_of_lt (by omega)]
end

/-- an address that is nil, or in a block from B on -/
def Fresh (B : Nat) (A : Option Addr) : Prop := ∀ a, A = some a → B ≤ a.block
theorem Fresh.none {B : Nat} : Fresh B none := fun _ h => by cases h
theorem Fresh.mk {B b o : Nat} (h : B ≤ b) : Fresh B (some ⟨b, o, Option.none⟩) := fun a e => by injection e with e; subst e; exact h
theorem Fresh.mono {B B' : Nat} {A : Option Addr} (h : Fresh B A) (hB : B' ≤ B) : Fresh B' A := fun a e => Nat.le_trans hB (h a e)
theorem Shows.setCell {k : IntKind} {w : World} {A : Option Addr} {xs : List Nat} {B : Nat} (h : Shows k w A xs) (hf : Fresh B A) {p : Addr} (hp : p.block < B) (v : Value) : Shows k (w.setCell p v) A xs := by
  intro hn
  obtain ⟨b, o, e, hb, hc⟩ := h hn
  refine ⟨b, o, e, by simpa [World.setCell] using hb, fun i hi => ?_⟩
  rw [World.cell?_setCell_other w p ⟨b, o + i, Option.none⟩ v (fun e2 => by
    have := hf _ e
    have e3 : p.block = b := by rw [e2]
    simp at this
    omega)]
  exact hc i hi
theorem ret_slice {A : Option Addr} {m n : Nat} (h : m = n) : Ending.returned (.slice A m m) = .returned (.slice A n n) := by rw [h]
/-- the base of words -/
def WB : Nat := 4294967296
theorem WB2 : 2 ≤ WB := by unfold WB; omega
/-- the length of a number in words -/
def wl (n : Nat) : Nat := (digs WB n).length
theorem wl_zero : wl 0 = 0 := rfl
theorem wl_eq_zero {n : Nat} : wl n = 0 ↔ n = 0 := digs_nil WB2

set_option maxHeartbeats 400000 in
/-- trimmed -/
theorem trimmed_any (A : Option Addr) (xs : List Nat) (c : Nat) (w : World) (h : Shows .u32 w A xs) (hd : Dig WB xs) (hc : xs.length ≤ c) (hc2 : c ≤ maxLen) :
    Calls Try.prog 139 #[.slice A xs.length c] w fun e w' => e = .returned (.slice A (wl (val WB xs)) (wl (val WB xs))) ∧ w = w' := by
  unfold maxLen at hc2
  have HA := Lib.hid h; clear h
  have hrel0 := Lib.hid (show val WB (xs.take xs.length) = val WB xs by rw [List.take_of_length_le (Nat.le_refl _)])
  have hfin := Lib.hid (fun (j : Nat) (hj : j ≤ xs.length) (hv : val WB (xs.take j) = val WB xs) (hl : 0 < j → xs.getD (j - 1) 0 ≠ 0) =>
    (show j = wl (val WB xs) by unfold wl; rw [← take_trim WB2 hd hj hv hl, List.length_take]; omega))
  have hstep := Lib.hid (fun (j : Nat) (hj : j < xs.length) (h0 : xs.getD j 0 = 0) (hv : val WB (xs.take (j + 1)) = val WB xs) => val_take_zero (B := WB) hj h0 hv)
  go_enter Try.func139, Try.ntmps139
  go_wp2
  unfold Shows at HA
  generalize xs.length = n at *
  go_loop [3] (fun t => ∃ k : Nat, t = .int .i64 k ∧ k ≤ n ∧ val WB (xs.take k) = val WB xs) (fun t => (intOf t).toNat)
  case atStart => exact ⟨n, rfl, Nat.le_refl _, hrel0.out⟩
  case round =>
    obtain ⟨k, rfl, hk, hv⟩ := hrel
    have HV := Lib.hid hv; clear hv
    by_cases h0 : 0 < k
    · obtain ⟨j, rfl⟩ : ∃ j, k = j + 1 := ⟨k - 1, by omega⟩
      obtain ⟨b, o, rfl, hb, hcell⟩ := HA.out (by omega)
      have hx := hcell j (by omega)
      have hS := Lib.hid (fun h0 => hstep.out j (by omega) h0 HV.out)
      have hF := Lib.hid (fun h0 => hfin.out (j + 1) hk HV.out (fun _ => h0))
      clear hcell hrel0 hfin hstep HA
      rw [Nat.add_sub_cancel] at hF
      generalize xs.getD j 0 = x at *
      have e1 : ((j + 1 : Nat) : Int) = (j : Int) + 1 := by omega
      rw [e1]
      by_cases c0 : x = 0
      · have hS2 := Lib.hid (hS.out c0)
        clear hF hS
        subst c0
        go_wp2
        exact ⟨⟨j, rfl, by omega, hS2.out⟩, by simp [intOf]⟩
      · have d0 : ((x : Int) == 0) = false := f_beq (by omega)
        have hF2 := Lib.hid (hF.out c0)
        clear hF hS c0
        go_wp2
        go_ret
        exact ⟨ret_slice hF2.out, rfl⟩
    · obtain rfl : k = 0 := by omega
      have hF := Lib.hid (hfin.out 0 (by omega) HV.out (fun h => absurd h (by omega)))
      clear hfin hstep HA
      go_wp2
      go_ret
      exact ⟨ret_slice hF.out, rfl⟩

theorem Shows.trim {w : World} {A : Option Addr} {xs : List Nat} (h : Shows .u32 w A xs) (hd : Dig WB xs) : Shows .u32 w A (digs WB (val WB xs)) := by
  have key : ∀ f k, k ≤ f → k ≤ xs.length → val WB (xs.take k) = val WB xs → ∃ j, xs.take j = digs WB (val WB xs) := by
    intro f
    induction f with
    | zero => intro k h1 h2 h3
              exact ⟨0, take_trim WB2 hd (by omega) (by rw [show k = 0 by omega] at h3; exact h3) (fun h => absurd h (by omega))⟩
    | succ f ih =>
      intro k h1 h2 h3
      by_cases h0 : k = 0
      · subst h0; exact ⟨0, take_trim WB2 hd (by omega) h3 (fun h => absurd h (by omega))⟩
      · by_cases hx : xs.getD (k - 1) 0 = 0
        · exact ih (k - 1) (by omega) (by omega) (val_take_zero (by omega) hx (by rw [show k - 1 + 1 = k by omega]; exact h3))
        · exact ⟨k, take_trim WB2 hd h2 h3 (fun _ => hx)⟩
  obtain ⟨j, hj⟩ := key xs.length xs.length (Nat.le_refl _) (Nat.le_refl _) (by rw [List.take_of_length_le (Nat.le_refl _)])
  rw [← hj]; exact h.take j

set_option maxHeartbeats 400000 in
/-- at -/
theorem at_any (A : Option Addr) (xs : List Nat) (c : Nat) (i : Nat) (w : World) (h : Shows .u32 w A xs) (hi : i ≤ 4611686018427387904) (hd : Dig WB xs) :
    Calls Try.prog 121 #[.slice A xs.length c, .int .i64 i] w (Ret w (.int .u64 (xs.getD i 0 : Nat))) := by
  by_cases hlt : i < xs.length
  · obtain ⟨b, o, rfl, hb, hcell⟩ := h (by omega)
    have hx := hcell i hlt
    have hxl := hd.getD (by decide) i
    unfold WB at hxl
    clear hcell h hd
    generalize xs.getD i 0 = x at *
    generalize xs.length = n at *
    go_enter Try.func121, Try.ntmps121
    go_wp2
    go_ret
    exact Ret.eq0 (ret_int (by simp))
  · have hz := Lib.hid (show xs.getD i 0 = 0 by rw [List.getD_eq_getElem?_getD, List.getElem?_eq_none (by omega)]; rfl)
    clear h hd
    generalize xs.length = n at *
    go_enter Try.func121, Try.ntmps121
    go_wp2
    go_ret
    exact Ret.eq0 (ret_int (by rw [hz.out]; rfl))
end Go.Proofs.Ytmlkiddkgikdhaa
