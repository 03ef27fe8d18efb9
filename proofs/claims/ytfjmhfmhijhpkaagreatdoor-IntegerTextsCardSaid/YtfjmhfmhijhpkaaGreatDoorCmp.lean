/- The verifier's comparisons: SameInt, Ints. -/
import Derived.Test.YtfjmhfmhijhpkaaGreatDoorWordA
namespace Go.Proofs.YtfjmhfmhijhpkaaGreatDoor
open Go.RowKit FF

/-- lists that agree up to i -/
def agreeTo {α : Type} (xs ys : List α) (i : Nat) : Prop := xs.take i = ys.take i
theorem agree_step {α : Type} {xs ys : List α} {i : Nat} {d : α} (hl : xs.length = ys.length) (hi : i < xs.length) (h : xs.take i = ys.take i) (he : xs.getD i d = ys.getD i d) : xs.take (i + 1) = ys.take (i + 1) := by
  simp only [List.getD_eq_getElem?_getD] at he
  rw [List.getElem?_eq_getElem hi, List.getElem?_eq_getElem (hl ▸ hi)] at he
  simp only [Option.getD_some] at he
  rw [List.take_add_one, List.take_add_one, h, List.getElem?_eq_getElem hi, List.getElem?_eq_getElem (hl ▸ hi), he]
theorem agree_not {α : Type} {xs ys : List α} {i : Nat} {d : α} (he : xs.getD i d ≠ ys.getD i d) : xs ≠ ys := fun h => he (by rw [h])

theorem below_two {w : World} {o1 o2 : Obj} (m : Nat) : Below w.heap.size w (((w.alloc o1).alloc o2).drewN m) :=
  below_drewN (((Below.refl _ _).alloc (Nat.le_refl _) _).alloc (by simp) _) m
set_option maxHeartbeats 1000000 in
theorem SameInt_eq (bx by' : Bool) (A A' : Option Addr) (xs ys : List Nat) (c c' : Nat) (w : World) (hx : Shows .u32 w A xs) (hy : Shows .u32 w A' ys) (hb : bx = by') (hl : xs.length = ys.length) (hn : xs.length ≤ maxLen) :
    Calls Tryz.prog 29 #[.agg #[.bool bx, .slice A xs.length c], .agg #[.bool by', .slice A' ys.length c']] w fun e w' =>
      e = .returned (.bool (decide (bx = by' ∧ xs = ys))) ∧ Below w.heap.size w w' := by
  have f1 := Lib.hid (fun (i : Nat) (h1 : i < xs.length) h2 h3 => agree_step (d := 0) hl h1 h2 h3)
  have f2 := Lib.hid (fun (i : Nat) (h : xs.getD i 0 ≠ ys.getD i 0) => (show decide (bx = by' ∧ xs = ys) = false from decide_eq_false (fun h3 => agree_not h h3.2)))
  have f3 := Lib.hid (fun h : xs.take xs.length = ys.take xs.length => (show decide (bx = by' ∧ xs = ys) = true from decide_eq_true ⟨hb, by rw [List.take_of_length_le (Nat.le_refl _), List.take_of_length_le (by omega)] at h; exact h⟩))
  have HX := Lib.hid (show 0 < xs.length → ∃ b o, A = some ⟨b, o, none⟩ ∧ b < w.heap.size ∧ ∀ i, i < xs.length → w.cell? ⟨b, o + i, none⟩ = some (.int .u32 (xs.getD i 0 : Nat)) from hx)
  have HY := Lib.hid (show 0 < xs.length → ∃ b o, A' = some ⟨b, o, none⟩ ∧ b < w.heap.size ∧ ∀ i, i < xs.length → w.cell? ⟨b, o + i, none⟩ = some (.int .u32 (ys.getD i 0 : Nat)) from by rw [hl]; exact hy)
  rw [← hl]
  clear hx hy hl
  subst hb
  unfold maxLen at hn
  generalize decide (bx = bx ∧ xs = ys) = R at *
  generalize xs.length = n at *
  have hbb : (bx != bx) = false := by simp
  go_enter Tryz.func29, Tryz.ntmps29
  go_wp2_with fail
  go_loopw [5] (fun s wr => ∃ k : Nat, s = .int .i64 k ∧ k ≤ n ∧ xs.take k = ys.take k ∧ ∃ m, wr = ((w.alloc (.cells #[.bool bx, .slice A n c] 55)).alloc (.cells #[.bool bx, .slice A' n c'] 55)).drewN m) (fun s _ => n - (intOf s).toNat)
  case atStart => exact ⟨0, rfl, by omega, rfl, 0, rfl⟩
  case round =>
    obtain ⟨k, rfl, hk, hd, m, rfl⟩ := hrel
    have HD := Lib.hid hd; clear hd
    by_cases h0 : k < n
    · obtain ⟨b1, o1, rfl, hb1, hc1⟩ := HX.out (by omega)
      obtain ⟨b2, o2, rfl, hb2, hc2⟩ := HY.out (by omega)
      have x1 := hc1 k h0
      have x2 := hc2 k h0
      have q1 := f1.out k h0 HD.out
      have q2 := f2.out k
      clear hc1 hc2 f1 f2 f3 HX HY HD
      generalize xs.getD k 0 = x at *
      generalize ys.getD k 0 = y at *
      by_cases hxy : x = y
      · have hQ := Lib.hid (q1 hxy)
        clear q1 q2
        subst hxy
        go_wp2
        go_big_quiet (fail)
        go_wp2
        exact ⟨⟨k + 1, by go_num, by omega, hQ.out, _, rfl⟩, by simp [intOf]; omega⟩
      · have hQ := Lib.hid (q2 hxy)
        clear q1 q2
        have d1 : ((x : Int) != y) = true := bne_iff_ne.2 (by omega)
        go_wp2
        go_big_quiet (fail)
        go_wp2
        go_ret
        exact ⟨by rw [hQ.out]; rfl, by rw [World.drewN_drewN]; exact below_two _⟩
    · obtain rfl : k = n := by omega
      have hQ := Lib.hid (f3.out HD.out)
      clear f1 f2 f3 HX HY HD
      go_wp2
      go_ret
      exact ⟨by rw [hQ.out]; rfl, below_two _⟩

set_option maxHeartbeats 1000000 in
theorem SameInt_ne (bx by' : Bool) (A A' : Option Addr) (n m : Nat) (c c' : Nat) (w : World) (h : bx ≠ by' ∨ n ≠ m) :
    Calls Tryz.prog 29 #[.agg #[.bool bx, .slice A n c], .agg #[.bool by', .slice A' m c']] w fun e w' =>
      e = .returned (.bool false) ∧ Below w.heap.size w w' := by
  by_cases hb : bx = by'
  · have h2 : ((n : Int) != (m : Int)) = true := by
      rw [bne_iff_ne]; intro e; have : n = m := by omega
      rcases h with h | h <;> contradiction
    subst hb
    have hbb : (bx != bx) = false := by simp
    clear h
    go_enter Tryz.func29, Tryz.ntmps29
    go_wp2_with fail
    go_ret
    exact ⟨rfl, below_two 0⟩
  · clear h
    cases bx <;> cases by'
    · exact absurd rfl hb
    · go_enter Tryz.func29, Tryz.ntmps29
      go_wp2_with fail
      go_ret
      exact ⟨rfl, below_two 0⟩
    · go_enter Tryz.func29, Tryz.ntmps29
      go_wp2_with fail
      go_ret
      exact ⟨rfl, below_two 0⟩
    · exact absurd rfl hb

/-- SameInt, for all integers -/
theorem SameInt_any (bx by' : Bool) (A A' : Option Addr) (xs ys : List Nat) (c c' : Nat) (w : World) (hx : Shows .u32 w A xs) (hy : Shows .u32 w A' ys) (hn : xs.length ≤ maxLen) :
    Calls Tryz.prog 29 #[.agg #[.bool bx, .slice A xs.length c], .agg #[.bool by', .slice A' ys.length c']] w fun e w' =>
      e = .returned (.bool (decide (bx = by' ∧ xs = ys))) ∧ Below w.heap.size w w' := by
  by_cases h : bx = by' ∧ xs.length = ys.length
  · exact SameInt_eq bx by' A A' xs ys c c' w hx hy h.1 h.2 hn
  · have hd : decide (bx = by' ∧ xs = ys) = false := decide_eq_false (fun h2 => h ⟨h2.1, by rw [h2.2]⟩)
    rw [hd]
    refine SameInt_ne bx by' A A' _ _ c c' w ?_
    by_cases hb : bx = by'
    · exact .inr (fun e => h ⟨hb, e⟩)
    · exact .inl hb

/-- the slice at A shows the machine integers xs -/
def ShowsI (w : World) (A : Option Addr) (xs : List Int) : Prop :=
  0 < xs.length → ∃ b o, A = some ⟨b, o, none⟩ ∧ b < w.heap.size ∧ ∀ i, i < xs.length → w.cell? ⟨b, o + i, none⟩ = some (.int .i64 (xs.getD i 0))
section
variable {w w' : World} {A : Option Addr} {xs : List Int}
theorem ShowsI.nil : ShowsI w A [] := fun h => absurd h (by simp)
theorem ShowsI.keep (h : ShowsI w A xs) (hs : w.heap.size ≤ w'.heap.size) (hk : ∀ p : Addr, p.block < w.heap.size → w'.cell? p = w.cell? p) : ShowsI w' A xs := by
  intro hn
  obtain ⟨b, o, e, hb, hc⟩ := h hn
  exact ⟨b, o, e, by omega, fun i hi => (hk ⟨b, o + i, none⟩ hb).trans (hc i hi)⟩
theorem ShowsI.below (h : ShowsI w A xs) (hb : Below w.heap.size w w') : ShowsI w' A xs := h.keep hb.size fun _ hp => hb.cell hp
theorem ShowsI.drewN (h : ShowsI w A xs) (n : Nat) : ShowsI (w.drewN n) A xs := h
theorem ShowsI.alloc (h : ShowsI w A xs) (o : Obj) : ShowsI (w.alloc o) A xs := h.keep (by simp) fun p hp => World.cell?_alloc_lt w o p hp
theorem ShowsI.setCell {B : Nat} (h : ShowsI w A xs) (hf : Fresh B A) {p : Addr} (hp : p.block < B) (v : Value) : ShowsI (w.setCell p v) A xs := by
  intro hn
  obtain ⟨b, o, e, hb, hc⟩ := h hn
  refine ⟨b, o, e, by simpa [World.setCell] using hb, fun i hi => ?_⟩
  rw [World.cell?_setCell_other w p ⟨b, o + i, Option.none⟩ v (fun e2 => by
    have := hf _ e
    have e3 : p.block = b := by rw [e2]
    simp at this
    omega)]
  exact hc i hi
theorem ShowsI.new {w : World} {cs : Array Value} {T : TypeId} {xs : List Int} (h : ∀ i, i < xs.length → cs[i]? = some (.int .i64 (xs.getD i 0))) :
    ShowsI (w.alloc (.cells cs T)) (some ⟨w.heap.size, 0, none⟩) xs := by
  intro _
  refine ⟨w.heap.size, 0, rfl, by simp, fun i hi => ?_⟩
  rw [Nat.zero_add]
  exact (World.cell?_alloc_at (w := w) cs T w.heap.size i rfl).trans (h i hi)
end

set_option maxHeartbeats 1000000 in
theorem Ints_eq (A A' : Option Addr) (xs ys : List Int) (c c' : Nat) (w : World) (hx : ShowsI w A xs) (hy : ShowsI w A' ys) (hl : xs.length = ys.length) (hn : xs.length ≤ maxLen) :
    Calls Tryz.prog 47 #[.slice A xs.length c, .slice A' ys.length c'] w (Ret w (.bool (decide (xs = ys)))) := by
  have f1 := Lib.hid (fun (i : Nat) (h1 : i < xs.length) h2 h3 => agree_step (d := 0) hl h1 h2 h3)
  have f2 := Lib.hid (fun (i : Nat) (h : xs.getD i 0 ≠ ys.getD i 0) => (show decide (xs = ys) = false from decide_eq_false (fun h3 => agree_not h h3)))
  have f3 := Lib.hid (fun h : xs.take xs.length = ys.take xs.length => (show decide (xs = ys) = true from decide_eq_true (by rw [List.take_of_length_le (Nat.le_refl _), List.take_of_length_le (by omega)] at h; exact h)))
  have HX := Lib.hid (show 0 < xs.length → ∃ b o, A = some ⟨b, o, none⟩ ∧ b < w.heap.size ∧ ∀ i, i < xs.length → w.cell? ⟨b, o + i, none⟩ = some (.int .i64 (xs.getD i 0)) from hx)
  have HY := Lib.hid (show 0 < xs.length → ∃ b o, A' = some ⟨b, o, none⟩ ∧ b < w.heap.size ∧ ∀ i, i < xs.length → w.cell? ⟨b, o + i, none⟩ = some (.int .i64 (ys.getD i 0)) from by rw [hl]; exact hy)
  rw [← hl]
  clear hx hy hl
  unfold maxLen at hn
  generalize decide (xs = ys) = R at *
  generalize xs.length = n at *
  go_enter Tryz.func47, Tryz.ntmps47
  go_wp2_with fail
  go_loopw [5] (fun s wr => ∃ k : Nat, s = .int .i64 k ∧ k ≤ n ∧ xs.take k = ys.take k ∧ ∃ m, wr = w.drewN m) (fun s _ => n - (intOf s).toNat)
  case atStart => exact ⟨0, rfl, by omega, rfl, 0, rfl⟩
  case round =>
    obtain ⟨k, rfl, hk, hd, m, rfl⟩ := hrel
    have HD := Lib.hid hd; clear hd
    by_cases h0 : k < n
    · obtain ⟨b1, o1, rfl, hb1, hc1⟩ := HX.out (by omega)
      obtain ⟨b2, o2, rfl, hb2, hc2⟩ := HY.out (by omega)
      have x1 := hc1 k h0
      have x2 := hc2 k h0
      have q1 := f1.out k h0 HD.out
      have q2 := f2.out k
      clear hc1 hc2 f1 f2 f3 HX HY HD
      generalize xs.getD k 0 = x at *
      generalize ys.getD k 0 = y at *
      by_cases hxy : x = y
      · have hQ := Lib.hid (q1 hxy)
        clear q1 q2
        subst hxy
        have d1 : (x != x) = false := by simp
        go_wp2
        go_big_quiet (fail)
        go_wp2
        exact ⟨⟨k + 1, by go_num, by omega, hQ.out, _, rfl⟩, by simp [intOf]; omega⟩
      · have hQ := Lib.hid (q2 hxy)
        clear q1 q2
        have d1 : (x != y) = true := bne_iff_ne.2 (by omega)
        go_wp2
        go_big_quiet (fail)
        go_wp2
        go_ret
        exact Ret.eqq _ _ (ret_bool hQ.out.symm)
    · obtain rfl : k = n := by omega
      have hQ := Lib.hid (f3.out HD.out)
      clear f1 f2 f3 HX HY HD
      go_wp2
      go_ret
      exact Ret.eq _ (ret_bool hQ.out.symm)

set_option maxHeartbeats 400000 in
theorem Ints_ne (A A' : Option Addr) (n m : Nat) (c c' : Nat) (w : World) (h : n ≠ m) :
    Calls Tryz.prog 47 #[.slice A n c, .slice A' m c'] w (Ret w (.bool false)) := by
  have h2 : ((n : Int) != (m : Int)) = true := by rw [bne_iff_ne]; omega
  go_enter Tryz.func47, Tryz.ntmps47
  go_wp2_with fail
  go_ret
  exact Ret.same

/-- Ints, for all lists -/
theorem Ints_any (A A' : Option Addr) (xs ys : List Int) (c c' : Nat) (w : World) (hx : ShowsI w A xs) (hy : ShowsI w A' ys) (hn : xs.length ≤ maxLen) :
    Calls Tryz.prog 47 #[.slice A xs.length c, .slice A' ys.length c'] w (Ret w (.bool (decide (xs = ys)))) := by
  by_cases h : xs.length = ys.length
  · exact Ints_eq A A' xs ys c c' w hx hy h hn
  · rw [decide_eq_false (fun e => h (by rw [e]))]
    exact Ints_ne A A' _ _ c c' w h
end Go.Proofs.YtfjmhfmhijhpkaaGreatDoor
