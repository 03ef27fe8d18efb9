/- The verifier's comparisons: SameInt, Ints. -/
import Derived.Test.YthkklilhjnpedaaGreatUNt
import Derived.Test.YthkklilhjnpedaaGreatUWordA
section
namespace FF
structure Qt where
  w : Int
  x : Int
  y : Int
  z : Int
  d : Int
def cB (n : Int) : Bool := decide (-1000000 ≤ n ∧ n ≤ 1000000)
def dB (n : Int) : Bool := decide (1 ≤ n ∧ n ≤ 1000000)
def qB (q : Qt) : Bool := cB q.w && cB q.x && cB q.y && cB q.z && dB q.d
def qE (q : Qt) : Int := if qB q then 0 else 3
theorem cB_iff {n : Int} : cB n = true ↔ -1000000 ≤ n ∧ n ≤ 1000000 := by unfold cB; rw [decide_eq_true_iff]
theorem dB_iff {n : Int} : dB n = true ↔ 1 ≤ n ∧ n ≤ 1000000 := by unfold dB; rw [decide_eq_true_iff]
theorem qB_iff {q : Qt} : qB q = true ↔ ((-1000000 ≤ q.w ∧ q.w ≤ 1000000) ∧ (-1000000 ≤ q.x ∧ q.x ≤ 1000000) ∧ (-1000000 ≤ q.y ∧ q.y ≤ 1000000) ∧ (-1000000 ≤ q.z ∧ q.z ≤ 1000000) ∧ (1 ≤ q.d ∧ q.d ≤ 1000000)) := by
  unfold qB; simp only [Bool.and_eq_true, cB_iff, dB_iff, and_assoc]
theorem qE_zero {q : Qt} : qE q = 0 ↔ qB q = true := by unfold qE; split <;> simp_all
theorem tdiv_le {a g : Int} {m : Int} (ha : -m ≤ a ∧ a ≤ m) : -m ≤ a.tdiv g ∧ a.tdiv g ≤ m := by
  have h := Int.natAbs_tdiv_le_natAbs a g
  omega
theorem mulb {x y m n : Int} (hx : -m ≤ x ∧ x ≤ m) (hy : -n ≤ y ∧ y ≤ n) : -(m * n) ≤ x * y ∧ x * y ≤ m * n := by
  have h1 : x.natAbs ≤ m.toNat := by omega
  have h2 : y.natAbs ≤ n.toNat := by omega
  have h3 := Nat.mul_le_mul h1 h2
  rw [← Int.natAbs_mul] at h3
  have h4 : ((m.toNat * n.toNat : Nat) : Int) = m * n := by rw [Int.natCast_mul, Int.toNat_of_nonneg (by omega), Int.toNat_of_nonneg (by omega)]
  omega
end FF
end
section
namespace Go.Proofs.YthkklilhjnpedaaGreat
open Go.RowKit FF
theorem agree_step {α : Type} {xs ys : List α} {i : Nat} {d : α} (hl : xs.length = ys.length) (hi : i < xs.length) (h : xs.take i = ys.take i) (he : xs.getD i d = ys.getD i d) : xs.take (i + 1) = ys.take (i + 1) := by
  simp only [List.getD_eq_getElem?_getD] at he
  rw [List.getElem?_eq_getElem hi, List.getElem?_eq_getElem (hl ▸ hi)] at he
  simp only [Option.getD_some] at he
  rw [List.take_add_one, List.take_add_one, h, List.getElem?_eq_getElem hi, List.getElem?_eq_getElem (hl ▸ hi), he]
theorem agree_not {α : Type} {xs ys : List α} {i : Nat} {d : α} (he : xs.getD i d ≠ ys.getD i d) : xs ≠ ys := fun h => he (by rw [h])
theorem below_two {w : World} {o1 o2 : Obj} (m : Nat) : Below w.heap.size w (((w.alloc o1).alloc o2).drewN m) :=
  below_drewN (((Below.refl _ _).alloc (Nat.le_refl _) _).alloc (by simp) _) m
set_option maxHeartbeats 1000000 in
theorem SameInt_eq (bx by' : Bool) (A A' : Option Addr) (xs ys : List Nat) (c c' : Nat) (w : World) (hx : Shows .u32 w A xs) (hy : Shows .u32 w A' ys) (hb : bx = by') (hl : xs.length = ys.length) (hn : xs.length ≤ maxLen) :
    Calls Tryz.prog 33 #[.agg #[.bool bx, .slice A xs.length c], .agg #[.bool by', .slice A' ys.length c']] w fun e w' =>
      e = .returned (.bool (decide (bx = by' ∧ xs = ys))) ∧ Below w.heap.size w w' := by
  have f1 := Lib.hid (fun (i : Nat) (h1 : i < xs.length) h2 h3 => agree_step (d := 0) hl h1 h2 h3)
  have f2 := Lib.hid (fun (i : Nat) (h : xs.getD i 0 ≠ ys.getD i 0) => (show decide (bx = by' ∧ xs = ys) = false from decide_eq_false (fun h3 => agree_not h h3.2)))
  have f3 := Lib.hid (fun h : xs.take xs.length = ys.take xs.length => (show decide (bx = by' ∧ xs = ys) = true from decide_eq_true ⟨hb, by rw [List.take_of_length_le (Nat.le_refl _), List.take_of_length_le (by omega)] at h; exact h⟩))
  have HX := Lib.hid (show 0 < xs.length → ∃ b o, A = some ⟨b, o, none⟩ ∧ b < w.heap.size ∧ ∀ i, i < xs.length → w.cell? ⟨b, o + i, none⟩ = some (.int .u32 (xs.getD i 0 : Nat)) from hx)
  have HY := Lib.hid (show 0 < xs.length → ∃ b o, A' = some ⟨b, o, none⟩ ∧ b < w.heap.size ∧ ∀ i, i < xs.length → w.cell? ⟨b, o + i, none⟩ = some (.int .u32 (ys.getD i 0 : Nat)) from by rw [hl]; exact hy)
  rw [← hl]
  clear hx hy hl
  subst hb
  unfold maxLen at hn
  generalize decide (bx = bx ∧ xs = ys) = R at *
  generalize xs.length = n at *
  have hbb : (bx != bx) = false := by simp
  go_enter Tryz.func33, Tryz.ntmps33
  go_wp2_with fail
  go_loopw [5] (fun s wr => ∃ k : Nat, s = .int .i64 k ∧ k ≤ n ∧ xs.take k = ys.take k ∧ ∃ m, wr = ((w.alloc (.cells #[.bool bx, .slice A n c] 47)).alloc (.cells #[.bool bx, .slice A' n c'] 47)).drewN m) (fun s _ => n - (intOf s).toNat)
  case atStart => exact ⟨0, rfl, by omega, rfl, 0, rfl⟩
  case round =>
    obtain ⟨k, rfl, hk, hd, m, rfl⟩ := hrel
    have HD := Lib.hid hd; clear hd
    by_cases h0 : k < n
    · obtain ⟨b1, o1, rfl, hb1, hc1⟩ := HX.out (by omega)
      obtain ⟨b2, o2, rfl, hb2, hc2⟩ := HY.out (by omega)
      have x1 := hc1 k h0
      have x2 := hc2 k h0
      have q1 := f1.out k h0 HD.out
      have q2 := f2.out k
      clear hc1 hc2 f1 f2 f3 HX HY HD
      generalize xs.getD k 0 = x at *
      generalize ys.getD k 0 = y at *
      by_cases hxy : x = y
      · have hQ := Lib.hid (q1 hxy)
        clear q1 q2
        subst hxy
        go_wp2
        go_big_quiet (fail)
        go_wp2
        exact ⟨⟨k + 1, by go_num, by omega, hQ.out, _, rfl⟩, by simp [intOf]; omega⟩
      · have hQ := Lib.hid (q2 hxy)
        clear q1 q2
        have d1 : ((x : Int) != y) = true := bne_iff_ne.2 (by omega)
        go_wp2
        go_big_quiet (fail)
        go_wp2
        go_ret
        exact ⟨by rw [hQ.out]; rfl, by rw [World.drewN_drewN]; exact below_two _⟩
    · obtain rfl : k = n := by omega
      have hQ := Lib.hid (f3.out HD.out)
      clear f1 f2 f3 HX HY HD
      go_wp2
      go_ret
      exact ⟨by rw [hQ.out]; rfl, below_two _⟩
set_option maxHeartbeats 1000000 in
theorem SameInt_ne (bx by' : Bool) (A A' : Option Addr) (n m : Nat) (c c' : Nat) (w : World) (h : bx ≠ by' ∨ n ≠ m) :
    Calls Tryz.prog 33 #[.agg #[.bool bx, .slice A n c], .agg #[.bool by', .slice A' m c']] w fun e w' =>
      e = .returned (.bool false) ∧ Below w.heap.size w w' := by
  by_cases hb : bx = by'
  · have h2 : ((n : Int) != (m : Int)) = true := by
      rw [bne_iff_ne]; intro e; have : n = m := by omega
      rcases h with h | h <;> contradiction
    subst hb
    have hbb : (bx != bx) = false := by simp
    clear h
    go_enter Tryz.func33, Tryz.ntmps33
    go_wp2_with fail
    go_ret
    exact ⟨rfl, below_two 0⟩
  · clear h
    cases bx <;> cases by'
    · exact absurd rfl hb
    · go_enter Tryz.func33, Tryz.ntmps33
      go_wp2_with fail
      go_ret
      exact ⟨rfl, below_two 0⟩
    · go_enter Tryz.func33, Tryz.ntmps33
      go_wp2_with fail
      go_ret
      exact ⟨rfl, below_two 0⟩
    · exact absurd rfl hb
theorem SameInt_any (bx by' : Bool) (A A' : Option Addr) (xs ys : List Nat) (c c' : Nat) (w : World) (hx : Shows .u32 w A xs) (hy : Shows .u32 w A' ys) (hn : xs.length ≤ maxLen) :
    Calls Tryz.prog 33 #[.agg #[.bool bx, .slice A xs.length c], .agg #[.bool by', .slice A' ys.length c']] w fun e w' =>
      e = .returned (.bool (decide (bx = by' ∧ xs = ys))) ∧ Below w.heap.size w w' := by
  by_cases h : bx = by' ∧ xs.length = ys.length
  · exact SameInt_eq bx by' A A' xs ys c c' w hx hy h.1 h.2 hn
  · have hd : decide (bx = by' ∧ xs = ys) = false := decide_eq_false (fun h2 => h ⟨h2.1, by rw [h2.2]⟩)
    rw [hd]
    refine SameInt_ne bx by' A A' _ _ c c' w ?_
    by_cases hb : bx = by'
    · exact .inr (fun e => h ⟨hb, e⟩)
    · exact .inl hb
end Go.Proofs.YthkklilhjnpedaaGreat
end
