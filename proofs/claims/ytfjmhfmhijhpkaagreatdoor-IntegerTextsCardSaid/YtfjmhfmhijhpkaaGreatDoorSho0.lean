/- The reference's integers: quotient and remainder, greatest common divisor. Integers: quotient and remainder of both, in one form; the reference's greatest common divisor. The laws' test of the lengths; equal integers. -/
import Derived.Test.YtfjmhfmhijhpkaaGreatDoorRsu
import Derived.Test.YtfjmhfmhijhpkaaGreatDoorAwk
namespace Go.Proofs.YtfjmhfmhijhpkaaGreatDoor
open Go.RowKit FF

end Go.Proofs.YtfjmhfmhijhpkaaGreatDoor
namespace Go.Proofs.YtfjmhfmhijhpkaaGreatDoor
open Go.RowKit FF

/-- what DivMod leaves, the divisor not 0 -/
def DMPost (w : World) (x y : Int) (e : Ending) (w' : World) : Prop :=
  ∃ A2 c2 A3 c3, e = .returned (.tuple #[.agg #[.bool (decide (x / y < 0)), .slice A2 (wl (x / y).natAbs) c2], .agg #[.bool (decide (x % y < 0)), .slice A3 (wl (x % y).natAbs) c3], .int .i64 0]) ∧
    Shows .u32 w' A2 (digs WB (x / y).natAbs) ∧ Shows .u32 w' A3 (digs WB (x % y).natAbs) ∧ wl (x / y).natAbs ≤ c2 ∧ c2 ≤ maxLen ∧ wl (x % y).natAbs ≤ c3 ∧ c3 ≤ maxLen ∧ Below w.heap.size w w'

theorem DivMod_int (s t : Bool) (A A' : Option Addr) (n m c c' : Nat) (x y : Int) (w : World) (hx : AI w s A n c x) (hy : AI w t A' m c' y) (hlen : n + m ≤ 400000) (hy0 : y ≠ 0) :
    Calls Tryz.prog 72 #[.agg #[.bool s, .slice A n c], .agg #[.bool t, .slice A' m c']] w (DMPost w x y) := by
  have h1 := hx.wl_le
  have h2 := hy.wl_le
  obtain ⟨xs, rfl, X, dx, hcx, hcx2, rfl, -⟩ := hx
  obtain ⟨ys, rfl, Y, dy, hcy, hcy2, rfl, -⟩ := hy
  rw [sval_natAbs] at h1 h2
  have hb0 : 0 < val WB ys := Nat.pos_of_ne_zero fun e => hy0 (by rw [e]; cases t <;> rfl)
  refine (DivMod_any s t A A' xs ys c c' w X dx hcx hcx2 Y dy hcy hcy2 (by omega) (by omega) hb0 (divKnown hb0)).mono ?_
  rintro e w' ⟨Q, R, A2, c2, A3, c3, rfl, rfl, h⟩
  obtain ⟨h1, h2, h3, h4, h5, h6, h7, h8⟩ := h
  exact ⟨A2, c2, A3, c3, h1, h2, h3, h4, h5, h6, h7, h8⟩
theorem DivMod_none (s t : Bool) (A A' : Option Addr) (n m c c' : Nat) (x y : Int) (w : World) (hx : AI w s A n c x) (hy : AI w t A' m c' y) (hy0 : y = 0) :
    Calls Tryz.prog 72 #[.agg #[.bool s, .slice A n c], .agg #[.bool t, .slice A' m c']] w fun e w' =>
      e = .returned (.tuple #[.agg #[.bool false, .slice none 0 0], .agg #[.bool false, .slice none 0 0], .int .i64 10]) ∧ Below w.heap.size w w' := by
  obtain ⟨xs, rfl, -⟩ := hx
  obtain ⟨ys, rfl, Y, dy, hcy, hcy2, h0, -⟩ := hy
  refine DivMod_zero s t A A' xs ys c c' w Y dy hcy hcy2 ?_
  rw [hy0] at h0
  cases t <;> simp [sval] at h0 <;> omega

/-- what holds at the head of the reference's Gcd's loop -/
def RGcdRel (G L : Nat) (W0 : World) (B0 : Nat) (gk : Nat) (s5 s6 : Value) (wr : World) : Prop :=
  ∃ (A1 : Option Addr) (c1 : Nat) (A2 : Option Addr) (c2 a b : Nat), s5 = .slice A1 (hl a) c1 ∧ s6 = .slice A2 (hl b) c2 ∧ gk = b ∧ Nat.gcd a b = G ∧ hl a ≤ c1 ∧ c1 ≤ maxLen ∧ hl b ≤ c2 ∧ c2 ≤ maxLen ∧ hl a ≤ L ∧ hl b ≤ L ∧
    Shows .i64 wr A1 (digs HB a) ∧ Shows .i64 wr A2 (digs HB b) ∧ Below B0 W0 wr

end Go.Proofs.YtfjmhfmhijhpkaaGreatDoor
namespace Go.Proofs.YtfjmhfmhijhpkaaGreatDoor
open Go.RowKit FF

/-- all lengths are at most 6 -/
def shortB (ls : List Nat) : Bool := ls.all fun l => decide (l ≤ 6)
theorem shortB_get {ls : List Nat} {i : Nat} (h : shortB ls = true) (hi : i < ls.length) : ls.getD i 0 ≤ 6 := by
  have := List.all_eq_true.1 h (ls.getD i 0) (by rw [List.getD_eq_getElem?_getD, List.getElem?_eq_getElem hi]; exact List.getElem_mem _)
  exact of_decide_eq_true this
theorem shortB_of {ls : List Nat} (h : ∀ i, i < ls.length → ls.getD i 0 ≤ 6) : shortB ls = true := by
  unfold shortB
  rw [List.all_eq_true]
  intro x hx
  obtain ⟨i, hi, rfl⟩ := List.getElem_of_mem hx
  have := h i hi
  rw [List.getD_eq_getElem?_getD, List.getElem?_eq_getElem hi] at this
  exact decide_eq_true this
theorem shortB_not {ls : List Nat} {i : Nat} (hi : i < ls.length) (h : 6 < ls.getD i 0) : shortB ls = false := by
  cases hb : shortB ls
  · rfl
  · have := shortB_get hb hi; omega

set_option maxHeartbeats 400000 in
theorem short_law (g : Nat) (ls : List Nat) (c : Nat) (w : World) (hl : ls.length ≤ 1000) (h : ∀ i, i < ls.length → ∃ A c', w.cell? ⟨g, i * 2 + 1, none⟩ = some (.slice A (ls.getD i 0) c') ∧ ls.getD i 0 ≤ 9223372036854775807) :
    Calls Tryz.prog 23 #[.slice (some ⟨g, 0, none⟩) ls.length c] w fun e w' => e = .returned (.bool (shortB ls)) ∧ w = w' := by
  have HC := Lib.hid h
  have HT := Lib.hid (fun h => shortB_of (ls := ls) h)
  have HF := Lib.hid (fun i hi h => shortB_not (ls := ls) (i := i) hi h)
  clear h
  generalize shortB ls = b at *
  obtain ⟨n, hn⟩ : ∃ n, ls.length = n := ⟨_, rfl⟩
  rw [hn] at HC HT HF hl ⊢
  clear hn
  go_enter Tryz.func23, Tryz.ntmps23
  go_wp2
  go_loop [3] (fun s3 => ∃ i : Nat, s3 = .int .i64 i ∧ i ≤ n ∧ ∀ j, j < i → ls.getD j 0 ≤ 6) (fun s => n - (intOf s).toNat)
  case atStart => exact ⟨0, rfl, Nat.zero_le _, fun j hj => absurd hj (by omega)⟩
  case round =>
    obtain ⟨i, rfl, hin, hall⟩ := hrel
    have HA := Lib.hid hall
    clear hall
    by_cases hlt : i < n
    · obtain ⟨A, c', hc, hm⟩ := HC.out i hlt
      have hF := Lib.hid (HF.out i hlt)
      have hS := Lib.hid (fun (hx : ls.getD i 0 ≤ 6) => (fun j hj => by
        by_cases e : j = i
        · rw [e]; exact hx
        · exact HA.out j (by omega) : ∀ j, j < i + 1 → ls.getD j 0 ≤ 6))
      clear HC HT HF HA
      generalize ls.getD i 0 = l at *
      by_cases h6 : l ≤ 6
      · have hS2 := Lib.hid (hS.out h6)
        have h6' : ¬ (6 : Int) < l := by omega
        clear hS hF
        go_wp2
        exact ⟨⟨i + 1, by go_num, by omega, hS2.out⟩, by simp [intOf]; omega⟩
      · have hF2 := Lib.hid (hF.out (by omega))
        have h6' : (6 : Int) < l := by omega
        clear hS hF
        go_wp2
        go_ret
        exact ⟨ret_bool hF2.out.symm, rfl⟩
    · obtain rfl : i = n := by omega
      have hT := Lib.hid (HT.out HA.out)
      clear HC HT HF HA
      go_wp2
      go_ret
      exact ⟨ret_bool hT.out.symm, rfl⟩

theorem Same_int (z : Int) (A A' : Option Addr) (c c' : Nat) (w : World) (hx : Shows .u32 w A (digs WB z.natAbs)) (hy : Shows .u32 w A' (digs WB z.natAbs)) (h1 : wl z.natAbs ≤ c) (h2 : c ≤ maxLen) :
    Calls Tryz.prog 29 #[.agg #[.bool (decide (z < 0)), .slice A (wl z.natAbs) c], .agg #[.bool (decide (z < 0)), .slice A' (wl z.natAbs) c']] w fun e w' => e = .returned (.bool true) ∧ Below w.heap.size w w' := by
  have h := SameInt_any (decide (z < 0)) (decide (z < 0)) A A' (digs WB z.natAbs) (digs WB z.natAbs) c c' w hx hy (Nat.le_trans h1 h2)
  refine h.mono ?_
  rintro e w' ⟨he, hb⟩
  exact ⟨by rw [he]; simp, hb⟩

/-- the remainder, and the error, as DivMod tells them -/
def remZ (x y : Int) : Int := if y = 0 then 0 else x % y
def errZ (y : Int) : Int := if y = 0 then 10 else 0
/-- what DivMod leaves -/
def DMAll (w : World) (x y : Int) (e : Ending) (w' : World) : Prop :=
  ∃ A2 c2 A3 c3, e = .returned (.tuple #[.agg #[.bool (decide (x / y < 0)), .slice A2 (wl (x / y).natAbs) c2], .agg #[.bool (decide (remZ x y < 0)), .slice A3 (wl (remZ x y).natAbs) c3], .int .i64 (errZ y)]) ∧
    Shows .u32 w' A2 (digs WB (x / y).natAbs) ∧ Shows .u32 w' A3 (digs WB (remZ x y).natAbs) ∧ wl (x / y).natAbs ≤ c2 ∧ c2 ≤ maxLen ∧ wl (remZ x y).natAbs ≤ c3 ∧ c3 ≤ maxLen ∧ Below w.heap.size w w'
theorem DMAll.of_zero {w w' : World} {x y : Int} {e : Ending} (h0 : y = 0) (he : e = .returned (.tuple #[.agg #[.bool false, .slice none 0 0], .agg #[.bool false, .slice none 0 0], .int .i64 10])) (hb : Below w.heap.size w w') : DMAll w x y e w' := by
  subst h0
  refine ⟨none, 0, none, 0, ?_, ?_, ?_, ?_, by simp [maxLen], ?_, by simp [maxLen], hb⟩
  · rw [he, Int.ediv_zero]; rfl
  · rw [Int.ediv_zero]; exact Shows.nil
  · exact Shows.nil
  · rw [Int.ediv_zero]; exact Nat.le_refl _
  · exact Nat.le_refl _
theorem DMAll.of_post {w w' : World} {x y : Int} {e : Ending} (h0 : y ≠ 0) (h : DMPost w x y e w') : DMAll w x y e w' := by
  unfold DMAll
  rw [show remZ x y = x % y from if_neg h0, show errZ y = 0 from if_neg h0]
  exact h
theorem DivMod_all (s t : Bool) (A A' : Option Addr) (n m c c' : Nat) (x y : Int) (w : World) (hx : AI w s A n c x) (hy : AI w t A' m c' y) (hlen : n + m ≤ 400000) :
    Calls Tryz.prog 72 #[.agg #[.bool s, .slice A n c], .agg #[.bool t, .slice A' m c']] w (DMAll w x y) := by
  by_cases h0 : y = 0
  · exact (DivMod_none s t A A' n m c c' x y w hx hy h0).mono fun _ _ ⟨he, hb⟩ => DMAll.of_zero h0 he hb
  · exact (DivMod_int s t A A' n m c c' x y w hx hy hlen h0).mono fun _ _ h => DMAll.of_post h0 h
end Go.Proofs.YtfjmhfmhijhpkaaGreatDoor
