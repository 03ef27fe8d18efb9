/- What the law IntegerFactors needs. -/
import Derived.Test.YtfjmhfmhijhpkaaOcl
import Derived.Test.YtfjmhfmhijhpkaaRkf
import Derived.Test.YtfjmhfmhijhpkaaDvw
import Derived.Test.YtfjmhfmhijhpkaaAwk
import Derived.Test.YtfjmhfmhijhpkaaSym0
namespace Go.Proofs.Ytfjmhfmhijhpkaa
open Go.RowKit FF
attribute [local go_sem ↓] Go.wp_at_zero Go.wp_at_succ

theorem ShowsS.at {w : World} {A : Option Addr} {L : List Stpp} (h : ShowsS w A L) {i : Nat} (hi : i < L.length) : ∃ b o A' c', A = some ⟨b, o, none⟩ ∧ b < w.heap.size ∧ w.cell? ⟨b, o + i * 3 + 2, none⟩ = some (.slice A' (L.getD i (0, 0, [])).2.2.length c') ∧ (L.getD i (0, 0, [])).2.2.length ≤ c' ∧ c' ≤ maxLen := by
  obtain ⟨b, o, e, hb, hc⟩ := h (by omega)
  obtain ⟨A', c', -, -, h1, -, h2⟩ := hc i hi
  exact ⟨b, o, A', c', e, hb, h1, h2⟩
theorem ShowsL.at {w : World} {A : Option Addr} {Ls : List (List Stpp)} (h : ShowsL w A Ls) {i : Nat} (hi : i < Ls.length) : ∃ b o A' c', A = some ⟨b, o, none⟩ ∧ b < w.heap.size ∧ w.cell? ⟨b, o + i, none⟩ = some (.slice A' (Ls.getD i []).length c') ∧ ShowsS w A' (Ls.getD i []) ∧ (Ls.getD i []).length ≤ c' ∧ c' ≤ maxLen := by
  obtain ⟨b, o, e, hb, hc⟩ := h (by omega)
  obtain ⟨A', c', h1⟩ := hc i hi
  exact ⟨b, o, A', c', e, hb, h1⟩
theorem if_bne (x : Int) : (x != x) = false := by simp
theorem if_draws {w w' : World} {m : Nat} (h : Below (w.drewN m).heap.size (w.drewN m) w') : Below w.heap.size w w' := (below_drewN (Below.refl _ _) m).trans h
theorem stepsI_map' {n : Int} (hn : IsP n.toNat) (hn9 : n ≤ 1000000000) {ks : List Int} (hk : ∀ m ∈ ks, FF.Reach n m) : StepsI (ks.map stepOf) := by
  intro i hi
  rw [List.length_map] at hi
  rw [map_getD hi]
  obtain ⟨p1, p2, p3⟩ := (hk _ (getD_mem hi)).prime hn
  obtain ⟨r1, r2, -⟩ := rootOf_spec p1
  refine ⟨⟨by show _ ≤ ks.getD i 0; omega, by show ks.getD i 0 ≤ _; omega⟩, ⟨by show _ ≤ rootOf _; omega, by show rootOf _ ≤ _; omega⟩, fun j hj => ?_⟩
  have := mem_of_primesOf p1 (getD_mem (l := primesOf (ks.getD i 0 - 1)) (j := j) hj)
  exact ⟨by show _ ≤ (primesOf (ks.getD i 0 - 1)).getD j 0; omega, by show (primesOf (ks.getD i 0 - 1)).getD j 0 ≤ _; omega⟩
set_option maxHeartbeats 4000000 in
theorem powers_same (A B : Option Addr) (l : List Int) (n c1 c2 : Nat) (w : World) (hA : ShowsI w A l) (hB : ShowsI w B l) (hl : l.length = 2 * n) (hn9 : n ≤ 100) :
    Calls Try.prog 40 #[.slice A n c1, .slice B n c2] w fun e w' => e = .returned (.bool true) ∧ Below w.heap.size w w' := by
  have HXA := Lib.hid hA
  have HXB := Lib.hid hB
  have HN := Lib.hid hl
  clear hA hB hl
  go_enter Try.func40, Try.ntmps40
  go_wp2_with fail
  go_loopw [5] (fun s5 wr => ∃ (k : Nat), s5 = .int .i64 k ∧ k ≤ n ∧ Below w.heap.size w wr) (fun s _ => n - (RowKit.intOf s).toNat)
  case atStart => exact ⟨0, rfl, by omega, Below.refl _ _⟩
  case round =>
    obtain ⟨k, rfl, hk, hb⟩ := hrel
    have HB := Lib.hid hb; clear hb
    by_cases h0 : k < n
    · obtain ⟨b1, o1, rfl, hb1, hc1⟩ := (HXA.out.below HB.out) (by have := HN.out; omega)
      obtain ⟨b2, o2, rfl, hb2, hc2⟩ := (HXB.out.below HB.out) (by have := HN.out; omega)
      have x0 := hc1 (2 * k) (by have := HN.out; omega)
      have x1 := hc1 (2 * k + 1) (by have := HN.out; omega)
      have y0 := hc2 (2 * k) (by have := HN.out; omega)
      have y1 := hc2 (2 * k + 1) (by have := HN.out; omega)
      rw [show o1 + 2 * k = o1 + k * 2 by omega] at x0
      rw [show o1 + (2 * k + 1) = o1 + k * 2 + 1 by omega] at x1
      rw [show o2 + 2 * k = o2 + k * 2 by omega] at y0
      rw [show o2 + (2 * k + 1) = o2 + k * 2 + 1 by omega] at y1
      clear hc1 hc2 HXA HXB
      generalize l.getD (2 * k) 0 = u0 at *
      generalize l.getD (2 * k + 1) 0 = u1 at *
      have kb1 : (0 : Int) ≤ (k : Int) := by omega
      have kb2 : (k : Int) < (n : Int) := by omega
      go_upto_region 6 with fail
      go_region
      go_wp2_with fail
      exact ⟨⟨k + 1, by go_num, by omega, HB.out.drew⟩, by simp [RowKit.intOf]; omega⟩
    · obtain rfl : k = n := by omega
      go_wp2_with fail
      go_ret
      exact ⟨rfl, HB.out⟩
set_option maxHeartbeats 1000000 in
theorem Factor_bad (n : Int) (w : World) (hb : modB n = false) : Calls Try.prog 35 #[.int .i64 n] w fun e w' => e = .returned (.tuple #[.slice none 0 0, .int .i64 2]) ∧ Below w.heap.size w w' := by
  have hM := Lib.hid (fun w => hb ▸ modulus_any n w)
  go_enter Try.func35, Try.ntmps35
  go_wp2_with fail
  refine (hM.out _).mono ?_
  rintro e w' ⟨rfl, n1, rfl⟩
  go_wp2_with fail
  go_ret2
  exact ⟨rfl, below_drewN (Below.refl _ _) _⟩
/-- what the proofs of the primes so far are -/
def Prf (F : List (Int × Nat)) (ls : List (Value × List Refs)) (k : Nat) : Prop := ls.length = k ∧ (∀ i, i < k → CkE (F.getD i (0, 0)).1 ((stepsOf ls).getD i []) 0) ∧ ListsI (stepsOf ls)
theorem Prf.start (F : List (Int × Nat)) : Prf F [] 0 := ⟨rfl, (fun i hi => absurd hi (by omega)), fun i hi => absurd hi (by simp [stepsOf])⟩
theorem stepsOf_at {ls : List (Value × List Refs)} {y : Value × List Refs} {k i : Nat} (hk : ls.length = k) (hi : i < k + 1) : (stepsOf (ls ++ [y])).getD i [] = if i < k then (stepsOf ls).getD i [] else y.2.map fun z => z.1 := by
  unfold stepsOf
  rw [List.map_append, List.getD_eq_getElem?_getD]
  split
  · rw [List.getElem?_append_left (by rw [List.length_map]; omega), List.getD_eq_getElem?_getD]
  · rw [List.getElem?_append_right (by rw [List.length_map]; omega), List.length_map, show i - ls.length = 0 by omega]; rfl
theorem Prf.step {F : List (Int × Nat)} {ls : List (Value × List Refs)} {k : Nat} {q : Int} {v : Value} {os : List Refs} {ks : List Int} (h : Prf F ls k) (hq : (F.getD k (0, 0)).1 = q) (hp : IsP q.toNat) (h9 : q ≤ 1000000000) (hasc : ks.Pairwise (· < ·)) (hk : ∀ m, m ∈ ks ↔ FF.Reach q m)
    (he : os.map (fun x => x.1) = ks.map stepOf) : Prf F (ls ++ [(v, os)]) (k + 1) := by
  refine ⟨by rw [List.length_append, h.1]; rfl, fun i hi => ?_, fun i hi => ?_⟩
  · rw [stepsOf_at h.1 hi]
    split
    · exact h.2.1 i (by assumption)
    · rw [show i = k by omega, hq]
      show CkE q (os.map fun z => z.1) 0
      rw [he]
      exact cert_ok hp h9 hasc hk
  · have hi' : i < k + 1 := by simpa [stepsOf, h.1] using hi
    rw [stepsOf_at h.1 hi']
    split
    · exact h.2.2 i (by rw [show (stepsOf ls).length = k by unfold stepsOf; rw [List.length_map, h.1]]; assumption)
    · show StepsI (os.map fun z => z.1)
      rw [he]
      exact stepsI_map' hp h9 (fun m hm => (hk m).1 hm)
theorem Prf.good {n : Int} {ls : List (Value × List Refs)} {k : Nat} (hk : (facs n).length = k) (h : Prf (facs n) ls k) : CfGood n (castP (facs n)) (stepsOf ls) := by
  refine ⟨rfl, by unfold stepsOf castP; rw [List.length_map, List.length_map, h.1, hk], fun i hi => ?_⟩
  have hi' : i < (facs n).length := by simpa [castP] using hi
  rw [castP_get hi']
  exact h.2.1 i (by omega)
theorem castP_i64 {n : Int} (h1 : 1 ≤ n) (h2 : n ≤ 1000000000) {i : Nat} (hi : i < (facs n).length) : I64 ((castP (facs n)).getD i (0, 0)).1 ∧ I64 ((castP (facs n)).getD i (0, 0)).2 := by
  obtain ⟨p, e, M, hpe, -, -, -, p2, pn, e1, M1, -, hle⟩ := facs_at h1 hi
  rw [castP_get hi, hpe]
  have t1 := succ_le_pow p2 e
  have t2 := Int.mul_le_mul_of_nonneg_right M1 (show 0 ≤ p ^ e by omega)
  exact ⟨⟨by show _ ≤ p; omega, by show p ≤ _; omega⟩, ⟨by show _ ≤ (e : Int); omega, by show (e : Int) ≤ _; omega⟩⟩
end Go.Proofs.Ytfjmhfmhijhpkaa
