/- Texts of elements: numbers, as the reference reads them. -/
import Derived.Test.YtimdkjbmeogpoaaGreatDoorTRth
namespace Go.Proofs.YtimdkjbmeogpoaaGreatDoor
open Go.RowKit FF
theorem decVal_lt : ∀ (n : Nat) (l : List UInt8), l.length = n → (∀ c ∈ l, isDig c = true) → decVal l < 10 ^ n
  | 0, l, hl, _ => by
    rw [List.length_eq_zero_iff.1 hl]; decide
  | n + 1, l, hl, h => by
    have hne : l ≠ [] := by intro e; rw [e] at hl; simp at hl
    obtain ⟨m, c, rfl⟩ : ∃ m c, l = m ++ [c] := ⟨l.dropLast, l.getLast hne, (List.dropLast_concat_getLast hne).symm⟩
    have := decVal_lt n m (by simp at hl; exact hl) (fun x hx => h x (List.mem_append_left _ hx))
    have hc := h c (List.mem_append_right _ (List.mem_singleton.2 rfl))
    unfold isDig at hc
    simp only [Bool.and_eq_true, decide_eq_true_eq] at hc
    rw [decVal_snoc, Nat.pow_succ]
    omega
structure NumI (D : List UInt8) (k : Nat) : Prop where
  le : k ≤ D.length
  dig : ∀ c ∈ D.take k, isDig c = true
theorem NumI.lt {D : List UInt8} {k : Nat} (h : NumI D k) (h7 : D.length ≤ 7) : decVal (D.take k) < 10000000 := by
  have h1 := decVal_lt _ _ rfl h.dig
  have h2 : (D.take k).length ≤ 7 := by rw [List.length_take]; omega
  have h3 : 10 ^ (D.take k).length ≤ 10 ^ 7 := Nat.pow_le_pow_right (by decide) h2
  omega
theorem take_snoc {D : List UInt8} {k : Nat} {c : UInt8} (hc : D[k]? = some c) : D.take (k + 1) = D.take k ++ [c] := by
  rw [List.take_add_one, hc]; rfl
theorem NumI.step {D : List UInt8} {k : Nat} {c : UInt8} (h : NumI D k) (hc : D[k]? = some c) (hd : isDig c = true) : NumI D (k + 1) ∧ decVal (D.take (k + 1)) = 10 * decVal (D.take k) + (c.toNat - 48) := by
  have hk := (List.getElem?_eq_some_iff.1 hc).1
  refine ⟨⟨hk, fun x hx => ?_⟩, by rw [take_snoc hc, decVal_snoc]⟩
  rw [take_snoc hc, List.mem_append, List.mem_singleton] at hx
  rcases hx with hx | rfl
  · exact h.dig x hx
  · exact hd
theorem NumI.bad {D : List UInt8} {k : Nat} {c : UInt8} (hc : D[k]? = some c) (hd : isDig c = false) : D.all isDig = false := by
  rw [List.all_eq_false]
  exact ⟨c, List.mem_of_getElem? hc, by simp [hd]⟩
theorem NumI.done {D : List UInt8} (h : NumI D D.length) : D.all isDig = true := List.all_eq_true.2 fun c hc => h.dig c (by rw [List.take_length]; exact hc)
theorem numR_bad {l : List UInt8} (h : (cutS l).all isDig = false) : numR l = 0 := by
  unfold numR; rw [h]; split <;> rfl
theorem numR_none {l : List UInt8} (h : cutS l = []) : numR l = 0 := by unfold numR; rw [if_pos (.inl h)]
theorem numR_good {l : List UInt8} (h : (cutS l).all isDig = true) (h1 : cutS l ≠ []) (h7 : (cutS l).length ≤ 7) : numR l = zOf (negS l) (decVal (cutS l)) := by
  unfold numR; rw [h, if_neg (by rintro (g | g); exact h1 g; omega), if_pos rfl]
def NumPost (l : List UInt8) (w : World) (e : Ending) (w' : World) : Prop := (∃ ok : Bool, e = .returned (.tuple #[.int .i64 (numR l), .bool ok])) ∧ Below w.heap.size w w'
theorem dig_no {c : UInt8} (h : ¬ (48 ≤ c.toNat ∧ c.toNat ≤ 57)) : isDig c = false := by
  unfold isDig; simp only [Bool.and_eq_false_iff, decide_eq_false_iff_not]; omega
theorem dig_yes {c : UInt8} (h1 : 48 ≤ c.toNat) (h2 : c.toNat ≤ 57) : isDig c = true := by
  unfold isDig; simp [h1, h2]
set_option maxHeartbeats 4000000 in
set_option maxRecDepth 100000 in
theorem Number_neg (D : List UInt8) (w : World) (h7 : D.length ≤ 6) :
    Calls Tryz.prog 100 #[.string ⟨(45 :: D).toArray⟩, .int .i64 7] w (NumPost (45 :: D) w) := by
  obtain ⟨l, hl⟩ : ∃ l, l = (45 :: D) := ⟨_, rfl⟩
  have hlen0 : 0 < l.length := by rw [hl]; simp
  have hi0 := byte_at (l := l) (j := 0) (c := 45) hlen0 (by rw [hl]; rfl)
  have hcut : cutS l = D := by rw [hl]; rfl
  have hneg : negS l = true := by rw [hl]; rfl
  have hgk : ∀ k, l[1 + k]? = D[k]? := fun k => by rw [hl, Nat.add_comm]; rfl
  have hlen : l.length = 1 + D.length := by rw [hl]; simp; omega
  have hD7 : D.length ≤ 6 := by omega
  rw [← hl]
  have HG := Lib.hid hgk; have HC := Lib.hid hcut; have HN := Lib.hid hneg; have HL := Lib.hid hlen; have H7 := Lib.hid hD7
  have e1 : decide (0 < l.length) = true := decide_eq_true hlen0
  have e2 : decide ((0 : Int) < (l.length : Int)) = true := decide_eq_true (by omega)
  clear hl hgk hcut hneg
  go_enter Tryz.func100, Tryz.ntmps100
  by_cases hD : D = []
  · have hl1 : l.length = 1 := by rw [hlen, hD]; rfl
    have HR := Lib.hid (numR_none (HC.out.trans hD))
    clear hlen hD hD7
    have e3 : (l.length : Int) = 1 := by omega
    go_wp2_with fail
    go_ret2
    exact ⟨⟨false, by rw [HR.out]; rfl⟩, Below.refl _ _⟩
  have HNe := Lib.hid hD
  have hp : 0 < D.length := List.length_pos_iff.2 hD
  have e3 : ¬ (l.length : Int) - 1 < 1 := by omega
  have e4 : ¬ 7 < (l.length : Int) - 1 := by omega
  clear hD hp
  have e5 : (l.length : Int) ≤ 8 := by omega
  clear hlen hD7
  go_wp2_with fail
  go_loopw [7, 8] (fun s7 s8 wr => ∃ k : Nat, s7 = .int .i64 (decVal (D.take k) : Nat) ∧ s8 = .int .i64 ((1 + k : Nat) : Int) ∧ NumI D k ∧ Below w.heap.size w wr) (fun _ s _ => l.length - (intOf s).toNat)
  case atStart => exact ⟨0, rfl, rfl, ⟨Nat.zero_le _, fun c hc => by cases hc⟩, Below.refl _ _⟩
  case round =>
    obtain ⟨k, rfl, rfl, hk, hb⟩ := hrel
    have HB := Lib.hid hb; clear hb
    obtain ⟨v, hv⟩ : ∃ v, v = decVal (D.take k) := ⟨_, rfl⟩
    have hv7 := hk.lt (by have := H7.out; omega)
    rw [← hv] at hv7 ⊢
    obtain ⟨j, hj⟩ : ∃ j, j = 1 + k := ⟨_, rfl⟩
    rw [← hj]
    have hkl := hk.le; have hLL := HL.out
    by_cases hlt : j < l.length
    · obtain ⟨c, hc⟩ : ∃ c, l[j]? = some c := ⟨_, List.getElem?_eq_getElem hlt⟩
      have hgk := byte_at hlt hc
      have hcD : D[k]? = some c := by rw [← HG.out, ← hj]; exact hc
      have hcl := c.toNat_lt
      have d1 : decide (j < l.length) = true := decide_eq_true hlt
      have d2 : decide ((j : Int) < (l.length : Int)) = true := decide_eq_true (by omega)
      by_cases h1 : 48 ≤ c.toNat
      · have d4 : ¬ (c.toNat : Int) < 48 := by omega
        by_cases h2 : c.toNat ≤ 57
        · have d5 : ¬ 57 < (c.toNat : Int) := by omega
          obtain ⟨hk', hv'⟩ := hk.step hcD (dig_yes h1 h2)
          have HK := Lib.hid hk'
          have HV := Lib.hid hv'
          have d6 : IntKind.u8.wrap ((c.toNat : Int) - 48) = (c.toNat : Int) - 48 := by rw [IntKind.wrap_u8]; omega
          have HVn := Lib.hid hv; have HJ := Lib.hid hj
          clear hk hk' hv' hc hcD hv hj hkl hLL h1 h2
          go_wp2_with fail
          exact ⟨⟨k + 1, by rw [HV.out, ← HVn.out]; exact congrArg (Value.int .i64) (by omega), by rw [HJ.out]; exact congrArg (Value.int .i64) (by omega), HK.out, HB.out⟩, by simp only [intOf]; omega⟩
        · have d5 : (57 : Int) < (c.toNat : Int) := by omega
          have HK := Lib.hid (numR_bad (l := l) (by rw [HC.out]; exact NumI.bad hcD (dig_no (by omega))))
          clear hk hv hc hcD hj hkl hLL h1 h2
          go_wp2_with fail
          go_ret2
          exact ⟨⟨false, by rw [HK.out]; rfl⟩, HB.out⟩
      · have d5 : (c.toNat : Int) < 48 := by omega
        have HK := Lib.hid (numR_bad (l := l) (by rw [HC.out]; exact NumI.bad hcD (dig_no (by omega))))
        clear hk hv hc hcD hj hkl hLL h1
        go_wp2_with fail
        go_ret2
        exact ⟨⟨false, by rw [HK.out]; rfl⟩, HB.out⟩
    · have hkD : k = D.length := by omega
      have d1 : decide (j < l.length) = false := decide_eq_false hlt
      have d2 : decide ((j : Int) < (l.length : Int)) = false := decide_eq_false (by omega)
      subst hkD
      have HR := Lib.hid (numR_good (l := l) (by rw [HC.out]; exact NumI.done hk) (by rw [HC.out]; exact HNe.out) (by rw [HC.out]; have := H7.out; omega))
      rw [List.take_length] at hv
      have HVn := Lib.hid hv
      have HDc := Lib.hid (fun w => Decimal_any (-(v : Int)) w (by omega))
      have d3 : (v : Int) ≤ 10000000 := by omega
      have d4 : (0 : Int) ≤ (v : Int) := by omega
      clear hk hv hj hkl hLL hv7
      go_wp2_with fail
      refine (HDc.out _).mono ?_
      rintro _ w3 ⟨rfl, hb3⟩
      have HB3 := Lib.hid (HB.out.trans (hb3.mono HB.out.size))
      clear hb3
      go_wp2_with fail
      go_ret2
      exact ⟨⟨_, by rw [HR.out, HC.out, HN.out, ← HVn.out]; rfl⟩, HB3.out⟩
set_option maxHeartbeats 4000000 in
set_option maxRecDepth 100000 in
theorem Number_pos (b : UInt8) (D' : List UInt8) (w : World) (hb : b ≠ 45) (h7 : D'.length ≤ 6) :
    Calls Tryz.prog 100 #[.string ⟨(b :: D').toArray⟩, .int .i64 7] w (NumPost (b :: D') w) := by
  obtain ⟨l, hl⟩ : ∃ l, l = (b :: D') := ⟨_, rfl⟩
  obtain ⟨D, hD⟩ : ∃ D, D = (b :: D') := ⟨_, rfl⟩
  have hDl : D = l := by rw [hl, hD]
  have hlen0 : 0 < l.length := by rw [hl]; simp
  have hi0 := byte_at (l := l) (j := 0) (c := b) hlen0 (by rw [hl]; rfl)
  have hb1 : (b.toNat : Int) ≠ 45 := by intro e; apply hb; apply UInt8.toNat_inj.1; simpa using Int.ofNat_inj.1 e
  have hb2 := beq_false_of_ne hb1
  have hcut : cutS l = D := by rw [hDl, hl]; simp [cutS, hb]
  have hneg : negS l = false := by rw [hl]; simp [negS, hb]
  have hgk : ∀ k, l[0 + k]? = D[k]? := fun k => by rw [hDl]; simp
  have hne : D ≠ [] := by rw [hD]; simp
  have hlen : l.length = 0 + D.length := by rw [hDl]; omega
  have hD7 : D.length ≤ 7 := by rw [hD]; simp; omega
  rw [← hl]
  have HG := Lib.hid hgk; have HC := Lib.hid hcut; have HN := Lib.hid hneg; have HL := Lib.hid hlen; have H7 := Lib.hid hD7; have HNe := Lib.hid hne
  have e1 : decide (0 < l.length) = true := decide_eq_true hlen0
  have e2 : decide ((0 : Int) < (l.length : Int)) = true := decide_eq_true (by omega)
  clear hl hgk hcut hneg hb hb1 hD hDl hne
  go_enter Tryz.func100, Tryz.ntmps100
  have e3 : ¬ (l.length : Int) - 0 < 1 := by omega
  have e3' : ¬ (l.length : Int) < 1 := by omega
  have e4 : ¬ 7 < (l.length : Int) - 0 := by omega
  have e4' : ¬ 7 < (l.length : Int) := by omega
  have e5 : (l.length : Int) ≤ 8 := by omega
  clear hlen hD7
  go_wp2_with fail
  go_loopw [7, 8] (fun s7 s8 wr => ∃ k : Nat, s7 = .int .i64 (decVal (D.take k) : Nat) ∧ s8 = .int .i64 ((0 + k : Nat) : Int) ∧ NumI D k ∧ Below w.heap.size w wr) (fun _ s _ => l.length - (intOf s).toNat)
  case atStart => exact ⟨0, rfl, rfl, ⟨Nat.zero_le _, fun c hc => by cases hc⟩, Below.refl _ _⟩
  case round =>
    obtain ⟨k, rfl, rfl, hk, hb⟩ := hrel
    have HB := Lib.hid hb; clear hb
    obtain ⟨v, hv⟩ : ∃ v, v = decVal (D.take k) := ⟨_, rfl⟩
    have hv7 := hk.lt (by have := H7.out; omega)
    rw [← hv] at hv7 ⊢
    obtain ⟨j, hj⟩ : ∃ j, j = 0 + k := ⟨_, rfl⟩
    rw [← hj]
    have hkl := hk.le; have hLL := HL.out
    by_cases hlt : j < l.length
    · obtain ⟨c, hc⟩ : ∃ c, l[j]? = some c := ⟨_, List.getElem?_eq_getElem hlt⟩
      have hgk := byte_at hlt hc
      have hcD : D[k]? = some c := by rw [← HG.out, ← hj]; exact hc
      have hcl := c.toNat_lt
      have d1 : decide (j < l.length) = true := decide_eq_true hlt
      have d2 : decide ((j : Int) < (l.length : Int)) = true := decide_eq_true (by omega)
      by_cases h1 : 48 ≤ c.toNat
      · have d4 : ¬ (c.toNat : Int) < 48 := by omega
        by_cases h2 : c.toNat ≤ 57
        · have d5 : ¬ 57 < (c.toNat : Int) := by omega
          obtain ⟨hk', hv'⟩ := hk.step hcD (dig_yes h1 h2)
          have HK := Lib.hid hk'
          have HV := Lib.hid hv'
          have d6 : IntKind.u8.wrap ((c.toNat : Int) - 48) = (c.toNat : Int) - 48 := by rw [IntKind.wrap_u8]; omega
          have HVn := Lib.hid hv; have HJ := Lib.hid hj
          clear hk hk' hv' hc hcD hv hj hkl hLL h1 h2
          go_wp2_with fail
          exact ⟨⟨k + 1, by rw [HV.out, ← HVn.out]; exact congrArg (Value.int .i64) (by omega), by rw [HJ.out]; exact congrArg (Value.int .i64) (by omega), HK.out, HB.out⟩, by simp only [intOf]; omega⟩
        · have d5 : (57 : Int) < (c.toNat : Int) := by omega
          have HK := Lib.hid (numR_bad (l := l) (by rw [HC.out]; exact NumI.bad hcD (dig_no (by omega))))
          clear hk hv hc hcD hj hkl hLL h1 h2
          go_wp2_with fail
          go_ret2
          exact ⟨⟨false, by rw [HK.out]; rfl⟩, HB.out⟩
      · have d5 : (c.toNat : Int) < 48 := by omega
        have HK := Lib.hid (numR_bad (l := l) (by rw [HC.out]; exact NumI.bad hcD (dig_no (by omega))))
        clear hk hv hc hcD hj hkl hLL h1
        go_wp2_with fail
        go_ret2
        exact ⟨⟨false, by rw [HK.out]; rfl⟩, HB.out⟩
    · have hkD : k = D.length := by omega
      have d1 : decide (j < l.length) = false := decide_eq_false hlt
      have d2 : decide ((j : Int) < (l.length : Int)) = false := decide_eq_false (by omega)
      subst hkD
      have HR := Lib.hid (numR_good (l := l) (by rw [HC.out]; exact NumI.done hk) (by rw [HC.out]; exact HNe.out) (by rw [HC.out]; have := H7.out; omega))
      rw [List.take_length] at hv
      have HVn := Lib.hid hv
      have HDc := Lib.hid (fun w => Decimal_any ((v : Int)) w (by omega))
      have d3 : (v : Int) ≤ 10000000 := by omega
      have d4 : (0 : Int) ≤ (v : Int) := by omega
      clear hk hv hj hkl hLL hv7
      go_wp2_with fail
      refine (HDc.out _).mono ?_
      rintro _ w3 ⟨rfl, hb3⟩
      have HB3 := Lib.hid (HB.out.trans (hb3.mono HB.out.size))
      clear hb3
      go_wp2_with fail
      go_ret2
      exact ⟨⟨_, by rw [HR.out, HC.out, HN.out, ← HVn.out]; rfl⟩, HB3.out⟩
theorem Number_any (l : List UInt8) (w : World) (h0 : l ≠ []) (h7 : l.length ≤ 7) :
    Calls Tryz.prog 100 #[.string ⟨l.toArray⟩, .int .i64 7] w (NumPost l w) := by
  cases l with
  | nil => exact absurd rfl h0
  | cons b D =>
    by_cases hb : b = 45
    · subst hb; exact Number_neg D w (by simp at h7; omega)
    · exact Number_pos b D w hb (by simp at h7; omega)
set_option maxHeartbeats 4000000 in
set_option maxRecDepth 100000 in
theorem value_any (l : List UInt8) (w : World) (h : l.length ≤ 400) :
    Calls Tryz.prog 61 #[.string ⟨l.toArray⟩] w fun e w' => e = .returned (.int .i64 (valR l)) ∧ Below w.heap.size w w' := by
  by_cases h0 : l = []
  · subst h0
    go_enter Tryz.func61, Tryz.ntmps61
    go_wp2_with fail
    go_ret
    exact ⟨rfl, Below.refl _ _⟩
  have hn : l.isEmpty = false := by simpa using h0
  by_cases h7 : 7 < l.length
  · have d1 : (7 : Int) < (l.length : Int) := by omega
    have HV := Lib.hid (show valR l = 0 by unfold valR; rw [if_neg h0, if_pos h7])
    clear h0 h7
    go_enter Tryz.func61, Tryz.ntmps61
    go_wp2_with fail
    go_ret
    exact ⟨by rw [HV.out]; rfl, Below.refl _ _⟩
  · have d1 : ¬ (7 : Int) < (l.length : Int) := by omega
    have HV := Lib.hid (show valR l = numR l by unfold valR; rw [if_neg h0, if_neg h7])
    have HN := Lib.hid (fun w => Number_any l w h0 (by omega))
    clear h0 h7
    go_enter Tryz.func61, Tryz.ntmps61
    go_wp2_with fail
    refine (HN.out _).mono ?_
    rintro _ w3 ⟨⟨b, rfl⟩, hb3⟩
    have HB := Lib.hid hb3; clear hb3
    go_wp2_with fail
    go_ret
    exact ⟨by rw [HV.out]; rfl, HB.out⟩
theorem numR_bnd (l : List UInt8) : -10000000 ≤ numR l ∧ numR l ≤ 10000000 := by
  unfold numR
  by_cases h : cutS l = [] ∨ 7 < (cutS l).length
  · rw [if_pos h]; omega
  · rw [if_neg h]
    by_cases g : (cutS l).all isDig = true
    · rw [if_pos g]
      have h1 := decVal_lt _ (cutS l) rfl (List.all_eq_true.1 g)
      have h3 : 10 ^ (cutS l).length ≤ 10 ^ 7 := Nat.pow_le_pow_right (by decide) (by omega)
      unfold zOf
      split <;> omega
    · rw [if_neg g]; omega
theorem valR_bnd (l : List UInt8) : -10000000 ≤ valR l ∧ valR l ≤ 10000000 := by
  have := numR_bnd l
  unfold valR
  split
  · omega
  · split <;> omega
end Go.Proofs.YtimdkjbmeogpoaaGreatDoor
