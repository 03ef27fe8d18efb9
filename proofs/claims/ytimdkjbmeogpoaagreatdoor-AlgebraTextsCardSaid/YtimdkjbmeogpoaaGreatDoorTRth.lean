/- Texts of elements: digits and numbers, as the reference reads them. -/
import Derived.Test.YtimdkjbmeogpoaaGreatDoorTRtx
namespace Go.Proofs.YtimdkjbmeogpoaaGreatDoor
open Go.RowKit FF
theorem digN_more : ∀ {u : List UInt8} {k : Nat} {c : UInt8}, k ≤ digN u → u[k]? = some c → isDig c = true → k + 1 ≤ digN u
  | [], _, _, _, h, _ => by simp at h
  | b :: u, 0, c, _, h, hd => by
    simp at h; subst h
    unfold digN; simp [hd]
  | b :: u, k + 1, c, hk, h, hd => by
    unfold digN at hk ⊢
    by_cases hb : isDig b = true
    · simp [hb] at hk ⊢
      exact digN_more (u := u) hk (by simpa using h) hd
    · simp [hb] at hk
theorem digN_stop : ∀ {u : List UInt8} {k : Nat}, k ≤ digN u → (∀ c, u[k]? = some c → isDig c = false) → digN u = k
  | [], k, hk, _ => by simp [digN] at hk ⊢; omega
  | b :: u, 0, _, h => by
    have := h b rfl
    unfold digN; simp [this]
  | b :: u, k + 1, hk, h => by
    unfold digN at hk ⊢
    by_cases hb : isDig b = true
    · simp [hb] at hk ⊢
      exact digN_stop (u := u) hk (fun c hc => h c (by simpa using hc))
    · simp [hb] at hk
theorem digN_le (u : List UInt8) : digN u ≤ u.length := List.Sublist.length_le (List.takeWhile_sublist _)
theorem byte_at {l : List UInt8} {j : Nat} {c : UInt8} (hj : j < l.length) (hc : l[j]? = some c) : (⟨l.toArray⟩ : ByteArray)[j]'(by show j < l.toArray.size; simpa using hj) = c := by
  rw [List.getElem?_eq_getElem hj] at hc
  injection hc
set_option maxHeartbeats 4000000 in
set_option maxRecDepth 100000 in
theorem digits_any (l : List UInt8) (a : Nat) (w : World) (ha : a ≤ l.length) (hl : l.length ≤ 400) :
    Calls Tryz.prog 99 #[.string ⟨l.toArray⟩, .int .i64 (a : Int)] w fun e w' => e = .returned (.int .i64 ((digN (l.drop a) : Nat) : Int)) ∧ Below w.heap.size w w' := by
  have HL := Lib.hid hl
  go_enter Tryz.func99, Tryz.ntmps99
  go_wp2_with fail
  go_loopw [5] (fun s5 wr => ∃ k : Nat, s5 = .int .i64 (k : Int) ∧ k ≤ digN (l.drop a) ∧ Below w.heap.size w wr) (fun s _ => l.length - (intOf s).toNat)
  case atStart => exact ⟨0, rfl, Nat.zero_le _, Below.refl _ _⟩
  case round =>
    obtain ⟨k, rfl, hk, hb⟩ := hrel
    have hkl := digN_le (l.drop a)
    rw [List.length_drop] at hkl
    have HB := Lib.hid hb; clear hb
    obtain ⟨j, hj⟩ : ∃ j : Nat, j = a + k := ⟨_, rfl⟩
    have hj' : (a : Int) + (k : Int) = (j : Int) := by omega
    have hgd : (l.drop a)[k]? = l[j]? := by rw [List.getElem?_drop, hj]
    have hjl : j ≤ l.length := by omega
    have hm1 : k ≤ l.length - a := by omega
    by_cases hlt : j < l.length
    · obtain ⟨c, hc⟩ : ∃ c, l[j]? = some c := ⟨_, List.getElem?_eq_getElem hlt⟩
      have hgk := byte_at hlt hc
      have hcl := c.toNat_lt
      have d1 : decide (j < l.length) = true := decide_eq_true hlt
      have d2 : decide ((j : Int) < (l.length : Int)) = true := decide_eq_true (by omega)
      rw [hc] at hgd
      by_cases h1 : 48 ≤ c.toNat
      · have d4 : (48 : Int) ≤ (c.toNat : Int) := by omega
        by_cases h2 : c.toNat ≤ 57
        · have d5 : (c.toNat : Int) ≤ 57 := by omega
          have HK := Lib.hid (digN_more hk hgd (by unfold isDig; simp [h1, h2]))
          clear hgd hc hj hkl hk h1 h2
          go_wp2_with fail
          exact ⟨⟨k + 1, rfl, HK.out, HB.out⟩, by simp only [intOf]; omega⟩
        · have d5 : ¬ (c.toNat : Int) ≤ 57 := by omega
          have HK := Lib.hid (digN_stop hk (fun c' hc' => by rw [hgd] at hc'; injection hc' with hc'; subst hc'; unfold isDig; simp [h2]))
          clear hgd hc hj hkl hk h1 h2
          go_wp2_with fail
          go_ret
          exact ⟨by rw [HK.out]; rfl, HB.out⟩
      · have d4 : ¬ (48 : Int) ≤ (c.toNat : Int) := by omega
        have HK := Lib.hid (digN_stop hk (fun c' hc' => by rw [hgd] at hc'; injection hc' with hc'; subst hc'; unfold isDig; simp [h1]))
        clear hgd hc hj hkl hk h1
        go_wp2_with fail
        go_ret
        exact ⟨by rw [HK.out]; rfl, HB.out⟩
    · have d1 : decide (j < l.length) = false := decide_eq_false hlt
      have d2 : decide ((j : Int) < (l.length : Int)) = false := decide_eq_false (by omega)
      have HK := Lib.hid (digN_stop hk (fun c' hc' => by rw [hgd, List.getElem?_eq_none (by omega)] at hc'; cases hc'))
      clear hgd hj hkl hk
      go_wp2_with fail
      go_ret
      exact ⟨by rw [HK.out]; rfl, HB.out⟩
end Go.Proofs.YtimdkjbmeogpoaaGreatDoor
