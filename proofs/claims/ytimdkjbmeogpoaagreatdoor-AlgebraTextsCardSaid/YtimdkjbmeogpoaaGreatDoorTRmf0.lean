/- The primes at which an algebra is ramified, as the reference goes through them, and as any ascending list of the primes that divide 2ab gives them. No condition. The algebra (-1, 3) is ramified at 2 and 3. -/
import Derived.Test.YtimdkjbmeogpoaaGreatDoorTCrt0
import Derived.Test.YtimdkjbmeogpoaaGreatDoorTSp
namespace FF
def ramB (a b p : Int) : Bool := isPB p && (decide (p ≤ 2) || a.tmod p == 0 || b.tmod p == 0)
def ramL (a b : Int) (n : Nat) : List Int := ((List.range n).map fun k : Nat => (k : Int) + 2).filter fun p => ramB a b p && Hil a b p == -1
theorem ramL_mem {a b x : Int} {n : Nat} : x ∈ ramL a b n ↔ (2 ≤ x ∧ x < (n : Int) + 2) ∧ ramB a b x = true ∧ Hil a b x = -1 := by
  unfold ramL
  simp only [List.mem_filter, List.mem_map, List.mem_range, Bool.and_eq_true, beq_iff_eq]
  constructor
  · rintro ⟨⟨k, hk, rfl⟩, h1, h2⟩
    exact ⟨by omega, h1, h2⟩
  · rintro ⟨⟨h0, h3⟩, h1, h2⟩
    exact ⟨⟨(x - 2).toNat, by omega, by omega⟩, h1, h2⟩
theorem ramL_asc (a b : Int) (n : Nat) : (ramL a b n).Pairwise (· < ·) := by
  unfold ramL
  refine List.Pairwise.filter _ ?_
  rw [List.pairwise_map]
  exact (List.pairwise_lt_range).imp (fun h => by omega)
theorem ramB_iff {a b x : Int} (hx : 2 ≤ x) : ramB a b x = true ↔ (IsP x.toNat ∧ x ≤ 1000000000) ∧ (x = 2 ∨ x ∣ a ∨ x ∣ b) := by
  unfold ramB
  simp only [Bool.and_eq_true, Bool.or_eq_true, isPB_iff, decide_eq_true_iff, beq_iff_eq, ← Int.dvd_iff_tmod_eq_zero]
  constructor
  · rintro ⟨h1, (h | h) | h⟩
    · exact ⟨h1, .inl (by omega)⟩
    · exact ⟨h1, .inr (.inl h)⟩
    · exact ⟨h1, .inr (.inr h)⟩
  · rintro ⟨h1, h | h | h⟩
    · exact ⟨h1, .inl (.inl (by omega))⟩
    · exact ⟨h1, .inl (.inr h)⟩
    · exact ⟨h1, .inr h⟩
theorem dvd_natAbs' {x a : Int} : x ∣ (a.natAbs : Int) ↔ x ∣ a := Int.dvd_natAbs
theorem ram_unique {a b : Int} (ha : a ≠ 0) (hb : b ≠ 0) (ha1 : -1000 ≤ a ∧ a ≤ 1000) (hb1 : -1000 ≤ b ∧ b ≤ 1000) {l : List Int} (hl : l.Pairwise (· < ·))
    (hm : ∀ x, x ∈ l ↔ x = 2 ∨ x ∈ primesOf a.natAbs ∨ x ∈ primesOf b.natAbs) : l.filter (fun p => Hil a b p == -1) = ramL a b 999 := by
  refine asc_unique (List.Pairwise.filter _ hl) (ramL_asc a b 999) fun x => ?_
  rw [List.mem_filter, ramL_mem, hm, beq_iff_eq, primesOf_mem (by omega), primesOf_mem (by omega), dvd_natAbs', dvd_natAbs']
  constructor
  · rintro ⟨h, hh⟩
    have h2 : IsP x.toNat ∧ 0 ≤ x ∧ (x = 2 ∨ x ∣ a ∨ x ∣ b) := by
      rcases h with rfl | ⟨h1, h2, h3⟩ | ⟨h1, h2, h3⟩
      · exact ⟨isP_two, by omega, .inl rfl⟩
      · exact ⟨h1, h2, .inr (.inl h3)⟩
      · exact ⟨h1, h2, .inr (.inr h3)⟩
    obtain ⟨hp, h0, hd⟩ := h2
    have hp2 := hp.1
    have hle : x ≤ 1000 := by
      rcases hd with h | h | h
      · omega
      · have := Int.le_of_dvd (show (0 : Int) < a.natAbs by omega) (dvd_natAbs'.2 h); omega
      · have := Int.le_of_dvd (show (0 : Int) < b.natAbs by omega) (dvd_natAbs'.2 h); omega
    exact ⟨⟨by omega, by omega⟩, (ramB_iff (by omega)).2 ⟨⟨hp, by omega⟩, hd⟩, hh⟩
  · rintro ⟨⟨h0, h1⟩, h2, h3⟩
    obtain ⟨⟨hp, _⟩, hd⟩ := (ramB_iff h0).1 h2
    refine ⟨?_, h3⟩
    rcases hd with h | h | h
    · exact .inl h
    · exact .inr (.inl ⟨hp, by omega, h⟩)
    · exact .inr (.inr ⟨hp, by omega, h⟩)
theorem prodZ_sub : ∀ {l k : List Int}, l.Nodup → (∀ x ∈ l, x ∈ k) → (∀ x ∈ k, 1 ≤ x) → prodZ l ≤ prodZ k
  | [], k, _, _, h => prodZ_pos h
  | x :: l, k, hl, hs, h => by
    have hx := hs x (List.mem_cons_self ..)
    rw [prodZ_erase hx]
    obtain ⟨h1, h2⟩ := List.nodup_cons.1 hl
    have h3 := prodZ_sub (k := k.erase x) h2 (fun y hy => (List.mem_erase_of_ne (fun e => h1 (by rw [← e]; exact hy))).2 (hs y (List.mem_cons_of_mem _ hy))) (fun y hy => h y (List.mem_of_mem_erase hy))
    exact Int.mul_le_mul_of_nonneg_left h3 (by have := h x hx; omega)
theorem prodZ_append (l k : List Int) : prodZ (l ++ k) = prodZ l * prodZ k := by
  induction l with
  | nil => show prodZ k = 1 * prodZ k; rw [Int.one_mul]
  | cons x l ih => show x * prodZ (l ++ k) = x * prodZ l * prodZ k; rw [ih, Int.mul_assoc]
theorem prodZ_primesOf {m : Int} (hm : 1 ≤ m) : prodZ (primesOf m) ≤ m := by
  have h := prodZ_le (l := facs m) (fun x hx => by
    have h1 := primesOf_le hm (q := x.1) (List.mem_map.2 ⟨x, hx, rfl⟩)
    exact ⟨h1.1, ((facs_ok hm).prime x hx).2.1⟩)
  have h2 := (facs_ok hm).prod
  unfold primesOf
  omega
theorem ram_prod {a b : Int} (ha : a ≠ 0) (hb : b ≠ 0) (ha1 : -1000 ≤ a ∧ a ≤ 1000) (hb1 : -1000 ≤ b ∧ b ≤ 1000) (n : Nat) (i : Nat) : 1 ≤ prodZ ((ramL a b n).take i) ∧ prodZ ((ramL a b n).take i) ≤ 2000000 := by
  have hsub : ∀ x ∈ (ramL a b n).take i, x ∈ [2] ++ primesOf a.natAbs ++ primesOf b.natAbs := fun x hx => by
    obtain ⟨⟨h0, _⟩, h2, _⟩ := ramL_mem.1 (List.mem_of_mem_take hx)
    obtain ⟨⟨hp, _⟩, hd⟩ := (ramB_iff h0).1 h2
    rcases hd with h | h | h
    · subst h; simp
    · refine List.mem_append_left _ (List.mem_append_right _ ((primesOf_mem (by omega)).2 ⟨hp, by omega, dvd_natAbs'.2 h⟩))
    · refine List.mem_append_right _ ((primesOf_mem (by omega)).2 ⟨hp, by omega, dvd_natAbs'.2 h⟩)
  have hpos : ∀ x ∈ [2] ++ primesOf a.natAbs ++ primesOf b.natAbs, (1 : Int) ≤ x := fun x hx => by
    rcases List.mem_append.1 hx with h | h
    · rcases List.mem_append.1 h with h | h
      · rw [List.mem_singleton] at h; omega
      · have := primesOf_le (by omega) h; omega
    · have := primesOf_le (by omega) h; omega
  have h1 := prodZ_sub (((ramL_asc a b n).take).imp (fun h => by omega)) hsub hpos
  have h2 : 1 ≤ prodZ ((ramL a b n).take i) := prodZ_pos fun x hx => hpos x (hsub x hx)
  refine ⟨h2, Int.le_trans h1 ?_⟩
  rw [prodZ_append, prodZ_append]
  have h3 := prodZ_primesOf (m := a.natAbs) (by omega)
  have h4 := prodZ_primesOf (m := b.natAbs) (by omega)
  have h5 : 1 ≤ prodZ (primesOf a.natAbs) := prodZ_pos fun x hx => by have := primesOf_le (by omega) hx; omega
  have h6 : 1 ≤ prodZ (primesOf b.natAbs) := prodZ_pos fun x hx => by have := primesOf_le (by omega) hx; omega
  have h7 : prodZ [2] = 2 := rfl
  rw [h7]
  have h8 : 2 * prodZ (primesOf a.natAbs) * prodZ (primesOf b.natAbs) ≤ 2000 * 1000 := Int.mul_le_mul (by omega) (by omega) (by omega) (by omega)
  omega
theorem primes_small : ∀ {l : List Int} {m : Int}, l.Pairwise (· < ·) → (∀ x ∈ l, 2 ≤ x) → prodZ l ≤ m → 1 ≤ m → (2 : Int) ^ l.length ≤ m
  | [], m, _, _, _, h => by simpa using h
  | x :: l, m, hl, hx, hp, hm => by
    have h1 : 2 ≤ x := hx x (List.mem_cons_self ..)
    have h2 : 1 ≤ prodZ l := prodZ_pos fun y hy => by have := hx y (List.mem_cons_of_mem _ hy); omega
    have h3 : prodZ (x :: l) = x * prodZ l := rfl
    have h4 := primes_small (l := l) (m := prodZ l) (List.pairwise_cons.1 hl).2 (fun y hy => hx y (List.mem_cons_of_mem _ hy)) (Int.le_refl _) h2
    rw [List.length_cons, Int.pow_succ]
    have h5 : 2 * prodZ l ≤ x * prodZ l := Int.mul_le_mul_of_nonneg_right h1 (by omega)
    omega
end FF
namespace FF
theorem ram_ex : ramL (-1) 3 999 = [2, 3] := by
  rw [← ram_unique (a := -1) (b := 3) (by omega) (by omega) (by omega) (by omega) (l := [2, 3]) (by decide) (fun x => by
    rw [primesOf_mem (by decide), primesOf_mem (by decide)]
    constructor
    · intro h
      simp only [List.mem_cons, List.not_mem_nil, or_false] at h
      rcases h with rfl | rfl
      · exact .inl rfl
      · exact .inr (.inr ⟨isP_three, by omega, by decide⟩)
    · rintro (rfl | ⟨h1, h2, h3⟩ | ⟨h1, h2, h3⟩)
      · simp
      · have := Int.le_of_dvd (by decide) h3
        have h4 := h1.1
        have e : (((-1 : Int).natAbs : Nat) : Int) = 1 := rfl
        omega
      · have := Int.le_of_dvd (by decide) h3
        have h4 := h1.1
        have e : (((3 : Int).natAbs : Nat) : Int) = 3 := rfl
        have h5 : x = 2 ∨ x = 3 := by omega
        rcases h5 with rfl | rfl
        · simp
        · simp)]
  have a2 : vp 2 (-1) = 0 ∧ rest 2 (-1) = -1 := by have := vp_unique (p := 2) (by decide) (k := 0) (r := -1) (by decide); simpa using this
  have b2 : vp 2 3 = 0 ∧ rest 2 3 = 3 := by have := vp_unique (p := 2) (by decide) (k := 0) (r := 3) (by decide); simpa using this
  have a3 : vp 3 (-1) = 0 ∧ rest 3 (-1) = -1 := by have := vp_unique (p := 3) (by decide) (k := 0) (r := -1) (by decide); simpa using this
  have b3 : vp 3 3 = 1 ∧ rest 3 3 = 1 := by have := vp_unique (p := 3) (by decide) (k := 1) (r := 1) (by decide); simpa using this
  have h2 : Hil (-1) 3 2 = -1 := by unfold Hil; rw [a2.1, a2.2, b2.1, b2.2]; decide
  have h3 : Hil (-1) 3 3 = -1 := by unfold Hil; rw [a3.1, a3.2, b3.1, b3.2]; decide +kernel
  simp [h2, h3]
end FF
