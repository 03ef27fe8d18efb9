/- The test with the bases 2, 3, 5, 7 is right up to 1000000000. -/
import Derived.Test.YtmlkiddkgikdhaaSpB
import Derived.Test.YtmlkiddkgikdhaaSpK
namespace FF

theorem greatest_prime {n : Nat} (hn : 2 ≤ n) : ∃ p, IsP p ∧ p ∣ n ∧ ∀ q, IsP q → q ∣ n → q ≤ p := by
  have key : ∀ b : Nat, (∃ p, IsP p ∧ p ∣ n ∧ n ≤ p + b) → ∃ p, IsP p ∧ p ∣ n ∧ ∀ q, IsP q → q ∣ n → q ≤ p := by
    intro b
    induction b with
    | zero =>
      rintro ⟨p, h1, h2, h3⟩
      exact ⟨p, h1, h2, fun q _ hq => by have := Nat.le_of_dvd (by omega) hq; omega⟩
    | succ b ih =>
      rintro ⟨p, h1, h2, h3⟩
      by_cases hx : ∃ q, IsP q ∧ q ∣ n ∧ p < q
      · obtain ⟨q, g1, g2, g3⟩ := hx
        exact ih ⟨q, g1, g2, by omega⟩
      · refine ⟨p, h1, h2, fun q g1 g2 => ?_⟩
        apply Classical.byContradiction; intro g3
        exact hx ⟨q, g1, g2, by omega⟩
  obtain ⟨p, hp, hd⟩ := exists_prime_dvd n hn
  exact key n ⟨p, hp, hd, by omega⟩

theorem coprime_210 {s : Nat} (h2 : ¬ 2 ∣ s) (h3 : ¬ 3 ∣ s) (h5 : ¬ 5 ∣ s) (h7 : ¬ 7 ∣ s) : Nat.gcd s 210 = 1 ∧ Nat.gcd s 105 = 1 := by
  have c2 := isP_two.coprime h2
  have c3 := isP_three.coprime h3
  have c5 := isP_five.coprime h5
  have c7 := isP_seven.coprime h7
  have e1 : Nat.Coprime 105 s := by
    rw [show 105 = 3 * 5 * 7 by rfl]; exact (c3.mul_left c5).mul_left c7
  have e2 : Nat.Coprime 210 s := by
    rw [show 210 = 2 * 105 by rfl]; exact c2.mul_left e1
  exact ⟨e2.symm, e1.symm⟩

theorem no_spsp {n : Nat} (hn : 7 < n) (hm : n ≤ 1000000000) (d2 : ¬ 2 ∣ n) (d3 : ¬ 3 ∣ n) (d5 : ¬ 5 ∣ n) (d7 : ¬ 7 ∣ n)
    (h2 : Sprp 2 n) (h3 : Sprp 3 n) (h5 : Sprp 5 n) (h7 : Sprp 7 n) : IsP n := by
  apply Classical.byContradiction
  intro hc
  have hbad := bad_false (by omega) hm h2 h3 h5 h7
  obtain ⟨p, hp, hpn, hmax⟩ := greatest_prime (n := n) (by omega)
  have big : ∀ q, IsP q → q ∣ n → 11 ≤ q := by
    intro q hq hqn
    apply Classical.byContradiction; intro hx
    have hq2 := hq.1
    have : q = 2 ∨ q = 3 ∨ q = 4 ∨ q = 5 ∨ q = 6 ∨ q = 7 ∨ q = 8 ∨ q = 9 ∨ q = 10 := by omega
    rcases this with rfl | rfl | rfl | rfl | rfl | rfl | rfl | rfl | rfl
    · exact d2 hqn
    · exact d3 hqn
    · exact d2 (Nat.dvd_trans (by omega) hqn)
    · exact d5 hqn
    · exact d2 (Nat.dvd_trans (by omega) hqn)
    · exact d7 hqn
    · exact d2 (Nat.dvd_trans (by omega) hqn)
    · exact d3 (Nat.dvd_trans (by omega) hqn)
    · exact d2 (Nat.dvd_trans (by omega) hqn)
  have hp11 := big p hp hpn
  obtain ⟨s, hs⟩ := hpn
  have hpn : p ∣ n := ⟨s, hs⟩
  have hs0 : s ≠ 0 := by rintro rfl; simp at hs; omega
  have hs1 : s ≠ 1 := by rintro rfl; rw [Nat.mul_one] at hs; exact hc (hs ▸ hp)
  have hsn : s ∣ n := ⟨p, by rw [Nat.mul_comm]; exact hs⟩
  have g210 := coprime_210 (s := s) (fun h => d2 (Nat.dvd_trans h hsn)) (fun h => d3 (Nat.dvd_trans h hsn)) (fun h => d5 (Nat.dvd_trans h hsn)) (fun h => d7 (Nat.dvd_trans h hsn))
  have sodd : s % 2 = 1 := by
    have : ¬ 2 ∣ s := fun h => d2 (Nat.dvd_trans h hsn)
    omega
  have podd : p % 2 = 1 := hp.odd (by omega)
  have hs11 : 11 ≤ s := by
    obtain ⟨q, hq, hqs⟩ := exists_prime_dvd s (by omega)
    have := big q hq (Nat.dvd_trans hqs hsn)
    have := Nat.le_of_dvd (by omega) hqs
    omega
  have hps : p * s ≤ 1000000000 := by rw [← hs]; exact hm
  rw [hs] at hbad
  have hfour : Four p (s - 1) := by
    have one : ∀ a, 1 < a → a < 11 → Sprp a n → Cg p ((a : Int) ^ (s - 1)) 1 := by
      intro a ha1 ha2 hs'
      have hf := sprp_fermat (by omega) hs'
      have e1 : Cg n ((a : Int) ^ (n - 1)) 1 := cg_nat (b := 1).2 (by rw [hf, Nat.mod_eq_of_lt (by omega)])
      have e2 : Cg p ((a : Int) ^ (n - 1)) 1 := e1.of_dvd (Int.natCast_dvd_natCast.2 hpn)
      have hpa : ¬ (p : Int) ∣ (a : Int) := fun h => by
        have := Nat.le_of_dvd (by omega) (Int.natCast_dvd_natCast.1 h); omega
      have e3 := (fermat hp hpa).pow s
      rw [Int.one_pow, ← Int.pow_mul] at e3
      have e4 : n - 1 = (p - 1) * s + (s - 1) := by
        rw [Nat.sub_mul, hs]
        have : 1 * s ≤ p * s := Nat.mul_le_mul_right _ (by omega)
        omega
      rw [e4, Int.pow_add] at e2
      have e5 := e3.mul_right ((a : Int) ^ (s - 1))
      rw [Int.one_mul] at e5
      exact e5.symm.trans e2
    exact ⟨one 2 (by omega) (by omega) h2, one 3 (by omega) (by omega) h3, one 5 (by omega) (by omega) h5, one 7 (by omega) (by omega) h7⟩
  by_cases c1 : 31623 ≤ p
  · -- the greatest prime is above 31622
    have hsl : s < 31623 := by
      apply Classical.byContradiction; intro hx
      have : 31623 * 31623 ≤ p * s := Nat.mul_le_mul c1 (by omega)
      omega
    have hk := kernel4
    have hd : main4 15806 11 = force (prodGo 15722 179 MM) fun M => go4 M 15806 11 := rfl
    rw [hd, force_eq] at hk
    have hM : ¬ p ∣ prodGo 15722 179 MM := prodGo_spec hp 15722 179 MM (by omega) (by omega) (fun h => by
      have h1 := (dvd_MM hp).1 h
      have h2 : ls.all (fun x => decide (x < 179)) = true := by decide +kernel
      have := of_decide_eq_true (List.all_eq_true.1 h2 p h1)
      omega)
    have h4 := go4_spec 15806 11 hk ((s - 11) / 2) (by omega)
    rw [show 11 + 2 * ((s - 11) / 2) = s by omega] at h4
    have := chk4_spec hp hM c1 h4 (by omega) hps g210.2 hfour
    rw [this] at hbad; exact absurd hbad (by simp)
  · by_cases c2 : 2001 ≤ p
    · have h3 : chk3 p = true := by
        by_cases c3 : p < 11001
        · have := go3_spec 4500 2001 kernel3a ((p - 2001) / 2) (by omega)
          rwa [show 2001 + 2 * ((p - 2001) / 2) = p by omega] at this
        · have := go3_spec 10311 11001 kernel3b ((p - 11001) / 2) (by omega)
          rwa [show 11001 + 2 * ((p - 11001) / 2) = p by omega] at this
      have := chk3_spec hp (by omega) (by omega) h3 (by omega) hps g210.1 hfour
      rw [this] at hbad; exact absurd hbad (by simp)
    · have all : ∀ q, IsP q → q ∣ n → chk2 q = true := by
        intro q hq hqn
        have := hmax q hq hqn
        have := big q hq hqn
        have hqo := hq.odd (by omega)
        have := go2_spec 995 11 kernel2 ((q - 11) / 2) (by omega)
        rwa [show 11 + 2 * ((q - 11) / 2) = q by omega] at this
      obtain ⟨h8, h9⟩ := chk2_spec hp (all p hp hpn)
      have := visit_spec 100 _ p h9 s (by omega) (fun q hq hqs => by
        have hqn := Nat.dvd_trans hqs hsn
        rw [sig_eq hp hq hp11 (big q hq hqn) (by omega) hm hpn hqn h2 h3 h5 h7]
        exact (chk2_spec hq (all q hq hqn)).1) hps (by omega)
      rw [this] at hbad; exact absurd hbad (by simp)

/-! the program's test -/
theorem nat_emod_pow (a n e : Nat) : ((a : Int) ^ e % (n : Int)) = ((a ^ e % n : Nat) : Int) := by push_cast; rfl

theorem witGo_false {n : Int} (f : Nat) : ∀ x, witGo n f x = false → ∃ i, 1 ≤ i ∧ i ≤ f ∧ x ^ (2 ^ i) % n = n - 1 := by
  induction f with
  | zero => intro x h; exact absurd h (by simp [witGo])
  | succ f ih =>
    intro x h
    simp only [witGo] at h
    split at h
    · rename_i h1
      exact ⟨1, by omega, by omega, by rw [show 2 ^ 1 = 2 by rfl, Int.pow_succ, Int.pow_succ]; simpa using h1⟩
    · obtain ⟨i, h1, h2, h3⟩ := ih _ h
      refine ⟨i + 1, by omega, by omega, ?_⟩
      have : Cg n ((x * x % n) ^ (2 ^ i)) (x ^ (2 ^ (i + 1))) := by
        have e := (Cg.emod n (x * x)).pow (2 ^ i)
        rw [show x * x = x ^ 2 by rw [Int.pow_succ, Int.pow_succ]; simp, ← Int.pow_mul, Nat.mul_comm, ← Nat.pow_succ] at e
        rwa [show x * x = x ^ 2 by rw [Int.pow_succ, Int.pow_succ]; simp]
      rw [← this.emod_eq]; exact h3

theorem two_rest {N : Nat} (hN : 2 ≤ N) : ∃ o : Nat, rest 2 ((N : Int) - 1) = (o : Int) ∧ o % 2 = 1 ∧ N - 1 = o * 2 ^ vp 2 ((N : Int) - 1) := by
  have hr := eq_pow_rest (p := 2) (n := (N : Int) - 1) (by omega) (by omega)
  have hr2 := not_dvd_rest (p := 2) (n := (N : Int) - 1) (by omega) (by omega)
  have hr3 := rest_pos (p := 2) (n := (N : Int) - 1) (by omega) (by omega)
  generalize rest 2 ((N : Int) - 1) = u at *
  generalize vp 2 ((N : Int) - 1) = e at *
  refine ⟨u.toNat, by omega, by omega, ?_⟩
  have : ((N - 1 : Nat) : Int) = ((2 ^ e * u.toNat : Nat) : Int) := by
    push_cast [show 1 ≤ N by omega]; rw [hr, show ((u.toNat : Nat) : Int) = u by omega]
  rw [Nat.mul_comm]; omega

theorem sprp_of_wit {a N : Nat} (hN : 2 < N) (ho : N % 2 = 1) (h : witB (a : Int) (N : Int) = false) : Sprp a N := by
  obtain ⟨o, h1, h2, h3⟩ := two_rest (N := N) (by omega)
  unfold witB witW at h
  rw [h1, Int.toNat_natCast, nat_emod_pow] at h
  refine ⟨vp 2 ((N : Int) - 1), o, h2, h3, ?_⟩
  have hk : 0 < vp 2 ((N : Int) - 1) := by
    apply Nat.pos_of_ne_zero; intro hz; rw [hz] at h3; simp at h3; omega
  split at h
  · rename_i hc
    rcases hc with hc | hc
    · left; omega
    · right; exact ⟨0, hk, by rw [Nat.pow_zero, Nat.mul_one]; omega⟩
  · obtain ⟨i, g1, g2, g3⟩ := witGo_false _ _ h
    right
    refine ⟨i, by omega, ?_⟩
    have e : (((a ^ o % N : Nat) : Int)) ^ (2 ^ i) % (N : Int) = ((a ^ (o * 2 ^ i) % N : Nat) : Int) := by
      rw [nat_emod_pow, ← Nat.pow_mod, ← Nat.pow_mul]
    rw [e] at g3
    omega

theorem witGo_prime {p : Nat} (hp : IsP p) (f : Nat) : ∀ x : Int, 0 ≤ x → x < p → x ≠ 1 → x ≠ (p : Int) - 1 → Cg p (x ^ (2 ^ (f + 1))) 1 → witGo p f x = false := by
  have sq : ∀ x : Int, 0 ≤ x → x < p → x ≠ 1 → x ≠ (p : Int) - 1 → ¬ Cg p (x * x) 1 := by
    intro x h0 h1 h2 h3 h
    have hp1 := hp.1
    rcases h.sq_one hp with e | e
    · exact h2 (e.eq_of_bounds h0 h1 (by omega) (by omega))
    · have e2 : Cg p x ((p : Int) - 1) := e.trans ⟨-1, by omega⟩
      exact h3 (e2.eq_of_bounds h0 h1 (by omega) (by omega))
  induction f with
  | zero =>
    intro x h0 h1 h2 h3 h
    exact absurd (by rw [show 2 ^ (0 + 1) = 2 by rfl, Int.pow_succ, Int.pow_succ] at h; simpa using h) (sq x h0 h1 h2 h3)
  | succ f ih =>
    intro x h0 h1 h2 h3 h
    have hp1 := hp.1
    simp only [witGo]
    split
    · rfl
    · rename_i hne
      refine ih _ (Int.emod_nonneg _ (by omega)) (Int.emod_lt_of_pos _ (by omega)) (fun e => ?_) hne ?_
      · refine sq x h0 h1 h2 h3 (Cg.of_emod ?_)
        rw [e]; exact (Int.emod_eq_of_lt (by omega) (by omega)).symm
      · refine ((Cg.emod (p : Int) (x * x)).pow _).trans ?_
        rw [show x * x = x ^ 2 by rw [Int.pow_succ, Int.pow_succ]; simp, ← Int.pow_mul, Nat.mul_comm, ← Nat.pow_succ]; exact h

theorem wit_prime {p : Nat} (hp : IsP p) (hp2 : p ≠ 2) {a : Int} (ha : ¬ (p : Int) ∣ a) : witB a p = false := by
  have hp1 := hp.1
  have hodd := hp.odd hp2
  obtain ⟨o, h1, h2, h3⟩ := two_rest (N := p) (by omega)
  have hk : vp 2 ((p : Int) - 1) ≠ 0 := by
    intro hz; rw [hz] at h3; simp at h3; omega
  unfold witB witW
  rw [h1, Int.toNat_natCast]
  split
  · rfl
  · rename_i hc
    refine witGo_prime hp _ _ (Int.emod_nonneg _ (by omega)) (Int.emod_lt_of_pos _ (by omega)) (fun e => hc (Or.inl e)) (fun e => hc (Or.inr e)) ?_
    refine ((Cg.emod (p : Int) (a ^ o)).pow _).trans ?_
    rw [← Int.pow_mul, show vp 2 ((p : Int) - 1) - 1 + 1 = vp 2 ((p : Int) - 1) by omega, ← h3]
    exact fermat hp ha

theorem isPM_iff {n : Int} : isPM n = true ↔ IsP n.toNat ∧ n ≤ 1000000000 := by
  unfold isPM
  by_cases h0 : n < 2 ∨ 1000000000 < n
  · rw [if_pos h0]
    constructor
    · intro h; exact absurd h (by simp)
    · rintro ⟨h1, h2⟩; have := h1.1; omega
  · rw [if_neg h0]
    obtain ⟨N, rfl⟩ : ∃ N : Nat, n = (N : Int) := ⟨n.toNat, by omega⟩
    rw [Int.toNat_natCast]
    have step : ∀ (a : Nat) (l : List Int), isPGo (N : Int) ((a : Int) :: l) = if N = a then true else if a ∣ N ∨ witB (a : Int) (N : Int) = true then false else isPGo (N : Int) l := by
      intro a l
      simp only [isPGo]
      have e1 : ((N : Int) = (a : Int)) ↔ N = a := by omega
      have e2 : ((N : Int) % (a : Int) = 0) ↔ a ∣ N := by rw [← Int.dvd_iff_emod_eq_zero, Int.natCast_dvd_natCast]
      simp only [e1, e2]
    have s2 : isPGo (N : Int) [2, 3, 5, 7] = if N = 2 then true else if 2 ∣ N ∨ witB 2 (N : Int) = true then false else isPGo (N : Int) [3, 5, 7] := step 2 [3, 5, 7]
    have s3 : isPGo (N : Int) [3, 5, 7] = if N = 3 then true else if 3 ∣ N ∨ witB 3 (N : Int) = true then false else isPGo (N : Int) [5, 7] := step 3 [5, 7]
    have s5 : isPGo (N : Int) [5, 7] = if N = 5 then true else if 5 ∣ N ∨ witB 5 (N : Int) = true then false else isPGo (N : Int) [7] := step 5 [7]
    have s7 : isPGo (N : Int) [7] = if N = 7 then true else if 7 ∣ N ∨ witB 7 (N : Int) = true then false else true := step 7 []
    constructor
    · intro h
      refine ⟨?_, by omega⟩
      rw [s2] at h
      by_cases e2 : N = 2
      · rw [e2]; exact isP_two
      rw [if_neg e2] at h
      by_cases f2 : 2 ∣ N ∨ witB 2 (N : Int) = true
      · rw [if_pos f2] at h; exact absurd h (by simp)
      rw [if_neg f2, s3] at h
      by_cases e3 : N = 3
      · rw [e3]; exact isP_three
      rw [if_neg e3] at h
      by_cases f3 : 3 ∣ N ∨ witB 3 (N : Int) = true
      · rw [if_pos f3] at h; exact absurd h (by simp)
      rw [if_neg f3, s5] at h
      by_cases e5 : N = 5
      · rw [e5]; exact isP_five
      rw [if_neg e5] at h
      by_cases f5 : 5 ∣ N ∨ witB 5 (N : Int) = true
      · rw [if_pos f5] at h; exact absurd h (by simp)
      rw [if_neg f5, s7] at h
      by_cases e7 : N = 7
      · rw [e7]; exact isP_seven
      rw [if_neg e7] at h
      by_cases f7 : 7 ∣ N ∨ witB 7 (N : Int) = true
      · rw [if_pos f7] at h; exact absurd h (by simp)
      have g2 : ¬ 2 ∣ N ∧ witB 2 (N : Int) = false := ⟨fun x => f2 (Or.inl x), by cases hx : witB 2 (N : Int); rfl; exact absurd (Or.inr hx) f2⟩
      have g3 : ¬ 3 ∣ N ∧ witB 3 (N : Int) = false := ⟨fun x => f3 (Or.inl x), by cases hx : witB 3 (N : Int); rfl; exact absurd (Or.inr hx) f3⟩
      have g5 : ¬ 5 ∣ N ∧ witB 5 (N : Int) = false := ⟨fun x => f5 (Or.inl x), by cases hx : witB 5 (N : Int); rfl; exact absurd (Or.inr hx) f5⟩
      have g7 : ¬ 7 ∣ N ∧ witB 7 (N : Int) = false := ⟨fun x => f7 (Or.inl x), by cases hx : witB 7 (N : Int); rfl; exact absurd (Or.inr hx) f7⟩
      have h7 : 7 < N := by
        have : N ≠ 4 ∧ N ≠ 6 := ⟨by rintro rfl; exact g2.1 (by omega), by rintro rfl; exact g2.1 (by omega)⟩
        omega
      have hodd : N % 2 = 1 := by have := g2.1; omega
      exact no_spsp h7 (by omega) g2.1 g3.1 g5.1 g7.1 (sprp_of_wit (a := 2) (by omega) hodd g2.2) (sprp_of_wit (a := 3) (by omega) hodd g3.2) (sprp_of_wit (a := 5) (by omega) hodd g5.2) (sprp_of_wit (a := 7) (by omega) hodd g7.2)
    · rintro ⟨hp, _⟩
      have one : ∀ a : Nat, IsP a → N ≠ a → N ≠ 2 → ¬ (a ∣ N ∨ witB (a : Int) (N : Int) = true) := by
        intro a ha hne hn2
        rintro (h | h)
        · exact hne (ha.eq_of_dvd hp h).symm
        · rw [wit_prime hp hn2 (fun hd => hne (hp.eq_of_dvd ha (Int.natCast_dvd_natCast.1 hd)))] at h; exact absurd h (by simp)
      rw [s2]
      by_cases e2 : N = 2
      · rw [if_pos e2]
      · have x2 : ¬ witB 2 (N : Int) = true := by
          have : witB ((2 : Nat) : Int) (N : Int) = false := wit_prime hp e2 (fun hd => e2 (hp.eq_of_dvd isP_two (Int.natCast_dvd_natCast.1 hd)))
          intro h; have h' : witB ((2 : Nat) : Int) (N : Int) = true := h; rw [this] at h'; exact absurd h' (by simp)
        rw [if_neg e2, if_neg (by rintro (h | h); exact e2 (isP_two.eq_of_dvd hp h).symm; exact x2 h), s3]
        by_cases e3 : N = 3
        · rw [if_pos e3]
        · rw [if_neg e3, if_neg (show ¬ (3 ∣ N ∨ witB 3 (N : Int) = true) from one 3 isP_three e3 e2), s5]
          by_cases e5 : N = 5
          · rw [if_pos e5]
          · rw [if_neg e5, if_neg (show ¬ (5 ∣ N ∨ witB 5 (N : Int) = true) from one 5 isP_five e5 e2), s7]
            by_cases e7 : N = 7
            · rw [if_pos e7]
            · rw [if_neg e7, if_neg (show ¬ (7 ∣ N ∨ witB 7 (N : Int) = true) from one 7 isP_seven e7 e2)]

/-- a prime, as a test -/
def isPB (n : Int) : Bool := isPM n
theorem isPB_iff {n : Int} : isPB n = true ↔ IsP n.toNat ∧ n ≤ 1000000000 := isPM_iff
theorem isPB_false {n : Int} : isPB n = false ↔ ¬ (IsP n.toNat ∧ n ≤ 1000000000) := by rw [← isPB_iff]; simp
end FF
