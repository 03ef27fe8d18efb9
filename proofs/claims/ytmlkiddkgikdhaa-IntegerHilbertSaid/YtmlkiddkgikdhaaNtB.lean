/- Plain number theory, part B: products over permuted lists, Fermat's theorem, orders, Gauss's lemma. -/
import Derived.Test.YtmlkiddkgikdhaaNtA
namespace FF

theorem perm_of_maps {l : List Nat} (hn : l.Nodup) (f : Nat → Nat) (hm : ∀ k, k ∈ l → f k ∈ l)
    (hi : ∀ i, i ∈ l → ∀ j, j ∈ l → f i = f j → i = j) : (l.map f).Perm l := by
  have hnod : (l.map f).Nodup := by
    unfold List.Nodup at *
    rw [List.pairwise_map]
    exact hn.imp_of_mem (fun {a b} ha hb hab he => hab (hi a ha b hb he))
  have hsub : l.map f ⊆ l := by
    intro x hx
    obtain ⟨k, hk, rfl⟩ := List.mem_map.1 hx
    exact hm k hk
  refine (List.perm_ext_iff_of_nodup hnod hn).2 (fun x => ⟨fun h => hsub h, fun h => ?_⟩)
  apply Classical.byContradiction
  intro hx
  have h1 : (x :: l.map f).Nodup := List.nodup_cons.2 ⟨hx, hnod⟩
  have h2 : (x :: l.map f) ⊆ l := by
    intro y hy
    rcases List.mem_cons.1 hy with rfl | hy
    · exact h
    · exact hsub hy
  have := h1.length_le_of_subset h2
  simp at this; omega

/-- the product of the values of a function over a list -/
def prodL (f : Nat → Int) : List Nat → Int
  | [] => 1
  | k :: l => f k * prodL f l

theorem prodL_perm (f : Nat → Int) {l m : List Nat} (h : l.Perm m) : prodL f l = prodL f m := by
  induction h with
  | nil => rfl
  | cons x _ ih => simp only [prodL, ih]
  | swap x y l => simp only [prodL]; grind
  | trans _ _ ih1 ih2 => exact ih1.trans ih2

theorem prodL_map (f : Nat → Int) (g : Nat → Nat) (l : List Nat) : prodL f (l.map g) = prodL (fun k => f (g k)) l := by
  induction l with
  | nil => rfl
  | cons k l ih => simp only [List.map, prodL, ih]

theorem prodL_mul (f g : Nat → Int) (l : List Nat) : prodL (fun k => f k * g k) l = prodL f l * prodL g l := by
  induction l with
  | nil => rfl
  | cons k l ih => simp only [prodL, ih]; grind

theorem prodL_const (c : Int) (l : List Nat) : prodL (fun _ => c) l = c ^ l.length := by
  induction l with
  | nil => simp [prodL]
  | cons k l ih => simp only [prodL, ih, List.length_cons, Int.pow_succ]; grind

theorem prodL_congr (n : Int) (f g : Nat → Int) (l : List Nat) (h : ∀ k, k ∈ l → Cg n (f k) (g k)) : Cg n (prodL f l) (prodL g l) := by
  induction l with
  | nil => exact Cg.refl _ _
  | cons k l ih => exact (h k (by simp)).mul (ih fun j hj => h j (by simp [hj]))

theorem prodL_not_dvd {p : Nat} (hp : IsP p) (f : Nat → Int) (l : List Nat) (h : ∀ k, k ∈ l → ¬ (p : Int) ∣ f k) : ¬ (p : Int) ∣ prodL f l := by
  induction l with
  | nil => intro hd; exact hp.not_dvd_one (by have : (p : Int) ∣ ((1 : Nat) : Int) := hd; exact Int.natCast_dvd_natCast.1 this)
  | cons k l ih =>
    intro hd
    rcases hp.idvd_mul hd with e | e
    · exact h k (by simp) e
    · exact ih (fun j hj => h j (by simp [hj])) e

/-- the numbers from 1 to n -/
def upTo (n : Nat) : List Nat := List.range' 1 n
theorem mem_upTo {n k : Nat} : k ∈ upTo n ↔ 1 ≤ k ∧ k ≤ n := by
  unfold upTo; rw [List.mem_range'_1]; omega
theorem nodup_upTo (n : Nat) : (upTo n).Nodup := List.nodup_range'
theorem length_upTo (n : Nat) : (upTo n).length = n := by simp [upTo]

theorem nat_lt_not_dvd {p k : Nat} (h1 : 1 ≤ k) (h2 : k < p) : ¬ (p : Int) ∣ (k : Int) := by
  intro hd; have := Nat.le_of_dvd (by omega) (Int.natCast_dvd_natCast.1 hd); omega

theorem fermat {p : Nat} (hp : IsP p) {a : Int} (ha : ¬ (p : Int) ∣ a) : Cg p (a ^ (p - 1)) 1 := by
  have hp2 := hp.1
  have hp0 : (p : Int) ≠ 0 := by omega
  have hpp : (0 : Int) < p := by omega
  let f : Nat → Nat := fun k => ((a * (k : Int)) % (p : Int)).toNat
  have hf : ∀ k, ((f k : Nat) : Int) = (a * (k : Int)) % (p : Int) := fun k => Int.toNat_of_nonneg (Int.emod_nonneg _ hp0)
  have hperm : ((upTo (p - 1)).map f).Perm (upTo (p - 1)) := by
    refine perm_of_maps (nodup_upTo _) f ?_ ?_
    · intro k hk
      rw [mem_upTo] at *
      have h1 := hf k
      have h2 := Int.emod_lt_of_pos (a * (k : Int)) hpp
      have h3 : ¬ (p : Int) ∣ a * (k : Int) := fun hd => by
        rcases hp.idvd_mul hd with e | e
        · exact ha e
        · exact nat_lt_not_dvd hk.1 (by omega) e
      have h4 : (a * (k : Int)) % (p : Int) ≠ 0 := fun e => h3 (Int.dvd_of_emod_eq_zero e)
      have h5 := Int.emod_nonneg (a * (k : Int)) hp0
      omega
    · intro i hi j hj he
      rw [mem_upTo] at *
      have h1 := hf i; rw [he, hf j] at h1
      have h2 : Cg p (a * (i : Int)) (a * (j : Int)) := (Cg.of_emod h1).symm
      have h3 := h2.cancel hp ha
      have := h3.eq_of_bounds (by omega) (by omega) (by omega) (by omega)
      omega
  have e1 := prodL_perm (fun k => (k : Int)) hperm
  rw [prodL_map] at e1
  have e2 : Cg p (prodL (fun k => ((f k : Nat) : Int)) (upTo (p - 1))) (prodL (fun k => a * (k : Int)) (upTo (p - 1))) :=
    prodL_congr _ _ _ _ (fun k _ => by rw [hf k]; exact Cg.emod _ _)
  rw [prodL_mul, prodL_const, length_upTo, e1] at e2
  have hnd : ¬ (p : Int) ∣ prodL (fun k => (k : Int)) (upTo (p - 1)) :=
    prodL_not_dvd hp _ _ (fun k hk => by rw [mem_upTo] at hk; exact nat_lt_not_dvd hk.1 (by omega))
  refine (Cg.cancel_right hp hnd ?_).symm
  rw [Int.one_mul]; exact e2

theorem pow_gcd_one {n a : Int} (i j : Nat) : Cg n (a ^ i) 1 → Cg n (a ^ j) 1 → Cg n (a ^ (Nat.gcd i j)) 1 := by
  induction i, j using Nat.gcd.induction with
  | H0 j => intro _ h; simpa using h
  | H1 i j hi ih =>
    intro h1 h2
    rw [Nat.gcd_rec]
    refine ih ?_ h1
    have e : a ^ j = (a ^ i) ^ (j / i) * a ^ (j % i) := by
      rw [← Int.pow_mul, ← Int.pow_add, Nat.div_add_mod]
    rw [e] at h2
    have h3 : Cg n ((a ^ i) ^ (j / i) * a ^ (j % i)) (1 ^ (j / i) * a ^ (j % i)) := (h1.pow _).mul_right _
    rw [Int.one_pow, Int.one_mul] at h3
    exact h3.symm.trans h2

theorem pow_mul_one {n a : Int} {i : Nat} (j : Nat) (h : Cg n (a ^ i) 1) : Cg n (a ^ (i * j)) 1 := by
  rw [Int.pow_mul]; have := h.pow j; rwa [Int.one_pow] at this

theorem pow_dvd_one {n a : Int} {i j : Nat} (hd : i ∣ j) (h : Cg n (a ^ i) 1) : Cg n (a ^ j) 1 := by
  obtain ⟨k, rfl⟩ := hd; exact pow_mul_one k h

end FF
