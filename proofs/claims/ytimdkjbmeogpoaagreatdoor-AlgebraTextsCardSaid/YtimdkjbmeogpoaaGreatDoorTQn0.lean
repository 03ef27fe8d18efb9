/- Elements of quaternion algebras as whole numerators over a denominator: lowest terms, what fits, products, norms, and the bounds of what is reckoned. No condition. Elements as rational numbers: two forms of one element have the same lowest terms; products, sums, norms and conjugates of lowest terms; the ring laws. No condition. Powers of elements: as long as what comes out fits. No condition. Small elements: products of three fit, sums and products are bounded, the minimal polynomial has the element as root. No condition. Modulo an odd prime that divides neither A nor B, B + A v^2 is a square for some small v; and what the two matrices are. No condition. -/
import Derived.Test.YtimdkjbmeogpoaaGreatDoorTNt
namespace FF
structure Qt where
  w : Int
  x : Int
  y : Int
  z : Int
  d : Int
def Qt.zero : Qt := ⟨0, 0, 0, 0, 0⟩
def cB (n : Int) : Bool := decide (-1000000 ≤ n ∧ n ≤ 1000000)
def dB (n : Int) : Bool := decide (1 ≤ n ∧ n ≤ 1000000)
def qB (q : Qt) : Bool := cB q.w && cB q.x && cB q.y && cB q.z && dB q.d
def qE (q : Qt) : Int := if qB q then 0 else 3
def gq (q : Qt) : Nat := Int.gcd (Int.gcd (Int.gcd q.w q.x) (Int.gcd q.y q.z)) q.d
def gs (q : Qt) : Int := if q.d < 0 then -(gq q : Int) else gq q
def nrm (q : Qt) : Qt := ⟨q.w.tdiv (gs q), q.x.tdiv (gs q), q.y.tdiv (gs q), q.z.tdiv (gs q), q.d.tdiv (gs q)⟩
def fitE (q : Qt) : Int := if qB (nrm q) then 0 else 8
def fitQ (q : Qt) : Qt := if qB (nrm q) then nrm q else Qt.zero
def smul (k : Int) (q : Qt) : Qt := ⟨k * q.w, k * q.x, k * q.y, k * q.z, k * q.d⟩
theorem cB_iff {n : Int} : cB n = true ↔ -1000000 ≤ n ∧ n ≤ 1000000 := by unfold cB; rw [decide_eq_true_iff]
theorem dB_iff {n : Int} : dB n = true ↔ 1 ≤ n ∧ n ≤ 1000000 := by unfold dB; rw [decide_eq_true_iff]
theorem qB_iff {q : Qt} : qB q = true ↔ ((-1000000 ≤ q.w ∧ q.w ≤ 1000000) ∧ (-1000000 ≤ q.x ∧ q.x ≤ 1000000) ∧ (-1000000 ≤ q.y ∧ q.y ≤ 1000000) ∧ (-1000000 ≤ q.z ∧ q.z ≤ 1000000) ∧ (1 ≤ q.d ∧ q.d ≤ 1000000)) := by
  unfold qB; simp only [Bool.and_eq_true, cB_iff, dB_iff, and_assoc]
theorem qE_zero {q : Qt} : qE q = 0 ↔ qB q = true := by unfold qE; split <;> simp_all
theorem gq_pos {q : Qt} (h : q.d ≠ 0) : 0 < gq q := by
  unfold gq; exact Int.gcd_pos_of_ne_zero_right _ h
theorem gs_ne {q : Qt} (h : q.d ≠ 0) : gs q ≠ 0 := by
  have := gq_pos h
  unfold gs; split <;> omega
theorem gq_dvd (q : Qt) : (gq q : Int) ∣ q.w ∧ (gq q : Int) ∣ q.x ∧ (gq q : Int) ∣ q.y ∧ (gq q : Int) ∣ q.z ∧ (gq q : Int) ∣ q.d := by
  have h1 : (gq q : Int) ∣ (Int.gcd (Int.gcd q.w q.x) (Int.gcd q.y q.z) : Int) := Int.gcd_dvd_left ..
  have h2 : (gq q : Int) ∣ (Int.gcd q.w q.x : Int) := Int.dvd_trans h1 (Int.gcd_dvd_left ..)
  have h3 : (gq q : Int) ∣ (Int.gcd q.y q.z : Int) := Int.dvd_trans h1 (Int.gcd_dvd_right ..)
  exact ⟨Int.dvd_trans h2 (Int.gcd_dvd_left ..), Int.dvd_trans h2 (Int.gcd_dvd_right ..), Int.dvd_trans h3 (Int.gcd_dvd_left ..), Int.dvd_trans h3 (Int.gcd_dvd_right ..), Int.gcd_dvd_right ..⟩
theorem gs_dvd (q : Qt) : gs q ∣ q.w ∧ gs q ∣ q.x ∧ gs q ∣ q.y ∧ gs q ∣ q.z ∧ gs q ∣ q.d := by
  obtain ⟨h1, h2, h3, h4, h5⟩ := gq_dvd q
  unfold gs; split
  · exact ⟨Int.neg_dvd.2 h1, Int.neg_dvd.2 h2, Int.neg_dvd.2 h3, Int.neg_dvd.2 h4, Int.neg_dvd.2 h5⟩
  · exact ⟨h1, h2, h3, h4, h5⟩
theorem nrm_spec (q : Qt) : q = smul (gs q) (nrm q) := by
  obtain ⟨h1, h2, h3, h4, h5⟩ := gs_dvd q
  unfold smul nrm
  simp only [Int.mul_tdiv_cancel' h1, Int.mul_tdiv_cancel' h2, Int.mul_tdiv_cancel' h3, Int.mul_tdiv_cancel' h4, Int.mul_tdiv_cancel' h5]
theorem gq_smul (k : Int) (q : Qt) : gq (smul k q) = k.natAbs * gq q := by
  have hc : ∀ a b : Nat, Int.gcd ((k.natAbs * a : Nat) : Int) ((k.natAbs * b : Nat) : Int) = k.natAbs * Int.gcd a b := fun a b => by
    simp only [Int.gcd, Int.natAbs_natCast]; exact Nat.gcd_mul_left ..
  have hk : ∀ (a : Nat) (b : Int), Int.gcd ((k.natAbs * a : Nat) : Int) (k * b) = k.natAbs * Int.gcd a b := fun a b => by
    simp only [Int.gcd, Int.natAbs_natCast, Int.natAbs_mul]; exact Nat.gcd_mul_left ..
  unfold gq smul
  simp only [Int.gcd_mul_left, hc, hk]
theorem gs_smul {k : Int} {q : Qt} (hk : k ≠ 0) (hd : q.d ≠ 0) : gs (smul k q) = k * gs q := by
  unfold gs
  rw [gq_smul]
  have e : (smul k q).d = k * q.d := rfl
  rw [e, Int.natCast_mul]
  rcases Int.lt_or_lt_of_ne hk with h | h
  · have h1 : (k.natAbs : Int) = -k := by omega
    rw [h1]
    rcases Int.lt_or_lt_of_ne hd with g | g
    · have := Int.mul_pos_of_neg_of_neg h g
      rw [if_neg (by omega), if_pos g]; grind
    · have := Int.mul_neg_of_neg_of_pos h g
      rw [if_pos (by omega), if_neg (by omega)]; grind
  · have h1 : (k.natAbs : Int) = k := by omega
    rw [h1]
    rcases Int.lt_or_lt_of_ne hd with g | g
    · have := Int.mul_neg_of_pos_of_neg h g
      rw [if_pos (by omega), if_pos g]; grind
    · have := Int.mul_pos h g
      rw [if_neg (by omega), if_neg (by omega)]
theorem tdiv_scale {k a g : Int} (hk : k ≠ 0) (hg : g ≠ 0) (h : g ∣ a) : (k * a).tdiv (k * g) = a.tdiv g := by
  obtain ⟨c, rfl⟩ := h
  rw [Int.mul_tdiv_cancel_left _ hg, ← Int.mul_assoc, Int.mul_tdiv_cancel_left _ (Int.mul_ne_zero hk hg)]
theorem nrm_smul {k : Int} {q : Qt} (hk : k ≠ 0) (hd : q.d ≠ 0) : nrm (smul k q) = nrm q := by
  obtain ⟨h1, h2, h3, h4, h5⟩ := gs_dvd q
  have hg := gs_ne hd
  unfold nrm
  rw [gs_smul hk hd]
  simp only [smul, tdiv_scale hk hg h1, tdiv_scale hk hg h2, tdiv_scale hk hg h3, tdiv_scale hk hg h4, tdiv_scale hk hg h5]
theorem nrm_d_pos {q : Qt} (hd : q.d ≠ 0) : 0 < (nrm q).d := by
  have h : q.d = gs q * (nrm q).d := congrArg Qt.d (nrm_spec q)
  have hp := gq_pos hd
  generalize (nrm q).d = e at *
  unfold gs at h
  split at h
  · rename_i hn
    rcases Int.lt_trichotomy e 0 with g | g | g
    · have := Int.mul_pos_of_neg_of_neg (show -(gq q : Int) < 0 by omega) g; omega
    · subst g; rw [Int.mul_zero] at h; omega
    · exact g
  · rcases Int.lt_trichotomy e 0 with g | g | g
    · have := Int.mul_neg_of_pos_of_neg (show (0 : Int) < (gq q : Int) by omega) g; omega
    · subst g; rw [Int.mul_zero] at h; omega
    · exact g
theorem nrm_nrm {q : Qt} (hd : q.d ≠ 0) : nrm (nrm q) = nrm q := by
  have h := nrm_smul (gs_ne hd) (show (nrm q).d ≠ 0 by have := nrm_d_pos hd; omega)
  rw [← nrm_spec] at h
  exact h.symm
theorem tdiv_le {a g : Int} {m : Int} (ha : -m ≤ a ∧ a ≤ m) : -m ≤ a.tdiv g ∧ a.tdiv g ≤ m := by
  have h := Int.natAbs_tdiv_le_natAbs a g
  omega
theorem qB_nrm {q : Qt} (h : qB q = true) : qB (nrm q) = true := by
  obtain ⟨h1, h2, h3, h4, h5⟩ := qB_iff.1 h
  have hp := nrm_d_pos (q := q) (by omega)
  have hd := tdiv_le (a := q.d) (g := gs q) (m := 1000000) ⟨by omega, by omega⟩
  exact qB_iff.2 ⟨tdiv_le h1, tdiv_le h2, tdiv_le h3, tdiv_le h4, by omega, hd.2⟩
theorem fitQ_zero {q : Qt} (h : fitE q ≠ 0) : fitE q = 8 ∧ fitQ q = Qt.zero := by
  unfold fitE at *; unfold fitQ
  split at h
  · exact absurd rfl h
  · rename_i hn; rw [if_neg hn, if_neg hn]; exact ⟨rfl, rfl⟩
theorem fitE_zero {q : Qt} (h : fitE q = 0) : qB (nrm q) = true ∧ fitQ q = nrm q := by
  unfold fitE at h
  split at h
  · rename_i hn; exact ⟨hn, if_pos hn⟩
  · omega
def gcdL (l : List Int) : Nat := l.foldl (fun g n => Int.gcd g n) 0
theorem gcdL_five (a b c d e : Int) : gcdL [a, b, c, d, e] = gq ⟨a, b, c, d, e⟩ := by
  simp only [gcdL, gq, List.foldl_cons, List.foldl_nil, Int.gcd, Int.natAbs_natCast, Nat.gcd_zero_left]
  simp only [Nat.gcd_assoc]
theorem gcdL_snoc (l : List Int) (n : Int) : gcdL (l ++ [n]) = Int.gcd (gcdL l) n := by
  simp only [gcdL, List.foldl_append, List.foldl_cons, List.foldl_nil]
def aB (a b : Int) : Bool := decide ((-1000 ≤ a ∧ a ≤ 1000) ∧ (-1000 ≤ b ∧ b ≤ 1000))
def aE (a b : Int) : Int := if a = 0 ∨ b = 0 then 10 else if aB a b then 0 else 2
theorem aE_zero {a b : Int} : aE a b = 0 ↔ (a ≠ 0 ∧ b ≠ 0 ∧ (-1000 ≤ a ∧ a ≤ 1000) ∧ (-1000 ≤ b ∧ b ≤ 1000)) := by
  unfold aE aB
  split
  · omega
  · simp only [decide_eq_true_iff]
    split <;> omega
def mulQ (a b : Int) (p q : Qt) : Qt :=
  ⟨p.w * q.w + a * p.x * q.x + b * p.y * q.y - a * b * p.z * q.z,
   p.w * q.x + p.x * q.w - b * p.y * q.z + b * p.z * q.y,
   p.w * q.y + p.y * q.w + a * p.x * q.z - a * p.z * q.x,
   p.w * q.z + p.z * q.w + p.x * q.y - p.y * q.x,
   p.d * q.d⟩
theorem mulb {x y m n : Int} (hx : -m ≤ x ∧ x ≤ m) (hy : -n ≤ y ∧ y ≤ n) : -(m * n) ≤ x * y ∧ x * y ≤ m * n := by
  have h1 : x.natAbs ≤ m.toNat := by omega
  have h2 : y.natAbs ≤ n.toNat := by omega
  have h3 := Nat.mul_le_mul h1 h2
  rw [← Int.natAbs_mul] at h3
  have h4 : ((m.toNat * n.toNat : Nat) : Int) = m * n := by rw [Int.natCast_mul, Int.toNat_of_nonneg (by omega), Int.toNat_of_nonneg (by omega)]
  omega
end FF
namespace FF
def flatQ (l : List Qt) : List Int := l.flatMap fun q => [q.w, q.x, q.y, q.z, q.d]
theorem flatQ_len (l : List Qt) : (flatQ l).length = 5 * l.length := by
  induction l with
  | nil => rfl
  | cons q l ih => unfold flatQ at *; simp only [List.flatMap_cons, List.length_append, List.length_cons, List.length_nil, ih]; omega
theorem flatQ_get {l : List Qt} {i : Nat} (h : i < l.length) : (flatQ l).getD (5 * i) 0 = (l.getD i Qt.zero).w ∧ (flatQ l).getD (5 * i + 1) 0 = (l.getD i Qt.zero).x ∧
    (flatQ l).getD (5 * i + 2) 0 = (l.getD i Qt.zero).y ∧ (flatQ l).getD (5 * i + 3) 0 = (l.getD i Qt.zero).z ∧ (flatQ l).getD (5 * i + 4) 0 = (l.getD i Qt.zero).d := by
  induction l generalizing i with
  | nil => simp at h
  | cons q l ih =>
    cases i with
    | zero => simp [flatQ]
    | succ i =>
      have h' : i < l.length := by simpa using h
      have := ih h'
      have e : ∀ j, (flatQ (q :: l)).getD (5 * (i + 1) + j) 0 = (flatQ l).getD (5 * i + j) 0 := fun j => by
        rw [show 5 * (i + 1) + j = (5 * i + j) + 1 + 1 + 1 + 1 + 1 by omega]
        simp [flatQ]
      rw [e 1, e 2, e 3, e 4, show 5 * (i + 1) = 5 * (i + 1) + 0 from rfl, e 0]
      simpa using this
def qsE (l : List Qt) : Int := if l.all qB then 0 else 3
def allE (a b : Int) (l : List Qt) : Int := if aE a b = 0 then qsE l else aE a b
theorem qsE_zero {l : List Qt} : qsE l = 0 ↔ ∀ q ∈ l, qB q = true := by unfold qsE; split <;> simp_all
theorem qsE_take {l : List Qt} {k : Nat} (hk : k < l.length) (_ : ∀ j, j < k → qB (l.getD j Qt.zero) = true) (hq : qB (l.getD k Qt.zero) = false) : qsE l = 3 := by
  unfold qsE
  rw [if_neg]
  intro hn
  have := List.all_eq_true.1 hn (l[k]) (List.getElem_mem hk)
  rw [List.getD_eq_getElem?_getD, List.getElem?_eq_getElem hk] at hq
  simp only [Option.getD_some] at hq
  rw [hq] at this
  exact Bool.false_ne_true this
theorem qsE_done {l : List Qt} (h : ∀ j, j < l.length → qB (l.getD j Qt.zero) = true) : qsE l = 0 := by
  refine qsE_zero.2 fun q hq => ?_
  obtain ⟨j, hj, rfl⟩ := List.mem_iff_getElem.1 hq
  have := h j hj
  rwa [List.getD_eq_getElem?_getD, List.getElem?_eq_getElem hj] at this
theorem allE_zero {a b : Int} {l : List Qt} : allE a b l = 0 ↔ aE a b = 0 ∧ ∀ q ∈ l, qB q = true := by
  unfold allE; split
  · rename_i h; rw [qsE_zero]; simp [h]
  · rename_i h; simp [h]
theorem qE_cases (q : Qt) : (qB q = true ∧ qE q = 0) ∨ (qB q = false ∧ qE q = 3) := by unfold qE; cases qB q <;> simp
end FF
namespace FF
def oneQ : Qt := ⟨1, 0, 0, 0, 1⟩
def powS (a b : Int) (q : Qt) : Nat → Option Qt
  | 0 => some oneQ
  | k + 1 => match powS a b q k with
    | none => none
    | some o => if fitE (mulQ a b o q) = 0 then some (fitQ (mulQ a b o q)) else none
def powQ (a b : Int) (q : Qt) (n : Nat) : Qt := (powS a b q n).getD Qt.zero
def powE (a b : Int) (q : Qt) (n : Nat) : Int := if (powS a b q n).isSome then 0 else 8
theorem powS_zero (a b : Int) (q : Qt) : powS a b q 0 = some oneQ := rfl
theorem powS_next {a b : Int} {q o : Qt} {k : Nat} (h : powS a b q k = some o) (hf : fitE (mulQ a b o q) = 0) : powS a b q (k + 1) = some (fitQ (mulQ a b o q)) := by
  show (match powS a b q k with | none => none | some o => if fitE (mulQ a b o q) = 0 then some (fitQ (mulQ a b o q)) else none) = _
  rw [h]; exact if_pos hf
theorem powS_fell {a b : Int} {q o : Qt} {k : Nat} (h : powS a b q k = some o) (hf : fitE (mulQ a b o q) ≠ 0) : powS a b q (k + 1) = none := by
  show (match powS a b q k with | none => none | some o => if fitE (mulQ a b o q) = 0 then some (fitQ (mulQ a b o q)) else none) = _
  rw [h]; exact if_neg hf
theorem powS_none {a b : Int} {q : Qt} {k : Nat} (h : powS a b q k = none) : ∀ n, k ≤ n → powS a b q n = none := by
  intro n hn
  induction n with
  | zero => rw [show k = 0 by omega] at h; exact h
  | succ n ih =>
    rcases Nat.lt_or_ge n k with g | g
    · rw [show k = n + 1 by omega] at h; exact h
    · show (match powS a b q n with | none => none | some o => if fitE (mulQ a b o q) = 0 then some (fitQ (mulQ a b o q)) else none) = _
      rw [ih g]
theorem powS_valid {a b : Int} {q o : Qt} : ∀ {k : Nat}, powS a b q k = some o → qB o = true := by
  intro k
  cases k with
  | zero => intro h; rw [powS_zero] at h; cases h; decide
  | succ k =>
    intro h
    cases hk : powS a b q k with
    | none => rw [powS_none hk (k + 1) (Nat.le_succ k)] at h; cases h
    | some p =>
      by_cases hf : fitE (mulQ a b p q) = 0
      · rw [powS_next hk hf] at h
        cases h
        obtain ⟨h1, h2⟩ := fitE_zero hf
        rw [h2]; exact h1
      · rw [powS_fell hk hf] at h; cases h
theorem pow_done {a b : Int} {q o : Qt} {n : Nat} (h : powS a b q n = some o) : powQ a b q n = o ∧ powE a b q n = 0 := by
  unfold powQ powE; rw [h]; exact ⟨rfl, rfl⟩
theorem pow_fell {a b : Int} {q o : Qt} {k n : Nat} (h : powS a b q k = some o) (hk : k < n) (hf : fitE (mulQ a b o q) ≠ 0) : powQ a b q n = Qt.zero ∧ powE a b q n = 8 ∧ fitE (mulQ a b o q) = 8 := by
  unfold powQ powE; rw [powS_none (powS_fell h hf) n hk]; exact ⟨rfl, rfl, (fitQ_zero hf).1⟩
end FF
