/- The verifier's comparisons: SameInt, Ints. -/
import Derived.Test.YtimdkjbmeogpoaaGreatDoorVNt
import Derived.Test.YtimdkjbmeogpoaaGreatDoorVWordA
section
namespace FF
structure Qt where
  w : Int
  x : Int
  y : Int
  z : Int
  d : Int
def Qt.zero : Qt := ⟨0, 0, 0, 0, 0⟩
def cB (n : Int) : Bool := decide (-1000000 ≤ n ∧ n ≤ 1000000)
def dB (n : Int) : Bool := decide (1 ≤ n ∧ n ≤ 1000000)
def qB (q : Qt) : Bool := cB q.w && cB q.x && cB q.y && cB q.z && dB q.d
def qE (q : Qt) : Int := if qB q then 0 else 3
def gq (q : Qt) : Nat := Int.gcd (Int.gcd (Int.gcd q.w q.x) (Int.gcd q.y q.z)) q.d
def gs (q : Qt) : Int := if q.d < 0 then -(gq q : Int) else gq q
def nrm (q : Qt) : Qt := ⟨q.w.tdiv (gs q), q.x.tdiv (gs q), q.y.tdiv (gs q), q.z.tdiv (gs q), q.d.tdiv (gs q)⟩
def fitE (q : Qt) : Int := if qB (nrm q) then 0 else 8
def fitQ (q : Qt) : Qt := if qB (nrm q) then nrm q else Qt.zero
def smul (k : Int) (q : Qt) : Qt := ⟨k * q.w, k * q.x, k * q.y, k * q.z, k * q.d⟩
theorem cB_iff {n : Int} : cB n = true ↔ -1000000 ≤ n ∧ n ≤ 1000000 := by unfold cB; rw [decide_eq_true_iff]
theorem dB_iff {n : Int} : dB n = true ↔ 1 ≤ n ∧ n ≤ 1000000 := by unfold dB; rw [decide_eq_true_iff]
theorem qB_iff {q : Qt} : qB q = true ↔ ((-1000000 ≤ q.w ∧ q.w ≤ 1000000) ∧ (-1000000 ≤ q.x ∧ q.x ≤ 1000000) ∧ (-1000000 ≤ q.y ∧ q.y ≤ 1000000) ∧ (-1000000 ≤ q.z ∧ q.z ≤ 1000000) ∧ (1 ≤ q.d ∧ q.d ≤ 1000000)) := by
  unfold qB; simp only [Bool.and_eq_true, cB_iff, dB_iff, and_assoc]
theorem qE_zero {q : Qt} : qE q = 0 ↔ qB q = true := by unfold qE; split <;> simp_all
theorem gq_pos {q : Qt} (h : q.d ≠ 0) : 0 < gq q := by
  unfold gq; exact Int.gcd_pos_of_ne_zero_right _ h
theorem gs_ne {q : Qt} (h : q.d ≠ 0) : gs q ≠ 0 := by
  have := gq_pos h
  unfold gs; split <;> omega
theorem gq_dvd (q : Qt) : (gq q : Int) ∣ q.w ∧ (gq q : Int) ∣ q.x ∧ (gq q : Int) ∣ q.y ∧ (gq q : Int) ∣ q.z ∧ (gq q : Int) ∣ q.d := by
  have h1 : (gq q : Int) ∣ (Int.gcd (Int.gcd q.w q.x) (Int.gcd q.y q.z) : Int) := Int.gcd_dvd_left ..
  have h2 : (gq q : Int) ∣ (Int.gcd q.w q.x : Int) := Int.dvd_trans h1 (Int.gcd_dvd_left ..)
  have h3 : (gq q : Int) ∣ (Int.gcd q.y q.z : Int) := Int.dvd_trans h1 (Int.gcd_dvd_right ..)
  exact ⟨Int.dvd_trans h2 (Int.gcd_dvd_left ..), Int.dvd_trans h2 (Int.gcd_dvd_right ..), Int.dvd_trans h3 (Int.gcd_dvd_left ..), Int.dvd_trans h3 (Int.gcd_dvd_right ..), Int.gcd_dvd_right ..⟩
theorem gs_dvd (q : Qt) : gs q ∣ q.w ∧ gs q ∣ q.x ∧ gs q ∣ q.y ∧ gs q ∣ q.z ∧ gs q ∣ q.d := by
  obtain ⟨h1, h2, h3, h4, h5⟩ := gq_dvd q
  unfold gs; split
  · exact ⟨Int.neg_dvd.2 h1, Int.neg_dvd.2 h2, Int.neg_dvd.2 h3, Int.neg_dvd.2 h4, Int.neg_dvd.2 h5⟩
  · exact ⟨h1, h2, h3, h4, h5⟩
theorem nrm_spec (q : Qt) : q = smul (gs q) (nrm q) := by
  obtain ⟨h1, h2, h3, h4, h5⟩ := gs_dvd q
  unfold smul nrm
  simp only [Int.mul_tdiv_cancel' h1, Int.mul_tdiv_cancel' h2, Int.mul_tdiv_cancel' h3, Int.mul_tdiv_cancel' h4, Int.mul_tdiv_cancel' h5]
theorem nrm_d_pos {q : Qt} (hd : q.d ≠ 0) : 0 < (nrm q).d := by
  have h : q.d = gs q * (nrm q).d := congrArg Qt.d (nrm_spec q)
  have hp := gq_pos hd
  generalize (nrm q).d = e at *
  unfold gs at h
  split at h
  · rename_i hn
    rcases Int.lt_trichotomy e 0 with g | g | g
    · have := Int.mul_pos_of_neg_of_neg (show -(gq q : Int) < 0 by omega) g; omega
    · subst g; rw [Int.mul_zero] at h; omega
    · exact g
  · rcases Int.lt_trichotomy e 0 with g | g | g
    · have := Int.mul_neg_of_pos_of_neg (show (0 : Int) < (gq q : Int) by omega) g; omega
    · subst g; rw [Int.mul_zero] at h; omega
    · exact g
theorem tdiv_le {a g : Int} {m : Int} (ha : -m ≤ a ∧ a ≤ m) : -m ≤ a.tdiv g ∧ a.tdiv g ≤ m := by
  have h := Int.natAbs_tdiv_le_natAbs a g
  omega
theorem fitQ_zero {q : Qt} (h : fitE q ≠ 0) : fitE q = 8 ∧ fitQ q = Qt.zero := by
  unfold fitE at *; unfold fitQ
  split at h
  · exact absurd rfl h
  · rename_i hn; rw [if_neg hn, if_neg hn]; exact ⟨rfl, rfl⟩
theorem fitE_zero {q : Qt} (h : fitE q = 0) : qB (nrm q) = true ∧ fitQ q = nrm q := by
  unfold fitE at h
  split at h
  · rename_i hn; exact ⟨hn, if_pos hn⟩
  · omega
def gcdL (l : List Int) : Nat := l.foldl (fun g n => Int.gcd g n) 0
theorem gcdL_five (a b c d e : Int) : gcdL [a, b, c, d, e] = gq ⟨a, b, c, d, e⟩ := by
  simp only [gcdL, gq, List.foldl_cons, List.foldl_nil, Int.gcd, Int.natAbs_natCast, Nat.gcd_zero_left]
  simp only [Nat.gcd_assoc]
theorem gcdL_snoc (l : List Int) (n : Int) : gcdL (l ++ [n]) = Int.gcd (gcdL l) n := by
  simp only [gcdL, List.foldl_append, List.foldl_cons, List.foldl_nil]
def aB (a b : Int) : Bool := decide ((-1000 ≤ a ∧ a ≤ 1000) ∧ (-1000 ≤ b ∧ b ≤ 1000))
def aE (a b : Int) : Int := if a = 0 ∨ b = 0 then 10 else if aB a b then 0 else 2
theorem aE_zero {a b : Int} : aE a b = 0 ↔ (a ≠ 0 ∧ b ≠ 0 ∧ (-1000 ≤ a ∧ a ≤ 1000) ∧ (-1000 ≤ b ∧ b ≤ 1000)) := by
  unfold aE aB
  split
  · omega
  · simp only [decide_eq_true_iff]
    split <;> omega
def mulQ (a b : Int) (p q : Qt) : Qt :=
  ⟨p.w * q.w + a * p.x * q.x + b * p.y * q.y - a * b * p.z * q.z,
   p.w * q.x + p.x * q.w - b * p.y * q.z + b * p.z * q.y,
   p.w * q.y + p.y * q.w + a * p.x * q.z - a * p.z * q.x,
   p.w * q.z + p.z * q.w + p.x * q.y - p.y * q.x,
   p.d * q.d⟩
def addQ (p q : Qt) : Qt := ⟨p.w * q.d + q.w * p.d, p.x * q.d + q.x * p.d, p.y * q.d + q.y * p.d, p.z * q.d + q.z * p.d, p.d * q.d⟩
theorem mulb {x y m n : Int} (hx : -m ≤ x ∧ x ≤ m) (hy : -n ≤ y ∧ y ≤ n) : -(m * n) ≤ x * y ∧ x * y ≤ m * n := by
  have h1 : x.natAbs ≤ m.toNat := by omega
  have h2 : y.natAbs ≤ n.toNat := by omega
  have h3 := Nat.mul_le_mul h1 h2
  rw [← Int.natAbs_mul] at h3
  have h4 : ((m.toNat * n.toNat : Nat) : Int) = m * n := by rw [Int.natCast_mul, Int.toNat_of_nonneg (by omega), Int.toNat_of_nonneg (by omega)]
  omega
end FF
namespace FF
theorem mulQ_d {a b : Int} {p q : Qt} : (mulQ a b p q).d = p.d * q.d := rfl
theorem addQ_d {p q : Qt} : (addQ p q).d = p.d * q.d := rfl
def flatQ (l : List Qt) : List Int := l.flatMap fun q => [q.w, q.x, q.y, q.z, q.d]
theorem flatQ_len (l : List Qt) : (flatQ l).length = 5 * l.length := by
  induction l with
  | nil => rfl
  | cons q l ih => unfold flatQ at *; simp only [List.flatMap_cons, List.length_append, List.length_cons, List.length_nil, ih]; omega
theorem flatQ_get {l : List Qt} {i : Nat} (h : i < l.length) : (flatQ l).getD (5 * i) 0 = (l.getD i Qt.zero).w ∧ (flatQ l).getD (5 * i + 1) 0 = (l.getD i Qt.zero).x ∧
    (flatQ l).getD (5 * i + 2) 0 = (l.getD i Qt.zero).y ∧ (flatQ l).getD (5 * i + 3) 0 = (l.getD i Qt.zero).z ∧ (flatQ l).getD (5 * i + 4) 0 = (l.getD i Qt.zero).d := by
  induction l generalizing i with
  | nil => simp at h
  | cons q l ih =>
    cases i with
    | zero => simp [flatQ]
    | succ i =>
      have h' : i < l.length := by simpa using h
      have := ih h'
      have e : ∀ j, (flatQ (q :: l)).getD (5 * (i + 1) + j) 0 = (flatQ l).getD (5 * i + j) 0 := fun j => by
        rw [show 5 * (i + 1) + j = (5 * i + j) + 1 + 1 + 1 + 1 + 1 by omega]
        simp [flatQ]
      rw [e 1, e 2, e 3, e 4, show 5 * (i + 1) = 5 * (i + 1) + 0 from rfl, e 0]
      simpa using this
def qsE (l : List Qt) : Int := if l.all qB then 0 else 3
def allE (a b : Int) (l : List Qt) : Int := if aE a b = 0 then qsE l else aE a b
theorem qsE_zero {l : List Qt} : qsE l = 0 ↔ ∀ q ∈ l, qB q = true := by unfold qsE; split <;> simp_all
theorem qsE_take {l : List Qt} {k : Nat} (hk : k < l.length) (_ : ∀ j, j < k → qB (l.getD j Qt.zero) = true) (hq : qB (l.getD k Qt.zero) = false) : qsE l = 3 := by
  unfold qsE
  rw [if_neg]
  intro hn
  have := List.all_eq_true.1 hn (l[k]) (List.getElem_mem hk)
  rw [List.getD_eq_getElem?_getD, List.getElem?_eq_getElem hk] at hq
  simp only [Option.getD_some] at hq
  rw [hq] at this
  exact Bool.false_ne_true this
theorem qsE_done {l : List Qt} (h : ∀ j, j < l.length → qB (l.getD j Qt.zero) = true) : qsE l = 0 := by
  refine qsE_zero.2 fun q hq => ?_
  obtain ⟨j, hj, rfl⟩ := List.mem_iff_getElem.1 hq
  have := h j hj
  rwa [List.getD_eq_getElem?_getD, List.getElem?_eq_getElem hj] at this
theorem allE_zero {a b : Int} {l : List Qt} : allE a b l = 0 ↔ aE a b = 0 ∧ ∀ q ∈ l, qB q = true := by
  unfold allE; split
  · rename_i h; rw [qsE_zero]; simp [h]
  · rename_i h; simp [h]
theorem qE_cases (q : Qt) : (qB q = true ∧ qE q = 0) ∨ (qB q = false ∧ qE q = 3) := by unfold qE; cases qB q <;> simp
end FF
namespace FF
def oneQ : Qt := ⟨1, 0, 0, 0, 1⟩
def powS (a b : Int) (q : Qt) : Nat → Option Qt
  | 0 => some oneQ
  | k + 1 => match powS a b q k with
    | none => none
    | some o => if fitE (mulQ a b o q) = 0 then some (fitQ (mulQ a b o q)) else none
def powQ (a b : Int) (q : Qt) (n : Nat) : Qt := (powS a b q n).getD Qt.zero
def powE (a b : Int) (q : Qt) (n : Nat) : Int := if (powS a b q n).isSome then 0 else 8
theorem powS_zero (a b : Int) (q : Qt) : powS a b q 0 = some oneQ := rfl
theorem powS_next {a b : Int} {q o : Qt} {k : Nat} (h : powS a b q k = some o) (hf : fitE (mulQ a b o q) = 0) : powS a b q (k + 1) = some (fitQ (mulQ a b o q)) := by
  show (match powS a b q k with | none => none | some o => if fitE (mulQ a b o q) = 0 then some (fitQ (mulQ a b o q)) else none) = _
  rw [h]; exact if_pos hf
theorem powS_fell {a b : Int} {q o : Qt} {k : Nat} (h : powS a b q k = some o) (hf : fitE (mulQ a b o q) ≠ 0) : powS a b q (k + 1) = none := by
  show (match powS a b q k with | none => none | some o => if fitE (mulQ a b o q) = 0 then some (fitQ (mulQ a b o q)) else none) = _
  rw [h]; exact if_neg hf
theorem powS_none {a b : Int} {q : Qt} {k : Nat} (h : powS a b q k = none) : ∀ n, k ≤ n → powS a b q n = none := by
  intro n hn
  induction n with
  | zero => rw [show k = 0 by omega] at h; exact h
  | succ n ih =>
    rcases Nat.lt_or_ge n k with g | g
    · rw [show k = n + 1 by omega] at h; exact h
    · show (match powS a b q n with | none => none | some o => if fitE (mulQ a b o q) = 0 then some (fitQ (mulQ a b o q)) else none) = _
      rw [ih g]
theorem powS_valid {a b : Int} {q o : Qt} : ∀ {k : Nat}, powS a b q k = some o → qB o = true := by
  intro k
  cases k with
  | zero => intro h; rw [powS_zero] at h; cases h; decide
  | succ k =>
    intro h
    cases hk : powS a b q k with
    | none => rw [powS_none hk (k + 1) (Nat.le_succ k)] at h; cases h
    | some p =>
      by_cases hf : fitE (mulQ a b p q) = 0
      · rw [powS_next hk hf] at h
        cases h
        obtain ⟨h1, h2⟩ := fitE_zero hf
        rw [h2]; exact h1
      · rw [powS_fell hk hf] at h; cases h
theorem pow_done {a b : Int} {q o : Qt} {n : Nat} (h : powS a b q n = some o) : powQ a b q n = o ∧ powE a b q n = 0 := by
  unfold powQ powE; rw [h]; exact ⟨rfl, rfl⟩
theorem pow_fell {a b : Int} {q o : Qt} {k n : Nat} (h : powS a b q k = some o) (hk : k < n) (hf : fitE (mulQ a b o q) ≠ 0) : powQ a b q n = Qt.zero ∧ powE a b q n = 8 ∧ fitE (mulQ a b o q) = 8 := by
  unfold powQ powE; rw [powS_none (powS_fell h hf) n hk]; exact ⟨rfl, rfl, (fitQ_zero hf).1⟩
end FF
namespace FF
def N4 (q : Qt) : Nat := 4 * q.w.natAbs + 18 * q.x.natAbs + 18 * q.y.natAbs + 81 * q.z.natAbs
def smB (q : Qt) : Bool := decide ((-3 ≤ q.w ∧ q.w ≤ 3) ∧ (-3 ≤ q.x ∧ q.x ≤ 3) ∧ (-3 ≤ q.y ∧ q.y ≤ 3) ∧ (-3 ≤ q.z ∧ q.z ≤ 3) ∧ (1 ≤ q.d ∧ q.d ≤ 3))
theorem smB_iff {q : Qt} : smB q = true ↔ (-3 ≤ q.w ∧ q.w ≤ 3) ∧ (-3 ≤ q.x ∧ q.x ≤ 3) ∧ (-3 ≤ q.y ∧ q.y ≤ 3) ∧ (-3 ≤ q.z ∧ q.z ≤ 3) ∧ (1 ≤ q.d ∧ q.d ≤ 3) := by unfold smB; rw [decide_eq_true_iff]
theorem smB_N4 {q : Qt} (h : smB q = true) : N4 q ≤ 363 ∧ 1 ≤ q.d ∧ q.d ≤ 3 := by
  obtain ⟨h1, h2, h3, h4, h5⟩ := smB_iff.1 h
  unfold N4; omega
theorem N4_nrm (q : Qt) : N4 (nrm q) ≤ N4 q := by
  have h : ∀ x : Int, (x.tdiv (gs q)).natAbs ≤ x.natAbs := fun x => Int.natAbs_tdiv_le_natAbs x (gs q)
  have h1 := h q.w; have h2 := h q.x; have h3 := h q.y; have h4 := h q.z
  show 4 * (q.w.tdiv (gs q)).natAbs + 18 * (q.x.tdiv (gs q)).natAbs + 18 * (q.y.tdiv (gs q)).natAbs + 81 * (q.z.tdiv (gs q)).natAbs ≤ 4 * q.w.natAbs + 18 * q.x.natAbs + 18 * q.y.natAbs + 81 * q.z.natAbs
  omega
theorem nrm_d_le {q : Qt} (hd : 0 < q.d) : 0 < (nrm q).d ∧ (nrm q).d ≤ q.d := by
  have h1 := nrm_d_pos (q := q) (by omega)
  have h2 : (nrm q).d.natAbs ≤ q.d.natAbs := Int.natAbs_tdiv_le_natAbs q.d (gs q)
  omega
theorem abs_mul3 {a x y : Int} {m : Nat} (ha : a.natAbs ≤ m) : (a * x * y).natAbs ≤ m * (x.natAbs * y.natAbs) := by
  rw [Int.natAbs_mul, Int.natAbs_mul, Nat.mul_assoc]
  exact Nat.mul_le_mul_right _ ha
theorem tri_a (a b c d : Int) : (a + b + c - d).natAbs ≤ a.natAbs + b.natAbs + c.natAbs + d.natAbs := by omega
theorem tri_b (a b c d : Int) : (a + b - c + d).natAbs ≤ a.natAbs + b.natAbs + c.natAbs + d.natAbs := by omega
theorem N4_mul {a b : Int} {p q : Qt} (ha : a.natAbs ≤ 20) (hb : b.natAbs ≤ 20) : 4 * N4 (mulQ a b p q) ≤ N4 p * N4 q := by
  have hab : (a * b).natAbs ≤ 400 := by rw [Int.natAbs_mul]; exact Nat.mul_le_mul ha hb
  have e1 : ∀ x y : Int, (x * y).natAbs = x.natAbs * y.natAbs := fun x y => Int.natAbs_mul x y
  have w2 := abs_mul3 (x := p.x) (y := q.x) ha
  have w3 := abs_mul3 (x := p.y) (y := q.y) hb
  have w4 := abs_mul3 (x := p.z) (y := q.z) hab
  have x3 := abs_mul3 (x := p.y) (y := q.z) hb
  have x4 := abs_mul3 (x := p.z) (y := q.y) hb
  have y3 := abs_mul3 (x := p.x) (y := q.z) ha
  have y4 := abs_mul3 (x := p.z) (y := q.x) ha
  have t1 := e1 p.w q.w
  have t2 := e1 p.w q.x; have t3 := e1 p.x q.w
  have t4 := e1 p.w q.y; have t5 := e1 p.y q.w
  have t6 := e1 p.w q.z; have t7 := e1 p.z q.w; have t8 := e1 p.x q.y; have t9 := e1 p.y q.x
  have hW : (mulQ a b p q).w.natAbs ≤ p.w.natAbs * q.w.natAbs + 20 * (p.x.natAbs * q.x.natAbs) + 20 * (p.y.natAbs * q.y.natAbs) + 400 * (p.z.natAbs * q.z.natAbs) :=
    Nat.le_trans (tri_a (p.w * q.w) (a * p.x * q.x) (b * p.y * q.y) (a * b * p.z * q.z)) (Nat.add_le_add (Nat.add_le_add (Nat.add_le_add (Nat.le_of_eq t1) w2) w3) w4)
  have hX : (mulQ a b p q).x.natAbs ≤ p.w.natAbs * q.x.natAbs + p.x.natAbs * q.w.natAbs + 20 * (p.y.natAbs * q.z.natAbs) + 20 * (p.z.natAbs * q.y.natAbs) :=
    Nat.le_trans (tri_b (p.w * q.x) (p.x * q.w) (b * p.y * q.z) (b * p.z * q.y)) (Nat.add_le_add (Nat.add_le_add (Nat.add_le_add (Nat.le_of_eq t2) (Nat.le_of_eq t3)) x3) x4)
  have hY : (mulQ a b p q).y.natAbs ≤ p.w.natAbs * q.y.natAbs + p.y.natAbs * q.w.natAbs + 20 * (p.x.natAbs * q.z.natAbs) + 20 * (p.z.natAbs * q.x.natAbs) :=
    Nat.le_trans (tri_a (p.w * q.y) (p.y * q.w) (a * p.x * q.z) (a * p.z * q.x)) (Nat.add_le_add (Nat.add_le_add (Nat.add_le_add (Nat.le_of_eq t4) (Nat.le_of_eq t5)) y3) y4)
  have hZ : (mulQ a b p q).z.natAbs ≤ p.w.natAbs * q.z.natAbs + p.z.natAbs * q.w.natAbs + p.x.natAbs * q.y.natAbs + p.y.natAbs * q.x.natAbs :=
    Nat.le_trans (tri_a (p.w * q.z) (p.z * q.w) (p.x * q.y) (p.y * q.x)) (Nat.add_le_add (Nat.add_le_add (Nat.add_le_add (Nat.le_of_eq t6) (Nat.le_of_eq t7)) (Nat.le_of_eq t8)) (Nat.le_of_eq t9))
  clear w2 w3 w4 x3 x4 y3 y4 t1 t2 t3 t4 t5 t6 t7 t8 t9 e1
  have e : N4 p * N4 q = 16 * (p.w.natAbs * q.w.natAbs) + 72 * (p.w.natAbs * q.x.natAbs) + 72 * (p.w.natAbs * q.y.natAbs) + 324 * (p.w.natAbs * q.z.natAbs)
      + 72 * (p.x.natAbs * q.w.natAbs) + 324 * (p.x.natAbs * q.x.natAbs) + 324 * (p.x.natAbs * q.y.natAbs) + 1458 * (p.x.natAbs * q.z.natAbs)
      + 72 * (p.y.natAbs * q.w.natAbs) + 324 * (p.y.natAbs * q.x.natAbs) + 324 * (p.y.natAbs * q.y.natAbs) + 1458 * (p.y.natAbs * q.z.natAbs)
      + 324 * (p.z.natAbs * q.w.natAbs) + 1458 * (p.z.natAbs * q.x.natAbs) + 1458 * (p.z.natAbs * q.y.natAbs) + 6561 * (p.z.natAbs * q.z.natAbs) := by
    unfold N4
    clear hW hX hY hZ hab ha hb
    generalize p.w.natAbs = a0; generalize p.x.natAbs = a1; generalize p.y.natAbs = a2; generalize p.z.natAbs = a3
    generalize q.w.natAbs = b0; generalize q.x.natAbs = b1; generalize q.y.natAbs = b2; generalize q.z.natAbs = b3
    grind
  rw [e]
  unfold N4
  clear e hab ha hb
  generalize (mulQ a b p q).w.natAbs = W at *
  generalize (mulQ a b p q).x.natAbs = X at *
  generalize (mulQ a b p q).y.natAbs = Y at *
  generalize (mulQ a b p q).z.natAbs = Z at *
  omega
theorem qB_N4 {q : Qt} (h : N4 q ≤ 4000000) (h1 : 1 ≤ q.d) (h2 : q.d ≤ 1000000) : qB q = true := by
  unfold N4 at h
  exact qB_iff.2 ⟨by omega, by omega, by omega, by omega, by omega⟩
structure Bd (n m : Nat) (q : Qt) : Prop where
  sum : N4 q ≤ n
  pos : 1 ≤ q.d
  den : q.d ≤ m
theorem Bd.of {q : Qt} (h : smB q = true) : Bd 363 3 q := ⟨(smB_N4 h).1, (smB_N4 h).2.1, (smB_N4 h).2.2⟩
theorem Bd.ne {n m : Nat} {q : Qt} (h : Bd n m q) : q.d ≠ 0 := by have := h.pos; omega
theorem Bd.qB {n m : Nat} {q : Qt} (h : Bd n m q) (hn : n ≤ 4000000) (hm : m ≤ 1000000) : qB q = true := qB_N4 (Nat.le_trans h.sum hn) h.pos (by have := h.den; omega)
theorem Bd.nrm {n m : Nat} {q : Qt} (h : Bd n m q) : Bd n m (nrm q) := by
  have := nrm_d_le (q := q) (by have := h.pos; omega)
  exact ⟨Nat.le_trans (N4_nrm q) h.sum, by omega, by have := h.den; omega⟩
theorem Bd.mul {a b : Int} {n m k l r : Nat} {p q : Qt} (hp : Bd n m p) (hq : Bd k l q) (ha : a.natAbs ≤ 20) (hb : b.natAbs ≤ 20) (hr : n * k ≤ 4 * r) : Bd r (m * l) (mulQ a b p q) := by
  refine ⟨?_, ?_, ?_⟩
  · have h := N4_mul (p := p) (q := q) ha hb
    have := Nat.mul_le_mul hp.sum hq.sum
    omega
  · rw [mulQ_d]; have := Int.mul_pos (show 0 < p.d by have := hp.pos; omega) (show 0 < q.d by have := hq.pos; omega); omega
  · rw [mulQ_d, Int.natCast_mul]
    exact Int.mul_le_mul hp.den hq.den (by have := hq.pos; omega) (by have := hp.den; have := hp.pos; omega)
theorem Bd.add {n m k l : Nat} {p q : Qt} (hp : Bd n m p) (hq : Bd k l q) : Bd (n * l + k * m) (m * l) (addQ p q) := by
  have dp := hp.den; have dq := hq.den; have pp := hp.pos; have pq := hq.pos
  refine ⟨?_, ?_, ?_⟩
  · have h : ∀ x y : Int, (x * q.d + y * p.d).natAbs ≤ x.natAbs * l + y.natAbs * m := fun x y => by
      have h1 : (x * q.d).natAbs ≤ x.natAbs * l := by rw [Int.natAbs_mul]; exact Nat.mul_le_mul_left _ (by omega)
      have h2 : (y * p.d).natAbs ≤ y.natAbs * m := by rw [Int.natAbs_mul]; exact Nat.mul_le_mul_left _ (by omega)
      omega
    have hw := h p.w q.w; have hx := h p.x q.x; have hy := h p.y q.y; have hz := h p.z q.z
    have h1 : N4 (addQ p q) ≤ N4 p * l + N4 q * m := by
      have e : N4 p * l + N4 q * m = 4 * (p.w.natAbs * l + q.w.natAbs * m) + 18 * (p.x.natAbs * l + q.x.natAbs * m) + 18 * (p.y.natAbs * l + q.y.natAbs * m) + 81 * (p.z.natAbs * l + q.z.natAbs * m) := by unfold N4; grind
      rw [e]
      show 4 * (p.w * q.d + q.w * p.d).natAbs + 18 * (p.x * q.d + q.x * p.d).natAbs + 18 * (p.y * q.d + q.y * p.d).natAbs + 81 * (p.z * q.d + q.z * p.d).natAbs ≤ _
      omega
    have h2 := Nat.mul_le_mul_right l hp.sum
    have h3 := Nat.mul_le_mul_right m hq.sum
    omega
  · rw [addQ_d]; have := Int.mul_pos (show 0 < p.d by omega) (show 0 < q.d by omega); omega
  · rw [addQ_d, Int.natCast_mul]
    exact Int.mul_le_mul dp dq (by omega) (by omega)
theorem Bd.mono {n m k l : Nat} {q : Qt} (h : Bd n m q) (h1 : n ≤ k) (h2 : m ≤ l) : Bd k l q := ⟨Nat.le_trans h.sum h1, h.pos, by have := h.den; omega⟩
end FF
namespace FF
theorem emod_of {p e y : Int} (h : p ∣ e - y) (h0 : 0 ≤ y) (h1 : y < p) : e % p = y := by
  rw [Int.emod_eq_emod_iff_emod_sub_eq_zero.2 (Int.emod_eq_zero_of_dvd h)]
  exact Int.emod_eq_of_lt h0 h1
structure Mats (A B p u v x y m n : Int) : Prop where
  pp : 2 < p
  p9 : p ≤ 10000
  u0 : 0 ≤ u ∧ u < p
  v0 : 0 ≤ v ∧ v < p
  x0 : 0 ≤ x ∧ x < p
  y0 : 0 ≤ y ∧ y < p
  m0 : 0 ≤ m ∧ m < p
  n0 : 0 ≤ n ∧ n < p
  hx : ∃ k, A = x + p * k
  hy : ∃ k, B = y + p * k
  hm : ∃ k, -A * v = m + p * k
  hn : ∃ k, -u = n + p * k
  hu : ∃ k, u * u = B + A * (v * v) + p * k
theorem emod_ex (a p : Int) : ∃ k, a = a % p + p * k := ⟨a / p, by have := Int.emod_add_mul_ediv a p; omega⟩
theorem Mats.of {A B p u v : Int} (pp : 2 < p) (p9 : p ≤ 10000) (u0 : 0 ≤ u ∧ u < p) (v0 : 0 ≤ v ∧ v < p) (h : (u * u) % p = (B + A * (v * v)) % p) : Mats A B p u v (A % p) (B % p) ((-A * v) % p) ((-u) % p) where
  pp := pp
  p9 := p9
  u0 := u0
  v0 := v0
  x0 := ⟨Int.emod_nonneg _ (by omega), Int.emod_lt_of_pos _ (by omega)⟩
  y0 := ⟨Int.emod_nonneg _ (by omega), Int.emod_lt_of_pos _ (by omega)⟩
  m0 := ⟨Int.emod_nonneg _ (by omega), Int.emod_lt_of_pos _ (by omega)⟩
  n0 := ⟨Int.emod_nonneg _ (by omega), Int.emod_lt_of_pos _ (by omega)⟩
  hx := emod_ex _ _
  hy := emod_ex _ _
  hm := emod_ex _ _
  hn := emod_ex _ _
  hu := by
    obtain ⟨k, hk⟩ := Int.dvd_of_emod_eq_zero (Int.emod_eq_emod_iff_emod_sub_eq_zero.1 h)
    exact ⟨k, by omega⟩
section
variable {A B p u v x y m n : Int}
theorem Mats.a1 (h : Mats A B p u v x y m n) : ((x * v) % p + m) % p = 0 := by
  obtain ⟨k1, e1⟩ := h.hx; obtain ⟨k2, e2⟩ := h.hm
  rw [Int.emod_add_emod]
  exact emod_of ⟨-(k1 * v) - k2, by grind⟩ (by omega) (by have := h.pp; omega)
theorem Mats.a2 (h : Mats A B p u v x y m n) : ((x * n) % p + (u * x) % p) % p = 0 := by
  obtain ⟨k, e⟩ := h.hn
  rw [← Int.add_emod]
  exact emod_of ⟨-(x * k), by grind⟩ (by omega) (by have := h.pp; omega)
theorem Mats.a3 (h : Mats A B p u v x y m n) : (u + n) % p = 0 := by
  obtain ⟨k, e⟩ := h.hn
  exact emod_of ⟨-k, by grind⟩ (by omega) (by have := h.pp; omega)
theorem Mats.a4 (h : Mats A B p u v x y m n) : (m + (v * x) % p) % p = 0 := by
  have := h.a1
  rwa [Int.add_comm, Int.mul_comm] at this
end
end FF
end
section
namespace Go.Proofs.YtimdkjbmeogpoaaGreatDoor
open Go.RowKit FF
def ShowsI (w : World) (A : Option Addr) (xs : List Int) : Prop :=
  0 < xs.length → ∃ b o, A = some ⟨b, o, none⟩ ∧ b < w.heap.size ∧ ∀ i, i < xs.length → w.cell? ⟨b, o + i, none⟩ = some (.int .i64 (xs.getD i 0))
section
variable {w w' : World} {A : Option Addr} {xs : List Int}
theorem ShowsI.nil : ShowsI w A [] := fun h => absurd h (by simp)
theorem ShowsI.keep (h : ShowsI w A xs) (hs : w.heap.size ≤ w'.heap.size) (hk : ∀ p : Addr, p.block < w.heap.size → w'.cell? p = w.cell? p) : ShowsI w' A xs := by
  intro hn
  obtain ⟨b, o, e, hb, hc⟩ := h hn
  exact ⟨b, o, e, by omega, fun i hi => (hk ⟨b, o + i, none⟩ hb).trans (hc i hi)⟩
theorem ShowsI.below (h : ShowsI w A xs) (hb : Below w.heap.size w w') : ShowsI w' A xs := h.keep hb.size fun _ hp => hb.cell hp
theorem ShowsI.drewN (h : ShowsI w A xs) (n : Nat) : ShowsI (w.drewN n) A xs := h
theorem ShowsI.alloc (h : ShowsI w A xs) (o : Obj) : ShowsI (w.alloc o) A xs := h.keep (by simp) fun p hp => World.cell?_alloc_lt w o p hp
theorem ShowsI.setCell {B : Nat} (h : ShowsI w A xs) (hf : Fresh B A) {p : Addr} (hp : p.block < B) (v : Value) : ShowsI (w.setCell p v) A xs := by
  intro hn
  obtain ⟨b, o, e, hb, hc⟩ := h hn
  refine ⟨b, o, e, by simpa [World.setCell] using hb, fun i hi => ?_⟩
  rw [World.cell?_setCell_other w p ⟨b, o + i, Option.none⟩ v (fun e2 => by
    have := hf _ e
    have e3 : p.block = b := by rw [e2]
    simp at this
    omega)]
  exact hc i hi
theorem ShowsI.new {w : World} {cs : Array Value} {T : TypeId} {xs : List Int} (h : ∀ i, i < xs.length → cs[i]? = some (.int .i64 (xs.getD i 0))) :
    ShowsI (w.alloc (.cells cs T)) (some ⟨w.heap.size, 0, none⟩) xs := by
  intro _
  refine ⟨w.heap.size, 0, rfl, by simp, fun i hi => ?_⟩
  rw [Nat.zero_add]
  exact (World.cell?_alloc_at (w := w) cs T w.heap.size i rfl).trans (h i hi)
end
end Go.Proofs.YtimdkjbmeogpoaaGreatDoor
end
