/- Elements of quaternion algebras as whole numerators over a denominator: lowest terms, what fits, products, norms, and the bounds of what is reckoned. No condition. Elements as rational numbers: two forms of one element have the same lowest terms; products, sums, norms and conjugates of lowest terms; the ring laws. No condition. Powers of elements: as long as what comes out fits. No condition. Small elements: products of three fit, sums and products are bounded, the minimal polynomial has the element as root. No condition. Modulo an odd prime that divides neither A nor B, B + A v^2 is a square for some small v; and what the two matrices are. No condition. -/
import Derived.Test.YtfjmhfmhijhpkaaGreatDoorNt
namespace FF

structure Qt where
  w : Int
  x : Int
  y : Int
  z : Int
  d : Int

def Qt.zero : Qt := ⟨0, 0, 0, 0, 0⟩
def cB (n : Int) : Bool := decide (-1000000 ≤ n ∧ n ≤ 1000000)
def dB (n : Int) : Bool := decide (1 ≤ n ∧ n ≤ 1000000)
def qB (q : Qt) : Bool := cB q.w && cB q.x && cB q.y && cB q.z && dB q.d
def qE (q : Qt) : Int := if qB q then 0 else 3
def gq (q : Qt) : Nat := Int.gcd (Int.gcd (Int.gcd q.w q.x) (Int.gcd q.y q.z)) q.d
def gs (q : Qt) : Int := if q.d < 0 then -(gq q : Int) else gq q
/-- lowest terms -/
def nrm (q : Qt) : Qt := ⟨q.w.tdiv (gs q), q.x.tdiv (gs q), q.y.tdiv (gs q), q.z.tdiv (gs q), q.d.tdiv (gs q)⟩
def fitE (q : Qt) : Int := if qB (nrm q) then 0 else 8
def fitQ (q : Qt) : Qt := if qB (nrm q) then nrm q else Qt.zero
def smul (k : Int) (q : Qt) : Qt := ⟨k * q.w, k * q.x, k * q.y, k * q.z, k * q.d⟩

theorem cB_iff {n : Int} : cB n = true ↔ -1000000 ≤ n ∧ n ≤ 1000000 := by unfold cB; rw [decide_eq_true_iff]
theorem dB_iff {n : Int} : dB n = true ↔ 1 ≤ n ∧ n ≤ 1000000 := by unfold dB; rw [decide_eq_true_iff]
theorem qB_iff {q : Qt} : qB q = true ↔ ((-1000000 ≤ q.w ∧ q.w ≤ 1000000) ∧ (-1000000 ≤ q.x ∧ q.x ≤ 1000000) ∧ (-1000000 ≤ q.y ∧ q.y ≤ 1000000) ∧ (-1000000 ≤ q.z ∧ q.z ≤ 1000000) ∧ (1 ≤ q.d ∧ q.d ≤ 1000000)) := by
  unfold qB; simp only [Bool.and_eq_true, cB_iff, dB_iff, and_assoc]
theorem qE_zero {q : Qt} : qE q = 0 ↔ qB q = true := by unfold qE; split <;> simp_all

theorem gq_pos {q : Qt} (h : q.d ≠ 0) : 0 < gq q := by
  unfold gq; exact Int.gcd_pos_of_ne_zero_right _ h
theorem gs_ne {q : Qt} (h : q.d ≠ 0) : gs q ≠ 0 := by
  have := gq_pos h
  unfold gs; split <;> omega
theorem gq_dvd (q : Qt) : (gq q : Int) ∣ q.w ∧ (gq q : Int) ∣ q.x ∧ (gq q : Int) ∣ q.y ∧ (gq q : Int) ∣ q.z ∧ (gq q : Int) ∣ q.d := by
  have h1 : (gq q : Int) ∣ (Int.gcd (Int.gcd q.w q.x) (Int.gcd q.y q.z) : Int) := Int.gcd_dvd_left ..
  have h2 : (gq q : Int) ∣ (Int.gcd q.w q.x : Int) := Int.dvd_trans h1 (Int.gcd_dvd_left ..)
  have h3 : (gq q : Int) ∣ (Int.gcd q.y q.z : Int) := Int.dvd_trans h1 (Int.gcd_dvd_right ..)
  exact ⟨Int.dvd_trans h2 (Int.gcd_dvd_left ..), Int.dvd_trans h2 (Int.gcd_dvd_right ..), Int.dvd_trans h3 (Int.gcd_dvd_left ..), Int.dvd_trans h3 (Int.gcd_dvd_right ..), Int.gcd_dvd_right ..⟩
theorem gs_dvd (q : Qt) : gs q ∣ q.w ∧ gs q ∣ q.x ∧ gs q ∣ q.y ∧ gs q ∣ q.z ∧ gs q ∣ q.d := by
  obtain ⟨h1, h2, h3, h4, h5⟩ := gq_dvd q
  unfold gs; split
  · exact ⟨Int.neg_dvd.2 h1, Int.neg_dvd.2 h2, Int.neg_dvd.2 h3, Int.neg_dvd.2 h4, Int.neg_dvd.2 h5⟩
  · exact ⟨h1, h2, h3, h4, h5⟩
theorem nrm_spec (q : Qt) : q = smul (gs q) (nrm q) := by
  obtain ⟨h1, h2, h3, h4, h5⟩ := gs_dvd q
  unfold smul nrm
  simp only [Int.mul_tdiv_cancel' h1, Int.mul_tdiv_cancel' h2, Int.mul_tdiv_cancel' h3, Int.mul_tdiv_cancel' h4, Int.mul_tdiv_cancel' h5]
theorem gq_smul (k : Int) (q : Qt) : gq (smul k q) = k.natAbs * gq q := by
  have hc : ∀ a b : Nat, Int.gcd ((k.natAbs * a : Nat) : Int) ((k.natAbs * b : Nat) : Int) = k.natAbs * Int.gcd a b := fun a b => by
    simp only [Int.gcd, Int.natAbs_natCast]; exact Nat.gcd_mul_left ..
  have hk : ∀ (a : Nat) (b : Int), Int.gcd ((k.natAbs * a : Nat) : Int) (k * b) = k.natAbs * Int.gcd a b := fun a b => by
    simp only [Int.gcd, Int.natAbs_natCast, Int.natAbs_mul]; exact Nat.gcd_mul_left ..
  unfold gq smul
  simp only [Int.gcd_mul_left, hc, hk]
theorem gs_smul {k : Int} {q : Qt} (hk : k ≠ 0) (hd : q.d ≠ 0) : gs (smul k q) = k * gs q := by
  unfold gs
  rw [gq_smul]
  have e : (smul k q).d = k * q.d := rfl
  rw [e, Int.natCast_mul]
  rcases Int.lt_or_lt_of_ne hk with h | h
  · have h1 : (k.natAbs : Int) = -k := by omega
    rw [h1]
    rcases Int.lt_or_lt_of_ne hd with g | g
    · have := Int.mul_pos_of_neg_of_neg h g
      rw [if_neg (by omega), if_pos g]; grind
    · have := Int.mul_neg_of_neg_of_pos h g
      rw [if_pos (by omega), if_neg (by omega)]; grind
  · have h1 : (k.natAbs : Int) = k := by omega
    rw [h1]
    rcases Int.lt_or_lt_of_ne hd with g | g
    · have := Int.mul_neg_of_pos_of_neg h g
      rw [if_pos (by omega), if_pos g]; grind
    · have := Int.mul_pos h g
      rw [if_neg (by omega), if_neg (by omega)]
theorem tdiv_scale {k a g : Int} (hk : k ≠ 0) (hg : g ≠ 0) (h : g ∣ a) : (k * a).tdiv (k * g) = a.tdiv g := by
  obtain ⟨c, rfl⟩ := h
  rw [Int.mul_tdiv_cancel_left _ hg, ← Int.mul_assoc, Int.mul_tdiv_cancel_left _ (Int.mul_ne_zero hk hg)]
theorem nrm_smul {k : Int} {q : Qt} (hk : k ≠ 0) (hd : q.d ≠ 0) : nrm (smul k q) = nrm q := by
  obtain ⟨h1, h2, h3, h4, h5⟩ := gs_dvd q
  have hg := gs_ne hd
  unfold nrm
  rw [gs_smul hk hd]
  simp only [smul, tdiv_scale hk hg h1, tdiv_scale hk hg h2, tdiv_scale hk hg h3, tdiv_scale hk hg h4, tdiv_scale hk hg h5]
theorem nrm_d_pos {q : Qt} (hd : q.d ≠ 0) : 0 < (nrm q).d := by
  have h : q.d = gs q * (nrm q).d := congrArg Qt.d (nrm_spec q)
  have hp := gq_pos hd
  generalize (nrm q).d = e at *
  unfold gs at h
  split at h
  · rename_i hn
    rcases Int.lt_trichotomy e 0 with g | g | g
    · have := Int.mul_pos_of_neg_of_neg (show -(gq q : Int) < 0 by omega) g; omega
    · subst g; rw [Int.mul_zero] at h; omega
    · exact g
  · rcases Int.lt_trichotomy e 0 with g | g | g
    · have := Int.mul_neg_of_pos_of_neg (show (0 : Int) < (gq q : Int) by omega) g; omega
    · subst g; rw [Int.mul_zero] at h; omega
    · exact g
theorem nrm_nrm {q : Qt} (hd : q.d ≠ 0) : nrm (nrm q) = nrm q := by
  have h := nrm_smul (gs_ne hd) (show (nrm q).d ≠ 0 by have := nrm_d_pos hd; omega)
  rw [← nrm_spec] at h
  exact h.symm
theorem tdiv_le {a g : Int} {m : Int} (ha : -m ≤ a ∧ a ≤ m) : -m ≤ a.tdiv g ∧ a.tdiv g ≤ m := by
  have h := Int.natAbs_tdiv_le_natAbs a g
  omega
theorem qB_nrm {q : Qt} (h : qB q = true) : qB (nrm q) = true := by
  obtain ⟨h1, h2, h3, h4, h5⟩ := qB_iff.1 h
  have hp := nrm_d_pos (q := q) (by omega)
  have hd := tdiv_le (a := q.d) (g := gs q) (m := 1000000) ⟨by omega, by omega⟩
  exact qB_iff.2 ⟨tdiv_le h1, tdiv_le h2, tdiv_le h3, tdiv_le h4, by omega, hd.2⟩
theorem fitE_of {q : Qt} (h : qB q = true) : fitE q = 0 := if_pos (qB_nrm h)
theorem fitQ_of {q : Qt} (h : qB q = true) : fitQ q = nrm q := if_pos (qB_nrm h)
theorem fit_smul {k : Int} {q : Qt} (hk : k ≠ 0) (hd : q.d ≠ 0) : fitE (smul k q) = fitE q ∧ fitQ (smul k q) = fitQ q := by
  unfold fitE fitQ; rw [nrm_smul hk hd]; exact ⟨rfl, rfl⟩
theorem fitQ_zero {q : Qt} (h : fitE q ≠ 0) : fitE q = 8 ∧ fitQ q = Qt.zero := by
  unfold fitE at *; unfold fitQ
  split at h
  · exact absurd rfl h
  · rename_i hn; rw [if_neg hn, if_neg hn]; exact ⟨rfl, rfl⟩
theorem fitE_zero {q : Qt} (h : fitE q = 0) : qB (nrm q) = true ∧ fitQ q = nrm q := by
  unfold fitE at h
  split at h
  · rename_i hn; exact ⟨hn, if_pos hn⟩
  · omega

/-- the greatest common divisor of a list, as it is reckoned -/
def gcdL (l : List Int) : Nat := l.foldl (fun g n => Int.gcd g n) 0
theorem gcdL_five (a b c d e : Int) : gcdL [a, b, c, d, e] = gq ⟨a, b, c, d, e⟩ := by
  simp only [gcdL, gq, List.foldl_cons, List.foldl_nil, Int.gcd, Int.natAbs_natCast, Nat.gcd_zero_left]
  simp only [Nat.gcd_assoc]
theorem gcdL_two (a b : Int) : gcdL [a, b] = Int.gcd a b := by
  simp only [gcdL, List.foldl_cons, List.foldl_nil, Int.gcd, Int.natAbs_natCast, Nat.gcd_zero_left]
theorem gcdL_four (a b c d : Int) : gcdL [a, b, c, d] = Int.gcd (Int.gcd (Int.gcd a b) c) d := by
  simp only [gcdL, List.foldl_cons, List.foldl_nil, Int.gcd, Int.natAbs_natCast, Nat.gcd_zero_left]
theorem gcdL_snoc (l : List Int) (n : Int) : gcdL (l ++ [n]) = Int.gcd (gcdL l) n := by
  simp only [gcdL, List.foldl_append, List.foldl_cons, List.foldl_nil]

/-- fractions -/
def lowN (a b : Int) : Int := a.tdiv (if b < 0 then -(Int.gcd a b : Int) else Int.gcd a b)
def lowD (a b : Int) : Int := b.tdiv (if b < 0 then -(Int.gcd a b : Int) else Int.gcd a b)
/-- algebras: the error -/
def aB (a b : Int) : Bool := decide ((-1000 ≤ a ∧ a ≤ 1000) ∧ (-1000 ≤ b ∧ b ≤ 1000))
def aE (a b : Int) : Int := if a = 0 ∨ b = 0 then 10 else if aB a b then 0 else 2
theorem aE_zero {a b : Int} : aE a b = 0 ↔ (a ≠ 0 ∧ b ≠ 0 ∧ (-1000 ≤ a ∧ a ≤ 1000) ∧ (-1000 ≤ b ∧ b ≤ 1000)) := by
  unfold aE aB
  split
  · omega
  · simp only [decide_eq_true_iff]
    split <;> omega

def mulQ (a b : Int) (p q : Qt) : Qt :=
  ⟨p.w * q.w + a * p.x * q.x + b * p.y * q.y - a * b * p.z * q.z,
   p.w * q.x + p.x * q.w - b * p.y * q.z + b * p.z * q.y,
   p.w * q.y + p.y * q.w + a * p.x * q.z - a * p.z * q.x,
   p.w * q.z + p.z * q.w + p.x * q.y - p.y * q.x,
   p.d * q.d⟩
def conjQ (q : Qt) : Qt := ⟨q.w, -q.x, -q.y, -q.z, q.d⟩
def nmQ (a b : Int) (q : Qt) : Int := q.w * q.w - a * q.x * q.x - b * q.y * q.y + a * b * q.z * q.z
def addQ (p q : Qt) : Qt := ⟨p.w * q.d + q.w * p.d, p.x * q.d + q.x * p.d, p.y * q.d + q.y * p.d, p.z * q.d + q.z * p.d, p.d * q.d⟩
def negQ (q : Qt) : Qt := ⟨-q.w, -q.x, -q.y, -q.z, q.d⟩

theorem mulb {x y m n : Int} (hx : -m ≤ x ∧ x ≤ m) (hy : -n ≤ y ∧ y ≤ n) : -(m * n) ≤ x * y ∧ x * y ≤ m * n := by
  have h1 : x.natAbs ≤ m.toNat := by omega
  have h2 : y.natAbs ≤ n.toNat := by omega
  have h3 := Nat.mul_le_mul h1 h2
  rw [← Int.natAbs_mul] at h3
  have h4 : ((m.toNat * n.toNat : Nat) : Int) = m * n := by rw [Int.natCast_mul, Int.toNat_of_nonneg (by omega), Int.toNat_of_nonneg (by omega)]
  omega
end FF
namespace FF
def Qeq (p q : Qt) : Prop := p.w * q.d = q.w * p.d ∧ p.x * q.d = q.x * p.d ∧ p.y * q.d = q.y * p.d ∧ p.z * q.d = q.z * p.d
theorem nrm_eq {p q : Qt} (hp : p.d ≠ 0) (hq : q.d ≠ 0) (h : Qeq p q) : nrm p = nrm q := by
  have e : smul q.d p = smul p.d q := by
    obtain ⟨h1, h2, h3, h4⟩ := h
    unfold smul; simp only [Qt.mk.injEq]; refine ⟨?_, ?_, ?_, ?_, ?_⟩ <;> grind
  rw [← nrm_smul hq hp, e, nrm_smul hp hq]
theorem low_nrm (a b : Int) : nrm ⟨a, 0, 0, 0, b⟩ = ⟨lowN a b, 0, 0, 0, lowD a b⟩ := by
  simp [nrm, gs, gq, lowN, lowD, Int.gcd]
theorem low_eq {a b c d : Int} (hb : b ≠ 0) (hd : d ≠ 0) (h : a * d = c * b) : lowN a b = lowN c d ∧ lowD a b = lowD c d := by
  have e := nrm_eq (p := ⟨a, 0, 0, 0, b⟩) (q := ⟨c, 0, 0, 0, d⟩) hb hd ⟨h, by grind, by grind, by grind⟩
  rw [low_nrm, low_nrm] at e
  simp only [Qt.mk.injEq] at e
  exact ⟨e.1, e.2.2.2.2⟩
theorem low_spec {a b : Int} (hb : b ≠ 0) : ∃ g : Int, g ≠ 0 ∧ a = g * lowN a b ∧ b = g * lowD a b ∧ 0 < lowD a b := by
  have h := nrm_spec ⟨a, 0, 0, 0, b⟩
  have hp := nrm_d_pos (q := ⟨a, 0, 0, 0, b⟩) hb
  have hg := gs_ne (q := ⟨a, 0, 0, 0, b⟩) hb
  rw [low_nrm] at h hp
  simp only [smul, Qt.mk.injEq] at h hp
  exact ⟨_, hg, h.1, h.2.2.2.2, hp⟩
theorem nrm_spec' {q : Qt} (hd : q.d ≠ 0) : ∃ k : Int, k ≠ 0 ∧ q = smul k (nrm q) ∧ 0 < (nrm q).d := ⟨gs q, gs_ne hd, nrm_spec q, nrm_d_pos hd⟩
theorem mulQ_smul (a b k l : Int) (p q : Qt) : mulQ a b (smul k p) (smul l q) = smul (k * l) (mulQ a b p q) := by
  simp only [mulQ, smul, Qt.mk.injEq]; refine ⟨?_, ?_, ?_, ?_, ?_⟩ <;> grind
theorem addQ_smul (k l : Int) (p q : Qt) : addQ (smul k p) (smul l q) = smul (k * l) (addQ p q) := by
  simp only [addQ, smul, Qt.mk.injEq]; refine ⟨?_, ?_, ?_, ?_, ?_⟩ <;> grind
theorem conjQ_smul (k : Int) (p : Qt) : conjQ (smul k p) = smul k (conjQ p) := by
  simp only [conjQ, smul, Qt.mk.injEq]; refine ⟨?_, ?_, ?_, ?_, ?_⟩ <;> grind
theorem nmQ_smul (a b k : Int) (p : Qt) : nmQ a b (smul k p) = k * k * nmQ a b p := by
  simp only [nmQ, smul]; grind
theorem mulQ_d {a b : Int} {p q : Qt} : (mulQ a b p q).d = p.d * q.d := rfl
theorem addQ_d {p q : Qt} : (addQ p q).d = p.d * q.d := rfl
theorem nrm_mul {a b : Int} {p q : Qt} (hp : p.d ≠ 0) (hq : q.d ≠ 0) : nrm (mulQ a b (nrm p) (nrm q)) = nrm (mulQ a b p q) := by
  obtain ⟨k, hk, e, h0⟩ := nrm_spec' hp
  obtain ⟨l, hl, f, h1⟩ := nrm_spec' hq
  conv => rhs; rw [e, f, mulQ_smul]
  rw [nrm_smul (Int.mul_ne_zero hk hl) (by rw [mulQ_d]; exact Int.mul_ne_zero (by omega) (by omega))]
theorem nrm_add {p q : Qt} (hp : p.d ≠ 0) (hq : q.d ≠ 0) : nrm (addQ (nrm p) (nrm q)) = nrm (addQ p q) := by
  obtain ⟨k, hk, e, h0⟩ := nrm_spec' hp
  obtain ⟨l, hl, f, h1⟩ := nrm_spec' hq
  conv => rhs; rw [e, f, addQ_smul]
  rw [nrm_smul (Int.mul_ne_zero hk hl) (by rw [addQ_d]; exact Int.mul_ne_zero (by omega) (by omega))]
theorem nrm_conj {p : Qt} (hp : p.d ≠ 0) : nrm (conjQ (nrm p)) = nrm (conjQ p) := by
  obtain ⟨k, hk, e, h0⟩ := nrm_spec' hp
  conv => rhs; rw [e, conjQ_smul]
  rw [nrm_smul hk (show (conjQ (nrm p)).d ≠ 0 by show (nrm p).d ≠ 0; omega)]
theorem smul_one (p : Qt) : smul 1 p = p := by simp [smul]
theorem nrm_mul_left {a b : Int} {p q : Qt} (hp : p.d ≠ 0) (hq : q.d ≠ 0) : nrm (mulQ a b (nrm p) q) = nrm (mulQ a b p q) := by
  obtain ⟨k, hk, e, h0⟩ := nrm_spec' hp
  conv => rhs; rw [e, ← smul_one q, mulQ_smul]
  rw [nrm_smul (by omega) (by rw [mulQ_d]; exact Int.mul_ne_zero (by omega) hq)]
theorem nrm_mul_right {a b : Int} {p q : Qt} (hp : p.d ≠ 0) (hq : q.d ≠ 0) : nrm (mulQ a b p (nrm q)) = nrm (mulQ a b p q) := by
  obtain ⟨k, hk, e, h0⟩ := nrm_spec' hq
  conv => rhs; rw [e, ← smul_one p, mulQ_smul]
  rw [nrm_smul (by omega) (by rw [mulQ_d]; exact Int.mul_ne_zero hp (by omega))]
theorem mulQ_assoc (a b : Int) (p q r : Qt) : mulQ a b (mulQ a b p q) r = mulQ a b p (mulQ a b q r) := by
  simp only [mulQ, Qt.mk.injEq]; refine ⟨?_, ?_, ?_, ?_, ?_⟩ <;> grind
theorem conjQ_mul (a b : Int) (p q : Qt) : conjQ (mulQ a b p q) = mulQ a b (conjQ q) (conjQ p) := by
  simp only [mulQ, conjQ, Qt.mk.injEq]; refine ⟨?_, ?_, ?_, ?_, ?_⟩ <;> grind
theorem mulQ_conj (a b : Int) (p : Qt) : mulQ a b p (conjQ p) = ⟨nmQ a b p, 0, 0, 0, p.d * p.d⟩ := by
  simp only [mulQ, conjQ, nmQ, Qt.mk.injEq]; refine ⟨?_, ?_, ?_, ?_, ?_⟩ <;> grind
theorem nmQ_mul (a b : Int) (p q : Qt) : nmQ a b (mulQ a b p q) = nmQ a b p * nmQ a b q := by
  simp only [mulQ, nmQ]; grind
/-- the norm of a product -/
theorem norm_mul {a b : Int} {p q : Qt} (hp : p.d ≠ 0) (hq : q.d ≠ 0) :
    let r := nrm (mulQ a b p q)
    let mn := lowN (nmQ a b p) (p.d * p.d); let md := lowD (nmQ a b p) (p.d * p.d)
    let nn := lowN (nmQ a b q) (q.d * q.d); let nd := lowD (nmQ a b q) (q.d * q.d)
    lowN (nmQ a b r) (r.d * r.d) = lowN (mn * nn) (md * nd) ∧ lowD (nmQ a b r) (r.d * r.d) = lowD (mn * nn) (md * nd) := by
  intro r mn md nn nd
  obtain ⟨k, hk, e, h0⟩ := nrm_spec' (q := mulQ a b p q) (by rw [mulQ_d]; exact Int.mul_ne_zero hp hq)
  obtain ⟨g, hg, e1, e2, h1⟩ := low_spec (a := nmQ a b p) (b := p.d * p.d) (Int.mul_ne_zero hp hp)
  obtain ⟨l, hl, e3, e4, h2⟩ := low_spec (a := nmQ a b q) (b := q.d * q.d) (Int.mul_ne_zero hq hq)
  have e5 : nmQ a b p * nmQ a b q = k * k * nmQ a b r := by rw [← nmQ_mul, e, nmQ_smul]
  have e6 : p.d * q.d = k * r.d := by
    have := congrArg Qt.d e
    rwa [mulQ_d] at this
  have hr : r.d ≠ 0 := by show (nrm (mulQ a b p q)).d ≠ 0; omega
  refine low_eq (Int.mul_ne_zero hr hr) (Int.mul_ne_zero (show md ≠ 0 by omega) (show nd ≠ 0 by omega)) ?_
  have hm : k * k * (g * l) ≠ 0 := Int.mul_ne_zero (Int.mul_ne_zero hk hk) (Int.mul_ne_zero hg hl)
  apply Int.eq_of_mul_eq_mul_left hm
  have e7 : (k * r.d) * (k * r.d) = (g * md) * (l * nd) := by rw [← e6, ← e2, ← e4]; grind
  have e8 : (g * mn) * (l * nn) = k * k * nmQ a b r := by rw [← e1, ← e3]; exact e5
  calc k * k * (g * l) * (nmQ a b r * (md * nd)) = (k * k * nmQ a b r) * ((g * md) * (l * nd)) := by grind
    _ = ((g * mn) * (l * nn)) * ((k * r.d) * (k * r.d)) := by rw [e8, e7]
    _ = _ := by grind
/-- inverses of an element that is not in lowest terms -/
def invN (a b : Int) (q : Qt) : Qt := ⟨q.w * q.d, -q.x * q.d, -q.y * q.d, -q.z * q.d, nmQ a b q⟩
theorem invN_smul (a b k : Int) (q : Qt) : invN a b (smul k q) = smul (k * k) (invN a b q) := by
  simp only [invN, smul, nmQ, Qt.mk.injEq]; refine ⟨?_, ?_, ?_, ?_, ?_⟩ <;> grind
theorem nm_zero_nrm {a b : Int} {q : Qt} (hd : q.d ≠ 0) : nmQ a b q = 0 ↔ nmQ a b (nrm q) = 0 := by
  obtain ⟨k, hk, e, h0⟩ := nrm_spec' hd
  have h : nmQ a b q = k * k * nmQ a b (nrm q) := by conv => lhs; rw [e, nmQ_smul]
  rw [h]
  constructor
  · intro h1
    rcases Int.mul_eq_zero.1 h1 with h2 | h2
    · exact absurd h2 (Int.mul_ne_zero hk hk)
    · exact h2
  · intro h1; rw [h1, Int.mul_zero]
theorem fit_inv {a b : Int} {q : Qt} (hd : q.d ≠ 0) (hn : nmQ a b q ≠ 0) : fitE (invN a b (nrm q)) = fitE (invN a b q) ∧ fitQ (invN a b (nrm q)) = fitQ (invN a b q) := by
  obtain ⟨k, hk, e, h0⟩ := nrm_spec' hd
  have hn2 : (invN a b (nrm q)).d ≠ 0 := fun h => hn ((nm_zero_nrm hd).2 h)
  have h := fit_smul (q := invN a b (nrm q)) (Int.mul_ne_zero hk hk) hn2
  have e2 : invN a b q = smul (k * k) (invN a b (nrm q)) := by conv => lhs; rw [e, invN_smul]
  rw [e2]
  exact ⟨h.1.symm, h.2.symm⟩
/-- bounds -/
theorem nm_bound {a b : Int} {q : Qt} (ha : -1000 ≤ a ∧ a ≤ 1000) (hb : -1000 ≤ b ∧ b ≤ 1000) (hq : qB q = true) : -1100000000000000000 ≤ nmQ a b q ∧ nmQ a b q ≤ 1100000000000000000 := by
  obtain ⟨h1, h2, h3, h4, h5⟩ := qB_iff.1 hq
  have hw := mulb h1 h1
  have hx := mulb (mulb ha h2) h2
  have hy := mulb (mulb hb h3) h3
  have hz := mulb (mulb (mulb ha hb) h4) h4
  simp only [Int.reduceMul, Int.reduceNeg] at hw hx hy hz
  unfold nmQ
  omega
/-- elements in a row -/
def flatQ (l : List Qt) : List Int := l.flatMap fun q => [q.w, q.x, q.y, q.z, q.d]
theorem flatQ_len (l : List Qt) : (flatQ l).length = 5 * l.length := by
  induction l with
  | nil => rfl
  | cons q l ih => unfold flatQ at *; simp only [List.flatMap_cons, List.length_append, List.length_cons, List.length_nil, ih]; omega
theorem flatQ_get {l : List Qt} {i : Nat} (h : i < l.length) : (flatQ l).getD (5 * i) 0 = (l.getD i Qt.zero).w ∧ (flatQ l).getD (5 * i + 1) 0 = (l.getD i Qt.zero).x ∧
    (flatQ l).getD (5 * i + 2) 0 = (l.getD i Qt.zero).y ∧ (flatQ l).getD (5 * i + 3) 0 = (l.getD i Qt.zero).z ∧ (flatQ l).getD (5 * i + 4) 0 = (l.getD i Qt.zero).d := by
  induction l generalizing i with
  | nil => simp at h
  | cons q l ih =>
    cases i with
    | zero => simp [flatQ]
    | succ i =>
      have h' : i < l.length := by simpa using h
      have := ih h'
      have e : ∀ j, (flatQ (q :: l)).getD (5 * (i + 1) + j) 0 = (flatQ l).getD (5 * i + j) 0 := fun j => by
        rw [show 5 * (i + 1) + j = (5 * i + j) + 1 + 1 + 1 + 1 + 1 by omega]
        simp [flatQ]
      rw [e 1, e 2, e 3, e 4, show 5 * (i + 1) = 5 * (i + 1) + 0 from rfl, e 0]
      simpa using this
/-- the first error of elements -/
def qsE (l : List Qt) : Int := if l.all qB then 0 else 3
def allE (a b : Int) (l : List Qt) : Int := if aE a b = 0 then qsE l else aE a b
theorem qsE_zero {l : List Qt} : qsE l = 0 ↔ ∀ q ∈ l, qB q = true := by unfold qsE; split <;> simp_all
theorem qsE_take {l : List Qt} {k : Nat} (hk : k < l.length) (_ : ∀ j, j < k → qB (l.getD j Qt.zero) = true) (hq : qB (l.getD k Qt.zero) = false) : qsE l = 3 := by
  unfold qsE
  rw [if_neg]
  intro hn
  have := List.all_eq_true.1 hn (l[k]) (List.getElem_mem hk)
  rw [List.getD_eq_getElem?_getD, List.getElem?_eq_getElem hk] at hq
  simp only [Option.getD_some] at hq
  rw [hq] at this
  exact Bool.false_ne_true this
theorem qsE_done {l : List Qt} (h : ∀ j, j < l.length → qB (l.getD j Qt.zero) = true) : qsE l = 0 := by
  refine qsE_zero.2 fun q hq => ?_
  obtain ⟨j, hj, rfl⟩ := List.mem_iff_getElem.1 hq
  have := h j hj
  rwa [List.getD_eq_getElem?_getD, List.getElem?_eq_getElem hj] at this
theorem allE_zero {a b : Int} {l : List Qt} : allE a b l = 0 ↔ aE a b = 0 ∧ ∀ q ∈ l, qB q = true := by
  unfold allE; split
  · rename_i h; rw [qsE_zero]; simp [h]
  · rename_i h; simp [h]
theorem qE_cases (q : Qt) : (qB q = true ∧ qE q = 0) ∨ (qB q = false ∧ qE q = 3) := by unfold qE; cases qB q <;> simp
end FF
namespace FF
def oneQ : Qt := ⟨1, 0, 0, 0, 1⟩
def powS (a b : Int) (q : Qt) : Nat → Option Qt
  | 0 => some oneQ
  | k + 1 => match powS a b q k with
    | none => none
    | some o => if fitE (mulQ a b o q) = 0 then some (fitQ (mulQ a b o q)) else none
def powQ (a b : Int) (q : Qt) (n : Nat) : Qt := (powS a b q n).getD Qt.zero
def powE (a b : Int) (q : Qt) (n : Nat) : Int := if (powS a b q n).isSome then 0 else 8
theorem powS_zero (a b : Int) (q : Qt) : powS a b q 0 = some oneQ := rfl
theorem powS_next {a b : Int} {q o : Qt} {k : Nat} (h : powS a b q k = some o) (hf : fitE (mulQ a b o q) = 0) : powS a b q (k + 1) = some (fitQ (mulQ a b o q)) := by
  show (match powS a b q k with | none => none | some o => if fitE (mulQ a b o q) = 0 then some (fitQ (mulQ a b o q)) else none) = _
  rw [h]; exact if_pos hf
theorem powS_fell {a b : Int} {q o : Qt} {k : Nat} (h : powS a b q k = some o) (hf : fitE (mulQ a b o q) ≠ 0) : powS a b q (k + 1) = none := by
  show (match powS a b q k with | none => none | some o => if fitE (mulQ a b o q) = 0 then some (fitQ (mulQ a b o q)) else none) = _
  rw [h]; exact if_neg hf
theorem powS_none {a b : Int} {q : Qt} {k : Nat} (h : powS a b q k = none) : ∀ n, k ≤ n → powS a b q n = none := by
  intro n hn
  induction n with
  | zero => rw [show k = 0 by omega] at h; exact h
  | succ n ih =>
    rcases Nat.lt_or_ge n k with g | g
    · rw [show k = n + 1 by omega] at h; exact h
    · show (match powS a b q n with | none => none | some o => if fitE (mulQ a b o q) = 0 then some (fitQ (mulQ a b o q)) else none) = _
      rw [ih g]
theorem powS_valid {a b : Int} {q o : Qt} : ∀ {k : Nat}, powS a b q k = some o → qB o = true := by
  intro k
  cases k with
  | zero => intro h; rw [powS_zero] at h; cases h; decide
  | succ k =>
    intro h
    cases hk : powS a b q k with
    | none => rw [powS_none hk (k + 1) (Nat.le_succ k)] at h; cases h
    | some p =>
      by_cases hf : fitE (mulQ a b p q) = 0
      · rw [powS_next hk hf] at h
        cases h
        obtain ⟨h1, h2⟩ := fitE_zero hf
        rw [h2]; exact h1
      · rw [powS_fell hk hf] at h; cases h
theorem pow_done {a b : Int} {q o : Qt} {n : Nat} (h : powS a b q n = some o) : powQ a b q n = o ∧ powE a b q n = 0 := by
  unfold powQ powE; rw [h]; exact ⟨rfl, rfl⟩
theorem pow_fell {a b : Int} {q o : Qt} {k n : Nat} (h : powS a b q k = some o) (hk : k < n) (hf : fitE (mulQ a b o q) ≠ 0) : powQ a b q n = Qt.zero ∧ powE a b q n = 8 ∧ fitE (mulQ a b o q) = 8 := by
  unfold powQ powE; rw [powS_none (powS_fell h hf) n hk]; exact ⟨rfl, rfl, (fitQ_zero hf).1⟩
end FF
namespace FF
def N4 (q : Qt) : Nat := 4 * q.w.natAbs + 18 * q.x.natAbs + 18 * q.y.natAbs + 81 * q.z.natAbs
def smB (q : Qt) : Bool := decide ((-3 ≤ q.w ∧ q.w ≤ 3) ∧ (-3 ≤ q.x ∧ q.x ≤ 3) ∧ (-3 ≤ q.y ∧ q.y ≤ 3) ∧ (-3 ≤ q.z ∧ q.z ≤ 3) ∧ (1 ≤ q.d ∧ q.d ≤ 3))
theorem smB_iff {q : Qt} : smB q = true ↔ (-3 ≤ q.w ∧ q.w ≤ 3) ∧ (-3 ≤ q.x ∧ q.x ≤ 3) ∧ (-3 ≤ q.y ∧ q.y ≤ 3) ∧ (-3 ≤ q.z ∧ q.z ≤ 3) ∧ (1 ≤ q.d ∧ q.d ≤ 3) := by unfold smB; rw [decide_eq_true_iff]
theorem smB_N4 {q : Qt} (h : smB q = true) : N4 q ≤ 363 ∧ 1 ≤ q.d ∧ q.d ≤ 3 := by
  obtain ⟨h1, h2, h3, h4, h5⟩ := smB_iff.1 h
  unfold N4; omega
theorem N4_nrm (q : Qt) : N4 (nrm q) ≤ N4 q := by
  have h : ∀ x : Int, (x.tdiv (gs q)).natAbs ≤ x.natAbs := fun x => Int.natAbs_tdiv_le_natAbs x (gs q)
  have h1 := h q.w; have h2 := h q.x; have h3 := h q.y; have h4 := h q.z
  show 4 * (q.w.tdiv (gs q)).natAbs + 18 * (q.x.tdiv (gs q)).natAbs + 18 * (q.y.tdiv (gs q)).natAbs + 81 * (q.z.tdiv (gs q)).natAbs ≤ 4 * q.w.natAbs + 18 * q.x.natAbs + 18 * q.y.natAbs + 81 * q.z.natAbs
  omega
theorem nrm_d_le {q : Qt} (hd : 0 < q.d) : 0 < (nrm q).d ∧ (nrm q).d ≤ q.d := by
  have h1 := nrm_d_pos (q := q) (by omega)
  have h2 : (nrm q).d.natAbs ≤ q.d.natAbs := Int.natAbs_tdiv_le_natAbs q.d (gs q)
  omega
theorem abs_mul3 {a x y : Int} {m : Nat} (ha : a.natAbs ≤ m) : (a * x * y).natAbs ≤ m * (x.natAbs * y.natAbs) := by
  rw [Int.natAbs_mul, Int.natAbs_mul, Nat.mul_assoc]
  exact Nat.mul_le_mul_right _ ha
theorem tri_a (a b c d : Int) : (a + b + c - d).natAbs ≤ a.natAbs + b.natAbs + c.natAbs + d.natAbs := by omega
theorem tri_b (a b c d : Int) : (a + b - c + d).natAbs ≤ a.natAbs + b.natAbs + c.natAbs + d.natAbs := by omega
theorem N4_mul {a b : Int} {p q : Qt} (ha : a.natAbs ≤ 20) (hb : b.natAbs ≤ 20) : 4 * N4 (mulQ a b p q) ≤ N4 p * N4 q := by
  have hab : (a * b).natAbs ≤ 400 := by rw [Int.natAbs_mul]; exact Nat.mul_le_mul ha hb
  have e1 : ∀ x y : Int, (x * y).natAbs = x.natAbs * y.natAbs := fun x y => Int.natAbs_mul x y
  have w2 := abs_mul3 (x := p.x) (y := q.x) ha
  have w3 := abs_mul3 (x := p.y) (y := q.y) hb
  have w4 := abs_mul3 (x := p.z) (y := q.z) hab
  have x3 := abs_mul3 (x := p.y) (y := q.z) hb
  have x4 := abs_mul3 (x := p.z) (y := q.y) hb
  have y3 := abs_mul3 (x := p.x) (y := q.z) ha
  have y4 := abs_mul3 (x := p.z) (y := q.x) ha
  have t1 := e1 p.w q.w
  have t2 := e1 p.w q.x; have t3 := e1 p.x q.w
  have t4 := e1 p.w q.y; have t5 := e1 p.y q.w
  have t6 := e1 p.w q.z; have t7 := e1 p.z q.w; have t8 := e1 p.x q.y; have t9 := e1 p.y q.x
  have hW : (mulQ a b p q).w.natAbs ≤ p.w.natAbs * q.w.natAbs + 20 * (p.x.natAbs * q.x.natAbs) + 20 * (p.y.natAbs * q.y.natAbs) + 400 * (p.z.natAbs * q.z.natAbs) :=
    Nat.le_trans (tri_a (p.w * q.w) (a * p.x * q.x) (b * p.y * q.y) (a * b * p.z * q.z)) (Nat.add_le_add (Nat.add_le_add (Nat.add_le_add (Nat.le_of_eq t1) w2) w3) w4)
  have hX : (mulQ a b p q).x.natAbs ≤ p.w.natAbs * q.x.natAbs + p.x.natAbs * q.w.natAbs + 20 * (p.y.natAbs * q.z.natAbs) + 20 * (p.z.natAbs * q.y.natAbs) :=
    Nat.le_trans (tri_b (p.w * q.x) (p.x * q.w) (b * p.y * q.z) (b * p.z * q.y)) (Nat.add_le_add (Nat.add_le_add (Nat.add_le_add (Nat.le_of_eq t2) (Nat.le_of_eq t3)) x3) x4)
  have hY : (mulQ a b p q).y.natAbs ≤ p.w.natAbs * q.y.natAbs + p.y.natAbs * q.w.natAbs + 20 * (p.x.natAbs * q.z.natAbs) + 20 * (p.z.natAbs * q.x.natAbs) :=
    Nat.le_trans (tri_a (p.w * q.y) (p.y * q.w) (a * p.x * q.z) (a * p.z * q.x)) (Nat.add_le_add (Nat.add_le_add (Nat.add_le_add (Nat.le_of_eq t4) (Nat.le_of_eq t5)) y3) y4)
  have hZ : (mulQ a b p q).z.natAbs ≤ p.w.natAbs * q.z.natAbs + p.z.natAbs * q.w.natAbs + p.x.natAbs * q.y.natAbs + p.y.natAbs * q.x.natAbs :=
    Nat.le_trans (tri_a (p.w * q.z) (p.z * q.w) (p.x * q.y) (p.y * q.x)) (Nat.add_le_add (Nat.add_le_add (Nat.add_le_add (Nat.le_of_eq t6) (Nat.le_of_eq t7)) (Nat.le_of_eq t8)) (Nat.le_of_eq t9))
  clear w2 w3 w4 x3 x4 y3 y4 t1 t2 t3 t4 t5 t6 t7 t8 t9 e1
  have e : N4 p * N4 q = 16 * (p.w.natAbs * q.w.natAbs) + 72 * (p.w.natAbs * q.x.natAbs) + 72 * (p.w.natAbs * q.y.natAbs) + 324 * (p.w.natAbs * q.z.natAbs)
      + 72 * (p.x.natAbs * q.w.natAbs) + 324 * (p.x.natAbs * q.x.natAbs) + 324 * (p.x.natAbs * q.y.natAbs) + 1458 * (p.x.natAbs * q.z.natAbs)
      + 72 * (p.y.natAbs * q.w.natAbs) + 324 * (p.y.natAbs * q.x.natAbs) + 324 * (p.y.natAbs * q.y.natAbs) + 1458 * (p.y.natAbs * q.z.natAbs)
      + 324 * (p.z.natAbs * q.w.natAbs) + 1458 * (p.z.natAbs * q.x.natAbs) + 1458 * (p.z.natAbs * q.y.natAbs) + 6561 * (p.z.natAbs * q.z.natAbs) := by
    unfold N4
    clear hW hX hY hZ hab ha hb
    generalize p.w.natAbs = a0; generalize p.x.natAbs = a1; generalize p.y.natAbs = a2; generalize p.z.natAbs = a3
    generalize q.w.natAbs = b0; generalize q.x.natAbs = b1; generalize q.y.natAbs = b2; generalize q.z.natAbs = b3
    grind
  rw [e]
  unfold N4
  clear e hab ha hb
  generalize (mulQ a b p q).w.natAbs = W at *
  generalize (mulQ a b p q).x.natAbs = X at *
  generalize (mulQ a b p q).y.natAbs = Y at *
  generalize (mulQ a b p q).z.natAbs = Z at *
  omega
/-- what has a bounded sum and a bounded denominator is valid -/
theorem qB_N4 {q : Qt} (h : N4 q ≤ 4000000) (h1 : 1 ≤ q.d) (h2 : q.d ≤ 1000000) : qB q = true := by
  unfold N4 at h
  exact qB_iff.2 ⟨by omega, by omega, by omega, by omega, by omega⟩
theorem smB_qB {q : Qt} (h : smB q = true) : qB q = true := by
  have := smB_N4 h
  exact qB_N4 (by omega) this.2.1 (by omega)
/-- a bounded element -/
structure Bd (n m : Nat) (q : Qt) : Prop where
  sum : N4 q ≤ n
  pos : 1 ≤ q.d
  den : q.d ≤ m
theorem Bd.of {q : Qt} (h : smB q = true) : Bd 363 3 q := ⟨(smB_N4 h).1, (smB_N4 h).2.1, (smB_N4 h).2.2⟩
theorem Bd.ne {n m : Nat} {q : Qt} (h : Bd n m q) : q.d ≠ 0 := by have := h.pos; omega
theorem Bd.qB {n m : Nat} {q : Qt} (h : Bd n m q) (hn : n ≤ 4000000) (hm : m ≤ 1000000) : qB q = true := qB_N4 (Nat.le_trans h.sum hn) h.pos (by have := h.den; omega)
theorem Bd.nrm {n m : Nat} {q : Qt} (h : Bd n m q) : Bd n m (nrm q) := by
  have := nrm_d_le (q := q) (by have := h.pos; omega)
  exact ⟨Nat.le_trans (N4_nrm q) h.sum, by omega, by have := h.den; omega⟩
theorem Bd.mul {a b : Int} {n m k l r : Nat} {p q : Qt} (hp : Bd n m p) (hq : Bd k l q) (ha : a.natAbs ≤ 20) (hb : b.natAbs ≤ 20) (hr : n * k ≤ 4 * r) : Bd r (m * l) (mulQ a b p q) := by
  refine ⟨?_, ?_, ?_⟩
  · have h := N4_mul (p := p) (q := q) ha hb
    have := Nat.mul_le_mul hp.sum hq.sum
    omega
  · rw [mulQ_d]; have := Int.mul_pos (show 0 < p.d by have := hp.pos; omega) (show 0 < q.d by have := hq.pos; omega); omega
  · rw [mulQ_d, Int.natCast_mul]
    exact Int.mul_le_mul hp.den hq.den (by have := hq.pos; omega) (by have := hp.den; have := hp.pos; omega)
theorem Bd.conj {n m : Nat} {q : Qt} (h : Bd n m q) : Bd n m (conjQ q) := by
  refine ⟨?_, h.pos, h.den⟩
  have : N4 (conjQ q) = N4 q := by unfold N4 conjQ; simp only [Int.natAbs_neg]
  rw [this]; exact h.sum
theorem Bd.add {n m k l : Nat} {p q : Qt} (hp : Bd n m p) (hq : Bd k l q) : Bd (n * l + k * m) (m * l) (addQ p q) := by
  have dp := hp.den; have dq := hq.den; have pp := hp.pos; have pq := hq.pos
  refine ⟨?_, ?_, ?_⟩
  · have h : ∀ x y : Int, (x * q.d + y * p.d).natAbs ≤ x.natAbs * l + y.natAbs * m := fun x y => by
      have h1 : (x * q.d).natAbs ≤ x.natAbs * l := by rw [Int.natAbs_mul]; exact Nat.mul_le_mul_left _ (by omega)
      have h2 : (y * p.d).natAbs ≤ y.natAbs * m := by rw [Int.natAbs_mul]; exact Nat.mul_le_mul_left _ (by omega)
      omega
    have hw := h p.w q.w; have hx := h p.x q.x; have hy := h p.y q.y; have hz := h p.z q.z
    have h1 : N4 (addQ p q) ≤ N4 p * l + N4 q * m := by
      have e : N4 p * l + N4 q * m = 4 * (p.w.natAbs * l + q.w.natAbs * m) + 18 * (p.x.natAbs * l + q.x.natAbs * m) + 18 * (p.y.natAbs * l + q.y.natAbs * m) + 81 * (p.z.natAbs * l + q.z.natAbs * m) := by unfold N4; grind
      rw [e]
      show 4 * (p.w * q.d + q.w * p.d).natAbs + 18 * (p.x * q.d + q.x * p.d).natAbs + 18 * (p.y * q.d + q.y * p.d).natAbs + 81 * (p.z * q.d + q.z * p.d).natAbs ≤ _
      omega
    have h2 := Nat.mul_le_mul_right l hp.sum
    have h3 := Nat.mul_le_mul_right m hq.sum
    omega
  · rw [addQ_d]; have := Int.mul_pos (show 0 < p.d by omega) (show 0 < q.d by omega); omega
  · rw [addQ_d, Int.natCast_mul]
    exact Int.mul_le_mul dp dq (by omega) (by omega)
theorem Bd.mono {n m k l : Nat} {q : Qt} (h : Bd n m q) (h1 : n ≤ k) (h2 : m ≤ l) : Bd k l q := ⟨Nat.le_trans h.sum h1, h.pos, by have := h.den; omega⟩
theorem nrm_zero {d : Int} (h : d ≠ 0) : nrm ⟨0, 0, 0, 0, d⟩ = ⟨0, 0, 0, 0, 1⟩ := by
  have e := nrm_eq (p := ⟨0, 0, 0, 0, d⟩) (q := ⟨0, 0, 0, 0, 1⟩) h (by decide) ⟨by simp, by simp, by simp, by simp⟩
  rw [e]; rfl
theorem dist_smul (a b : Int) (p q r : Qt) : addQ (mulQ a b p q) (mulQ a b p r) = smul p.d (mulQ a b p (addQ q r)) := by
  simp only [addQ, mulQ, smul, Qt.mk.injEq]; refine ⟨?_, ?_, ?_, ?_, ?_⟩ <;> grind
theorem nrm_dist {a b : Int} {p q r : Qt} (hp : p.d ≠ 0) (hq : q.d ≠ 0) (hr : r.d ≠ 0) : nrm (addQ (mulQ a b p q) (mulQ a b p r)) = nrm (mulQ a b p (addQ q r)) := by
  rw [dist_smul, nrm_smul hp (by rw [mulQ_d, addQ_d]; exact Int.mul_ne_zero hp (Int.mul_ne_zero hq hr))]
end FF
namespace FF
theorem pigeon {L : List Int} {n : Nat} (h : ∀ x ∈ L, 0 ≤ x ∧ x < n) (hl : n < L.length) : ¬ L.Nodup := by
  induction n generalizing L with
  | zero =>
    match L, hl with
    | x :: L, _ => have := h x (List.mem_cons_self ..); omega
  | succ n ih =>
    intro hn
    have hn2 : (L.erase (n : Int)).Nodup := hn.erase _
    refine ih (L := L.erase (n : Int)) (fun x hx => ?_) ?_ hn2
    · have h1 := h x (List.mem_of_mem_erase hx)
      have h2 : x ≠ (n : Int) := ((List.Nodup.mem_erase_iff hn).1 hx).1
      omega
    · have := List.length_erase_le (a := (n : Int)) (l := L)
      rw [List.length_erase]
      split <;> omega
/-- two squares of small numbers that are congruent are alike -/
theorem small_square {p : Nat} (hp : IsP p) {c : Int} (hc : ¬ (p : Int) ∣ c) {x y : Int} (hx : 0 ≤ x ∧ 2 * x < p) (hy : 0 ≤ y ∧ 2 * y < p) (h : (p : Int) ∣ c * (x * x) - c * (y * y)) : x = y := by
  have e : c * (x * x) - c * (y * y) = c * ((x - y) * (x + y)) := by grind
  rw [e] at h
  rcases IsP.idvd_mul hp h with h1 | h1
  · exact absurd h1 hc
  · rcases IsP.idvd_mul hp h1 with h2 | h2
    · rcases Int.lt_trichotomy x y with g | g | g
      · have := Int.le_of_dvd (show 0 < y - x by omega) (by have := Int.dvd_neg.2 h2; rwa [show -(x - y) = y - x by omega] at this); omega
      · exact g
      · have := Int.le_of_dvd (show 0 < x - y by omega) h2; omega
    · rcases Int.lt_or_le 0 (x + y) with g | g
      · have := Int.le_of_dvd g h2; omega
      · omega
/-- the squares and the values B + A v^2 are too many to be all apart -/
theorem exists_square {p : Nat} (hp : IsP p) (h2 : 2 < p) {a : Int} (b : Int) (ha : ¬ (p : Int) ∣ a) :
    ∃ v u : Nat, 2 * v < p ∧ 2 * u < p ∧ ((u : Int) * u) % p = (b + a * ((v : Int) * v)) % p := by
  have hodd : p % 2 = 1 := by
    rcases Nat.mod_two_eq_zero_or_one p with h | h
    · have h3 : 2 ∣ p := Nat.dvd_of_mod_eq_zero h
      rcases hp.2 2 h3 with g | g <;> omega
    · exact h
  have h1 : ¬ (p : Int) ∣ 1 := fun h => by have := Int.le_of_dvd (by omega) h; omega
  have hr : ∀ k, k ∈ List.range (p / 2 + 1) → 2 * k < p := fun k hk => by have := List.mem_range.1 hk; omega
  have hmod : ∀ x : Int, 0 ≤ x % p ∧ x % p < p := fun x => ⟨Int.emod_nonneg _ (by omega), Int.emod_lt_of_pos _ (by omega)⟩
  have hn : ¬ ((List.range (p / 2 + 1)).map (fun k : Nat => ((k : Int) * k) % p) ++ (List.range (p / 2 + 1)).map (fun k : Nat => (b + a * ((k : Int) * k)) % p)).Nodup := by
    refine pigeon (n := p) (fun x hx => ?_) ?_
    · rcases List.mem_append.1 hx with h | h
      · obtain ⟨k, _, rfl⟩ := List.mem_map.1 h; exact hmod _
      · obtain ⟨k, _, rfl⟩ := List.mem_map.1 h; exact hmod _
    · simp only [List.length_append, List.length_map, List.length_range]; omega
  apply Classical.byContradiction
  intro hno
  apply hn
  rw [List.nodup_append]
  refine ⟨?_, ?_, ?_⟩
  · refine List.pairwise_map.2 (List.Pairwise.imp_of_mem ?_ List.nodup_range)
    intro x y hx hy hxy h
    apply hxy
    have hd := Int.dvd_of_emod_eq_zero (Int.emod_eq_emod_iff_emod_sub_eq_zero.1 h)
    have := small_square hp h1 (x := x) (y := y) ⟨by omega, by have := hr x hx; omega⟩ ⟨by omega, by have := hr y hy; omega⟩ (by rw [Int.one_mul, Int.one_mul]; exact hd)
    omega
  · refine List.pairwise_map.2 (List.Pairwise.imp_of_mem ?_ List.nodup_range)
    intro x y hx hy hxy h
    apply hxy
    have hd := Int.dvd_of_emod_eq_zero (Int.emod_eq_emod_iff_emod_sub_eq_zero.1 h)
    have := small_square hp ha (x := x) (y := y) ⟨by omega, by have := hr x hx; omega⟩ ⟨by omega, by have := hr y hy; omega⟩ (by rwa [show b + a * ((x : Int) * x) - (b + a * ((y : Int) * y)) = a * ((x : Int) * x) - a * ((y : Int) * y) by omega] at hd)
    omega
  · intro x hx y hy hxy
    obtain ⟨u, hu, rfl⟩ := List.mem_map.1 hx
    obtain ⟨v, hv, rfl⟩ := List.mem_map.1 hy
    exact hno ⟨v, u, hr v hv, hr u hu, hxy⟩
theorem emod_of {p e y : Int} (h : p ∣ e - y) (h0 : 0 ≤ y) (h1 : y < p) : e % p = y := by
  rw [Int.emod_eq_emod_iff_emod_sub_eq_zero.2 (Int.emod_eq_zero_of_dvd h)]
  exact Int.emod_eq_of_lt h0 h1
/-- what the two matrices are modulo p: x = A, y = B, m = -A v, n = -u -/
structure Mats (A B p u v x y m n : Int) : Prop where
  pp : 2 < p
  p9 : p ≤ 10000
  u0 : 0 ≤ u ∧ u < p
  v0 : 0 ≤ v ∧ v < p
  x0 : 0 ≤ x ∧ x < p
  y0 : 0 ≤ y ∧ y < p
  m0 : 0 ≤ m ∧ m < p
  n0 : 0 ≤ n ∧ n < p
  hx : ∃ k, A = x + p * k
  hy : ∃ k, B = y + p * k
  hm : ∃ k, -A * v = m + p * k
  hn : ∃ k, -u = n + p * k
  hu : ∃ k, u * u = B + A * (v * v) + p * k
theorem emod_ex (a p : Int) : ∃ k, a = a % p + p * k := ⟨a / p, by have := Int.emod_add_mul_ediv a p; omega⟩
theorem Mats.of {A B p u v : Int} (pp : 2 < p) (p9 : p ≤ 10000) (u0 : 0 ≤ u ∧ u < p) (v0 : 0 ≤ v ∧ v < p) (h : (u * u) % p = (B + A * (v * v)) % p) : Mats A B p u v (A % p) (B % p) ((-A * v) % p) ((-u) % p) where
  pp := pp
  p9 := p9
  u0 := u0
  v0 := v0
  x0 := ⟨Int.emod_nonneg _ (by omega), Int.emod_lt_of_pos _ (by omega)⟩
  y0 := ⟨Int.emod_nonneg _ (by omega), Int.emod_lt_of_pos _ (by omega)⟩
  m0 := ⟨Int.emod_nonneg _ (by omega), Int.emod_lt_of_pos _ (by omega)⟩
  n0 := ⟨Int.emod_nonneg _ (by omega), Int.emod_lt_of_pos _ (by omega)⟩
  hx := emod_ex _ _
  hy := emod_ex _ _
  hm := emod_ex _ _
  hn := emod_ex _ _
  hu := by
    obtain ⟨k, hk⟩ := Int.dvd_of_emod_eq_zero (Int.emod_eq_emod_iff_emod_sub_eq_zero.1 h)
    exact ⟨k, by omega⟩
section
variable {A B p u v x y m n : Int}
theorem Mats.jjA (h : Mats A B p u v x y m n) : (u * u + m * v) % p = y := by
  obtain ⟨k1, e1⟩ := h.hy; obtain ⟨k2, e2⟩ := h.hm; obtain ⟨k3, e3⟩ := h.hu
  exact emod_of ⟨k1 + k3 - k2 * v, by grind⟩ h.y0.1 h.y0.2
theorem Mats.jjB (h : Mats A B p u v x y m n) : (u * m + m * n) % p = 0 := by
  obtain ⟨k, e⟩ := h.hn
  exact emod_of ⟨-(m * k), by grind⟩ (by omega) (by have := h.pp; omega)
theorem Mats.jjC (h : Mats A B p u v x y m n) : (v * u + n * v) % p = 0 := by
  obtain ⟨k, e⟩ := h.hn
  exact emod_of ⟨-(v * k), by grind⟩ (by omega) (by have := h.pp; omega)
theorem Mats.jjD (h : Mats A B p u v x y m n) : (v * m + n * n) % p = y := by
  obtain ⟨k1, e1⟩ := h.hy; obtain ⟨k2, e2⟩ := h.hm; obtain ⟨k3, e3⟩ := h.hu; obtain ⟨k, e⟩ := h.hn
  refine emod_of ⟨k1 + k3 - k2 * v + 2 * u * k + p * k * k, ?_⟩ h.y0.1 h.y0.2
  have e4 : n = -u - p * k := by omega
  rw [e4]
  grind
theorem Mats.a1 (h : Mats A B p u v x y m n) : ((x * v) % p + m) % p = 0 := by
  obtain ⟨k1, e1⟩ := h.hx; obtain ⟨k2, e2⟩ := h.hm
  rw [Int.emod_add_emod]
  exact emod_of ⟨-(k1 * v) - k2, by grind⟩ (by omega) (by have := h.pp; omega)
theorem Mats.a2 (h : Mats A B p u v x y m n) : ((x * n) % p + (u * x) % p) % p = 0 := by
  obtain ⟨k, e⟩ := h.hn
  rw [← Int.add_emod]
  exact emod_of ⟨-(x * k), by grind⟩ (by omega) (by have := h.pp; omega)
theorem Mats.a3 (h : Mats A B p u v x y m n) : (u + n) % p = 0 := by
  obtain ⟨k, e⟩ := h.hn
  exact emod_of ⟨-k, by grind⟩ (by omega) (by have := h.pp; omega)
theorem Mats.a4 (h : Mats A B p u v x y m n) : (m + (v * x) % p) % p = 0 := by
  have := h.a1
  rwa [Int.add_comm, Int.mul_comm] at this
end
end FF
