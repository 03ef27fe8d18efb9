/- Products of small elements are associative and distributive where they fit, and a small element is a root of its minimal polynomial. No condition. -/
import Derived.Test.YtekkbdpggghcjaaDoorQn0
namespace FF
def zQ : Qt := ⟨0, 0, 0, 0, 1⟩
structure RingF (a b : Int) (p q r : Qt) : Prop where
  p0 : qB p = true
  q0 : qB q = true
  r0 : qB r = true
  v1 : qB (nrm (mulQ a b p q)) = true
  v2 : qB (nrm (mulQ a b q r)) = true
  v3 : qB (nrm (mulQ a b (nrm (mulQ a b p q)) r)) = true
  e1 : nrm (mulQ a b p (nrm (mulQ a b q r))) = nrm (mulQ a b (nrm (mulQ a b p q)) r)
  v5 : qB (nrm (addQ q r)) = true
  v6 : qB (nrm (mulQ a b p (nrm (addQ q r)))) = true
  v7 : qB (nrm (mulQ a b p r)) = true
  e2 : nrm (addQ (nrm (mulQ a b p q)) (nrm (mulQ a b p r))) = nrm (mulQ a b p (nrm (addQ q r)))
theorem ring_facts {a b : Int} {p q r : Qt} (ha : a.natAbs ≤ 20) (hb : b.natAbs ≤ 20) (hp : smB p = true) (hq : smB q = true) (hr : smB r = true) : RingF a b p q r := by
  have Bp := Bd.of hp
  have Bq := Bd.of hq
  have Br := Bd.of hr
  have Bpq := Bp.mul Bq (a := a) (b := b) ha hb (r := 32943) (by omega)
  have Bqr := Bq.mul Br (a := a) (b := b) ha hb (r := 32943) (by omega)
  have Bpr := Bp.mul Br (a := a) (b := b) ha hb (r := 32943) (by omega)
  have Bx := Bpq.nrm.mul Br (a := a) (b := b) ha hb (r := 2990000) (by omega)
  have Bs := Bq.add Br
  have Bu := Bp.mul Bs.nrm (a := a) (b := b) ha hb (r := 200000) (by omega)
  exact ⟨smB_qB hp, smB_qB hq, smB_qB hr, Bpq.nrm.qB (by omega) (by omega), Bqr.nrm.qB (by omega) (by omega), Bx.nrm.qB (by omega) (by omega),
    by rw [nrm_mul_right (q := mulQ a b q r) Bp.ne Bqr.ne, nrm_mul_left (p := mulQ a b p q) Bpq.ne Br.ne, mulQ_assoc],
    Bs.nrm.qB (by omega) (by omega), Bu.nrm.qB (by omega) (by omega), Bpr.nrm.qB (by omega) (by omega),
    by rw [nrm_mul_right (q := addQ q r) Bp.ne Bs.ne, nrm_add (p := mulQ a b p q) (q := mulQ a b p r) Bpq.ne Bpr.ne, nrm_dist Bp.ne Bq.ne Br.ne]⟩
/-- Horner's scheme at p with the coefficients C, from the top one down -/
structure Hrn (a b : Int) (p : Qt) (n : Nat) (C H : Nat → Qt) : Prop where
  top : H n = zQ
  bot : H 0 = zQ
  val : ∀ i, i ≤ n → qB (H i) = true
  step : ∀ i, i < n → H i = nrm (addQ (nrm (mulQ a b (H (i + 1)) p)) (C i)) ∧ qB (nrm (mulQ a b (H (i + 1)) p)) = true ∧ qB (C i) = true
theorem mulQ_one (a b : Int) (p : Qt) : mulQ a b ⟨1, 0, 0, 0, 1⟩ p = p := by
  obtain ⟨p0, p1, p2, p3, p4⟩ := p
  simp [mulQ]
theorem mulQ_zQ (a b : Int) (p : Qt) : mulQ a b zQ p = ⟨0, 0, 0, 0, p.d⟩ := by
  simp [mulQ, zQ]
theorem nrm_one : nrm (addQ zQ ⟨1, 0, 0, 0, 1⟩) = ⟨1, 0, 0, 0, 1⟩ := by unfold nrm; simp only [Qt.mk.injEq]; decide +kernel
theorem nrm_zq {d : Int} (h : d ≠ 0) : nrm ⟨0, 0, 0, 0, d⟩ = zQ := nrm_zero h
theorem N4_rat (n d : Int) : N4 ⟨n, 0, 0, 0, d⟩ = 4 * n.natAbs := by simp [N4]
theorem hrn_gen {a b : Int} {p : Qt} (ha : a.natAbs ≤ 20) (hb : b.natAbs ≤ 20) (hp : smB p = true) (hn : -10000 ≤ nmQ a b p ∧ nmQ a b p ≤ 10000) :
    ∃ H, Hrn a b p 3 (fun i => match i with | 0 => ⟨lowN (nmQ a b p) (p.d * p.d), 0, 0, 0, lowD (nmQ a b p) (p.d * p.d)⟩ | 1 => ⟨lowN (-2 * p.w) p.d, 0, 0, 0, lowD (-2 * p.w) p.d⟩ | _ => ⟨1, 0, 0, 0, 1⟩) H := by
  have Bp := Bd.of hp
  obtain ⟨hw, -, -, -, hd⟩ := smB_iff.1 hp
  have hdd : 1 ≤ p.d * p.d ∧ p.d * p.d ≤ 9 := by
    have h5 : p.d = 1 ∨ p.d = 2 ∨ p.d = 3 := by omega
    rcases h5 with e | e | e <;> rw [e] <;> omega
  have BT : Bd 24 3 ⟨-2 * p.w, 0, 0, 0, p.d⟩ := ⟨by rw [N4_rat]; omega, hd.1, hd.2⟩
  have BN : Bd 40000 9 ⟨nmQ a b p, 0, 0, 0, p.d * p.d⟩ := ⟨by rw [N4_rat]; omega, hdd.1, hdd.2⟩
  have e1 := low_nrm (-2 * p.w) p.d
  have e0 := low_nrm (nmQ a b p) (p.d * p.d)
  have B1 := Bp.nrm.add BT.nrm
  have BM := B1.nrm.mul Bp (a := a) (b := b) ha hb (r := 105362) (by omega)
  have B0 := BM.nrm.add BN.nrm
  have h1 : nrm (addQ (nrm p) (nrm ⟨-2 * p.w, 0, 0, 0, p.d⟩)) = nrm (addQ p ⟨-2 * p.w, 0, 0, 0, p.d⟩) := nrm_add Bp.ne BT.ne
  have BpT := Bp.add BT
  have hz : addQ (mulQ a b (addQ p ⟨-2 * p.w, 0, 0, 0, p.d⟩) p) ⟨nmQ a b p, 0, 0, 0, p.d * p.d⟩ = ⟨0, 0, 0, 0, p.d * p.d * p.d * (p.d * p.d)⟩ := by
    simp only [addQ, mulQ, nmQ, Qt.mk.injEq]
    refine ⟨?_, ?_, ?_, ?_, ?_⟩ <;> first | trivial | grind
  have hbot : nrm (addQ (nrm (mulQ a b (nrm (addQ (nrm p) (nrm ⟨-2 * p.w, 0, 0, 0, p.d⟩))) p)) (nrm ⟨nmQ a b p, 0, 0, 0, p.d * p.d⟩)) = zQ := by
    rw [h1, nrm_mul_left (p := addQ p ⟨-2 * p.w, 0, 0, 0, p.d⟩) BpT.ne Bp.ne]
    have hX : (mulQ a b (addQ p ⟨-2 * p.w, 0, 0, 0, p.d⟩) p).d ≠ 0 := by
      show p.d * p.d * p.d ≠ 0
      exact Int.mul_ne_zero (by omega) (by omega)
    rw [nrm_add (p := mulQ a b (addQ p ⟨-2 * p.w, 0, 0, 0, p.d⟩) p) (q := ⟨nmQ a b p, 0, 0, 0, p.d * p.d⟩) hX BN.ne, hz]
    exact nrm_zq (Int.mul_ne_zero (Int.mul_ne_zero (by omega) (by omega)) (by omega))
  have hz1 : nrm (mulQ a b zQ p) = zQ := by rw [mulQ_zQ]; exact nrm_zq (by omega)
  refine ⟨fun i => match i with | 0 => zQ | 1 => nrm (addQ (nrm p) (nrm ⟨-2 * p.w, 0, 0, 0, p.d⟩)) | 2 => ⟨1, 0, 0, 0, 1⟩ | _ => zQ, rfl, rfl, fun i hi => ?_, fun i hi => ?_⟩
  · match i, hi with
    | 0, _ => exact (by decide : qB zQ = true)
    | 1, _ => exact B1.nrm.qB (by omega) (by omega)
    | 2, _ => exact (by decide : qB ⟨1, 0, 0, 0, 1⟩ = true)
    | 3, _ => exact (by decide : qB zQ = true)
  · match i, hi with
    | 0, _ => exact ⟨by show zQ = nrm (addQ _ ⟨lowN (nmQ a b p) (p.d * p.d), 0, 0, 0, lowD (nmQ a b p) (p.d * p.d)⟩); rw [← e0]; exact hbot.symm, BM.nrm.qB (by omega) (by omega), by show qB ⟨lowN (nmQ a b p) (p.d * p.d), 0, 0, 0, lowD (nmQ a b p) (p.d * p.d)⟩ = true; rw [← e0]; exact BN.nrm.qB (by omega) (by omega)⟩
    | 1, _ => exact ⟨by show nrm (addQ (nrm p) (nrm ⟨-2 * p.w, 0, 0, 0, p.d⟩)) = nrm (addQ (nrm (mulQ a b ⟨1, 0, 0, 0, 1⟩ p)) ⟨lowN (-2 * p.w) p.d, 0, 0, 0, lowD (-2 * p.w) p.d⟩); rw [mulQ_one, ← e1], by show qB (nrm (mulQ a b ⟨1, 0, 0, 0, 1⟩ p)) = true; rw [mulQ_one]; exact Bp.nrm.qB (by omega) (by omega), by show qB ⟨lowN (-2 * p.w) p.d, 0, 0, 0, lowD (-2 * p.w) p.d⟩ = true; rw [← e1]; exact BT.nrm.qB (by omega) (by omega)⟩
    | 2, _ => exact ⟨by show (⟨1, 0, 0, 0, 1⟩ : Qt) = nrm (addQ (nrm (mulQ a b zQ p)) ⟨1, 0, 0, 0, 1⟩); rw [hz1, nrm_one], by show qB (nrm (mulQ a b zQ p)) = true; rw [hz1]; decide, (by decide : qB ⟨1, 0, 0, 0, 1⟩ = true)⟩
theorem hrn_rat {a b : Int} {p : Qt} (hp : smB p = true) (hr : p.x = 0 ∧ p.y = 0 ∧ p.z = 0) :
    ∃ H, Hrn a b p 2 (fun i => match i with | 0 => ⟨lowN (-p.w) p.d, 0, 0, 0, lowD (-p.w) p.d⟩ | _ => ⟨1, 0, 0, 0, 1⟩) H := by
  have Bp := Bd.of hp
  obtain ⟨hw, -, -, -, hd⟩ := smB_iff.1 hp
  have BT : Bd 12 3 ⟨-p.w, 0, 0, 0, p.d⟩ := ⟨by rw [N4_rat]; omega, hd.1, hd.2⟩
  have e1 := low_nrm (-p.w) p.d
  have hz : addQ p ⟨-p.w, 0, 0, 0, p.d⟩ = ⟨0, 0, 0, 0, p.d * p.d⟩ := by
    obtain ⟨p0, p1, p2, p3, p4⟩ := p
    obtain ⟨rfl, rfl, rfl⟩ := hr
    simp only [addQ, Qt.mk.injEq]
    refine ⟨?_, ?_, ?_, ?_, ?_⟩ <;> first | trivial | grind
  have hbot : nrm (addQ (nrm p) (nrm ⟨-p.w, 0, 0, 0, p.d⟩)) = zQ := by
    rw [nrm_add Bp.ne BT.ne, hz]
    exact nrm_zq (Int.mul_ne_zero (by omega) (by omega))
  have hz1 : nrm (mulQ a b zQ p) = zQ := by rw [mulQ_zQ]; exact nrm_zq (by omega)
  refine ⟨fun i => match i with | 0 => zQ | 1 => ⟨1, 0, 0, 0, 1⟩ | _ => zQ, rfl, rfl, fun i hi => ?_, fun i hi => ?_⟩
  · match i, hi with
    | 0, _ => exact (by decide : qB zQ = true)
    | 1, _ => exact (by decide : qB ⟨1, 0, 0, 0, 1⟩ = true)
    | 2, _ => exact (by decide : qB zQ = true)
  · match i, hi with
    | 0, _ => exact ⟨by show zQ = nrm (addQ (nrm (mulQ a b ⟨1, 0, 0, 0, 1⟩ p)) ⟨lowN (-p.w) p.d, 0, 0, 0, lowD (-p.w) p.d⟩); rw [mulQ_one, ← e1]; exact hbot.symm, by show qB (nrm (mulQ a b ⟨1, 0, 0, 0, 1⟩ p)) = true; rw [mulQ_one]; exact Bp.nrm.qB (by omega) (by omega), by show qB ⟨lowN (-p.w) p.d, 0, 0, 0, lowD (-p.w) p.d⟩ = true; rw [← e1]; exact BT.nrm.qB (by omega) (by omega)⟩
    | 1, _ => exact ⟨by show (⟨1, 0, 0, 0, 1⟩ : Qt) = nrm (addQ (nrm (mulQ a b zQ p)) ⟨1, 0, 0, 0, 1⟩); rw [hz1, nrm_one], by show qB (nrm (mulQ a b zQ p)) = true; rw [hz1]; decide, (by decide : qB ⟨1, 0, 0, 0, 1⟩ = true)⟩
end FF
