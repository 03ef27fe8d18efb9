/- Matrices modulo a prime in the reference. -/
import Derived.Test.YtfjmhfmhijhpkaaDoorSmsA
namespace Go.Proofs.YtfjmhfmhijhpkaaDoor
open Go.RowKit FF

theorem mod_twice {n m : Int} (h : 0 < m) : (n.tmod m + m).tmod m = n % m := by
  have h1 := Int.lt_tmod_of_pos n h
  rw [Int.tmod_eq_emod_of_nonneg (by omega), Int.add_emod_right]
  have h3 : n.tmod m = n + m * (-n.tdiv m) := by rw [Int.mul_neg, Int.tmod_def]; omega
  rw [h3, Int.add_mul_emod_self_left]
theorem below_set4 {B b : Nat} {w W : World} (h : Below B w W) (hb : B ≤ b) (v0 v1 v2 v3 : Value) : Below B w ((((W.setCell ⟨b, 0, none⟩ v0).setCell ⟨b, 1, none⟩ v1).setCell ⟨b, 2, none⟩ v2).setCell ⟨b, 3, none⟩ v3) := by
  simpa using (((h.setCell (p := ⟨b, 0, none⟩) hb v0).setCell (p := ⟨b, 1, none⟩) hb v1).setCell (p := ⟨b, 2, none⟩) hb v2).setCell (p := ⟨b, 3, none⟩) hb v3
/-- a product that is small -/
theorem mm_b {p x y z t : Int} (p9 : p ≤ 10000) (hx : 0 ≤ x ∧ x < p) (hy : 0 ≤ y ∧ y < p) (hz : 0 ≤ z ∧ z < p) (ht : 0 ≤ t ∧ t < p) :
    (0 ≤ x * y ∧ x * y ≤ 100000000) ∧ (0 ≤ z * t ∧ z * t ≤ 100000000) ∧ 0 ≤ x * y + z * t ∧ (x * y + z * t).tmod p = (x * y + z * t) % p := by
  have h1 := mulb (x := x) (y := y) (m := 10000) (n := 10000) (by omega) (by omega)
  have h2 := mulb (x := z) (y := t) (m := 10000) (n := 10000) (by omega) (by omega)
  have h3 := Int.mul_nonneg hx.1 hy.1
  have h4 := Int.mul_nonneg hz.1 ht.1
  simp only [Int.reduceMul] at h1 h2
  exact ⟨⟨h3, h1.2⟩, ⟨h4, h2.2⟩, by omega, Int.tmod_eq_emod_of_nonneg (by omega)⟩

abbrev Res4 (r : Nat) (w' : World) : Prop :=
  w'.cell? ⟨r, 0, none⟩ = some (cellA w' ⟨r, 0, none⟩) ∧ w'.cell? ⟨r, 1, none⟩ = some (cellA w' ⟨r, 1, none⟩) ∧ w'.cell? ⟨r, 2, none⟩ = some (cellA w' ⟨r, 2, none⟩) ∧ w'.cell? ⟨r, 3, none⟩ = some (cellA w' ⟨r, 3, none⟩) ∧ w'.frozen? ⟨r, 0, none⟩ = false ∧ w'.frozen? ⟨r, 1, none⟩ = false ∧ w'.frozen? ⟨r, 2, none⟩ = false ∧ w'.frozen? ⟨r, 3, none⟩ = false
section
variable {w w0 w1 : World} {L : List (Nat × Array Value)} {r n : Nat}
theorem Reg.four (h : Reg w L r n w0) {b : Nat} {v0 v1 v2 v3 : Value} (hm : (b, #[v0, v1, v2, v3]) ∈ L) : w0.cell? ⟨b, 0, none⟩ = some v0 ∧ w0.cell? ⟨b, 1, none⟩ = some v1 ∧ w0.cell? ⟨b, 2, none⟩ = some v2 ∧ w0.cell? ⟨b, 3, none⟩ = some v3 := ⟨h.box hm 0 (by simp), h.box hm 1 (by simp), h.box hm 2 (by simp), h.box hm 3 (by simp)⟩
theorem Reg.res4 (h : Reg w L r 4 w0) : Res4 r w0 := ⟨cellA_of (h.rc 0 (by omega)), cellA_of (h.rc 1 (by omega)), cellA_of (h.rc 2 (by omega)), cellA_of (h.rc 3 (by omega)), h.fr 0, h.fr 1, h.fr 2, h.fr 3⟩
theorem Reg.set4 (h : Reg w L r 4 w0) (u0 u1 u2 u3 : Value) : Reg w L r 4 ((((w0.setCell ⟨r, 0, none⟩ u0).setCell ⟨r, 1, none⟩ u1).setCell ⟨r, 2, none⟩ u2).setCell ⟨r, 3, none⟩ u3) := (((h.set 0 u0).set 1 u1).set 2 u2).set 3 u3
theorem Reg.fin4 (h : Reg w L r 4 w0) (u0 u1 u2 u3 : Value) : ∃ W9, ((((w0.setCell ⟨r, 0, none⟩ u0).setCell ⟨r, 1, none⟩ u1).setCell ⟨r, 2, none⟩ u2).setCell ⟨r, 3, none⟩ u3) = W9 ∧
    W9.cell? ⟨r, 0, none⟩ = some u0 ∧ W9.cell? ⟨r, 1, none⟩ = some u1 ∧ W9.cell? ⟨r, 2, none⟩ = some u2 ∧ W9.cell? ⟨r, 3, none⟩ = some u3 ∧ Below w.heap.size w W9 := by
  obtain ⟨v0, h0⟩ := h.rc 0 (by omega)
  obtain ⟨v1, h1⟩ := h.rc 1 (by omega)
  obtain ⟨v2, h2⟩ := h.rc 2 (by omega)
  obtain ⟨v3, h3⟩ := h.rc 3 (by omega)
  refine ⟨_, rfl, ?_, ?_, ?_, ?_, (h.set4 u0 u1 u2 u3).below⟩ <;> simp [go_sem, h0, h1, h2, h3]
end

set_option maxHeartbeats 4000000 in
set_option maxRecDepth 100000 in
theorem rModProduct_any (m0 m1 m2 m3 n0 n1 n2 n3 p : Int) (w : World) (pp : 2 < p) (p9 : p ≤ 10000) (hm0 : 0 ≤ m0 ∧ m0 < p) (hm1 : 0 ≤ m1 ∧ m1 < p) (hm2 : 0 ≤ m2 ∧ m2 < p) (hm3 : 0 ≤ m3 ∧ m3 < p) (hn0 : 0 ≤ n0 ∧ n0 < p) (hn1 : 0 ≤ n1 ∧ n1 < p) (hn2 : 0 ≤ n2 ∧ n2 < p) (hn3 : 0 ≤ n3 ∧ n3 < p) :
    Calls Tryd.prog 21 #[.agg #[.int .i64 m0, .int .i64 m1, .int .i64 m2, .int .i64 m3], .agg #[.int .i64 n0, .int .i64 n1, .int .i64 n2, .int .i64 n3], .int .i64 p] w fun r w' => r = .returned (.agg #[.int .i64 ((m0 * n0 + m1 * n2) % p), .int .i64 ((m0 * n1 + m1 * n3) % p), .int .i64 ((m2 * n0 + m3 * n2) % p), .int .i64 ((m2 * n1 + m3 * n3) % p)]) ∧ Below w.heap.size w w' := by
  obtain ⟨⟨a0, a0'⟩, ⟨b0, b0'⟩, c0, e0⟩ := mm_b p9 hm0 hn0 hm1 hn2
  obtain ⟨⟨a1, a1'⟩, ⟨b1, b1'⟩, c1, e1⟩ := mm_b p9 hm0 hn1 hm1 hn3
  obtain ⟨⟨a2, a2'⟩, ⟨b2, b2'⟩, c2, e2⟩ := mm_b p9 hm2 hn0 hm3 hn2
  obtain ⟨⟨a3, a3'⟩, ⟨b3, b3'⟩, c3, e3⟩ := mm_b p9 hm2 hn1 hm3 hn3
  have z1 : (p == 0) = false := f_beq (by omega)
  have hp0 : p ≠ 0 := by omega
  rw [← e0, ← e1, ← e2, ← e3]
  clear hm0 hm1 hm2 hm3 hn0 hn1 hn2 hn3 e0 e1 e2 e3 c0 c1 c2 c3
  have u0 : IntKind.i64.wrap (m0 * n0) = m0 * n0 := wrap_id _ (by omega) (by omega)
  have v0 : IntKind.i64.wrap (m1 * n2) = m1 * n2 := wrap_id _ (by omega) (by omega)
  have t0 : IntKind.i64.wrap (m0 * n0 + m1 * n2) = m0 * n0 + m1 * n2 := wrap_id _ (by omega) (by omega)
  have u1 : IntKind.i64.wrap (m0 * n1) = m0 * n1 := wrap_id _ (by omega) (by omega)
  have v1 : IntKind.i64.wrap (m1 * n3) = m1 * n3 := wrap_id _ (by omega) (by omega)
  have t1 : IntKind.i64.wrap (m0 * n1 + m1 * n3) = m0 * n1 + m1 * n3 := wrap_id _ (by omega) (by omega)
  have u2 : IntKind.i64.wrap (m2 * n0) = m2 * n0 := wrap_id _ (by omega) (by omega)
  have v2 : IntKind.i64.wrap (m3 * n2) = m3 * n2 := wrap_id _ (by omega) (by omega)
  have t2 : IntKind.i64.wrap (m2 * n0 + m3 * n2) = m2 * n0 + m3 * n2 := wrap_id _ (by omega) (by omega)
  have u3 : IntKind.i64.wrap (m2 * n1) = m2 * n1 := wrap_id _ (by omega) (by omega)
  have v3 : IntKind.i64.wrap (m3 * n3) = m3 * n3 := wrap_id _ (by omega) (by omega)
  have t3 : IntKind.i64.wrap (m2 * n1 + m3 * n3) = m2 * n1 + m3 * n3 := wrap_id _ (by omega) (by omega)
  clear a0 a0' b0 b0'
  clear a1 a1' b1 b1'
  clear a2 a2' b2 b2'
  clear a3 a3' b3 b3'
  obtain ⟨R0, e0⟩ : ∃ R, (m0 * n0 + m1 * n2).tmod p = R := ⟨_, rfl⟩
  obtain ⟨R1, e1⟩ : ∃ R, (m0 * n1 + m1 * n3).tmod p = R := ⟨_, rfl⟩
  obtain ⟨R2, e2⟩ : ∃ R, (m2 * n0 + m3 * n2).tmod p = R := ⟨_, rfl⟩
  obtain ⟨R3, e3⟩ : ∃ R, (m2 * n1 + m3 * n3).tmod p = R := ⟨_, rfl⟩
  rw [e0, e1, e2, e3]
  go_enter Tryd.func21, Tryd.ntmps21
  go_upto_region 1 with fail
  obtain ⟨w1, hw1⟩ : ∃ w1 : World, w1 = ((w.alloc (.cells #[.int .i64 m0, .int .i64 m1, .int .i64 m2, .int .i64 m3] 26)).alloc (.cells #[.int .i64 n0, .int .i64 n1, .int .i64 n2, .int .i64 n3] 26)).alloc (.cells #[.int .i64 0, .int .i64 0, .int .i64 0, .int .i64 0] 26) := ⟨_, rfl⟩
  rw [← hw1]
  have HG := Lib.hid (show Reg w [(w.heap.size, #[.int .i64 m0, .int .i64 m1, .int .i64 m2, .int .i64 m3]), (w.heap.size + 1, #[.int .i64 n0, .int .i64 n1, .int .i64 n2, .int .i64 n3])] (w.heap.size + 2) 4 w1 from hw1 ▸ (((Reg.nil (vs := #[.int .i64 0, .int .i64 0, .int .i64 0, .int .i64 0]) ((((Below.refl _ _).alloc (Nat.le_refl _) _).alloc (by simp; try omega) _).alloc (by simp; try omega) _) (by omega) (Cells.new _ _ _ (by simp))).cons ((Cells.new _ _ _ (by simp)).alloc _) (by omega)).cons (((Cells.new _ _ _ (by simp)).alloc _).alloc _) (by omega)))
  clear hw1
  have MK := Lib.hid (fun w' (h : Reg w [(w.heap.size, #[.int .i64 m0, .int .i64 m1, .int .i64 m2, .int .i64 m3]), (w.heap.size + 1, #[.int .i64 n0, .int .i64 n1, .int .i64 n2, .int .i64 n3])] (w.heap.size + 2) 4 w') => And.intro h (And.intro (h.four (List.mem_cons_self ..)) (And.intro (h.four (List.mem_cons_of_mem _ (List.mem_cons_self ..))) h.res4)))
  have HG2 := Lib.hid (MK.out _ (HG.out.keep (Below.refl _ _).drew))
  obtain ⟨z0, z1', z2, z3, f0, f1, f2, f3⟩ := HG.out.res4
  go_region_held3 (fun w' => Reg w [(w.heap.size, #[.int .i64 m0, .int .i64 m1, .int .i64 m2, .int .i64 m3]), (w.heap.size + 1, #[.int .i64 n0, .int .i64 n1, .int .i64 n2, .int .i64 n3])] (w.heap.size + 2) 4 w' ∧ (w'.cell? ⟨w.heap.size, 0, none⟩ = some (.int .i64 m0) ∧ w'.cell? ⟨w.heap.size, 1, none⟩ = some (.int .i64 m1) ∧ w'.cell? ⟨w.heap.size, 2, none⟩ = some (.int .i64 m2) ∧ w'.cell? ⟨w.heap.size, 3, none⟩ = some (.int .i64 m3)) ∧ (w'.cell? ⟨w.heap.size + 1, 0, none⟩ = some (.int .i64 n0) ∧ w'.cell? ⟨w.heap.size + 1, 1, none⟩ = some (.int .i64 n1) ∧ w'.cell? ⟨w.heap.size + 1, 2, none⟩ = some (.int .i64 n2) ∧ w'.cell? ⟨w.heap.size + 1, 3, none⟩ = some (.int .i64 n3)) ∧ Res4 (w.heap.size + 2) w')
    (first
      | exact HG2.out
      | exact MK.out _ (Reg.keep (And.left (by assumption)) (by assumption))
      | exact MK.out _ (Reg.set4 (And.left (by assumption)) _ _ _ _))
    (fail)
  obtain ⟨W9, e9, q0, q1, q2, q3, B9⟩ := Reg.fin4 (r := w.heap.size + 1 + 1) HG.out (.int .i64 R0) (.int .i64 R1) (.int .i64 R2) (.int .i64 R3)
  rw [e9]
  clear HG2 MK HG
  go_wp2_with fail
  refine bodyPost_ret (v := .agg #[.int .i64 R0, .int .i64 R1, .int .i64 R2, .int .i64 R3]) (by simp [results, Tryd.results21, go_sem, q0, q1, q2, q3]) rfl ?_
  exact ⟨rfl, B9.drew⟩
end Go.Proofs.YtfjmhfmhijhpkaaDoor
