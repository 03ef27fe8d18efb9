/- Lowest terms in the reference. Products, conjugates, what fits in the reference. Fractions in lowest terms, valid fractions: in the program and in the reference. -/
import Derived.Test.YtfjmhfmhijhpkaaQf0
namespace Go.Proofs.Ytfjmhfmhijhpkaa
open Go.RowKit FF

end Go.Proofs.Ytfjmhfmhijhpkaa
namespace Go.Proofs.Ytfjmhfmhijhpkaa
open Go.RowKit FF

theorem Cells.set_ne {W : World} {b r : Nat} {vs : Array Value} (h : Cells W b vs) (hr : r ≠ b) (k : Nat) (v : Value) : Cells (W.setCell ⟨r, k, none⟩ v) b vs :=
  ⟨by simpa [World.setCell] using h.1, fun i hi => by rw [World.cell?_setCell_other _ _ _ _ (fun e => hr (by injection e with e)), h.2.1 i hi], fun i => by simp [go_sem, h.2.2 i]⟩
theorem store5 {w W : World} {r : Nat} {v0 v1 v2 v3 v4 : Value} (hB : Below w.heap.size w W) (hr : w.heap.size ≤ r) (hc : Cells W r #[v0, v1, v2, v3, v4]) (u0 u1 u2 u3 u4 : Value) :
    ∃ W9, (((((W.setCell ⟨r, 0, none⟩ u0).setCell ⟨r, 1, none⟩ u1).setCell ⟨r, 2, none⟩ u2).setCell ⟨r, 3, none⟩ u3).setCell ⟨r, 4, none⟩ u4) = W9 ∧ Below w.heap.size w W9 ∧ Cells W9 r #[u0, u1, u2, u3, u4] ∧
      (∀ b vs, r ≠ b → Cells W b vs → Cells W9 b vs) ∧ W9.heap.size = W.heap.size := by
  obtain ⟨h0, h1, h2, h3, h4⟩ := hc.five
  refine ⟨_, rfl, below_set5 hB hr _ _ _ _ _, ⟨by simpa [World.setCell] using hc.1, fun i hi => ?_, fun i => by simp [go_sem, hc.2.2 i]⟩, fun b vs hb h => ((((h.set_ne hb _ _).set_ne hb _ _).set_ne hb _ _).set_ne hb _ _).set_ne hb _ _, by simp [World.setCell]⟩
  match i, hi with
  | 0, _ => simp [go_sem, h0]
  | 1, _ => simp [go_sem, h1]
  | 2, _ => simp [go_sem, h2]
  | 3, _ => simp [go_sem, h3]
  | 4, _ => simp [go_sem, h4]

end Go.Proofs.Ytfjmhfmhijhpkaa
namespace Go.Proofs.Ytfjmhfmhijhpkaa
open Go.RowKit FF

abbrev Res2 (r : Nat) (w' : World) : Prop :=
  w'.cell? ⟨r, 0, none⟩ = some (cellA w' ⟨r, 0, none⟩) ∧ w'.cell? ⟨r, 1, none⟩ = some (cellA w' ⟨r, 1, none⟩) ∧ w'.frozen? ⟨r, 0, none⟩ = false ∧ w'.frozen? ⟨r, 1, none⟩ = false
section
variable {w w0 w1 : World} {L : List (Nat × Array Value)} {r n : Nat}
theorem Reg.res2 (h : Reg w L r 2 w0) : Res2 r w0 := ⟨cellA_of (h.rc 0 (by omega)), cellA_of (h.rc 1 (by omega)), h.fr 0, h.fr 1⟩
theorem Reg.set2 (h : Reg w L r 2 w0) (u0 u1 : Value) : Reg w L r 2 ((w0.setCell ⟨r, 0, none⟩ u0).setCell ⟨r, 1, none⟩ u1) := (h.set 0 u0).set 1 u1
theorem Reg.fin2 (h : Reg w L r 2 w0) (u0 u1 : Value) : ∃ W9, ((w0.setCell ⟨r, 0, none⟩ u0).setCell ⟨r, 1, none⟩ u1) = W9 ∧
    W9.cell? ⟨r, 0, none⟩ = some u0 ∧ W9.cell? ⟨r, 1, none⟩ = some u1 ∧ Below w.heap.size w W9 := by
  obtain ⟨v0, h0⟩ := h.rc 0 (by omega)
  obtain ⟨v1, h1⟩ := h.rc 1 (by omega)
  refine ⟨_, rfl, ?_, ?_, (h.set2 u0 u1).below⟩ <;> simp [go_sem, h0, h1]
end
theorem low_facts {a b : Int} (ha : -4611686018427387904 ≤ a ∧ a ≤ 4611686018427387904) (hb : -4611686018427387904 ≤ b ∧ b ≤ 4611686018427387904) (h0 : b ≠ 0) :
    ∃ g G : Int, lowN a b = a.tdiv g ∧ lowD a b = b.tdiv g ∧ (Int.gcd a b : Int) = G ∧ g ≠ 0 ∧ (b < 0 → g = -G) ∧ (¬ b < 0 → g = G) ∧ 0 < G ∧ G ≤ 4611686018427387904 ∧ IntKind.i64.wrap (a.tdiv g) = a.tdiv g ∧ IntKind.i64.wrap (b.tdiv g) = b.tdiv g := by
  have h1 : (0 : Int) < Int.gcd a b := by have := Int.gcd_pos_of_ne_zero_right a h0; omega
  have h2 : (Int.gcd a b : Int) ≤ 4611686018427387904 := by
    have h3 := Int.le_of_dvd (show (0 : Int) < (b.natAbs : Int) by omega) (Int.dvd_natAbs.2 (Int.gcd_dvd_right a b))
    omega
  refine ⟨if b < 0 then -(Int.gcd a b : Int) else Int.gcd a b, Int.gcd a b, rfl, rfl, rfl, ?_, fun h => if_pos h, fun h => if_neg h, h1, h2, ?_, ?_⟩
  · split <;> omega
  · obtain ⟨t1, t2⟩ := tdiv_le (a := a) (g := if b < 0 then -(Int.gcd a b : Int) else Int.gcd a b) (m := 4611686018427387904) ha
    exact wrap_id _ t1 t2
  · obtain ⟨t1, t2⟩ := tdiv_le (a := b) (g := if b < 0 then -(Int.gcd a b : Int) else Int.gcd a b) (m := 4611686018427387904) hb
    exact wrap_id _ t1 t2
theorem shows_two {W : World} {T : TypeId} {B : Nat} (hB : W.heap.size = B) (a b : Int) : ShowsI (W.alloc (.cells #[.int .i64 a, .int .i64 b] T)) (some ⟨B, 0, none⟩) [a, b] := by
  subst hB
  exact ShowsI.new fun i hi => by match i, hi with | 0, _ => rfl | 1, _ => rfl
def fvv (a b : Int) : Value := .agg #[.int .i64 a, .int .i64 b]

set_option maxHeartbeats 2000000 in
set_option maxRecDepth 100000 in
theorem qfraction_any (a b : Int) (w : World) (ha : -4611686018427387904 ≤ a ∧ a ≤ 4611686018427387904) (hb : -4611686018427387904 ≤ b ∧ b ≤ 4611686018427387904) (h0 : b ≠ 0) :
    Calls Try.prog 47 #[.int .i64 a, .int .i64 b] w fun r w' => r = .returned (fvv (lowN a b) (lowD a b)) ∧ Below w.heap.size w w' := by
  obtain ⟨g, G, e1, e2, e3, hg, k1, k2, G0, G1, ea, eb⟩ := low_facts ha hb h0
  have hG := Lib.hid (fun (A : Option Addr) (cc : Nat) (w : World) (hx : ShowsI w A [a, b]) => (show Calls Try.prog 84 #[.slice A 2 cc] w (Ret w (.int .i64 G)) by
    have h := qgcd_any A [a, b] 2 cc w hx rfl (by omega) (fun i hi => by
      match i, hi with
      | 0, _ => exact ha
      | 1, _ => exact hb)
    rw [gcdL_two, e3] at h
    exact h))
  rw [e1, e2]
  clear e1 e2 e3 ha hb h0
  unfold fvv
  go_enter Try.func47, Try.ntmps47
  go_wp2_with fail
  refine (hG.out _ _ _ (shows_two (by simp) a b)).mono ?_
  rintro e' w' ⟨rfl, n1, rfl⟩
  obtain ⟨W8, hW8⟩ : ∃ W8 : World, W8 = (((w.alloc (.cells #[.int .i64 0, .int .i64 0] 36)).alloc (.cells #[.int .i64 a, .int .i64 b] 3)).drewN n1) := ⟨_, rfl⟩
  rw [← hW8]
  have HG := Lib.hid (show Reg w [] w.heap.size 2 W8 from hW8 ▸ (Reg.nil (vs := #[.int .i64 0, .int .i64 0]) (below_drewN (below_2 _ _) _) (Nat.le_refl _) (((Cells.new w _ _ rfl).alloc _).keep (below_drewN (Below.refl _ _) _))))
  clear hW8 hG
  obtain ⟨z0, z1, f0, f1⟩ := HG.out.res2
  have MK := Lib.hid (fun w' (h : Reg w [] w.heap.size 2 w') => And.intro h h.res2)
  have HG2 := Lib.hid (MK.out _ (HG.out.keep (Below.refl _ _).drew))
  rcases Int.lt_or_le b 0 with hl | hl
  · have hgs := k1 hl
    have hn1 : -4611686018427387904 ≤ -G := by omega
    have hn2 : -G ≤ 4611686018427387904 := by omega
    clear k1 k2
    go_upto_region 4 with fail
    rw [← hgs]
    clear hgs hl hn1 hn2
    go_region_held3 (fun w' => Reg w [] w.heap.size 2 w' ∧ Res2 w.heap.size w')
      (first
        | exact HG2.out
        | exact MK.out _ (Reg.keep (And.left (by assumption)) (by assumption))
        | exact MK.out _ (Reg.set2 (And.left (by assumption)) _ _))
      (fail)
    obtain ⟨W9, e9, q0, q1, B9⟩ := Reg.fin2 HG.out (.int .i64 (a.tdiv g)) (.int .i64 (b.tdiv g))
    rw [e9]
    clear HG2 MK HG
    go_wp2_with fail
    refine bodyPost_ret (v := .agg #[.int .i64 (a.tdiv g), .int .i64 (b.tdiv g)]) (by simp [results, Try.results47, go_sem, q0, q1]) rfl ?_
    exact ⟨rfl, B9.drew⟩
  · have hgs := k2 (by omega)
    clear k1 k2
    go_upto_region 4 with fail
    rw [← hgs]
    clear hgs hl
    go_region_held3 (fun w' => Reg w [] w.heap.size 2 w' ∧ Res2 w.heap.size w')
      (first
        | exact HG2.out
        | exact MK.out _ (Reg.keep (And.left (by assumption)) (by assumption))
        | exact MK.out _ (Reg.set2 (And.left (by assumption)) _ _))
      (fail)
    obtain ⟨W9, e9, q0, q1, B9⟩ := Reg.fin2 HG.out (.int .i64 (a.tdiv g)) (.int .i64 (b.tdiv g))
    rw [e9]
    clear HG2 MK HG
    go_wp2_with fail
    refine bodyPost_ret (v := .agg #[.int .i64 (a.tdiv g), .int .i64 (b.tdiv g)]) (by simp [results, Try.results47, go_sem, q0, q1]) rfl ?_
    exact ⟨rfl, B9.drew⟩

end Go.Proofs.Ytfjmhfmhijhpkaa
