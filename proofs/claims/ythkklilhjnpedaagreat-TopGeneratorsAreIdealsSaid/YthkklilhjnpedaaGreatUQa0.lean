/- Elements of algebras in the program: numerators, greatest common divisors, checks, lowest terms. A region that draws its order, whose first operations only read and call what leaves all that lay unturned, and whose last ones stand in a chain behind all others: one walk in the order of the text. Greatest common divisors, lowest terms, what fits, products in the program. -/
import Derived.Test.YthkklilhjnpedaaGreatUBase
import Derived.Test.YthkklilhjnpedaaGreatUQn0
import Derived.Deep.RegionWith
import Derived.BigRegion
import Derived.Deep.Quiet
import Derived.Deep.QuietTactic
import Derived.StillTail
import Derived.Lib.QuietBelow
import Derived.Deep.RegionHeld3
import Derived.Deep.DeepCutAuto
namespace Go.Proofs.YthkklilhjnpedaaGreat
open Go.RowKit FF
def qv (q : Qt) : Value := .agg #[.int .i64 q.w, .int .i64 q.x, .int .i64 q.y, .int .i64 q.z, .int .i64 q.d]
def cv (w x y z : Int) : Value := .agg #[.int .i64 w, .int .i64 x, .int .i64 y, .int .i64 z]
theorem below_2 {w : World} (o1 o2 : Obj) : Below w.heap.size w ((w.alloc o1).alloc o2) := ((Below.refl _ _).alloc (Nat.le_refl _) _).alloc (by simp) _
theorem qof_any (a b c d e : Int) (w : World) :
    Calls Tryz.prog 68 #[.agg #[.int .i64 a, .int .i64 b, .int .i64 c, .int .i64 d, .int .i64 e]] w fun e w' => e = .returned (cv a b c d) ∧ Below w.heap.size w w' := by
  go_enter Tryz.func68, Tryz.ntmps68
  go_wp2_with fail
  refine bodyPost_ret (v := cv a b c d) (by simp [results, Tryz.results68, go_sem, cv]) rfl ?_
  exact ⟨rfl, below_2 _ _⟩
@[local go_sem] theorem run_idx0 (c0 c1 c2 c3 : Value) (w : World) : (Instr.index 109 (.agg #[c0, c1, c2, c3]) (.int .i64 0)).run Tryz.prog w = .ok c0 w := by kernel_rfl
@[local go_sem] theorem run_idx1 (c0 c1 c2 c3 : Value) (w : World) : (Instr.index 109 (.agg #[c0, c1, c2, c3]) (.int .i64 1)).run Tryz.prog w = .ok c1 w := by kernel_rfl
@[local go_sem] theorem run_idx2 (c0 c1 c2 c3 : Value) (w : World) : (Instr.index 109 (.agg #[c0, c1, c2, c3]) (.int .i64 2)).run Tryz.prog w = .ok c2 w := by kernel_rfl
@[local go_sem] theorem run_idx3 (c0 c1 c2 c3 : Value) (w : World) : (Instr.index 109 (.agg #[c0, c1, c2, c3]) (.int .i64 3)).run Tryz.prog w = .ok c3 w := by kernel_rfl
theorem cB_cases (n : Int) : (n < -1000000 ∧ cB n = false) ∨ (-1000000 ≤ n ∧ 1000000 < n ∧ cB n = false) ∨ (-1000000 ≤ n ∧ n ≤ 1000000 ∧ cB n = true) := by
  unfold cB; simp only [decide_eq_true_iff, decide_eq_false_iff_not]; omega
theorem dB_cases (n : Int) : (n < 1 ∧ dB n = false) ∨ (1 ≤ n ∧ 1000000 < n ∧ dB n = false) ∨ (1 ≤ n ∧ n ≤ 1000000 ∧ dB n = true) := by
  unfold dB; simp only [decide_eq_true_iff, decide_eq_false_iff_not]; omega
set_option maxHeartbeats 4000000 in
set_option maxRecDepth 100000 in
theorem qcheck_any (q : Qt) (w : World) :
    Calls Tryz.prog 40 #[qv q] w fun e w' => e = .returned (.int .i64 (qE q)) ∧ Below w.heap.size w w' := by
  obtain ⟨a, b, c, d, e⟩ := q
  have HO := Lib.hid (fun w => qof_any a b c d e w)
  have HE := Lib.hid (show qE ⟨a, b, c, d, e⟩ = if (cB a && cB b && cB c && cB d && dB e) then 0 else 3 from rfl)
  generalize qE ⟨a, b, c, d, e⟩ = E at *
  unfold qv
  go_enter Tryz.func40, Tryz.ntmps40
  go_wp2_with fail
  refine (HO.out _).mono ?_
  rintro e1 w1 ⟨rfl, hb1⟩
  unfold cv
  have k : ∀ i, w1.cell? ⟨w.heap.size, i, none⟩ = #[Value.int .i64 a, .int .i64 b, .int .i64 c, .int .i64 d, .int .i64 e][i]? := fun i => by
    rw [hb1.cell (p := ⟨w.heap.size, i, none⟩) (by simp)]; simp [go_sem]
  have k4 := k 4
  have HB := Lib.hid (((Below.refl w.heap.size w).alloc (Nat.le_refl _) _).trans (hb1.mono (by simp)))
  clear k hb1 HO
  go_wp2_with fail
  refine wp_loop_rounds 5 ?_
  rcases cB_cases a with ⟨g1, ha⟩ | ⟨g1, g2, ha⟩ | ⟨g1, g2, ha⟩
  · have HQ := Lib.hid (HE.out.trans (by rw [ha]))
    clear HE ha
    rw [rounds_succ]
    go_wp2_with fail
    go_ret
    exact ⟨ret_int HQ.out.symm, HB.out⟩
  · have HQ := Lib.hid (HE.out.trans (by rw [ha]))
    clear HE ha
    rw [rounds_succ]
    go_wp2_with fail
    go_ret
    exact ⟨ret_int HQ.out.symm, HB.out⟩
  have Ha := Lib.hid ha
  clear ha
  rw [rounds_succ]
  go_wp2_with fail
  clear g1 g2
  rcases cB_cases b with ⟨g1, hb⟩ | ⟨g1, g2, hb⟩ | ⟨g1, g2, hb⟩
  · have HQ := Lib.hid (HE.out.trans (by rw [Ha.out, hb]))
    clear HE hb
    rw [rounds_succ]
    go_wp2_with fail
    go_ret
    exact ⟨ret_int HQ.out.symm, HB.out⟩
  · have HQ := Lib.hid (HE.out.trans (by rw [Ha.out, hb]))
    clear HE hb
    rw [rounds_succ]
    go_wp2_with fail
    go_ret
    exact ⟨ret_int HQ.out.symm, HB.out⟩
  have Hb := Lib.hid hb
  clear hb
  rw [rounds_succ]
  go_wp2_with fail
  clear g1 g2
  rcases cB_cases c with ⟨g1, hc⟩ | ⟨g1, g2, hc⟩ | ⟨g1, g2, hc⟩
  · have HQ := Lib.hid (HE.out.trans (by rw [Ha.out, Hb.out, hc]))
    clear HE hc
    rw [rounds_succ]
    go_wp2_with fail
    go_ret
    exact ⟨ret_int HQ.out.symm, HB.out⟩
  · have HQ := Lib.hid (HE.out.trans (by rw [Ha.out, Hb.out, hc]))
    clear HE hc
    rw [rounds_succ]
    go_wp2_with fail
    go_ret
    exact ⟨ret_int HQ.out.symm, HB.out⟩
  have Hc := Lib.hid hc
  clear hc
  rw [rounds_succ]
  go_wp2_with fail
  clear g1 g2
  rcases cB_cases d with ⟨g1, hd⟩ | ⟨g1, g2, hd⟩ | ⟨g1, g2, hd⟩
  · have HQ := Lib.hid (HE.out.trans (by rw [Ha.out, Hb.out, Hc.out, hd]))
    clear HE hd
    rw [rounds_succ]
    go_wp2_with fail
    go_ret
    exact ⟨ret_int HQ.out.symm, HB.out⟩
  · have HQ := Lib.hid (HE.out.trans (by rw [Ha.out, Hb.out, Hc.out, hd]))
    clear HE hd
    rw [rounds_succ]
    go_wp2_with fail
    go_ret
    exact ⟨ret_int HQ.out.symm, HB.out⟩
  have Hd := Lib.hid hd
  clear hd
  rw [rounds_succ]
  go_wp2_with fail
  clear g1 g2
  rcases dB_cases e with ⟨g1, he⟩ | ⟨g1, g2, he⟩ | ⟨g1, g2, he⟩
  · have HQ := Lib.hid (HE.out.trans (by rw [Ha.out, Hb.out, Hc.out, Hd.out, he]))
    clear HE he
    rw [rounds_succ]
    go_wp2_with fail
    go_ret
    exact ⟨ret_int HQ.out.symm, HB.out⟩
  · have HQ := Lib.hid (HE.out.trans (by rw [Ha.out, Hb.out, Hc.out, Hd.out, he]))
    clear HE he
    rw [rounds_succ]
    go_wp2_with fail
    go_ret
    exact ⟨ret_int HQ.out.symm, HB.out⟩
  · have HQ := Lib.hid (HE.out.trans (by rw [Ha.out, Hb.out, Hc.out, Hd.out, he]))
    clear HE he
    rw [rounds_succ]
    go_wp2_with fail
    go_ret
    exact ⟨ret_int HQ.out.symm, HB.out⟩
end Go.Proofs.YthkklilhjnpedaaGreat
namespace Go.Proofs.YthkklilhjnpedaaGreat
open Go.RowKit FF
def Cells (W : World) (b : Nat) (vs : Array Value) : Prop := b < W.heap.size ∧ (∀ i, i < vs.size → W.cell? ⟨b, i, none⟩ = vs[i]?) ∧ ∀ i, W.frozen? ⟨b, i, none⟩ = false
theorem Cells.new (W : World) (vs : Array Value) (T : TypeId) {b : Nat} (hb : W.heap.size = b) : Cells (W.alloc (.cells vs T)) b vs := by
  subst hb
  exact ⟨by simp, fun i _ => by simp [go_sem], fun i => by simp [go_sem]⟩
theorem Cells.keep {W W' : World} {b : Nat} {vs : Array Value} (h : Cells W b vs) (hb : Below W.heap.size W W') : Cells W' b vs :=
  ⟨Nat.lt_of_lt_of_le h.1 hb.size, fun i hi => (hb.cell (p := ⟨b, i, none⟩) h.1).trans (h.2.1 i hi), fun i => (hb.frozen (p := ⟨b, i, none⟩) h.1).trans (h.2.2 i)⟩
theorem Cells.alloc {W : World} {b : Nat} {vs : Array Value} (h : Cells W b vs) (o : Obj) : Cells (W.alloc o) b vs := h.keep ((Below.refl _ _).alloc (Nat.le_refl _) _)
theorem Cells.four {W : World} {b : Nat} {v0 v1 v2 v3 : Value} (h : Cells W b #[v0, v1, v2, v3]) : W.cell? ⟨b, 0, none⟩ = some v0 ∧ W.cell? ⟨b, 1, none⟩ = some v1 ∧ W.cell? ⟨b, 2, none⟩ = some v2 ∧ W.cell? ⟨b, 3, none⟩ = some v3 :=
  ⟨h.2.1 0 (by simp), h.2.1 1 (by simp), h.2.1 2 (by simp), h.2.1 3 (by simp)⟩
theorem Cells.five {W : World} {b : Nat} {v0 v1 v2 v3 v4 : Value} (h : Cells W b #[v0, v1, v2, v3, v4]) : W.cell? ⟨b, 0, none⟩ = some v0 ∧ W.cell? ⟨b, 1, none⟩ = some v1 ∧ W.cell? ⟨b, 2, none⟩ = some v2 ∧ W.cell? ⟨b, 3, none⟩ = some v3 ∧ W.cell? ⟨b, 4, none⟩ = some v4 :=
  ⟨h.2.1 0 (by simp), h.2.1 1 (by simp), h.2.1 2 (by simp), h.2.1 3 (by simp), h.2.1 4 (by simp)⟩
theorem Cells.fr {W : World} {b : Nat} {vs : Array Value} (h : Cells W b vs) : W.frozen? ⟨b, 0, none⟩ = false ∧ W.frozen? ⟨b, 1, none⟩ = false ∧ W.frozen? ⟨b, 2, none⟩ = false ∧ W.frozen? ⟨b, 3, none⟩ = false ∧ W.frozen? ⟨b, 4, none⟩ = false := ⟨h.2.2 0, h.2.2 1, h.2.2 2, h.2.2 3, h.2.2 4⟩
theorem below_set5 {B b : Nat} {w W : World} (h : Below B w W) (hb : B ≤ b) (v0 v1 v2 v3 v4 : Value) : Below B w (((((W.setCell ⟨b, 0, none⟩ v0).setCell ⟨b, 1, none⟩ v1).setCell ⟨b, 2, none⟩ v2).setCell ⟨b, 3, none⟩ v3).setCell ⟨b, 4, none⟩ v4) :=
  ((((h.setCell hb _).setCell hb _).setCell hb _).setCell hb _).setCell hb _
structure Reg (w : World) (L : List (Nat × Array Value)) (r n : Nat) (w' : World) : Prop where
  below : Below w.heap.size w w'
  bx : ∀ x ∈ L, x.1 < w'.heap.size ∧ x.1 ≠ r ∧ ∀ i, i < x.2.size → w'.cell? ⟨x.1, i, none⟩ = x.2[i]?
  rge : w.heap.size ≤ r
  rlt : r < w'.heap.size
  rc : ∀ i, i < n → ∃ v, w'.cell? ⟨r, i, none⟩ = some v
  fr : ∀ i, w'.frozen? ⟨r, i, none⟩ = false
end Go.Proofs.YthkklilhjnpedaaGreat
