/- slices.SortFunc at Hurwitz quaternions: what the library's tool lays at this program (numbers of the seat YthkklilhjnpedaaGreat). -/
import Derived.Test.YthkklilhjnpedaaGreatURpf
import Derived.Test.YthkklilhjnpedaaGreatUQa0
import Derived.Test.YthkklilhjnpedaaGreatUOpen0
import Derived.BigQuiet
import Derived.Shelf.SlSortCmp.WholeK
import Derived.Ground.SlsfProg
import Derived.Test.YthkklilhjnpedaaGreatProg
section
namespace Go.Proofs.YthkklilhjnpedaaGreat
open Go.RowKit FF
def hv (x : Hw) : Value := cv x.a x.b x.c x.d
def Hb (B : Int) (x : Hw) : Prop := (-B ≤ x.a ∧ x.a ≤ B) ∧ (-B ≤ x.b ∧ x.b ≤ B) ∧ (-B ≤ x.c ∧ x.c ≤ B) ∧ (-B ≤ x.d ∧ x.d ≤ B)
theorem mulm {x y : Int} (hx : -1000000 ≤ x ∧ x ≤ 1000000) (hy : -1000000 ≤ y ∧ y ≤ 1000000) : -1000000000000 ≤ x * y ∧ x * y ≤ 1000000000000 := by
  have := mulb hx hy
  simpa using this
set_option maxHeartbeats 2000000 in
theorem qtm_any (x y : Hw) (w : World) (hx : Hb 1000000 x) (hy : Hb 1000000 y) : Calls Tryz.prog 71 #[hv x, hv y] w (PostW (VC (hv (qtm x y))) w) := by
  obtain ⟨a, b, c, d⟩ := x
  obtain ⟨e, f, g, h⟩ := y
  obtain ⟨ha, hb, hc, hd⟩ := hx
  obtain ⟨he, hf, hg, hh⟩ := hy
  simp only at ha hb hc hd he hf hg hh
  obtain ⟨k1, l1⟩ := mulm ha he; obtain ⟨k2, l2⟩ := mulm hb hf; obtain ⟨k3, l3⟩ := mulm hc hg; obtain ⟨k4, l4⟩ := mulm hd hh
  obtain ⟨k5, l5⟩ := mulm ha hf; obtain ⟨k6, l6⟩ := mulm hb he; obtain ⟨k7, l7⟩ := mulm hc hh; obtain ⟨k8, l8⟩ := mulm hd hg
  obtain ⟨p1, q1⟩ := mulm ha hg; obtain ⟨p2, q2⟩ := mulm hc he; obtain ⟨p3, q3⟩ := mulm hd hf; obtain ⟨p4, q4⟩ := mulm hb hh
  obtain ⟨p5, q5⟩ := mulm ha hh; obtain ⟨p6, q6⟩ := mulm hd he; obtain ⟨p7, q7⟩ := mulm hb hg; obtain ⟨p8, q8⟩ := mulm hc hf
  clear ha hb hc hd he hf hg hh
  unfold hv cv
  go_enter Tryz.func71, Tryz.ntmps71
  go_wp2_with fail
  refine bodyPost_ret (v := hv (qtm ⟨a, b, c, d⟩ ⟨e, f, g, h⟩)) (by simp [results, Tryz.results71, go_sem, hv, cv, qtm]) rfl ?_
  exact ⟨_, rfl, rfl, (below_2 _ _).alloc (by simp; omega) _⟩
set_option maxHeartbeats 2000000 in
theorem qov_any (x : Hw) (n : Int) (w : World) (hx : Hb 1000000000000000 x) (h1 : 1 ≤ n) (h2 : n ≤ 1000000) : Calls Tryz.prog 45 #[hv x, .int .i64 n] w (PostW (VC (hv (qov n x))) w) := by
  obtain ⟨a, b, c, d⟩ := x
  obtain ⟨ha, hb, hc, hd⟩ := hx
  simp only at ha hb hc hd
  have hn0 : n ≠ 0 := by omega
  have k1 : IntKind.i64.wrap (a.tdiv n) = a.tdiv n := IntWalk.i64_in _ (by have := tdiv_le (a := a) (g := n) (m := 1000000000000000) ha; omega)
  have k2 : IntKind.i64.wrap (b.tdiv n) = b.tdiv n := IntWalk.i64_in _ (by have := tdiv_le (a := b) (g := n) (m := 1000000000000000) hb; omega)
  have k3 : IntKind.i64.wrap (c.tdiv n) = c.tdiv n := IntWalk.i64_in _ (by have := tdiv_le (a := c) (g := n) (m := 1000000000000000) hc; omega)
  have k4 : IntKind.i64.wrap (d.tdiv n) = d.tdiv n := IntWalk.i64_in _ (by have := tdiv_le (a := d) (g := n) (m := 1000000000000000) hd; omega)
  unfold hv cv
  go_enter Tryz.func45, Tryz.ntmps45
  go_wp2_with fail
  go_region
  go_wp2_with fail
  refine bodyPost_ret (v := hv (qov n ⟨a, b, c, d⟩)) (by simp [results, Tryz.results45, go_sem, hv, cv, qov]) rfl ?_
  exact ⟨_, rfl, rfl, (below_2 _ _).drew⟩
theorem sqm {x : Int} (hx : -1000000 ≤ x ∧ x ≤ 1000000) : 0 ≤ x * x ∧ x * x ≤ 1000000000000 := ⟨by have := mulm hx hx; rcases Int.le_total 0 x with h | h; exact Int.mul_nonneg h h; exact Int.mul_nonneg_of_nonpos_of_nonpos h h, (mulm hx hx).2⟩
set_option maxHeartbeats 2000000 in
theorem qsum_any (x : Hw) (w : World) (hx : Hb 1000000 x) : Calls Tryz.prog 69 #[hv x] w (PostW (VC (.int .i64 (hsum x))) w) := by
  obtain ⟨a, b, c, d⟩ := x
  obtain ⟨ha, hb, hc, hd⟩ := hx
  simp only at ha hb hc hd
  obtain ⟨k1, l1⟩ := sqm ha; obtain ⟨k2, l2⟩ := sqm hb; obtain ⟨k3, l3⟩ := sqm hc; obtain ⟨k4, l4⟩ := sqm hd
  clear ha hb hc hd
  have HS := Lib.hid (show hsum ⟨a, b, c, d⟩ = a * a + b * b + c * c + d * d from rfl)
  generalize hsum ⟨a, b, c, d⟩ = s at *
  unfold hv cv
  go_enter Tryz.func69, Tryz.ntmps69
  go_wp2_with fail
  go_ret
  exact ⟨_, rfl, (by unfold VC; rw [HS.out]; rfl), (Below.refl _ _).alloc (Nat.le_refl _) _⟩
theorem hsum_bnd {x : Hw} (hx : Hb 1000000 x) : 0 ≤ hsum x ∧ hsum x ≤ 4000000000000 := by
  obtain ⟨ha, hb, hc, hd⟩ := hx
  have := sqm ha; have := sqm hb; have := sqm hc; have := sqm hd
  unfold hsum
  omega
set_option maxHeartbeats 2000000 in
theorem hnorm_any (x : Hw) (w : World) (hx : Hb 1000000 x) : Calls Tryz.prog 42 #[hv x] w (PostW (VC (.int .i64 ((hsum x).tdiv 4))) w) := by
  have hs := hsum_bnd hx
  have hS := Lib.hid (fun W => qsum_any x W hx)
  clear hx
  obtain ⟨a, b, c, d⟩ := x
  generalize hsum ⟨a, b, c, d⟩ = s at *
  obtain ⟨h1, h2⟩ := hs
  have hw : IntKind.i64.wrap (s.tdiv 4) = s.tdiv 4 := IntWalk.i64_in _ (by rw [Int.tdiv_eq_ediv_of_nonneg h1]; omega)
  unfold hv cv at *
  go_enter Tryz.func42, Tryz.ntmps42
  go_wp2_with fail
  refine (hS.out _).mono ?_
  rintro e w1 ⟨_, rfl, rfl, hb⟩
  have HB := Lib.hid (((Below.refl w.heap.size w).alloc (Nat.le_refl _) _).trans (hb.mono (by simp)))
  clear hb
  go_wp2_with fail
  go_ret
  exact ⟨_, rfl, rfl, HB.out⟩
theorem box2 {w w1 : World} {o1 : Obj} {vs : Array Value} {T : TypeId} (hb : Below ((w.alloc o1).alloc (.cells vs T)).heap.size ((w.alloc o1).alloc (.cells vs T)) w1) : Hid (Below w.heap.size w w1) ∧ Cells w1 (w.heap.size + 1) vs :=
  ⟨Lib.hid ((below_2 o1 _).trans (hb.mono (by simp; omega))), (Cells.new _ vs T (by simp)).keep hb⟩
theorem below_set4 {B b : Nat} {w W : World} (h : Below B w W) (hb : B ≤ b) (v0 v1 v2 v3 : Value) : Below B w ((((W.setCell ⟨b, 0, none⟩ v0).setCell ⟨b, 1, none⟩ v1).setCell ⟨b, 2, none⟩ v2).setCell ⟨b, 3, none⟩ v3) :=
  (((h.setCell hb _).setCell hb _).setCell hb _).setCell hb _
theorem box3 {w w1 : World} {o1 o2 : Obj} {vs : Array Value} {T : TypeId} (hb : Below (((w.alloc o1).alloc o2).alloc (.cells vs T)).heap.size (((w.alloc o1).alloc o2).alloc (.cells vs T)) w1) : Hid (Below w.heap.size w w1) ∧ Cells w1 (w.heap.size + 1 + 1) vs :=
  ⟨Lib.hid (((below_2 o1 o2).alloc (by simp; omega) _).trans (hb.mono (by simp; omega))), (Cells.new _ vs T (by simp)).keep hb⟩
set_option maxHeartbeats 2000000 in
theorem htm_any (x y : Hw) (w : World) (hx : Hb 1000000 x) (hy : Hb 1000000 y) : Calls Tryz.prog 44 #[hv x, hv y] w (PostW (VC (hv (htm x y))) w) := by
  have hT := Lib.hid (fun W => qtm_any x y W hx hy)
  have hz : Hb 1000000000000000 (qtm x y) := by
    obtain ⟨ha, hb, hc, hd⟩ := hx
    obtain ⟨he, hf, hg, hh⟩ := hy
    have := mulm ha he; have := mulm hb hf; have := mulm hc hg; have := mulm hd hh
    have := mulm ha hf; have := mulm hb he; have := mulm hc hh; have := mulm hd hg
    have := mulm ha hg; have := mulm hc he; have := mulm hd hf; have := mulm hb hh
    have := mulm ha hh; have := mulm hd he; have := mulm hb hg; have := mulm hc hf
    refine ⟨?_, ?_, ?_, ?_⟩ <;> simp only [qtm] <;> omega
  have hO := Lib.hid (fun W => qov_any (qtm x y) 2 W hz (by omega) (by omega))
  clear hz hx hy
  have HR := Lib.hid (show htm x y = qov 2 (qtm x y) from rfl)
  generalize htm x y = r at *
  generalize qtm x y = z at *
  obtain ⟨a, b, c, d⟩ := x
  obtain ⟨e, f, g, h⟩ := y
  unfold hv cv at *
  go_enter Tryz.func44, Tryz.ntmps44
  go_wp2_with fail
  refine (hT.out _).mono ?_
  rintro e1 w1 ⟨_, rfl, rfl, hb⟩
  obtain ⟨HB, hC⟩ := box3 hb
  have HC := Lib.hid hC
  clear hb hC
  go_wp2_with fail
  refine (hO.out _).mono ?_
  rintro e2 w2 ⟨_, rfl, rfl, hb⟩
  have HB2 := Lib.hid (HB.out.trans (hb.mono HB.out.size))
  have hC := HC.out.keep hb
  obtain ⟨c0, c1, c2, c3⟩ := hC.four
  obtain ⟨f0, f1, f2, f3, -⟩ := hC.fr
  clear hb hC
  go_wp2_with fail
  refine bodyPost_ret (v := hv (qov 2 z)) (by simp [results, Tryz.results44, go_sem, hv, cv, c0, c1, c2, c3]) rfl ?_
  exact ⟨_, rfl, (by unfold VC; rw [HR.out]; rfl), below_set4 HB2.out (by omega) _ _ _ _⟩
set_option maxHeartbeats 2000000 in
theorem hquat_any (x : Hw) (w : World) (hx : Hb 1000000 x) : Calls Tryz.prog 21 #[hv x] w (PostW (VC (qv (hqt x))) w) := by
  have hO := Lib.hid (fun W => qov_any x 2 W ⟨⟨by have := hx.1; omega, by have := hx.1; omega⟩, ⟨by have := hx.2.1; omega, by have := hx.2.1; omega⟩, ⟨by have := hx.2.2.1; omega, by have := hx.2.2.1; omega⟩, ⟨by have := hx.2.2.2; omega, by have := hx.2.2.2; omega⟩⟩ (by omega) (by omega))
  clear hx
  have HR := Lib.hid (show hqt x = if x.a.tmod 2 = 0 then ⟨(qov 2 x).a, (qov 2 x).b, (qov 2 x).c, (qov 2 x).d, 1⟩ else ⟨x.a, x.b, x.c, x.d, 2⟩ from rfl)
  generalize hqt x = r at *
  generalize qov 2 x = z at *
  obtain ⟨a, b, c, d⟩ := x
  unfold hv cv at *
  by_cases h2 : a.tmod 2 = 0
  · have HQ := Lib.hid (HR.out.trans (if_pos h2))
    clear HR
    go_enter Tryz.func21, Tryz.ntmps21
    go_wp2_with fail
    refine (hO.out _).mono ?_
    rintro e1 w1 ⟨_, rfl, rfl, hb⟩
    obtain ⟨HB, hC⟩ := box2 hb
    have HC := Lib.hid hC
    clear hb hC
    go_upto_region 3 with fail
    have hb3 := (Below.refl w1.heap.size w1).alloc (Nat.le_refl _) (.cells #[.int .i64 z.a, .int .i64 z.b, .int .i64 z.c, .int .i64 z.d] 56)
    have hN := Cells.new w1 #[.int .i64 z.a, .int .i64 z.b, .int .i64 z.c, .int .i64 z.d] 56 rfl
    have hC := HC.out.keep hb3
    have HB3 := Lib.hid (HB.out.trans (hb3.mono HB.out.size))
    generalize w1.alloc (.cells #[.int .i64 z.a, .int .i64 z.b, .int .i64 z.c, .int .i64 z.d] 56) = w3 at *
    obtain ⟨c0, c1, c2, c3, c4⟩ := hC.five
    obtain ⟨f0, f1, f2, f3, f4⟩ := hC.fr
    obtain ⟨k0, k1, k2, k3⟩ := hN.four
    have hne : w.heap.size + 1 ≠ w1.heap.size := fun e => by have := HC.out.1; omega
    clear hb3 hN hC
    go_wp2_with fail
    refine bodyPost_ret (v := qv ⟨z.a, z.b, z.c, z.d, 1⟩) (by simp [results, Tryz.results21, go_sem, qv, c0, c1, c2, c3, c4]) rfl ?_
    exact ⟨_, rfl, (by unfold VC; rw [HQ.out]), below_set5 HB3.out (by omega) _ _ _ _ _⟩
  · have HQ := Lib.hid (HR.out.trans (if_neg h2))
    clear HR
    go_enter Tryz.func21, Tryz.ntmps21
    go_wp2_with fail
    refine bodyPost_ret (v := qv ⟨a, b, c, d, 2⟩) (by simp [results, Tryz.results21, go_sem, qv]) rfl ?_
    exact ⟨_, rfl, (by unfold VC; rw [HQ.out]), below_2 _ _⟩
end Go.Proofs.YthkklilhjnpedaaGreat
end
section
namespace Go.Proofs.YthkklilhjnpedaaGreat
open Go.RowKit FF
theorem cmpI_lib (a b : Int) : Lib.compareInt a b = cmpI a b := by
  unfold Lib.compareInt cmpI
  rfl
theorem cmpI_ne {a b : Int} (h : a ≠ b) : cmpI a b = -1 ∨ cmpI a b = 1 := by
  unfold cmpI
  rcases Int.lt_or_gt_of_ne h with h1 | h1
  · rw [if_pos h1]; exact .inl rfl
  · rw [if_neg (by omega), if_pos h1]; exact .inr rfl
theorem cmpI_eq {a b : Int} (h : a = b) : cmpI a b = 0 := by
  unfold cmpI
  rw [if_neg (by omega), if_neg (by omega)]
theorem cmpI_any (a b : Int) (w : World) : Calls Tryz.prog 116 #[.int .i64 a, .int .i64 b] w fun e w' => e = .returned (.int .i64 (cmpI a b)) ∧ w' = w := by
  have := Tryz.cmp_Compare_int a b w
  rw [cmpI_lib] at this
  exact this
set_option maxHeartbeats 4000000 in
theorem cmp4_any {g g2 c c2 : Nat} (x y : Hw) (w : World) (hx : Cells w g #[.int .i64 x.a, .int .i64 x.b, .int .i64 x.c, .int .i64 x.d]) (hy : Cells w g2 #[.int .i64 y.a, .int .i64 y.b, .int .i64 y.c, .int .i64 y.d]) :
    Calls Tryz.prog 67 #[.slice (some ⟨g, 0, none⟩) 4 c, .slice (some ⟨g2, 0, none⟩) 4 c2] w fun e w' => e = .returned (.int .i64 (cmpQ x y)) ∧ w' = w := by
  obtain ⟨x0, x1, x2, x3⟩ := hx.four
  obtain ⟨y0, y1, y2, y3⟩ := hy.four
  clear hx hy
  have HQ := Lib.hid (show cmpQ x y = if x.a = y.a then (if x.b = y.b then (if x.c = y.c then cmpI x.d y.d else cmpI x.c y.c) else cmpI x.b y.b) else cmpI x.a y.a from rfl)
  generalize cmpQ x y = r at *
  obtain ⟨a, b, c', d⟩ := x
  obtain ⟨e, f, g', h⟩ := y
  simp only at x0 x1 x2 x3 y0 y1 y2 y3 HQ
  have HC := Lib.hid (fun a b w => cmpI_any a b w)
  go_enter Tryz.func67, Tryz.ntmps67
  go_wp2_with fail
  refine wp_loop_rounds 5 ?_
  rcases Decidable.em (a ≠ e) with h1 | h1
  · have HN := Lib.hid (HQ.out.trans (if_neg h1))
    rw [rounds_succ]
    go_wp2_with fail
    refine (HC.out _ _ _).mono ?_
    rintro e1 w1 ⟨rfl, rfl⟩
    rcases cmpI_ne h1 with h2 | h2 <;> rw [h2] at HN ⊢
    · go_wp2_with fail
      go_ret
      exact ⟨by rw [HN.out]; rfl, rfl⟩
    · go_wp2_with fail
      go_ret
      exact ⟨by rw [HN.out]; rfl, rfl⟩
  have he0 := Decidable.not_not.1 h1
  have HQ1 := Lib.hid (HQ.out.trans (if_pos he0))
  have HE0 := Lib.hid (cmpI_eq he0)
  clear h1 he0 HQ
  rw [rounds_succ]
  go_wp2_with fail
  refine (HC.out _ _ _).mono ?_
  rintro e1 w1 ⟨rfl, rfl⟩
  rw [HE0.out]
  go_wp2_with fail
  rcases Decidable.em (b ≠ f) with h1 | h1
  · have HN := Lib.hid (HQ1.out.trans (if_neg h1))
    rw [rounds_succ]
    go_wp2_with fail
    refine (HC.out _ _ _).mono ?_
    rintro e1 w1 ⟨rfl, rfl⟩
    rcases cmpI_ne h1 with h2 | h2 <;> rw [h2] at HN ⊢
    · go_wp2_with fail
      go_ret
      exact ⟨by rw [HN.out]; rfl, rfl⟩
    · go_wp2_with fail
      go_ret
      exact ⟨by rw [HN.out]; rfl, rfl⟩
  have he1 := Decidable.not_not.1 h1
  have HQ2 := Lib.hid (HQ1.out.trans (if_pos he1))
  have HE1 := Lib.hid (cmpI_eq he1)
  clear h1 he1 HQ1
  rw [rounds_succ]
  go_wp2_with fail
  refine (HC.out _ _ _).mono ?_
  rintro e1 w1 ⟨rfl, rfl⟩
  rw [HE1.out]
  go_wp2_with fail
  rcases Decidable.em (c' ≠ g') with h1 | h1
  · have HN := Lib.hid (HQ2.out.trans (if_neg h1))
    rw [rounds_succ]
    go_wp2_with fail
    refine (HC.out _ _ _).mono ?_
    rintro e1 w1 ⟨rfl, rfl⟩
    rcases cmpI_ne h1 with h2 | h2 <;> rw [h2] at HN ⊢
    · go_wp2_with fail
      go_ret
      exact ⟨by rw [HN.out]; rfl, rfl⟩
    · go_wp2_with fail
      go_ret
      exact ⟨by rw [HN.out]; rfl, rfl⟩
  have he2 := Decidable.not_not.1 h1
  have HQ3 := Lib.hid (HQ2.out.trans (if_pos he2))
  have HE2 := Lib.hid (cmpI_eq he2)
  clear h1 he2 HQ2
  rw [rounds_succ]
  go_wp2_with fail
  refine (HC.out _ _ _).mono ?_
  rintro e1 w1 ⟨rfl, rfl⟩
  rw [HE2.out]
  go_wp2_with fail
  rcases Decidable.em (d ≠ h) with h1 | h1
  · have HN := HQ3
    rw [rounds_succ]
    go_wp2_with fail
    refine (HC.out _ _ _).mono ?_
    rintro e1 w1 ⟨rfl, rfl⟩
    rcases cmpI_ne h1 with h2 | h2 <;> rw [h2] at HN ⊢
    · go_wp2_with fail
      go_ret
      exact ⟨by rw [HN.out]; rfl, rfl⟩
    · go_wp2_with fail
      go_ret
      exact ⟨by rw [HN.out]; rfl, rfl⟩
  have he3 := Decidable.not_not.1 h1
  have HQ4 := Lib.hid (HQ3.out.trans (cmpI_eq he3))
  have HE3 := Lib.hid (cmpI_eq he3)
  clear h1 he3 HQ3
  rw [rounds_succ]
  go_wp2_with fail
  refine (HC.out _ _ _).mono ?_
  rintro e1 w1 ⟨rfl, rfl⟩
  rw [HE3.out]
  go_wp2_with fail
  rw [rounds_succ]
  go_wp2_with fail
  go_ret
  exact ⟨by rw [HQ4.out]; rfl, rfl⟩
def GrowP (w : World) (v : Value) (e : Ending) (w' : World) : Prop := e = .returned v ∧ ∃ n os, w' = Sort.grow (w.drewN n) os
theorem grow_drewN (w : World) (n : Nat) (os : Array Obj) : (Sort.grow w os).drewN n = Sort.grow (w.drewN n) os := rfl
theorem GrowP.post {w : World} {v : Value} {e : Ending} {w' : World} (h : GrowP w v e w') : PostW (VC v) w e w' := by
  obtain ⟨rfl, n, os, rfl⟩ := h
  exact ⟨_, rfl, rfl, ⟨rfl, rfl, rfl, by simp [Sort.grow, World.drewN], fun k hk => by simp only [Sort.grow, World.drewN]; rw [Array.getElem?_append_left hk]⟩⟩
set_option maxHeartbeats 2000000 in
theorem qcmp_any (x y : Hw) (w : World) : Calls Tryz.prog 39 #[hv x, hv y] w (GrowP w (.int .i64 (cmpQ x y))) := by
  have HC := Lib.hid (fun (W : World) g g2 c c2 hx hy => cmp4_any (g := g) (g2 := g2) (c := c) (c2 := c2) x y W hx hy)
  obtain ⟨a, b, c, d⟩ := x
  obtain ⟨e, f, g, h⟩ := y
  generalize cmpQ ⟨a, b, c, d⟩ ⟨e, f, g, h⟩ = r at *
  unfold hv cv
  simp only at HC
  go_enter Tryz.func39, Tryz.ntmps39
  go_upto_region 1 with fail
  have hX := Lib.hid (((Cells.new w #[.int .i64 a, .int .i64 b, .int .i64 c, .int .i64 d] 56 rfl).alloc (.cells #[.int .i64 e, .int .i64 f, .int .i64 g, .int .i64 h] 56)))
  have hY := Lib.hid (Cells.new (w.alloc (.cells #[.int .i64 a, .int .i64 b, .int .i64 c, .int .i64 d] 56)) #[.int .i64 e, .int .i64 f, .int .i64 g, .int .i64 h] 56 (b := w.heap.size + 1) (by simp))
  have HG := Lib.hid (show ((w.alloc (.cells #[.int .i64 a, .int .i64 b, .int .i64 c, .int .i64 d] 56)).alloc (.cells #[.int .i64 e, .int .i64 f, .int .i64 g, .int .i64 h] 56)) = Sort.grow w #[.cells #[.int .i64 a, .int .i64 b, .int .i64 c, .int .i64 d] 56, .cells #[.int .i64 e, .int .i64 f, .int .i64 g, .int .i64 h] 56] by rw [Sort.alloc_eq_grow, Sort.alloc_eq_grow, Sort.grow_grow]; rfl)
  obtain ⟨W1, hW1⟩ : ∃ W1, W1 = ((w.alloc (.cells #[.int .i64 a, .int .i64 b, .int .i64 c, .int .i64 d] 56)).alloc (.cells #[.int .i64 e, .int .i64 f, .int .i64 g, .int .i64 h] 56)) := ⟨_, rfl⟩
  rw [← hW1] at hX hY HG ⊢
  clear hW1
  have hq := Lib.hid (fun n c c2 => HC.out (W1.drewN n) w.heap.size (w.heap.size + 1) c c2 (hX.out.keep (below_drewN (Below.refl _ _) _)) (hY.out.keep (below_drewN (Below.refl _ _) _)))
  clear HC hX hY
  go_quiet (first | (go_at_call 67; with_reducible refine Calls.quiet_of_same (hq.out _ _ _)))
  go_wp2_with fail
  go_ret
  exact ⟨rfl, _, _, by rw [HG.out, grow_drewN]⟩
end Go.Proofs.YthkklilhjnpedaaGreat
end
section
namespace Go.Proofs
open Go.Shelf
def Tryz.sortH_ren : Go.Shelf.Ren := ⟨fun | 6 => 37 | 15 => 66 | 14 => 65 | 28 => 114 | 29 => 115 | 20 => 106 | 21 => 107 | 22 => 108 | 23 => 109 | 24 => 110 | 25 => 111 | 26 => 112 | 27 => 113 | 46 => 143 | 47 => 144 | 48 => 145 | 49 => 146 | 50 => 147 | 57 => 160 | n => n, fun | 22 => 51 | 24 => 58 | 25 => 80 | 3 => 3 | 39 => 107 | 0 => 0 | 53 => 103 | 55 => 147 | 4 => 4 | 46 => 153 | 45 => 152 | 50 => 157 | 5 => 5 | 9 => 9 | 66 => 183 | 70 => 187 | 76 => 195 | 77 => 148 | n => n, fun | n => n⟩
theorem Tryz.sortH : Go.Proofs.SlLaysF0.n6 Tryz.prog Tryz.sortH_ren := {
  mixed := by kernel_rfl
  f6 := ⟨Tryz.f37.name, by decide, Tryz.func37.trans (congrArg some (by kernel_rfl))⟩
  f14 := ⟨Tryz.f65.name, by decide, Tryz.func65.trans (congrArg some (by kernel_rfl))⟩
  f15 := Tryz.func66.trans (congrArg some (by kernel_rfl))
  f20 := ⟨Tryz.f106.name, by decide, Tryz.func106.trans (congrArg some (by kernel_rfl))⟩
  f21 := ⟨Tryz.f107.name, by decide, Tryz.func107.trans (congrArg some (by kernel_rfl))⟩
  f22 := ⟨Tryz.f108.name, by decide, Tryz.func108.trans (congrArg some (by kernel_rfl))⟩
  f23 := ⟨Tryz.f109.name, by decide, Tryz.func109.trans (congrArg some (by kernel_rfl))⟩
  f24 := ⟨Tryz.f110.name, by decide, Tryz.func110.trans (congrArg some (by kernel_rfl))⟩
  f25 := ⟨Tryz.f111.name, by decide, Tryz.func111.trans (congrArg some (by kernel_rfl))⟩
  f26 := ⟨Tryz.f112.name, by decide, Tryz.func112.trans (congrArg some (by kernel_rfl))⟩
  f27 := ⟨Tryz.f113.name, by decide, Tryz.func113.trans (congrArg some (by kernel_rfl))⟩
  f28 := Tryz.func114.trans (congrArg some (by kernel_rfl))
  f29 := Tryz.func115.trans (congrArg some (by kernel_rfl))
  f46 := ⟨Tryz.f143.name, by decide, Tryz.func143.trans (congrArg some (by kernel_rfl))⟩
  f47 := Tryz.func144.trans (congrArg some (by kernel_rfl))
  f48 := Tryz.func145.trans (congrArg some (by kernel_rfl))
  f49 := ⟨Tryz.f146.name, by decide, Tryz.func146.trans (congrArg some (by kernel_rfl))⟩
  f50 := ⟨Tryz.f147.name, by decide, Tryz.func147.trans (congrArg some (by kernel_rfl))⟩
  f57 := ⟨Tryz.f160.name, by decide, Tryz.func160.trans (congrArg some (by kernel_rfl))⟩
  t0 := Tryz.underlying0
  a0 := Tryz.isAgg0
  z0 := Tryz.sizeOf0
  v0 := Tryz.zeroValue0
  t3 := Tryz.underlying3
  a3 := Tryz.isAgg3
  z3 := Tryz.sizeOf3
  v3 := Tryz.zeroValue3
  t4 := Tryz.underlying4
  a4 := Tryz.isAgg4
  z4 := Tryz.sizeOf4
  v4 := Tryz.zeroValue4
  t5 := Tryz.underlying5
  a5 := Tryz.isAgg5
  z5 := Tryz.sizeOf5
  v5 := Tryz.zeroValue5
  t9 := Tryz.underlying9
  a9 := Tryz.isAgg9
  z9 := Tryz.sizeOf9
  v9 := Tryz.zeroValue9
  t22 := Tryz.underlying51
  a22 := Tryz.isAgg51
  z22 := Tryz.sizeOf51
  v22 := Tryz.zeroValue51
  t25 := Tryz.underlying80
  a25 := Tryz.isAgg80
  z25 := Tryz.sizeOf80
  v25 := Tryz.zeroValue80
  t39 := Tryz.underlying107
  a39 := Tryz.isAgg107
  z39 := Tryz.sizeOf107
  v39 := Tryz.zeroValue107
  t45 := Tryz.underlying152
  a45 := Tryz.isAgg152
  z45 := Tryz.sizeOf152
  v45 := Tryz.zeroValue152
  t46 := Tryz.underlying153
  a46 := Tryz.isAgg153
  z46 := Tryz.sizeOf153
  v46 := Tryz.zeroValue153
  t50 := Tryz.underlying157
  a50 := Tryz.isAgg157
  z50 := Tryz.sizeOf157
  v50 := Tryz.zeroValue157
  t53 := Tryz.underlying103
  a53 := Tryz.isAgg103
  z53 := Tryz.sizeOf103
  v53 := Tryz.zeroValue103
  t55 := Tryz.underlying147
  a55 := Tryz.isAgg147
  z55 := Tryz.sizeOf147
  v55 := Tryz.zeroValue147
  t66 := Tryz.underlying183
  a66 := Tryz.isAgg183
  z66 := Tryz.sizeOf183
  v66 := Tryz.zeroValue183
  t70 := Tryz.underlying187
  a70 := Tryz.isAgg187
  z70 := Tryz.sizeOf187
  v70 := Tryz.zeroValue187
  t76 := Tryz.underlying195
  a76 := Tryz.isAgg195
  z76 := Tryz.sizeOf195
  v76 := Tryz.zeroValue195
  t77 := Tryz.underlying148
  a77 := Tryz.isAgg148
  z77 := Tryz.sizeOf148
  v77 := Tryz.zeroValue148 }
end Go.Proofs
end
