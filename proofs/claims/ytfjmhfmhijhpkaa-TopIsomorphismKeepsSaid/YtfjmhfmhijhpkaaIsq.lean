/- Squares that are numbers, and products that are opposite, in the program and in the reference. -/
import Derived.Test.YtfjmhfmhijhpkaaSmb
import Derived.ChangeKeysEq
namespace Go.Proofs.Ytfjmhfmhijhpkaa
open Go.RowKit FF

/-- the square is the number n -/
def sqB (a b n : Int) (q : Qt) : Bool := (mulQ a b q q).w == n * q.d * q.d && ((mulQ a b q q).x == 0 && ((mulQ a b q q).y == 0 && (mulQ a b q q).z == 0))
/-- the products in both orders are opposite -/
def opB (a b : Int) (p q : Qt) : Bool := (mulQ a b p q).w + (mulQ a b q p).w == 0 && ((mulQ a b p q).x + (mulQ a b q p).x == 0 && ((mulQ a b p q).y + (mulQ a b q p).y == 0 && (mulQ a b p q).z + (mulQ a b q p).z == 0))

set_option maxRecDepth 100000 in
theorem eq4c (x0 x1 x2 x3 y0 y1 y2 y3 : Int) (w : World) : (Op.equalIn 10000 97 (.agg #[.int .i64 x0, .int .i64 x1, .int .i64 x2, .int .i64 x3]) (.agg #[.int .i64 y0, .int .i64 y1, .int .i64 y2, .int .i64 y3])).run Try.prog w = .ok (x0 == y0 && (x1 == y1 && (x2 == y2 && x3 == y3))) w := by
  have hp : ∀ (x0 x1 x2 x3 : Int) (w : World), (part 3 #[.int .i64 x0, .int .i64 x1, .int .i64 x2, .int .i64 x3] 0).run Try.prog w = .ok (.int .i64 x0) w ∧ (part 3 #[.int .i64 x0, .int .i64 x1, .int .i64 x2, .int .i64 x3] 1).run Try.prog w = .ok (.int .i64 x1) w ∧ (part 3 #[.int .i64 x0, .int .i64 x1, .int .i64 x2, .int .i64 x3] 2).run Try.prog w = .ok (.int .i64 x2) w ∧ (part 3 #[.int .i64 x0, .int .i64 x1, .int .i64 x2, .int .i64 x3] 3).run Try.prog w = .ok (.int .i64 x3) w := fun _ _ _ _ _ => ⟨by kernel_rfl, by kernel_rfl, by kernel_rfl, by kernel_rfl⟩
  have hi : ∀ (x y : Int) (w : World), (Op.equalIn 9999 3 (.int .i64 x) (.int .i64 y)).run Try.prog w = .ok (x == y) w := fun x y w => run_equalIn_int w 9998 3 .i64 .i64 x y Try.underlying3
  have hc : Try.prog.cellsOf 3 = 1 := by kernel_rfl
  obtain ⟨i0, hinfo, -⟩ := info_parts info_int
  rw [show (10000 : Nat) = 9999 + 1 from rfl, run_equalIn_array (w := w) 9999 _ _ Try.underlying97 hinfo, hc, show List.range 4 = [0, 1, 2, 3] from rfl]
  generalize (9999 : Nat) = dd at *
  cases h0 : (x0 == y0) <;> cases h1 : (x1 == y1) <;> cases h2 : (x2 == y2) <;> cases h3 : (x3 == y3) <;> simp [Op.eqItems, Sem.run_bind, hp, Result.andThen_ok, hi, h0, h1, h2, h3, -beq_iff_eq, -beq_eq_false_iff_ne]

set_option maxHeartbeats 4000000 in
set_option maxRecDepth 100000 in
theorem qsquare_any (a b n p0 p1 p2 p3 p4 : Int) (w : World) (hq : qB ⟨p0, p1, p2, p3, p4⟩ = true) (ha : aE a b = 0) (hn : -1000 ≤ n ∧ n ≤ 1000) :
    Calls Try.prog 117 #[.agg #[.int .i64 a, .int .i64 b], qv ⟨p0, p1, p2, p3, p4⟩, .int .i64 n] w fun r w' => r = .returned (.bool (sqB a b n ⟨p0, p1, p2, p3, p4⟩)) ∧ Below w.heap.size w w' := by
  have hd := (qB_iff.1 hq).2.2.2.2
  simp only at hd
  have HO := Lib.hid (fun w => qof_any p0 p1 p2 p3 p4 w)
  have HT := Lib.hid (fun w => qtimes_any ⟨p0, p1, p2, p3, p4⟩ ⟨p0, p1, p2, p3, p4⟩ a b w hq hq ha)
  obtain ⟨b1, b1'⟩ := mulb hn (show -1000000 ≤ p4 ∧ p4 ≤ 1000000 by omega)
  obtain ⟨b2, b2'⟩ := mulb (mulb hn (show -1000000 ≤ p4 ∧ p4 ≤ 1000000 by omega)) (show -1000000 ≤ p4 ∧ p4 ≤ 1000000 by omega)
  simp only [Int.reduceMul, Int.reduceNeg] at b1 b1' b2 b2'
  have u1 : IntKind.i64.wrap (n * p4) = n * p4 := wrap_id _ (by omega) (by omega)
  have u2 : IntKind.i64.wrap (n * p4 * p4) = n * p4 * p4 := wrap_id _ (by omega) (by omega)
  have hEq : ∀ w, Sem.run Try.prog (Op.equalIn 10000 97 (.agg #[.int .i64 (mulQ a b ⟨p0, p1, p2, p3, p4⟩ ⟨p0, p1, p2, p3, p4⟩).w, .int .i64 (mulQ a b ⟨p0, p1, p2, p3, p4⟩ ⟨p0, p1, p2, p3, p4⟩).x, .int .i64 (mulQ a b ⟨p0, p1, p2, p3, p4⟩ ⟨p0, p1, p2, p3, p4⟩).y, .int .i64 (mulQ a b ⟨p0, p1, p2, p3, p4⟩ ⟨p0, p1, p2, p3, p4⟩).z]) (.agg #[.int .i64 (n * p4 * p4), .int .i64 0, .int .i64 0, .int .i64 0])) w = .ok (sqB a b n ⟨p0, p1, p2, p3, p4⟩) w := fun w => eq4c _ _ _ _ _ _ _ _ w
  clear hq ha hd hn b1 b1' b2 b2'
  generalize sqB a b n ⟨p0, p1, p2, p3, p4⟩ = F at *
  generalize mulQ a b ⟨p0, p1, p2, p3, p4⟩ ⟨p0, p1, p2, p3, p4⟩ = M at *
  obtain ⟨m0, m1, m2, m3, m4⟩ := M
  simp only [cv] at HO HT hEq
  simp only [qv]
  go_enter Try.func117, Try.ntmps117
  go_upto_region 1 with fail
  obtain ⟨W0, hW0⟩ : ∃ W0 : World, W0 = ((w.alloc (.cells #[.int .i64 a, .int .i64 b] 23)).alloc (.cells #[.int .i64 p0, .int .i64 p1, .int .i64 p2, .int .i64 p3, .int .i64 p4] 25)) := ⟨_, rfl⟩
  rw [← hW0]
  have HB0 := Lib.hid (show Bx w [(w.heap.size + 1, #[.int .i64 p0, .int .i64 p1, .int .i64 p2, .int .i64 p3, .int .i64 p4]), (w.heap.size, #[.int .i64 a, .int .i64 b])] W0 by rw [hW0]; simpa using (((Bx.nil (Below.refl w.heap.size w)).new #[.int .i64 a, .int .i64 b] 23).new #[.int .i64 p0, .int .i64 p1, .int .i64 p2, .int .i64 p3, .int .i64 p4] 25))
  clear hW0
  have MK := Lib.hid (fun w' (h : Bx w [(w.heap.size + 1, #[.int .i64 p0, .int .i64 p1, .int .i64 p2, .int .i64 p3, .int .i64 p4]), (w.heap.size, #[.int .i64 a, .int .i64 b])] w') => And.intro h (And.intro (h.five (List.mem_cons_self ..)) (h.two (List.mem_cons_of_mem _ (List.mem_cons_self ..)))))
  have HG2 := Lib.hid (MK.out _ (HB0.out.keep (Below.refl _ _).drew))
  go_region_held3 (fun w' => Bx w [(w.heap.size + 1, #[.int .i64 p0, .int .i64 p1, .int .i64 p2, .int .i64 p3, .int .i64 p4]), (w.heap.size, #[.int .i64 a, .int .i64 b])] w' ∧ (w'.cell? ⟨w.heap.size + 1, 0, none⟩ = some (.int .i64 p0) ∧ w'.cell? ⟨w.heap.size + 1, 1, none⟩ = some (.int .i64 p1) ∧ w'.cell? ⟨w.heap.size + 1, 2, none⟩ = some (.int .i64 p2) ∧ w'.cell? ⟨w.heap.size + 1, 3, none⟩ = some (.int .i64 p3) ∧ w'.cell? ⟨w.heap.size + 1, 4, none⟩ = some (.int .i64 p4)) ∧ (w'.cell? ⟨w.heap.size, 0, none⟩ = some (.int .i64 a) ∧ w'.cell? ⟨w.heap.size, 1, none⟩ = some (.int .i64 b)))
    (first
      | assumption
      | exact HG2.out
      | exact MK.out _ (Bx.keep (And.left (by assumption)) (by assumption)))
    (first
      | (go_at_call 48; (with_reducible refine (HO.out _).mono ?_); rintro e w' ⟨rfl, hb⟩)
      | (go_at_call 76; (with_reducible refine (HT.out _).mono ?_); rintro e w' ⟨rfl, hb⟩))
  have HB1 := Lib.hid (show Bx w [(w.heap.size + 1, #[.int .i64 p0, .int .i64 p1, .int .i64 p2, .int .i64 p3, .int .i64 p4]), (w.heap.size, #[.int .i64 a, .int .i64 b])] w' by repeat (first | exact HG2.out.1 | refine Bx.keep ?_ (by assumption)))
  rename_i hHeld
  clear hHeld HG2 MK HB0
  go_wp2_with fail
  go_ret
  exact ⟨ret_bool rfl, HB1.out.below⟩



theorem mulQ_tight {a b : Int} {p q : Qt} (hp : qB p = true) (hq : qB q = true) (h : aE a b = 0) :
    (-2000000000000000000 ≤ (mulQ a b p q).w ∧ (mulQ a b p q).w ≤ 2000000000000000000) ∧ (-2000000000000000000 ≤ (mulQ a b p q).x ∧ (mulQ a b p q).x ≤ 2000000000000000000) ∧ (-2000000000000000000 ≤ (mulQ a b p q).y ∧ (mulQ a b p q).y ≤ 2000000000000000000) ∧ (-2000000000000000000 ≤ (mulQ a b p q).z ∧ (mulQ a b p q).z ≤ 2000000000000000000) := by
  obtain ⟨h0, h1, h2, h3, h4⟩ := qB_iff.1 hp
  obtain ⟨g0, g1, g2, g3, g4⟩ := qB_iff.1 hq
  obtain ⟨-, -, ha, hb⟩ := aE_zero.1 h
  have b1 := mulb h0 g0; have b2 := mulb (mulb ha h1) g1; have b3 := mulb (mulb hb h2) g2; have b4 := mulb (mulb (mulb ha hb) h3) g3
  have b5 := mulb h0 g1; have b6 := mulb h1 g0; have b7 := mulb (mulb hb h2) g3; have b8 := mulb (mulb hb h3) g2
  have b9 := mulb h0 g2; have c1 := mulb h2 g0; have c2 := mulb (mulb ha h1) g3; have c3 := mulb (mulb ha h3) g1
  have c4 := mulb h0 g3; have c5 := mulb h3 g0; have c6 := mulb h1 g2; have c7 := mulb h2 g1
  simp only [Int.reduceMul, Int.reduceNeg] at *
  refine ⟨?_, ?_, ?_, ?_⟩ <;> simp only [mulQ] <;> omega

set_option maxHeartbeats 4000000 in
set_option maxRecDepth 100000 in
theorem qopposite_any (a b p0 p1 p2 p3 p4 q0 q1 q2 q3 q4 : Int) (w : World) (hp : qB ⟨p0, p1, p2, p3, p4⟩ = true) (hq : qB ⟨q0, q1, q2, q3, q4⟩ = true) (ha : aE a b = 0) :
    Calls Try.prog 74 #[.agg #[.int .i64 a, .int .i64 b], qv ⟨p0, p1, p2, p3, p4⟩, qv ⟨q0, q1, q2, q3, q4⟩] w fun r w' => r = .returned (.bool (opB a b ⟨p0, p1, p2, p3, p4⟩ ⟨q0, q1, q2, q3, q4⟩)) ∧ Below w.heap.size w w' := by
  obtain ⟨c0, c1, c2, c3⟩ := mulQ_tight hp hq ha
  obtain ⟨g0, g1, g2, g3⟩ := mulQ_tight hq hp ha
  have HOp := Lib.hid (fun w => qof_any p0 p1 p2 p3 p4 w)
  have HOq := Lib.hid (fun w => qof_any q0 q1 q2 q3 q4 w)
  have HPQ := Lib.hid (fun w => qtimes_any ⟨p0, p1, p2, p3, p4⟩ ⟨q0, q1, q2, q3, q4⟩ a b w hp hq ha)
  have HQP := Lib.hid (fun w => qtimes_any ⟨q0, q1, q2, q3, q4⟩ ⟨p0, p1, p2, p3, p4⟩ a b w hq hp ha)
  have HPl := Lib.hid (fun w => qplus_any (mulQ a b ⟨p0, p1, p2, p3, p4⟩ ⟨q0, q1, q2, q3, q4⟩).w (mulQ a b ⟨p0, p1, p2, p3, p4⟩ ⟨q0, q1, q2, q3, q4⟩).x (mulQ a b ⟨p0, p1, p2, p3, p4⟩ ⟨q0, q1, q2, q3, q4⟩).y (mulQ a b ⟨p0, p1, p2, p3, p4⟩ ⟨q0, q1, q2, q3, q4⟩).z (mulQ a b ⟨q0, q1, q2, q3, q4⟩ ⟨p0, p1, p2, p3, p4⟩).w (mulQ a b ⟨q0, q1, q2, q3, q4⟩ ⟨p0, p1, p2, p3, p4⟩).x (mulQ a b ⟨q0, q1, q2, q3, q4⟩ ⟨p0, p1, p2, p3, p4⟩).y (mulQ a b ⟨q0, q1, q2, q3, q4⟩ ⟨p0, p1, p2, p3, p4⟩).z w ⟨by omega, by omega⟩ ⟨by omega, by omega⟩ ⟨by omega, by omega⟩ ⟨by omega, by omega⟩)
  have hEq : ∀ w, Sem.run Try.prog (Op.equalIn 10000 97 (.agg #[.int .i64 ((mulQ a b ⟨p0, p1, p2, p3, p4⟩ ⟨q0, q1, q2, q3, q4⟩).w + (mulQ a b ⟨q0, q1, q2, q3, q4⟩ ⟨p0, p1, p2, p3, p4⟩).w), .int .i64 ((mulQ a b ⟨p0, p1, p2, p3, p4⟩ ⟨q0, q1, q2, q3, q4⟩).x + (mulQ a b ⟨q0, q1, q2, q3, q4⟩ ⟨p0, p1, p2, p3, p4⟩).x), .int .i64 ((mulQ a b ⟨p0, p1, p2, p3, p4⟩ ⟨q0, q1, q2, q3, q4⟩).y + (mulQ a b ⟨q0, q1, q2, q3, q4⟩ ⟨p0, p1, p2, p3, p4⟩).y), .int .i64 ((mulQ a b ⟨p0, p1, p2, p3, p4⟩ ⟨q0, q1, q2, q3, q4⟩).z + (mulQ a b ⟨q0, q1, q2, q3, q4⟩ ⟨p0, p1, p2, p3, p4⟩).z)]) (.agg #[.int .i64 0, .int .i64 0, .int .i64 0, .int .i64 0])) w = .ok (opB a b ⟨p0, p1, p2, p3, p4⟩ ⟨q0, q1, q2, q3, q4⟩) w := fun w => eq4c _ _ _ _ _ _ _ _ w
  clear hp hq ha c0 c1 c2 c3 g0 g1 g2 g3
  generalize opB a b ⟨p0, p1, p2, p3, p4⟩ ⟨q0, q1, q2, q3, q4⟩ = F at *
  generalize (mulQ a b ⟨p0, p1, p2, p3, p4⟩ ⟨q0, q1, q2, q3, q4⟩).w + (mulQ a b ⟨q0, q1, q2, q3, q4⟩ ⟨p0, p1, p2, p3, p4⟩).w = s0 at *
  generalize (mulQ a b ⟨p0, p1, p2, p3, p4⟩ ⟨q0, q1, q2, q3, q4⟩).x + (mulQ a b ⟨q0, q1, q2, q3, q4⟩ ⟨p0, p1, p2, p3, p4⟩).x = s1 at *
  generalize (mulQ a b ⟨p0, p1, p2, p3, p4⟩ ⟨q0, q1, q2, q3, q4⟩).y + (mulQ a b ⟨q0, q1, q2, q3, q4⟩ ⟨p0, p1, p2, p3, p4⟩).y = s2 at *
  generalize (mulQ a b ⟨p0, p1, p2, p3, p4⟩ ⟨q0, q1, q2, q3, q4⟩).z + (mulQ a b ⟨q0, q1, q2, q3, q4⟩ ⟨p0, p1, p2, p3, p4⟩).z = s3 at *
  generalize mulQ a b ⟨p0, p1, p2, p3, p4⟩ ⟨q0, q1, q2, q3, q4⟩ = M at *
  generalize mulQ a b ⟨q0, q1, q2, q3, q4⟩ ⟨p0, p1, p2, p3, p4⟩ = N at *
  obtain ⟨m0, m1, m2, m3, m4⟩ := M
  obtain ⟨n0, n1, n2, n3, n4⟩ := N
  simp only [cv] at HOp HOq HPQ HQP HPl
  simp only [qv]
  go_enter Try.func74, Try.ntmps74
  go_upto_region 1 with fail
  obtain ⟨W0, hW0⟩ : ∃ W0 : World, W0 = (((w.alloc (.cells #[.int .i64 a, .int .i64 b] 23)).alloc (.cells #[.int .i64 p0, .int .i64 p1, .int .i64 p2, .int .i64 p3, .int .i64 p4] 25)).alloc (.cells #[.int .i64 q0, .int .i64 q1, .int .i64 q2, .int .i64 q3, .int .i64 q4] 25)) := ⟨_, rfl⟩
  rw [← hW0]
  have HB0 := Lib.hid (show Bx w [(w.heap.size + 2, #[.int .i64 q0, .int .i64 q1, .int .i64 q2, .int .i64 q3, .int .i64 q4]), (w.heap.size + 1, #[.int .i64 p0, .int .i64 p1, .int .i64 p2, .int .i64 p3, .int .i64 p4]), (w.heap.size, #[.int .i64 a, .int .i64 b])] W0 by rw [hW0]; simpa using ((((Bx.nil (Below.refl w.heap.size w)).new #[.int .i64 a, .int .i64 b] 23).new #[.int .i64 p0, .int .i64 p1, .int .i64 p2, .int .i64 p3, .int .i64 p4] 25).new #[.int .i64 q0, .int .i64 q1, .int .i64 q2, .int .i64 q3, .int .i64 q4] 25))
  clear hW0
  have MK := Lib.hid (fun w' (h : Bx w [(w.heap.size + 2, #[.int .i64 q0, .int .i64 q1, .int .i64 q2, .int .i64 q3, .int .i64 q4]), (w.heap.size + 1, #[.int .i64 p0, .int .i64 p1, .int .i64 p2, .int .i64 p3, .int .i64 p4]), (w.heap.size, #[.int .i64 a, .int .i64 b])] w') => And.intro h (And.intro (h.five (List.mem_cons_self ..)) (And.intro (h.five (List.mem_cons_of_mem _ (List.mem_cons_self ..))) (h.two (List.mem_cons_of_mem _ (List.mem_cons_of_mem _ (List.mem_cons_self ..)))))))
  have HG2 := Lib.hid (MK.out _ (HB0.out.keep (Below.refl _ _).drew))
  go_region_held3 (fun w' => Bx w [(w.heap.size + 2, #[.int .i64 q0, .int .i64 q1, .int .i64 q2, .int .i64 q3, .int .i64 q4]), (w.heap.size + 1, #[.int .i64 p0, .int .i64 p1, .int .i64 p2, .int .i64 p3, .int .i64 p4]), (w.heap.size, #[.int .i64 a, .int .i64 b])] w' ∧ (w'.cell? ⟨w.heap.size + 2, 0, none⟩ = some (.int .i64 q0) ∧ w'.cell? ⟨w.heap.size + 2, 1, none⟩ = some (.int .i64 q1) ∧ w'.cell? ⟨w.heap.size + 2, 2, none⟩ = some (.int .i64 q2) ∧ w'.cell? ⟨w.heap.size + 2, 3, none⟩ = some (.int .i64 q3) ∧ w'.cell? ⟨w.heap.size + 2, 4, none⟩ = some (.int .i64 q4)) ∧ (w'.cell? ⟨w.heap.size + 1, 0, none⟩ = some (.int .i64 p0) ∧ w'.cell? ⟨w.heap.size + 1, 1, none⟩ = some (.int .i64 p1) ∧ w'.cell? ⟨w.heap.size + 1, 2, none⟩ = some (.int .i64 p2) ∧ w'.cell? ⟨w.heap.size + 1, 3, none⟩ = some (.int .i64 p3) ∧ w'.cell? ⟨w.heap.size + 1, 4, none⟩ = some (.int .i64 p4)) ∧ (w'.cell? ⟨w.heap.size, 0, none⟩ = some (.int .i64 a) ∧ w'.cell? ⟨w.heap.size, 1, none⟩ = some (.int .i64 b)))
    (first
      | assumption
      | exact HG2.out
      | exact MK.out _ (Bx.keep (And.left (by assumption)) (by assumption)))
    (first
      | (go_at_call 48; (with_reducible refine (HOp.out _).mono ?_); rintro e w' ⟨rfl, hb⟩)
      | (go_at_call 48; (with_reducible refine (HOq.out _).mono ?_); rintro e w' ⟨rfl, hb⟩)
      | (go_at_call 76; (with_reducible refine (HPQ.out _).mono ?_); rintro e w' ⟨rfl, hb⟩)
      | (go_at_call 76; (with_reducible refine (HQP.out _).mono ?_); rintro e w' ⟨rfl, hb⟩)
      | (go_at_call 118; (with_reducible refine (HPl.out _).mono ?_); rintro e w' ⟨rfl, hb⟩))
  all_goals
    have hR : Bx w [(w.heap.size + 2, #[.int .i64 q0, .int .i64 q1, .int .i64 q2, .int .i64 q3, .int .i64 q4]), (w.heap.size + 1, #[.int .i64 p0, .int .i64 p1, .int .i64 p2, .int .i64 p3, .int .i64 p4]), (w.heap.size, #[.int .i64 a, .int .i64 b])] w' := by repeat (first | exact HG2.out.1 | refine Bx.keep ?_ (by assumption))
    go_wp2_with fail
    go_ret
    exact ⟨ret_bool rfl, hR.below⟩


end Go.Proofs.Ytfjmhfmhijhpkaa
