/- The matrices of an algebra that splits are accepted: plain. -/
import Derived.Test.YtimdkjbmeogpoaaGreatDoorUScl
import Derived.Test.YtimdkjbmeogpoaaGreatDoorULgh
namespace Go.Proofs.YtimdkjbmeogpoaaGreatDoor
open Go.RowKit FF
theorem mul_cancel {g x y : Int} (hg : g ≠ 0) (h : g * x = g * y) : x = y := Int.eq_of_mul_eq_mul_left hg h
theorem splF_zero {a b xn0 xd0 xn1 xd1 xn2 xd2 xn3 xd3 yn0 yd0 yn1 yd1 yn2 yd2 yn3 yd3 : Int} (hx : okF xn0 xd0 xn1 xd1 xn2 xd2 xn3 xd3 = true) (hy : okF yn0 yd0 yn1 yd1 yn2 yd2 yn3 yd3 = true)
  (p0 : pN xn0 xd0 xn1 xd1 xn0 xd0 xn2 xd2 = pD xd0 xd1 xd0 xd2 * a) (p3 : pN xn2 xd2 xn3 xd3 xn1 xd1 xn3 xd3 = pD xd2 xd3 xd1 xd3 * a) (p1 : pN xn0 xd0 xn1 xd1 xn1 xd1 xn3 xd3 = 0) (p2 : pN xn2 xd2 xn3 xd3 xn0 xd0 xn2 xd2 = 0)
  (q0 : pN yn0 yd0 yn1 yd1 yn0 yd0 yn2 yd2 = pD yd0 yd1 yd0 yd2 * b) (q3 : pN yn2 yd2 yn3 yd3 yn1 yd1 yn3 yd3 = pD yd2 yd3 yd1 yd3 * b) (q1 : pN yn0 yd0 yn1 yd1 yn1 yd1 yn3 yd3 = 0) (q2 : pN yn2 yd2 yn3 yd3 yn0 yd0 yn2 yd2 = 0)
  (z0 : pN xn0 xd0 xn1 xd1 yn0 yd0 yn2 yd2 * pD yd0 yd1 xd0 xd2 + pN yn0 yd0 yn1 yd1 xn0 xd0 xn2 xd2 * pD xd0 xd1 yd0 yd2 = 0)
  (z1 : pN xn0 xd0 xn1 xd1 yn1 yd1 yn3 yd3 * pD yd0 yd1 xd1 xd3 + pN yn0 yd0 yn1 yd1 xn1 xd1 xn3 xd3 * pD xd0 xd1 yd1 yd3 = 0)
  (z2 : pN xn2 xd2 xn3 xd3 yn0 yd0 yn2 yd2 * pD yd2 yd3 xd0 xd2 + pN yn2 yd2 yn3 yd3 xn0 xd0 xn2 xd2 * pD xd2 xd3 yd0 yd2 = 0)
  (z3 : pN xn2 xd2 xn3 xd3 yn1 yd1 yn3 yd3 * pD yd2 yd3 xd1 xd3 + pN yn2 yd2 yn3 yd3 xn1 xd1 xn3 xd3 * pD xd2 xd3 yd1 yd3 = 0) :
  splF a b xn0 xd0 xn1 xd1 xn2 xd2 xn3 xd3 yn0 yd0 yn1 yd1 yn2 yd2 yn3 yd3 = 0 := by
 unfold splF scB zE
 rw [hx, hy, p0, p1, p2, p3, q0, q1, q2, q3, z0, z1, z2, z3]
 simp
theorem splits_y {a b x y z zn zd wn wd xn xd mn md g1 g2 g3 g4 : Int} (h : a * (x * x) + b * (y * y) = z * z) (hy : y ≠ 0)
  (e1 : z = g1 * zn) (f1 : y = g1 * zd) (e2 : -(a * x) = g2 * wn) (f2 : y = g2 * wd) (e3 : x = g3 * xn) (f3 : y = g3 * xd) (e4 : -z = g4 * mn) (f4 : y = g4 * md)
  (ha : okF 0 1 a 1 1 1 0 1 = true) (hj : okF zn zd wn wd xn xd mn md = true) : splF a b 0 1 a 1 1 1 0 1 zn zd wn wd xn xd mn md = 0 := by
 have n1 : g1 ≠ 0 := fun e => hy (by rw [f1, e, Int.zero_mul])
 have n2 : g2 ≠ 0 := fun e => hy (by rw [f2, e, Int.zero_mul])
 have n3 : g3 ≠ 0 := fun e => hy (by rw [f3, e, Int.zero_mul])
 have n4 : g4 ≠ 0 := fun e => hy (by rw [f4, e, Int.zero_mul])
 have m : ∀ {u v : Int}, u ≠ 0 → v ≠ 0 → u * v ≠ 0 := fun h k => Int.mul_ne_zero h k
 refine splF_zero ha hj ?_ ?_ ?_ ?_ ?_ ?_ ?_ ?_ ?_ ?_ ?_ ?_
 ·unfold pN pD; grind
 ·unfold pN pD; grind
 ·unfold pN; grind
 ·unfold pN; grind
 ·refine mul_cancel (m (m n1 n1) (m n2 n3)) ?_
  have k1 : g1 * g1 * (g2 * g3) * pN zn zd wn wd zn zd xn xd = (g1 * zn) * (g1 * zn) * ((g2 * wd) * (g3 * xd)) + (g2 * wn) * (g3 * xn) * ((g1 * zd) * (g1 * zd)) := by unfold pN; grind
  have k2 : g1 * g1 * (g2 * g3) * (pD zd wd zd xd * b) = (g1 * zd) * (g1 * zd) * ((g2 * wd) * (g3 * xd)) * b := by unfold pD; grind
  rw [k1, k2, ← e1, ← f1, ← f2, ← f3, ← e2, ← e3]
  clear k2 k1 e1 e2 e3 e4 f1 f2 f3 f4 ha hj n1 n2 n3 n4 m hy
  grind
 ·refine mul_cancel (m (m n2 n3) (m n4 n4)) ?_
  have k1 : g2 * g3 * (g4 * g4) * pN xn xd mn md wn wd mn md = (g3 * xn) * (g2 * wn) * ((g4 * md) * (g4 * md)) + (g4 * mn) * (g4 * mn) * ((g3 * xd) * (g2 * wd)) := by unfold pN; grind
  have k2 : g2 * g3 * (g4 * g4) * (pD xd md wd md * b) = (g3 * xd) * (g2 * wd) * ((g4 * md) * (g4 * md)) * b := by unfold pD; grind
  rw [k1, k2, ← e2, ← e3, ← e4, ← f2, ← f3, ← f4]
  clear k2 k1 e1 e2 e3 e4 f1 f2 f3 f4 ha hj n1 n2 n3 n4 m hy
  grind
 ·refine mul_cancel (m (m n1 n2) (m n2 n4)) ?_
  have k1 : g1 * g2 * (g2 * g4) * pN zn zd wn wd wn wd mn md = (g1 * zn) * (g2 * wn) * ((g2 * wd) * (g4 * md)) + (g2 * wn) * (g4 * mn) * ((g1 * zd) * (g2 * wd)) := by unfold pN; grind
  rw [k1, ← e1, ← e2, ← e4, ← f1, ← f2, ← f4]
  clear k1 e1 e2 e3 e4 f1 f2 f3 f4 ha hj n1 n2 n3 n4 m hy
  grind
 ·refine mul_cancel (m (m n1 n3) (m n3 n4)) ?_
  have k1 : g1 * g3 * (g3 * g4) * pN xn xd mn md zn zd xn xd = (g3 * xn) * (g1 * zn) * ((g3 * xd) * (g4 * md)) + (g4 * mn) * (g3 * xn) * ((g3 * xd) * (g1 * zd)) := by unfold pN; grind
  rw [k1, ← e1, ← e3, ← e4, ← f1, ← f3, ← f4]
  clear k1 e1 e2 e3 e4 f1 f2 f3 f4 ha hj n1 n2 n3 n4 m hy
  grind
 ·refine mul_cancel (m (m n1 n1) (m n2 n3)) ?_
  have k1 : g1 * g1 * (g2 * g3) * (pN 0 1 a 1 zn zd xn xd * pD zd wd 1 1 + pN zn zd wn wd 0 1 1 1 * pD 1 1 zd xd) = a * (g3 * xn) * (g1 * zd) * ((g1 * zd) * (g2 * wd)) + (g2 * wn) * (g1 * zd) * ((g1 * zd) * (g3 * xd)) := by unfold pN pD; grind
  rw [k1, ← e2, ← e3, ← f1, ← f2, ← f3]
  clear k1 e1 e2 e3 e4 f1 f2 f3 f4 ha hj n1 n2 n3 n4 m hy
  grind
 ·refine mul_cancel (m (m n1 n2) (m n2 n4)) ?_
  have k1 : g1 * g2 * (g2 * g4) * (pN 0 1 a 1 wn wd mn md * pD zd wd 1 1 + pN zn zd wn wd a 1 0 1 * pD 1 1 wd md) = a * (g4 * mn) * (g2 * wd) * ((g1 * zd) * (g2 * wd)) + (g1 * zn) * a * (g2 * wd) * ((g2 * wd) * (g4 * md)) := by unfold pN pD; grind
  rw [k1, ← e1, ← e4, ← f1, ← f2, ← f4]
  clear k1 e1 e2 e3 e4 f1 f2 f3 f4 ha hj n1 n2 n3 n4 m hy
  grind
 ·refine mul_cancel (m (m n1 n3) (m n3 n4)) ?_
  have k1 : g1 * g3 * (g3 * g4) * (pN 1 1 0 1 zn zd xn xd * pD xd md 1 1 + pN xn xd mn md 0 1 1 1 * pD 1 1 zd xd) = (g1 * zn) * (g3 * xd) * ((g3 * xd) * (g4 * md)) + (g4 * mn) * (g3 * xd) * ((g1 * zd) * (g3 * xd)) := by unfold pN pD; grind
  rw [k1, ← e1, ← e4, ← f1, ← f3, ← f4]
  clear k1 e1 e2 e3 e4 f1 f2 f3 f4 ha hj n1 n2 n3 n4 m hy
  grind
 ·refine mul_cancel (m (m n2 n3) (m n4 n4)) ?_
  have k1 : g2 * g3 * (g4 * g4) * (pN 1 1 0 1 wn wd mn md * pD xd md 1 1 + pN xn xd mn md a 1 0 1 * pD 1 1 wd md) = (g2 * wn) * (g4 * md) * ((g3 * xd) * (g4 * md)) + (g3 * xn) * a * (g4 * md) * ((g2 * wd) * (g4 * md)) := by unfold pN pD; grind
  rw [k1, ← e2, ← e3, ← f2, ← f3, ← f4]
  clear k1 e1 e2 e3 e4 f1 f2 f3 f4 ha hj n1 n2 n3 n4 m hy
  grind
theorem splits_0 {a b s : Int} (hs : s * s = a) (hi : okF s 1 0 1 0 1 (-s) 1 = true) (hj : okF 0 1 b 1 1 1 0 1 = true) : splF a b s 1 0 1 0 1 (-s) 1 0 1 b 1 1 1 0 1 = 0 := by
 refine splF_zero hi hj ?_ ?_ ?_ ?_ ?_ ?_ ?_ ?_ ?_ ?_ ?_ ?_ <;> (unfold pN; try unfold pD) <;> grind
end Go.Proofs.YtimdkjbmeogpoaaGreatDoor
