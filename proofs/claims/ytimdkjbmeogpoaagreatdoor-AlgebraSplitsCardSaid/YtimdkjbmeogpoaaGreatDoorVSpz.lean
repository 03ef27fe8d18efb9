/- What matrices are accepted: words. -/
import Derived.Test.YtimdkjbmeogpoaaGreatDoorVSpo
namespace Go.Proofs.YtimdkjbmeogpoaaGreatDoor
open Go.RowKit FF
def zE (n d m e : Int) : Bool := decide (n * e + m * d = d * e * 0)
def splF (a b xn0 xd0 xn1 xd1 xn2 xd2 xn3 xd3 yn0 yd0 yn1 yd1 yn2 yd2 yn3 yd3 : Int) : Int :=
  if (okF xn0 xd0 xn1 xd1 xn2 xd2 xn3 xd3 && okF yn0 yd0 yn1 yd1 yn2 yd2 yn3 yd3) = true then (if (scB (pN xn0 xd0 xn1 xd1 xn0 xd0 xn2 xd2) (pD xd0 xd1 xd0 xd2) (pN xn0 xd0 xn1 xd1 xn1 xd1 xn3 xd3) (pD xd0 xd1 xd1 xd3) (pN xn2 xd2 xn3 xd3 xn0 xd0 xn2 xd2) (pD xd2 xd3 xd0 xd2) (pN xn2 xd2 xn3 xd3 xn1 xd1 xn3 xd3) (pD xd2 xd3 xd1 xd3) a && (scB (pN yn0 yd0 yn1 yd1 yn0 yd0 yn2 yd2) (pD yd0 yd1 yd0 yd2) (pN yn0 yd0 yn1 yd1 yn1 yd1 yn3 yd3) (pD yd0 yd1 yd1 yd3) (pN yn2 yd2 yn3 yd3 yn0 yd0 yn2 yd2) (pD yd2 yd3 yd0 yd2) (pN yn2 yd2 yn3 yd3 yn1 yd1 yn3 yd3) (pD yd2 yd3 yd1 yd3) b && (zE (pN xn0 xd0 xn1 xd1 yn0 yd0 yn2 yd2) (pD xd0 xd1 yd0 yd2) (pN yn0 yd0 yn1 yd1 xn0 xd0 xn2 xd2) (pD yd0 yd1 xd0 xd2) && (zE (pN xn0 xd0 xn1 xd1 yn1 yd1 yn3 yd3) (pD xd0 xd1 yd1 yd3) (pN yn0 yd0 yn1 yd1 xn1 xd1 xn3 xd3) (pD yd0 yd1 xd1 xd3) && (zE (pN xn2 xd2 xn3 xd3 yn0 yd0 yn2 yd2) (pD xd2 xd3 yd0 yd2) (pN yn2 yd2 yn3 yd3 xn0 xd0 xn2 xd2) (pD yd2 yd3 xd0 xd2) && zE (pN xn2 xd2 xn3 xd3 yn1 yd1 yn3 yd3) (pD xd2 xd3 yd1 yd3) (pN yn2 yd2 yn3 yd3 xn1 xd1 xn3 xd3) (pD yd2 yd3 xd1 xd3)))))) = true then 0 else 18) else 3
theorem wn8 {j : Nat} {a0 a1 a2 a3 a4 a5 a6 a7 : Int} (h0 : Wn j a0) (h1 : Wn j a1) (h2 : Wn j a2) (h3 : Wn j a3) (h4 : Wn j a4) (h5 : Wn j a5) (h6 : Wn j a6) (h7 : Wn j a7) : WN j [a0, a1, a2, a3, a4, a5, a6, a7] := by
  intro z hz
  simp only [List.mem_cons, List.not_mem_nil, or_false] at hz
  rcases hz with rfl | rfl | rfl | rfl | rfl | rfl | rfl | rfl <;> assumption
theorem okF_wn {n0 e0 n1 e1 n2 e2 n3 e3 : Int} (h : okF n0 e0 n1 e1 n2 e2 n3 e3 = true) : WN 1 [n0, e0, n1, e1, n2, e2, n3, e3] := by
  unfold okF at h
  simp only [Bool.and_eq_true, frB_iff] at h
  refine wn8 (Wn.of ?_) (Wn.of ?_) (Wn.of ?_) (Wn.of ?_) (Wn.of ?_) (Wn.of ?_) (Wn.of ?_) (Wn.of ?_) <;> omega
end Go.Proofs.YtimdkjbmeogpoaaGreatDoor
