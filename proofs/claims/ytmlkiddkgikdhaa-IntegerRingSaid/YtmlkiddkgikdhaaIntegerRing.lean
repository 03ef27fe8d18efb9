/- The law IntegerRing answers true at all integers. -/
import Derived.Test.YtmlkiddkgikdhaaRbd
namespace Go.Proofs.Ytmlkiddkgikdhaa
open Go.RowKit FF

/-- what the law asks of the quotient and the remainder -/
theorem ring_key (x y Z : Int) (hZ : Z = 0) :
    (sgn (y - Z) = 0 ∧ errZ y = 10) ∨
    (errZ y = 0 ∧ errZ ((Int.gcd x y : Nat) : Int) = 0 ∧ x / y * y + remZ x y = x ∧ sgn (remZ x ((Int.gcd x y : Nat) : Int) - Z) = 0 ∧ sgn (remZ y ((Int.gcd x y : Nat) : Int) - Z) = 0 ∧
      (sgn (remZ x y - Z) = 0 ∨ sgn (remZ x y - Z) = 1) ∧ ((sgn (y - Z) = 1 ∧ sgn (remZ x y - y) = -1) ∨ (sgn (y - Z) = -1 ∧ sgn (remZ x y - (Z - y)) = -1))) := by
  subst hZ
  by_cases h : y = 0
  · subst h; exact .inl ⟨rfl, rfl⟩
  · right
    have hg : ((Int.gcd x y : Nat) : Int) ≠ 0 := by
      intro e
      exact h (Int.gcd_eq_zero_iff.1 (show Int.gcd x y = 0 by omega)).2
    have d1 : ((Int.gcd x y : Nat) : Int) ∣ x := Int.gcd_dvd_left ..
    have d2 : ((Int.gcd x y : Nat) : Int) ∣ y := Int.gcd_dvd_right ..
    have e1 : remZ x ((Int.gcd x y : Nat) : Int) = 0 := by unfold remZ; rw [if_neg hg]; exact Int.emod_eq_zero_of_dvd d1
    have e2 : remZ y ((Int.gcd x y : Nat) : Int) = 0 := by unfold remZ; rw [if_neg hg]; exact Int.emod_eq_zero_of_dvd d2
    have e3 : remZ x y = x % y := if_neg h
    have n1 := Int.emod_nonneg x h
    have n2 := Int.emod_lt x h
    refine ⟨if_neg h, if_neg hg, ?_, by rw [e1]; rfl, by rw [e2]; rfl, ?_, ?_⟩
    · rw [e3, Int.mul_comm]; exact Int.mul_ediv_add_emod x y
    · rw [e3]
      rcases sgn_cases (x % y - 0) with q | q | q <;> omega
    · rw [e3]
      rcases sgn_cases (y - 0) with q | q | q
      · exact absurd (by omega) h
      · right; refine ⟨by omega, ?_⟩; rcases sgn_cases (x % y - (0 - y)) with q' | q' | q' <;> omega
      · left; refine ⟨by omega, ?_⟩; rcases sgn_cases (x % y - y) with q' | q' | q' <;> omega

theorem below_next {W w0 w1 : World} {Q : Prop} (h : Below W.heap.size W w0 ∧ Q) (b : Below w0.heap.size w0 w1) : Below W.heap.size W w1 := below_then h.1 b
theorem Has.store {W : World} {a : Nat} {v0 v1 : Value} (h : Has W a v0 v1) (u0 u1 : Value) : Has ((W.setCell ⟨a, 0, none⟩ u0).setCell ⟨a, 1, none⟩ u1) a u0 u1 := by
  obtain ⟨h1, h2, h3⟩ := h
  exact ⟨by simpa [World.setCell] using h1, by simp [go_sem, h2], by simp [go_sem, h3]⟩
theorem Has.store_ne {W : World} {a b : Nat} {v0 v1 : Value} (h : Has W b v0 v1) (hn : b ≠ a) (u0 u1 : Value) : Has ((W.setCell ⟨a, 0, none⟩ u0).setCell ⟨a, 1, none⟩ u1) b v0 v1 := by
  obtain ⟨h1, h2, h3⟩ := h
  refine ⟨by simpa [World.setCell] using h1, ?_, ?_⟩
  · rw [World.cell?_setCell_other _ _ _ _ (fun e => hn (by injection e with e; exact e.symm)), World.cell?_setCell_other _ _ _ _ (fun e => hn (by injection e with e; exact e.symm))]; exact h2
  · rw [World.cell?_setCell_other _ _ _ _ (fun e => hn (by injection e with e; exact e.symm)), World.cell?_setCell_other _ _ _ _ (fun e => hn (by injection e with e; exact e.symm))]; exact h3
theorem Hs.store_ne {W : World} {a : Nat} (u0 u1 : Value) : ∀ {l : List (Nat × Value × Value)}, Hs W l → (∀ p ∈ l, p.1 ≠ a) → Hs ((W.setCell ⟨a, 0, none⟩ u0).setCell ⟨a, 1, none⟩ u1) l
  | [], _, _ => trivial
  | _ :: _, h, hn => ⟨h.1.store_ne (hn _ (by simp)) u0 u1, Hs.store_ne u0 u1 h.2 fun p hp => hn p (by simp [hp])⟩
/-- eight of eleven variables in one region -/
theorem Hs11 {W w' : World} {a1 a2 a3 a4 a5 a6 a7 a8 a9 a10 a11 : Nat} {u1 v1 u2 v2 u3 v3 u4 v4 u5 v5 u6 v6 u7 v7 u8 v8 u9 v9 u10 v10 u11 v11 : Value}
    (h : Hs W [(a1, u1, v1), (a2, u2, v2), (a3, u3, v3), (a4, u4, v4), (a5, u5, v5), (a6, u6, v6), (a7, u7, v7), (a8, u8, v8), (a9, u9, v9), (a10, u10, v10), (a11, u11, v11)])
    (b : Below W.heap.size W w') : Below W.heap.size W w' ∧ w'.cell? ⟨a1, 0, none⟩ = some u1 ∧ w'.cell? ⟨a1, 1, none⟩ = some v1 ∧ w'.cell? ⟨a3, 0, none⟩ = some u3 ∧ w'.cell? ⟨a3, 1, none⟩ = some v3 ∧ w'.cell? ⟨a6, 0, none⟩ = some u6 ∧ w'.cell? ⟨a6, 1, none⟩ = some v6 ∧
      w'.cell? ⟨a7, 0, none⟩ = some u7 ∧ w'.cell? ⟨a7, 1, none⟩ = some v7 ∧ w'.cell? ⟨a8, 0, none⟩ = some u8 ∧ w'.cell? ⟨a8, 1, none⟩ = some v8 ∧ w'.cell? ⟨a9, 0, none⟩ = some u9 ∧ w'.cell? ⟨a9, 1, none⟩ = some v9 ∧
      w'.cell? ⟨a10, 0, none⟩ = some u10 ∧ w'.cell? ⟨a10, 1, none⟩ = some v10 ∧ w'.cell? ⟨a11, 0, none⟩ = some u11 ∧ w'.cell? ⟨a11, 1, none⟩ = some v11 := by
  obtain ⟨k1, k2, k3, k4, k5, k6, k7, k8, k9, k10, k11, -⟩ := Hs.keep b h
  exact ⟨b, k1.2.1, k1.2.2, k3.2.1, k3.2.2, k6.2.1, k6.2.2, k7.2.1, k7.2.2, k8.2.1, k8.2.2, k9.2.1, k9.2.2, k10.2.1, k10.2.2, k11.2.1, k11.2.2⟩

set_option maxRecDepth 100000 in
set_option maxHeartbeats 8000000 in
theorem IntegerRing_law (s : Bool) (A : Option Addr) (xs : List Nat) (c : Nat) (t : Bool) (A' : Option Addr) (ys : List Nat) (c' : Nat) (r : Bool) (A'' : Option Addr) (zs : List Nat) (c'' : Nat) (w : World)
    (hx : Shows .u32 w A xs) (dx : Dig WB xs) (hcx : xs.length ≤ c) (hcx2 : c ≤ maxLen) (hy : Shows .u32 w A' ys) (dy : Dig WB ys) (hcy : ys.length ≤ c') (hcy2 : c' ≤ maxLen)
    (hz : Shows .u32 w A'' zs) (dz : Dig WB zs) (hcz : zs.length ≤ c'') (hcz2 : c'' ≤ maxLen) :
    Calls Try.prog 12 #[.agg #[.bool s, .slice A xs.length c], .agg #[.bool t, .slice A' ys.length c'], .agg #[.bool r, .slice A'' zs.length c'']] w fun e w' => e = .returned (.bool true) ∧ Below w.heap.size w w' := by
  have hA := Lib.hid awake_any
  have aX := AI.mk (s := s) hx dx hcx hcx2
  have aY := AI.mk (s := t) hy dy hcy hcy2
  have aZ := AI.mk (s := r) hz dz hcz hcz2
  clear hx dx hy dy hz dz
  unfold maxLen at hcx2 hcy2 hcz2
  obtain ⟨x, hx⟩ : ∃ x, sval s (val WB xs) = x := ⟨_, rfl⟩
  obtain ⟨y, hy⟩ : ∃ y, sval t (val WB ys) = y := ⟨_, rfl⟩
  obtain ⟨z, hz⟩ : ∃ z, sval r (val WB zs) = z := ⟨_, rfl⟩
  rw [hx] at aX
  rw [hy] at aY
  rw [hz] at aZ
  clear hx hy hz
  generalize xs.length = n at *
  generalize ys.length = m at *
  generalize zs.length = o at *
  have HS := Lib.hid (fun (w' : World) (g c : Nat) h => short_law g [n, m, o] c w' (by simp) h)
  change Hid (∀ (w' : World) (g c : Nat), _ → Calls _ _ #[.slice (some ⟨g, 0, none⟩) 3 c] w' _) at HS
  have hcells : ∀ (W : World) (v0 v1 v2 : Value) (T : TypeId), ∀ i, i < [n, m, o].length → ∃ A0 c0, (W.alloc (.cells #[v0, .slice A n c, v1, .slice A' m c', v2, .slice A'' o c''] T)).cell? ⟨W.heap.size, i * 2 + 1, none⟩ = some (.slice A0 ([n, m, o].getD i 0) c0) ∧ [n, m, o].getD i 0 ≤ 9223372036854775807 := by
    intro W v0 v1 v2 T i hi
    match i, hi with
    | 0, _ => exact ⟨A, c, by rw [World.cell?_alloc_at _ _ _ _ rfl]; rfl, by show n ≤ _; omega⟩
    | 1, _ => exact ⟨A', c', by rw [World.cell?_alloc_at _ _ _ _ rfl]; rfl, by show m ≤ _; omega⟩
    | 2, _ => exact ⟨A'', c'', by rw [World.cell?_alloc_at _ _ _ _ rfl]; rfl, by show o ≤ _; omega⟩
  have hsz := hcells (((w.alloc (.cells #[.bool s, .slice A n c] 51)).alloc (.cells #[.bool t, .slice A' m c'] 51)).alloc (.cells #[.bool r, .slice A'' o c''] 51)) (.bool s) (.bool t) (.bool r) 51
  rw [World.size_alloc, World.size_alloc, World.size_alloc] at hsz
  have HSh := Lib.hid (HS.out _ _ 3 hsz)
  clear hcells hsz HS
  by_cases hsh : shortB [n, m, o] = true
  · have hn6 : n ≤ 6 := shortB_get hsh (i := 0) (by simp)
    have hm6 : m ≤ 6 := shortB_get hsh (i := 1) (by simp)
    have ho6 : o ≤ 6 := shortB_get hsh (i := 2) (by simp)
    rw [hsh] at HSh
    clear hsh
    have HX := Lib.hid aX; have HY := Lib.hid aY; have HZ := Lib.hid aZ
    have bx := (Ab.of_ai aX).mono hn6; have bY := (Ab.of_ai aY).mono hm6; have bz := (Ab.of_ai aZ).mono ho6
    have bu1 : wl (y + z).natAbs ≤ 30 := ((bY.add bz).mono (by omega)).wl
    have bm1 : wl (x * y).natAbs ≤ 30 := ((bx.mul bY).mono (by omega)).wl
    have bm2 : wl (x * z).natAbs ≤ 30 := ((bx.mul bz).mono (by omega)).wl
    have bm3 : wl (y * z).natAbs ≤ 30 := ((bY.mul bz).mono (by omega)).wl
    have bd : wl (x - y).natAbs ≤ 30 := ((bx.sub bY).mono (by omega)).wl
    have bxz : wl (x + z).natAbs ≤ 30 := ((bx.add bz).mono (by omega)).wl
    have bq : wl (x / y).natAbs ≤ 30 := ((bx.div (y := y)).mono (by omega)).wl
    have br : wl (remZ x y).natAbs ≤ 30 := ((bY.rem (x := x)).mono (by omega)).wl
    have bqy : wl (x / y * y).natAbs ≤ 30 := (((bx.div (y := y)).mul bY).mono (by omega)).wl
    have bgA := bx.gcd bY
    have bg : wl ((Int.gcd x y : Nat) : Int).natAbs ≤ 30 := (bgA.mono (by omega)).wl
    have bs : wl (remZ x ((Int.gcd x y : Nat) : Int)).natAbs ≤ 30 := ((bgA.rem (x := x)).mono (by omega)).wl
    have bt : wl (remZ y ((Int.gcd x y : Nat) : Int)).natAbs ≤ 30 := ((bgA.rem (x := y)).mono (by omega)).wl
    have bny : ∀ Z : Int, 0 = Z → wl (Z - y).natAbs ≤ 30 := fun Z h => by subst h; rw [Int.zero_sub, Int.natAbs_neg]; exact (bY.mono (by omega)).wl
    clear aX aY aZ bx bY bz bgA
    have HAyz := Lib.hid (fun w' h h' => Add_any t r A' A'' m o c' c'' y z w' h h' (by omega))
    have HMxu := Lib.hid (fun (B : Option Addr) (k : Nat) w' h h' => Mul_any s (decide (y + z < 0)) A B n (wl (y + z).natAbs) c k x (y + z) w' h h' (by omega))
    have HMxy := Lib.hid (fun w' h h' => Mul_any s t A A' n m c c' x y w' h h' (by omega))
    have HMxz := Lib.hid (fun w' h h' => Mul_any s r A A'' n o c c'' x z w' h h' (by omega))
    have HAmm := Lib.hid (fun (B B' : Option Addr) (k k' : Nat) w' h h' => Add_any (decide (x * y < 0)) (decide (x * z < 0)) B B' (wl (x * y).natAbs) (wl (x * z).natAbs) k k' (x * y) (x * z) w' h h' (by omega))
    have HMmz := Lib.hid (fun (B : Option Addr) (k : Nat) w' h h' => Mul_any (decide (x * y < 0)) r B A'' (wl (x * y).natAbs) o k c'' (x * y) z w' h h' (by omega))
    have HMyz := Lib.hid (fun w' h h' => Mul_any t r A' A'' m o c' c'' y z w' h h' (by omega))
    have HMxm := Lib.hid (fun (B : Option Addr) (k : Nat) w' h h' => Mul_any s (decide (y * z < 0)) A B n (wl (y * z).natAbs) c k x (y * z) w' h h' (by omega))
    have HMyx := Lib.hid (fun w' h h' => Mul_any t s A' A m n c' c y x w' h h' (by omega))
    have HSxy := Lib.hid (fun w' h h' => Sub_any s t A A' n m c c' x y w' h h' (by omega))
    have HAdy := Lib.hid (fun (B : Option Addr) (k : Nat) w' h h' => Add_any (decide (x - y < 0)) t B A' (wl (x - y).natAbs) m k c' (x - y) y w' h h' (by omega))
    have HNx := Lib.hid (fun w' h => Normal_any s A n c x w' h (by omega))
    have HSm := Lib.hid Same_int
    have HAxz := Lib.hid (fun w' h h' => Add_any s r A A'' n o c c'' x z w' h h' (by omega))
    have HCau := Lib.hid (fun (B B' : Option Addr) (k k' : Nat) w' h h' => Cmp_any (decide (x + z < 0)) (decide (y + z < 0)) B B' (wl (x + z).natAbs) (wl (y + z).natAbs) k k' (x + z) (y + z) w' h h' (by omega))
    have HCxy := Lib.hid (fun w' h h' => Cmp_any s t A A' n m c c' x y w' h h' (by omega))
    have HCyx := Lib.hid (fun w' h h' => Cmp_any t s A' A m n c' c y x w' h h' (by omega))
    rw [show x + z - (y + z) = x - y by omega] at HCau
    rw [sgn_flip x y] at HCyx
    obtain ⟨Z, hZ⟩ : ∃ Z : Int, 0 = Z := ⟨_, rfl⟩
    have hO : ∀ w' : World, Calls Try.prog 58 #[.int .i64 0] w' (fun e w2 => ∃ B k, e = .returned (.agg #[.bool (decide (Z < 0)), .slice B (wl Z.natAbs) k]) ∧ Shows .u32 w2 B (digs WB Z.natAbs) ∧ wl Z.natAbs ≤ k ∧ k ≤ maxLen ∧ Below w'.heap.size w' w2) := fun w' => by subst hZ; exact (Of_any 0 w' ⟨by omega, by omega⟩).mono fun _ _ ⟨B, k, h1, h2, h3, h4, _, h5⟩ => ⟨B, k, h1, h2, h3, h4, h5⟩
    have HO := Lib.hid hO
    have bZ : wl Z.natAbs ≤ 30 := by subst hZ; decide
    replace bny := bny Z hZ
    have HDm := Lib.hid (fun w' h h' => DivMod_all s t A A' n m c c' x y w' h h' (by omega))
    have HCyZ := Lib.hid (fun (B : Option Addr) (k : Nat) w' h h' => Cmp_any t (decide (Z < 0)) A' B m (wl Z.natAbs) c' k y Z w' h h' (by omega))
    have HSZy := Lib.hid (fun (B : Option Addr) (k : Nat) w' h h' => Sub_any (decide (Z < 0)) t B A' (wl Z.natAbs) m k c' Z y w' h h' (by omega))
    have HG := Lib.hid (fun w' h h' => Gcd_any s t A A' n m c c' x y w' h h' (by omega))
    have HDxg := Lib.hid (fun (B : Option Addr) (k : Nat) w' h h' => DivMod_all s (decide (((Int.gcd x y : Nat) : Int) < 0)) A B n (wl ((Int.gcd x y : Nat) : Int).natAbs) c k x ((Int.gcd x y : Nat) : Int) w' h h' (by omega))
    have HDyg := Lib.hid (fun (B : Option Addr) (k : Nat) w' h h' => DivMod_all t (decide (((Int.gcd x y : Nat) : Int) < 0)) A' B m (wl ((Int.gcd x y : Nat) : Int).natAbs) c' k y ((Int.gcd x y : Nat) : Int) w' h h' (by omega))
    have HMqy := Lib.hid (fun (B : Option Addr) (k : Nat) w' h h' => Mul_any (decide (x / y < 0)) t B A' (wl (x / y).natAbs) m k c' (x / y) y w' h h' (by omega))
    have HAqr := Lib.hid (fun (B B' : Option Addr) (k k' : Nat) w' h h' => Add_any (decide (x / y * y < 0)) (decide (remZ x y < 0)) B B' (wl (x / y * y).natAbs) (wl (remZ x y).natAbs) k k' (x / y * y) (remZ x y) w' h h' (by omega))
    have HCrZ := Lib.hid (fun (B B' : Option Addr) (k k' : Nat) w' h h' => Cmp_any (decide (remZ x y < 0)) (decide (Z < 0)) B B' (wl (remZ x y).natAbs) (wl Z.natAbs) k k' (remZ x y) Z w' h h' (by omega))
    have HCry := Lib.hid (fun (B : Option Addr) (k : Nat) w' h h' => Cmp_any (decide (remZ x y < 0)) t B A' (wl (remZ x y).natAbs) m k c' (remZ x y) y w' h h' (by omega))
    have HCrN := Lib.hid (fun (B B' : Option Addr) (k k' : Nat) w' h h' => Cmp_any (decide (remZ x y < 0)) (decide (Z - y < 0)) B B' (wl (remZ x y).natAbs) (wl (Z - y).natAbs) k k' (remZ x y) (Z - y) w' h h' (by omega))
    have HCsZ := Lib.hid (fun (B B' : Option Addr) (k k' : Nat) w' h h' => Cmp_any (decide (remZ x ((Int.gcd x y : Nat) : Int) < 0)) (decide (Z < 0)) B B' (wl (remZ x ((Int.gcd x y : Nat) : Int)).natAbs) (wl Z.natAbs) k k' (remZ x ((Int.gcd x y : Nat) : Int)) Z w' h h' (by omega))
    have HCtZ := Lib.hid (fun (B B' : Option Addr) (k k' : Nat) w' h h' => Cmp_any (decide (remZ y ((Int.gcd x y : Nat) : Int) < 0)) (decide (Z < 0)) B B' (wl (remZ y ((Int.gcd x y : Nat) : Int)).natAbs) (wl Z.natAbs) k k' (remZ y ((Int.gcd x y : Nat) : Int)) Z w' h h' (by omega))
    have key := Lib.hid (ring_key x y Z hZ.symm)
    have key2 := Lib.hid (sgn_cases (x - y))
    clear hZ hO bZ
    unfold IntPost at HAxz HSZy HG HMqy HAqr
    unfold DMAll at HDm HDxg HDyg
    generalize x / y * y + remZ x y = xx at *
    generalize x / y * y = qy at *
    generalize sgn (remZ x y - Z) = g3 at *
    generalize sgn (remZ x y - y) = g4 at *
    generalize sgn (remZ x y - (Z - y)) = g5 at *
    generalize sgn (remZ x ((Int.gcd x y : Nat) : Int) - Z) = g6 at *
    generalize sgn (remZ y ((Int.gcd x y : Nat) : Int) - Z) = g7 at *
    generalize sgn (y - Z) = gy at *
    generalize sgn (x - y) = g at *
    generalize remZ x ((Int.gcd x y : Nat) : Int) = s0 at *
    generalize remZ y ((Int.gcd x y : Nat) : Int) = t0 at *
    generalize errZ ((Int.gcd x y : Nat) : Int) = eg at *
    generalize x / ((Int.gcd x y : Nat) : Int) = q1 at *
    generalize y / ((Int.gcd x y : Nat) : Int) = q2 at *
    generalize ((Int.gcd x y : Nat) : Int) = gg at *
    generalize remZ x y = rr at *
    generalize errZ y = ez at *
    generalize x / y = qq at *
    generalize Z - y = ny at *
    generalize x + z = a1 at *
    unfold IntPost at HAyz HMxu HMxy HMxz HAmm HMmz HMyz HMxm HMyx HSxy HAdy HNx
    rw [show x * y + x * z = x * (y + z) from (Int.mul_add x y z).symm] at HAmm
    rw [show x * y * z = x * (y * z) from Int.mul_assoc x y z] at HMmz
    rw [show y * x = x * y from Int.mul_comm y x] at HMyx
    rw [show x - y + y = x from Int.sub_add_cancel x y] at HAdy
    generalize x * (y + z) = v1 at *
    generalize x * (y * z) = v2 at *
    generalize y + z = u1 at *
    generalize x * y = m1 at *
    generalize x * z = m2 at *
    generalize y * z = m3 at *
    generalize x - y = d at *
    clear bu1 bm1 bm2 bm3 bd bxz bq br bqy bg bs bt bny
    go_enter Try.func12, Try.ntmps12
    go_wp2_with fail
    refine HSh.out.mono ?_
    rintro e w' ⟨rfl, rfl⟩
    go_wp2_with fail
    go_region_held3 (fun w' => Below w.heap.size w w' ∧ w'.cell? ⟨w.heap.size, 0, none⟩ = some (.bool s) ∧ w'.cell? ⟨w.heap.size, 1, none⟩ = some (.slice A n c) ∧ w'.cell? ⟨w.heap.size + 1, 0, none⟩ = some (.bool t) ∧ w'.cell? ⟨w.heap.size + 1, 1, none⟩ = some (.slice A' m c') ∧ w'.cell? ⟨w.heap.size + 1 + 1, 0, none⟩ = some (.bool r) ∧ w'.cell? ⟨w.heap.size + 1 + 1, 1, none⟩ = some (.slice A'' o c'') ∧ w.heap.size + 1 + 1 < w'.heap.size)
      (first
        | (refine ⟨((((Below.refl _ _).alloc (Nat.le_refl _) _).alloc (by simp) _).alloc (by simp; omega) _).alloc (by simp; omega) _ |>.drew, ?_⟩; simp [go_sem])
        | (refine Sxyz.keep (by assumption) ?_; first | assumption | exact (Below.refl _ _).alloc (Nat.le_refl _) _ | exact below_drewN (Below.refl _ _) _))
      (first
        | (go_at_call 39; (with_reducible refine (HAyz.out _ (in_ai (by assumption) HY.out) (in_ai (by assumption) HZ.out)).mono ?_); rintro e w' ⟨A1, c1, rfl, s1, p1, q1, -, b1⟩)
        | (go_at_call 43; (with_reducible refine (HMxu.out A1 c1 _ (in_ai (by assumption) HX.out) (AI.of_post s1 p1 q1)).mono ?_); rintro e w' ⟨A2, c2, rfl, s2, p2, q2, -, b2⟩)
        | (go_at_call 43; (with_reducible refine (HMxy.out _ (in_ai (by assumption) HX.out) (in_ai (by assumption) HY.out)).mono ?_); rintro e w' ⟨A3, c3, rfl, s3, p3, q3, -, b3⟩)
        | (go_at_call 43; (with_reducible refine (HMxz.out _ (in_ai (by assumption) HX.out) (in_ai (by assumption) HZ.out)).mono ?_); rintro e w' ⟨A4, c4, rfl, s4, p4, q4, -, b4⟩)
        | (go_at_call 39; (with_reducible refine (HAmm.out A3 A4 c3 c4 _ (AI.of_post (s3.below b4) p3 q3) (AI.of_post s4 p4 q4)).mono ?_); rintro e w' ⟨A5, c5, rfl, s5, p5, q5, -, b5⟩)
        | (go_at_call 38; (with_reducible refine (HSm.out v1 A2 A5 c2 c5 _ (((s2.below b3).below b4).below b5) s5 p2 q2).mono ?_); rintro e w' ⟨rfl, b6⟩)
        | (go_at_call 43; (with_reducible refine (HMmz.out A3 c3 _ (AI.of_post s3 p3 q3) (in_ai (by assumption) HZ.out)).mono ?_); rintro e w' ⟨A8, c8, rfl, s8, p8, q8, -, b8⟩)
        | (go_at_call 43; (with_reducible refine (HMyz.out _ (in_ai (by assumption) HY.out) (in_ai (by assumption) HZ.out)).mono ?_); rintro e w' ⟨A9, c9, rfl, s9, p9, q9, -, b9⟩)
        | (go_at_call 43; (with_reducible refine (HMxm.out A9 c9 _ (in_ai (by assumption) HX.out) (AI.of_post s9 p9 q9)).mono ?_); rintro e w' ⟨A10, c10, rfl, s10, p10, q10, -, b10⟩)
        | (go_at_call 38; (with_reducible refine (HSm.out v2 A8 A10 c8 c10 _ ((s8.below b9).below b10) s10 p8 q8).mono ?_); rintro e w' ⟨rfl, b11⟩)
        | (go_at_call 43; (with_reducible refine (HMyx.out _ (in_ai (by assumption) HY.out) (in_ai (by assumption) HX.out)).mono ?_); rintro e w' ⟨A13, c13, rfl, s13, p13, q13, -, b13⟩)
        | (go_at_call 38; (with_reducible refine (HSm.out m1 A3 A13 c3 c13 _ (s3.below b13) s13 p3 q3).mono ?_); rintro e w' ⟨rfl, b14⟩)
        | (go_at_call 41; (with_reducible refine (HSxy.out _ (in_ai (by assumption) HX.out) (in_ai (by assumption) HY.out)).mono ?_); rintro e w' ⟨A15, c15, rfl, s15, p15, q15, -, b15⟩)
        | (go_at_call 39; (with_reducible refine (HAdy.out A15 c15 _ (AI.of_post s15 p15 q15) (in_ai (by assumption) HY.out)).mono ?_); rintro e w' ⟨A16, c16, rfl, s16, p16, q16, -, b16⟩)
        | (go_at_call 56; (with_reducible refine (HNx.out _ (in_ai (by assumption) HX.out)).mono ?_); rintro e w' ⟨A17, c17, rfl, s17, p17, q17, -, b17⟩)
        | (go_at_call 38; (with_reducible refine (HSm.out x A16 A17 c16 c17 _ (s16.below b17) s17 p16 q16).mono ?_); rintro e w' ⟨rfl, b18⟩))
    have X2 := Lib.hid (by assumption : Sxyz w (.bool s) (.slice A n c) (.bool t) (.slice A' m c') (.bool r) (.slice A'' o c'') w')
    clear HMxu HMxy HMxz HAmm HMmz HMyz HMxm HMyx HSxy HAdy
    clear b1 b2 b3 b4 b5 b6 b8 b9 b10 b11 b13 b14 b15 b16 b17 b18 s1 s2 s3 s4 s5 s8 s9 s10 s13 s15 s16 s17 p1 p2 p3 p4 p5 p8 p9 p10 p13 p15 p16 p17 q1 q2 q3 q4 q5 q8 q9 q10 q13 q15 q16 q17
    obtain ⟨-, k0, k1, k2, k3, k4, k5, hz⟩ := X2.out
    go_wp2_with fail
    have hw : IntKind.i64.wrap g = g := IntWalk.i64_in _ (by have := key2.out; omega)
    have hw2 : IntKind.i64.wrap (- -g) = g := by rw [Int.neg_neg]; exact hw
    go_region_held3 (fun w' => Below w.heap.size w w' ∧ w'.cell? ⟨w.heap.size, 0, none⟩ = some (.bool s) ∧ w'.cell? ⟨w.heap.size, 1, none⟩ = some (.slice A n c) ∧ w'.cell? ⟨w.heap.size + 1, 0, none⟩ = some (.bool t) ∧ w'.cell? ⟨w.heap.size + 1, 1, none⟩ = some (.slice A' m c') ∧ w'.cell? ⟨w.heap.size + 1 + 1, 0, none⟩ = some (.bool r) ∧ w'.cell? ⟨w.heap.size + 1 + 1, 1, none⟩ = some (.slice A'' o c'') ∧ w.heap.size + 1 + 1 < w'.heap.size)
      (first
        | exact ⟨X2.out.1.drew, X2.out.2⟩
        | (refine Sxyz.keep (by assumption) ?_; first | assumption | exact (Below.refl _ _).alloc (Nat.le_refl _) _ | exact below_drewN (Below.refl _ _) _))
      (first
        | (go_at_call 39; (with_reducible refine (HAxz.out _ (in_ai (by assumption) HX.out) (in_ai (by assumption) HZ.out)).mono ?_); rintro e w' ⟨A1, c1, rfl, s1, p1, q1, -, b1⟩)
        | (go_at_call 39; (with_reducible refine (HAyz.out _ (in_ai (by assumption) HY.out) (in_ai (by assumption) HZ.out)).mono ?_); rintro e w' ⟨A2, c2, rfl, s2, p2, q2, -, b2⟩)
        | (go_at_call 57; (with_reducible refine (HCau.out A1 A2 c1 c2 _ (AI.of_post (s1.below b2) p1 q1) (AI.of_post s2 p2 q2)).mono ?_); rintro e w' ⟨rfl, b3⟩)
        | (go_at_call 57; (with_reducible refine (HCxy.out _ (in_ai (by assumption) HX.out) (in_ai (by assumption) HY.out)).mono ?_); rintro e w' ⟨rfl, b4⟩)
        | (go_at_call 57; (with_reducible refine (HCyx.out _ (in_ai (by assumption) HY.out) (in_ai (by assumption) HX.out)).mono ?_); rintro e w' ⟨rfl, b5⟩))
    have X3 := Lib.hid (by assumption : Sxyz w (.bool s) (.slice A n c) (.bool t) (.slice A' m c') (.bool r) (.slice A'' o c'') w')
    obtain ⟨W0, hW0⟩ : ∃ W0, W0 = w' := ⟨_, rfl⟩
    subst hW0
    clear HAxz HAyz HCau HCxy HCyx b1 b2 b3 b4 b5 s1 s2 p1 p2 q1 q2 hw hw2 key2
    obtain ⟨-, k0, k1, k2, k3, k4, k5, hz⟩ := X3.out
    go_wp2_with fail
    refine (HO.out _).mono ?_
    rintro e W1 ⟨B1, l1, rfl, s1, p1, q1, b1⟩
    have X4 := Lib.hid (Sxyz.keep X3.out b1)
    have IZ := Lib.hid (AI.of_post s1 p1 q1)
    clear b1 s1 p1 q1 HO X3 k0 k1 k2 k3 k4 k5 hz
    obtain ⟨-, k0, k1, k2, k3, -, -, hz⟩ := X4.out
    have z0 : w.heap.size < W1.heap.size := by omega
    have z1 : w.heap.size + 1 < W1.heap.size := by omega
    go_wp2_with fail
    have HP := Lib.hid (show Below w.heap.size w (W1.alloc (.cells #[.bool (decide (Z < 0)), .slice B1 (wl Z.natAbs) l1] 51)) ∧ Hs (W1.alloc (.cells #[.bool (decide (Z < 0)), .slice B1 (wl Z.natAbs) l1] 51)) [(W1.heap.size, .bool (decide (Z < 0)), .slice B1 (wl Z.natAbs) l1), (w.heap.size + 1, .bool t, .slice A' m c'), (w.heap.size, .bool s, .slice A n c)] from
      ⟨below_new X4.out.1 _, Hs.new (l := [(w.heap.size + 1, .bool t, .slice A' m c'), (w.heap.size, .bool s, .slice A n c)]) ⟨⟨z1, k2, k3⟩, ⟨z0, k0, k1⟩, trivial⟩ _ _ _⟩)
    have hX4 := Lib.hid ((in_ai X4.out HX.out).alloc (.cells #[.bool (decide (Z < 0)), .slice B1 (wl Z.natAbs) l1] 51))
    have hY4 := Lib.hid ((in_ai X4.out HY.out).alloc (.cells #[.bool (decide (Z < 0)), .slice B1 (wl Z.natAbs) l1] 51))
    have hZ4 := Lib.hid (IZ.out.alloc (.cells #[.bool (decide (Z < 0)), .slice B1 (wl Z.natAbs) l1] 51))
    refine (HDm.out _ hX4.out hY4.out).mono ?_
    rintro e W2 ⟨B2, l2, B3, l3, rfl, s2, s3, p2, q2', p3, q3', b1⟩
    have HP2 := Lib.hid (show Below w.heap.size w W2 ∧ Hs W2 _ from ⟨below_then HP.out.1 b1, HP.out.2.keep b1⟩)
    have hX5 := Lib.hid (hX4.out.keep b1); have hY5 := Lib.hid (hY4.out.keep b1); have hZ5 := Lib.hid (hZ4.out.keep b1)
    have IQ := Lib.hid s2; have IR := Lib.hid s3
    clear HDm HP hX4 hY4 hZ4 b1 s2 s3 k0 k1 k2 k3 hz z0 z1 X4 IZ
    obtain ⟨-, ⟨g1, e1, f1⟩, ⟨g2, e2, f2⟩, ⟨g3', e3, f3⟩, -⟩ := HP2.out
    have z1 : W1.heap.size < W2.heap.size + 1 := by omega
    have z2 : w.heap.size + 1 < W2.heap.size + 1 := by omega
    have z3 : w.heap.size < W2.heap.size + 1 := by omega
    go_wp2_with fail
    have HP3 := Lib.hid (show Below w.heap.size w ((W2.alloc (.cells #[.bool (decide (qq < 0)), .slice B2 (wl qq.natAbs) l2] 51)).alloc (.cells #[.bool (decide (rr < 0)), .slice B3 (wl rr.natAbs) l3] 51)) ∧ Hs ((W2.alloc (.cells #[.bool (decide (qq < 0)), .slice B2 (wl qq.natAbs) l2] 51)).alloc (.cells #[.bool (decide (rr < 0)), .slice B3 (wl rr.natAbs) l3] 51)) _ from
      ⟨below_new (below_new HP2.out.1 _) _, Hs.new (Hs.new HP2.out.2 _ _ _) _ _ _⟩)
    rw [World.size_alloc] at HP3
    have hX6 := Lib.hid ((hX5.out.alloc (.cells #[.bool (decide (qq < 0)), .slice B2 (wl qq.natAbs) l2] 51)).alloc (.cells #[.bool (decide (rr < 0)), .slice B3 (wl rr.natAbs) l3] 51))
    have hY6 := Lib.hid ((hY5.out.alloc (.cells #[.bool (decide (qq < 0)), .slice B2 (wl qq.natAbs) l2] 51)).alloc (.cells #[.bool (decide (rr < 0)), .slice B3 (wl rr.natAbs) l3] 51))
    have hZ6 := Lib.hid ((hZ5.out.alloc (.cells #[.bool (decide (qq < 0)), .slice B2 (wl qq.natAbs) l2] 51)).alloc (.cells #[.bool (decide (rr < 0)), .slice B3 (wl rr.natAbs) l3] 51))
    have bb : Below W2.heap.size W2 ((W2.alloc (.cells #[.bool (decide (qq < 0)), .slice B2 (wl qq.natAbs) l2] 51)).alloc (.cells #[.bool (decide (rr < 0)), .slice B3 (wl rr.natAbs) l3] 51)) := below_new (below_new (Below.refl _ _) _) _
    have IQ6 := Lib.hid (IQ.out.below bb); have IR6 := Lib.hid (IR.out.below bb)
    clear bb IQ IR hX5 hY5 hZ5 HP2 g1 e1 f1 g2 e2 f2 g3' e3 f3 z1 z2 z3
    refine (HCyZ.out _ _ _ hY6.out hZ6.out).mono ?_
    rintro e W3 ⟨rfl, b1⟩
    have HP4 := Lib.hid (show Below w.heap.size w W3 ∧ Hs W3 _ from ⟨below_then HP3.out.1 b1, HP3.out.2.keep b1⟩)
    have hX7 := Lib.hid (hX6.out.keep b1); have hY7 := Lib.hid (hY6.out.keep b1); have hZ7 := Lib.hid (hZ6.out.keep b1)
    have IQ7 := Lib.hid (IQ6.out.below b1); have IR7 := Lib.hid (IR6.out.below b1)
    clear HP3 hX6 hY6 hZ6 IQ6 IR6 b1
    obtain ⟨-, ⟨g1, e1, f1⟩, ⟨g2, e2, f2⟩, ⟨g3', e3, f3⟩, ⟨g4', e4, f4⟩, ⟨g5', e5, f5⟩, -⟩ := HP4.out
    rcases key.out with ⟨h1, h2⟩ | ⟨h1, h2, h3, h4, h5, h6, h7⟩
    · subst h1
      subst h2
      clear key
      go_wp2_with fail
      refine (hA.out _).mono ?_
      rintro e W4 ⟨rfl, b1⟩
      have B7 := Lib.hid (below_then HP4.out.1 b1)
      clear b1
      go_wp2_with fail
      go_ret
      exact ⟨rfl, B7.out⟩
    · clear key
      subst h1; subst h2; subst h4; subst h5; subst h3
      rcases h7 with ⟨h7, h8⟩ | ⟨h7, h8⟩
      · subst h7
        subst h8
        go_wp2_with fail
        have HH0 := Lib.hid (Hs.new HP4.out.2 (.bool t) (.slice A' m c') 51)
        have HB0 := Lib.hid (below_new (Below.refl W3.heap.size W3) (.cells #[.bool t, .slice A' m c'] 51))
        clear g1 e1 f1 g2 e2 f2 g3' e3 f3 g4' e4 f4 g5' e5 f5
        refine (HCyZ.out _ _ _ (hY7.out.keep HB0.out) (hZ7.out.keep HB0.out)).mono ?_
        rintro e W4 ⟨rfl, b1⟩
        have HH4 := Lib.hid (Hs.keep b1 HH0.out)
        have HB4 := Lib.hid (below_then HB0.out b1)
        clear b1 HH0 HB0
        obtain ⟨⟨g1, e1, f1⟩, ⟨g2, e2, f2⟩, ⟨g3', e3, f3⟩, ⟨g4', e4, f4⟩, ⟨g5', e5, f5⟩, ⟨g6', e6, f6⟩, -⟩ := HH4.out
        go_wp2_with fail
        refine (HG.out _ (hX7.out.keep HB4.out) (hY7.out.keep HB4.out)).mono ?_
        clear g1 e1 f1 g2 e2 f2 g3' e3 f3 g4' e4 f4 g5' e5 f5 g6' e6 f6
        rintro e W5 ⟨B5, l5, rfl, s5, p5, q5, -, b1⟩
        have HH5 := Lib.hid (Hs.new (Hs.keep b1 HH4.out) (.bool (decide (gg < 0))) (.slice B5 (wl gg.natAbs) l5) 51)
        have HB5 := Lib.hid (below_new (below_then HB4.out b1) (.cells #[.bool (decide (gg < 0)), .slice B5 (wl gg.natAbs) l5] 51))
        have HG5 := Lib.hid ((AI.of_post s5 p5 q5).alloc (.cells #[.bool (decide (gg < 0)), .slice B5 (wl gg.natAbs) l5] 51))
        clear b1 HH4 HB4 s5 HG
        obtain ⟨⟨g1, e1, f1⟩, ⟨g2, e2, f2⟩, ⟨g3', e3, f3⟩, ⟨g4', e4, f4⟩, ⟨g5', e5, f5⟩, ⟨g6', e6, f6⟩, ⟨g7', e7, f7⟩, -⟩ := HH5.out
        go_wp2_with fail
        refine (HDxg.out B5 l5 _ (hX7.out.keep HB5.out) HG5.out).mono ?_
        clear g1 e1 f1 g2 e2 f2 g3' e3 f3 g4' e4 f4 g5' e5 f5 g6' e6 f6 g7' e7 f7
        rintro e W6 ⟨B6, l6, B7, l7, rfl, -, s6, -, -, p6, q6, b1⟩
        have hh6 := Hs.new (Hs.new (Hs.keep b1 HH5.out) (.bool (decide (q1 < 0))) (.slice B6 (wl q1.natAbs) l6) 51) (.bool (decide (s0 < 0))) (.slice B7 (wl s0.natAbs) l7) 51
        rw [World.size_alloc] at hh6
        have HH6 := Lib.hid hh6
        have HB6 := Lib.hid (below_new (below_new (below_then HB5.out b1) (.cells #[.bool (decide (q1 < 0)), .slice B6 (wl q1.natAbs) l6] 51)) (.cells #[.bool (decide (s0 < 0)), .slice B7 (wl s0.natAbs) l7] 51))
        have HG6 := Lib.hid (((HG5.out.keep b1).alloc (.cells #[.bool (decide (q1 < 0)), .slice B6 (wl q1.natAbs) l6] 51)).alloc (.cells #[.bool (decide (s0 < 0)), .slice B7 (wl s0.natAbs) l7] 51))
        have HS6 := Lib.hid (((AI.of_post s6 p6 q6).alloc (.cells #[.bool (decide (q1 < 0)), .slice B6 (wl q1.natAbs) l6] 51)).alloc (.cells #[.bool (decide (s0 < 0)), .slice B7 (wl s0.natAbs) l7] 51))
        clear b1 hh6 HH5 HB5 HG5 s6
        obtain ⟨⟨g1, e1, f1⟩, ⟨g2, e2, f2⟩, ⟨g3', e3, f3⟩, ⟨g4', e4, f4⟩, ⟨g5', e5, f5⟩, ⟨g6', e6, f6⟩, ⟨g7', e7, f7⟩, ⟨g8', e8, f8⟩, ⟨g9', e9, f9⟩, -⟩ := HH6.out
        go_wp2_with fail
        refine (HDyg.out B5 l5 _ (hY7.out.keep HB6.out) HG6.out).mono ?_
        clear g1 e1 f1 g2 e2 f2 g3' e3 f3 g4' e4 f4 g5' e5 f5 g6' e6 f6 g7' e7 f7 g8' e8 f8 g9' e9 f9
        rintro e W7 ⟨B8, l8, B9, l9, rfl, -, s7, -, -, p7, q7, b1⟩
        have hh7 := Hs.new (Hs.new (Hs.keep b1 HH6.out) (.bool (decide (q2 < 0))) (.slice B8 (wl q2.natAbs) l8) 51) (.bool (decide (t0 < 0))) (.slice B9 (wl t0.natAbs) l9) 51
        rw [World.size_alloc] at hh7
        have HH7 := Lib.hid hh7
        have HB7 := Lib.hid (below_new (below_new (below_then HB6.out b1) (.cells #[.bool (decide (q2 < 0)), .slice B8 (wl q2.natAbs) l8] 51)) (.cells #[.bool (decide (t0 < 0)), .slice B9 (wl t0.natAbs) l9] 51))
        have HS7 := Lib.hid (((HS6.out.keep b1).alloc (.cells #[.bool (decide (q2 < 0)), .slice B8 (wl q2.natAbs) l8] 51)).alloc (.cells #[.bool (decide (t0 < 0)), .slice B9 (wl t0.natAbs) l9] 51))
        have HT7 := Lib.hid (((AI.of_post s7 p7 q7).alloc (.cells #[.bool (decide (q2 < 0)), .slice B8 (wl q2.natAbs) l8] 51)).alloc (.cells #[.bool (decide (t0 < 0)), .slice B9 (wl t0.natAbs) l9] 51))
        clear b1 hh7 HH6 HB6 HG6 HS6 s7
        obtain ⟨⟨g1, e1, f1⟩, ⟨g2, e2, f2⟩, ⟨g3', e3, f3⟩, ⟨g4', e4, f4⟩, ⟨g5', e5, f5⟩, ⟨g6', e6, f6⟩, ⟨g7', e7, f7⟩, ⟨g8', e8, f8⟩, ⟨g9', e9, f9⟩, ⟨g10', e10, f10⟩, ⟨g11', e11, f11⟩, -⟩ := HH7.out
        go_wp2_with fail
        have hg3 : 0 ≤ g3 := by omega
        clear g1 e1 f1 g2 e2 f2 g3' e3 f3 g4' e4 f4 g5' e5 f5 g6' e6 f6 g7' e7 f7 g8' e8 f8 g9' e9 f9 g10' e10 f10 g11' e11 f11
        have IX := Lib.hid (hX7.out.keep HB7.out); have IY := Lib.hid (hY7.out.keep HB7.out); have IZ := Lib.hid (hZ7.out.keep HB7.out)
        have IQ := Lib.hid (AI.of_post (IQ7.out.below HB7.out) p2 q2'); have IR := Lib.hid (AI.of_post (IR7.out.below HB7.out) p3 q3')
        have BB := Lib.hid (below_then HP4.out.1 HB7.out)
        clear hX7 hY7 hZ7 IQ7 IR7 HP4 HB7 HDxg HDyg HSZy HCyZ
        generalize ((W7.alloc (.cells #[.bool (decide (q2 < 0)), .slice B8 (wl q2.natAbs) l8] 51)).alloc (.cells #[.bool (decide (t0 < 0)), .slice B9 (wl t0.natAbs) l9] 51)) = W8 at *
        go_region_held3 (fun w' => Below W8.heap.size W8 w' ∧ w'.cell? ⟨W7.heap.size + 1, 0, none⟩ = some (.bool (decide (t0 < 0))) ∧ w'.cell? ⟨W7.heap.size + 1, 1, none⟩ = some (.slice B9 (wl t0.natAbs) l9) ∧ w'.cell? ⟨W6.heap.size + 1, 0, none⟩ = some (.bool (decide (s0 < 0))) ∧ w'.cell? ⟨W6.heap.size + 1, 1, none⟩ = some (.slice B7 (wl s0.natAbs) l7) ∧ w'.cell? ⟨W3.heap.size, 0, none⟩ = some (.bool t) ∧ w'.cell? ⟨W3.heap.size, 1, none⟩ = some (.slice A' m c') ∧ w'.cell? ⟨W2.heap.size + 1, 0, none⟩ = some (.bool (decide (rr < 0))) ∧ w'.cell? ⟨W2.heap.size + 1, 1, none⟩ = some (.slice B3 (wl rr.natAbs) l3) ∧ w'.cell? ⟨W2.heap.size, 0, none⟩ = some (.bool (decide (qq < 0))) ∧ w'.cell? ⟨W2.heap.size, 1, none⟩ = some (.slice B2 (wl qq.natAbs) l2) ∧ w'.cell? ⟨W1.heap.size, 0, none⟩ = some (.bool (decide (Z < 0))) ∧ w'.cell? ⟨W1.heap.size, 1, none⟩ = some (.slice B1 (wl Z.natAbs) l1) ∧ w'.cell? ⟨w.heap.size + 1, 0, none⟩ = some (.bool t) ∧ w'.cell? ⟨w.heap.size + 1, 1, none⟩ = some (.slice A' m c') ∧ w'.cell? ⟨w.heap.size, 0, none⟩ = some (.bool s) ∧ w'.cell? ⟨w.heap.size, 1, none⟩ = some (.slice A n c))
          (first
            | exact Hs11 HH7.out (Below.refl _ _).drew
            | (refine Hs11 HH7.out (below_next (by assumption) ?_); first | assumption | exact (Below.refl _ _).alloc (Nat.le_refl _) _ | exact below_drewN (Below.refl _ _) _))
          (first
            | (go_at_call 43; (with_reducible refine (HMqy.out B2 l2 _ (in_ai (by assumption) IQ.out) (in_ai (by assumption) IY.out)).mono ?_); rintro e w' ⟨A1, c1, rfl, s1, p1, r1, -, b1⟩)
            | (go_at_call 39; (with_reducible refine (HAqr.out A1 B3 c1 l3 _ (AI.of_post s1 p1 r1) (in_ai (by assumption) IR.out)).mono ?_); rintro e w' ⟨A2, c2, rfl, s2, p2, r2, -, b2⟩)
            | (go_at_call 56; (with_reducible refine (HNx.out _ (in_ai (by assumption) IX.out)).mono ?_); rintro e w' ⟨A3, c3, rfl, s3, p3, r3, -, b3⟩)
            | (go_at_call 38; (with_reducible refine (HSm.out xx A2 A3 c2 c3 _ (s2.below b3) s3 p2 r2).mono ?_); rintro e w' ⟨rfl, b4⟩)
            | (go_at_call 57; (with_reducible refine (HCrZ.out B3 B1 l3 l1 _ (in_ai (by assumption) IR.out) (in_ai (by assumption) IZ.out)).mono ?_); rintro e w' ⟨rfl, b5⟩)
            | (go_at_call 57; (with_reducible refine (HCry.out B3 l3 _ (in_ai (by assumption) IR.out) (in_ai (by assumption) IY.out)).mono ?_); rintro e w' ⟨rfl, b6⟩)
            | (go_at_call 57; (with_reducible refine (HCsZ.out B7 B1 l7 l1 _ (in_ai (by assumption) HS7.out) (in_ai (by assumption) IZ.out)).mono ?_); rintro e w' ⟨rfl, b7⟩)
            | (go_at_call 57; (with_reducible refine (HCtZ.out B9 B1 l9 l1 _ (in_ai (by assumption) HT7.out) (in_ai (by assumption) IZ.out)).mono ?_); rintro e w' ⟨rfl, b8⟩)
            | (go_at_call 20; (with_reducible refine (hA.out _).mono ?_); rintro e w' ⟨rfl, b9⟩))
        go_wp2_with fail
        go_ret
        exact ⟨rfl, aw_end BB.out (by assumption)⟩
      · subst h7
        subst h8
        go_wp2_with fail
        have HH0 := Lib.hid (Hs.new HP4.out.2 (.bool t) (.slice A' m c') 51)
        have HB0 := Lib.hid (below_new (Below.refl W3.heap.size W3) (.cells #[.bool t, .slice A' m c'] 51))
        clear g1 e1 f1 g2 e2 f2 g3' e3 f3 g4' e4 f4 g5' e5 f5
        refine (HCyZ.out _ _ _ (hY7.out.keep HB0.out) (hZ7.out.keep HB0.out)).mono ?_
        rintro e W4 ⟨rfl, b1⟩
        have HH4 := Lib.hid (Hs.keep b1 HH0.out)
        have HB4 := Lib.hid (below_then HB0.out b1)
        have fz0 : W4.frozen? ⟨W3.heap.size, 0, none⟩ = false := by rw [b1.frozen (p := ⟨W3.heap.size, 0, none⟩) (by simp)]; simp [go_sem]
        have fz1 : W4.frozen? ⟨W3.heap.size, 1, none⟩ = false := by rw [b1.frozen (p := ⟨W3.heap.size, 1, none⟩) (by simp)]; simp [go_sem]
        clear b1 HH0 HB0
        obtain ⟨⟨g1, e1, f1⟩, ⟨g2, e2, f2⟩, ⟨g3', e3, f3⟩, ⟨g4', e4, f4⟩, ⟨g5', e5, f5⟩, ⟨g6', e6, f6⟩, -⟩ := HH4.out
        go_wp2_with fail
        refine (HSZy.out _ _ _ (hZ7.out.keep HB4.out) (hY7.out.keep HB4.out)).mono ?_
        clear g1 e1 f1 g2 e2 f2 g3' e3 f3 g4' e4 f4 g5' e5 f5 g6' e6 f6
        rintro e V4 ⟨B4, l4, rfl, s4, p4, q4, fr4, b1⟩
        have fz0' : V4.frozen? ⟨W3.heap.size, 0, none⟩ = false := by rw [b1.frozen (p := ⟨W3.heap.size, 0, none⟩) HH4.out.1.1]; exact fz0
        have fz1' : V4.frozen? ⟨W3.heap.size, 1, none⟩ = false := by rw [b1.frozen (p := ⟨W3.heap.size, 1, none⟩) HH4.out.1.1]; exact fz1
        have HHv := Lib.hid (Hs.keep b1 HH4.out)
        have s4' := (s4.setCell fr4 (p := ⟨W3.heap.size, 0, none⟩) HH4.out.1.1 (.bool (decide (ny < 0)))).setCell fr4 (p := ⟨W3.heap.size, 1, none⟩) HH4.out.1.1 (.slice B4 (wl ny.natAbs) l4)
        have HN4 := Lib.hid (AI.of_post s4' p4 q4)
        have HBv := Lib.hid (((below_then HB4.out b1).setCell (p := ⟨W3.heap.size, 0, none⟩) (Nat.le_refl _) (.bool (decide (ny < 0)))).setCell (p := ⟨W3.heap.size, 1, none⟩) (Nat.le_refl _) (.slice B4 (wl ny.natAbs) l4))
        have hlt := HP4.out.2
        have HHs := Lib.hid (show Hs ((V4.setCell ⟨W3.heap.size, 0, none⟩ (.bool (decide (ny < 0)))).setCell ⟨W3.heap.size, 1, none⟩ (.slice B4 (wl ny.natAbs) l4)) ((W3.heap.size, .bool (decide (ny < 0)), .slice B4 (wl ny.natAbs) l4) :: _) from
          ⟨HHv.out.1.store _ _, Hs.store_ne _ _ HHv.out.2 (by
            have t1 := hlt.1.1; have t2 := hlt.2.1.1; have t3 := hlt.2.2.1.1; have t4 := hlt.2.2.2.1.1; have t5 := hlt.2.2.2.2.1.1
            intro p hp
            simp at hp
            rcases hp with rfl | rfl | rfl | rfl | rfl <;> simp <;> omega)⟩)
        obtain ⟨⟨g1, e1, f1⟩, -⟩ := HHv.out
        clear s4 s4' b1 fz0 fz1 HHv hlt HH4 HB4
        obtain ⟨-, ⟨g2, e2, f2⟩, ⟨g3', e3, f3⟩, ⟨g4', e4, f4⟩, ⟨g5', e5, f5⟩, ⟨g6', e6, f6⟩, -⟩ := HHs.out
        go_wp2_with fail
        obtain ⟨W4, hW4⟩ : ∃ W4, (V4.setCell ⟨W3.heap.size, 0, none⟩ (.bool (decide (ny < 0)))).setCell ⟨W3.heap.size, 1, none⟩ (.slice B4 (wl ny.natAbs) l4) = W4 := ⟨_, rfl⟩
        rw [hW4] at HHs HBv HN4 g2 e2 f2 g3' e3 f3 g4' e4 f4 g5' e5 f5 g6' e6 f6 ⊢
        have HH4 := HHs; have HB4 := HBv
        clear hW4 HHs HBv
        refine (HG.out _ (hX7.out.keep HB4.out) (hY7.out.keep HB4.out)).mono ?_
        clear g1 e1 f1 g2 e2 f2 g3' e3 f3 g4' e4 f4 g5' e5 f5 g6' e6 f6
        rintro e W5 ⟨B5, l5, rfl, s5, p5, q5, -, b1⟩
        have HH5 := Lib.hid (Hs.new (Hs.keep b1 HH4.out) (.bool (decide (gg < 0))) (.slice B5 (wl gg.natAbs) l5) 51)
        have HB5 := Lib.hid (below_new (below_then HB4.out b1) (.cells #[.bool (decide (gg < 0)), .slice B5 (wl gg.natAbs) l5] 51))
        have HN5 := Lib.hid ((HN4.out.keep b1).alloc (.cells #[.bool (decide (gg < 0)), .slice B5 (wl gg.natAbs) l5] 51))
        have HG5 := Lib.hid ((AI.of_post s5 p5 q5).alloc (.cells #[.bool (decide (gg < 0)), .slice B5 (wl gg.natAbs) l5] 51))
        clear b1 HH4 HB4 s5 HG
        obtain ⟨⟨g1, e1, f1⟩, ⟨g2, e2, f2⟩, ⟨g3', e3, f3⟩, ⟨g4', e4, f4⟩, ⟨g5', e5, f5⟩, ⟨g6', e6, f6⟩, ⟨g7', e7, f7⟩, -⟩ := HH5.out
        go_wp2_with fail
        refine (HDxg.out B5 l5 _ (hX7.out.keep HB5.out) HG5.out).mono ?_
        clear g1 e1 f1 g2 e2 f2 g3' e3 f3 g4' e4 f4 g5' e5 f5 g6' e6 f6 g7' e7 f7
        rintro e W6 ⟨B6, l6, B7, l7, rfl, -, s6, -, -, p6, q6, b1⟩
        have hh6 := Hs.new (Hs.new (Hs.keep b1 HH5.out) (.bool (decide (q1 < 0))) (.slice B6 (wl q1.natAbs) l6) 51) (.bool (decide (s0 < 0))) (.slice B7 (wl s0.natAbs) l7) 51
        rw [World.size_alloc] at hh6
        have HH6 := Lib.hid hh6
        have HB6 := Lib.hid (below_new (below_new (below_then HB5.out b1) (.cells #[.bool (decide (q1 < 0)), .slice B6 (wl q1.natAbs) l6] 51)) (.cells #[.bool (decide (s0 < 0)), .slice B7 (wl s0.natAbs) l7] 51))
        have HG6 := Lib.hid (((HG5.out.keep b1).alloc (.cells #[.bool (decide (q1 < 0)), .slice B6 (wl q1.natAbs) l6] 51)).alloc (.cells #[.bool (decide (s0 < 0)), .slice B7 (wl s0.natAbs) l7] 51))
        have HN6 := Lib.hid (((HN5.out.keep b1).alloc (.cells #[.bool (decide (q1 < 0)), .slice B6 (wl q1.natAbs) l6] 51)).alloc (.cells #[.bool (decide (s0 < 0)), .slice B7 (wl s0.natAbs) l7] 51))
        have HS6 := Lib.hid (((AI.of_post s6 p6 q6).alloc (.cells #[.bool (decide (q1 < 0)), .slice B6 (wl q1.natAbs) l6] 51)).alloc (.cells #[.bool (decide (s0 < 0)), .slice B7 (wl s0.natAbs) l7] 51))
        clear b1 hh6 HH5 HB5 HG5 s6
        obtain ⟨⟨g1, e1, f1⟩, ⟨g2, e2, f2⟩, ⟨g3', e3, f3⟩, ⟨g4', e4, f4⟩, ⟨g5', e5, f5⟩, ⟨g6', e6, f6⟩, ⟨g7', e7, f7⟩, ⟨g8', e8, f8⟩, ⟨g9', e9, f9⟩, -⟩ := HH6.out
        go_wp2_with fail
        refine (HDyg.out B5 l5 _ (hY7.out.keep HB6.out) HG6.out).mono ?_
        clear g1 e1 f1 g2 e2 f2 g3' e3 f3 g4' e4 f4 g5' e5 f5 g6' e6 f6 g7' e7 f7 g8' e8 f8 g9' e9 f9
        rintro e W7 ⟨B8, l8, B9, l9, rfl, -, s7, -, -, p7, q7, b1⟩
        have hh7 := Hs.new (Hs.new (Hs.keep b1 HH6.out) (.bool (decide (q2 < 0))) (.slice B8 (wl q2.natAbs) l8) 51) (.bool (decide (t0 < 0))) (.slice B9 (wl t0.natAbs) l9) 51
        rw [World.size_alloc] at hh7
        have HH7 := Lib.hid hh7
        have HB7 := Lib.hid (below_new (below_new (below_then HB6.out b1) (.cells #[.bool (decide (q2 < 0)), .slice B8 (wl q2.natAbs) l8] 51)) (.cells #[.bool (decide (t0 < 0)), .slice B9 (wl t0.natAbs) l9] 51))
        have HS7 := Lib.hid (((HS6.out.keep b1).alloc (.cells #[.bool (decide (q2 < 0)), .slice B8 (wl q2.natAbs) l8] 51)).alloc (.cells #[.bool (decide (t0 < 0)), .slice B9 (wl t0.natAbs) l9] 51))
        have HN7 := Lib.hid (((HN6.out.keep b1).alloc (.cells #[.bool (decide (q2 < 0)), .slice B8 (wl q2.natAbs) l8] 51)).alloc (.cells #[.bool (decide (t0 < 0)), .slice B9 (wl t0.natAbs) l9] 51))
        have HT7 := Lib.hid (((AI.of_post s7 p7 q7).alloc (.cells #[.bool (decide (q2 < 0)), .slice B8 (wl q2.natAbs) l8] 51)).alloc (.cells #[.bool (decide (t0 < 0)), .slice B9 (wl t0.natAbs) l9] 51))
        clear b1 hh7 HH6 HB6 HG6 HS6 s7
        obtain ⟨⟨g1, e1, f1⟩, ⟨g2, e2, f2⟩, ⟨g3', e3, f3⟩, ⟨g4', e4, f4⟩, ⟨g5', e5, f5⟩, ⟨g6', e6, f6⟩, ⟨g7', e7, f7⟩, ⟨g8', e8, f8⟩, ⟨g9', e9, f9⟩, ⟨g10', e10, f10⟩, ⟨g11', e11, f11⟩, -⟩ := HH7.out
        go_wp2_with fail
        have hg3 : 0 ≤ g3 := by omega
        clear g1 e1 f1 g2 e2 f2 g3' e3 f3 g4' e4 f4 g5' e5 f5 g6' e6 f6 g7' e7 f7 g8' e8 f8 g9' e9 f9 g10' e10 f10 g11' e11 f11
        have IX := Lib.hid (hX7.out.keep HB7.out); have IY := Lib.hid (hY7.out.keep HB7.out); have IZ := Lib.hid (hZ7.out.keep HB7.out)
        have IQ := Lib.hid (AI.of_post (IQ7.out.below HB7.out) p2 q2'); have IR := Lib.hid (AI.of_post (IR7.out.below HB7.out) p3 q3')
        have BB := Lib.hid (below_then HP4.out.1 HB7.out)
        clear hX7 hY7 hZ7 IQ7 IR7 HP4 HB7 HDxg HDyg HSZy HCyZ
        generalize ((W7.alloc (.cells #[.bool (decide (q2 < 0)), .slice B8 (wl q2.natAbs) l8] 51)).alloc (.cells #[.bool (decide (t0 < 0)), .slice B9 (wl t0.natAbs) l9] 51)) = W8 at *
        go_region_held3 (fun w' => Below W8.heap.size W8 w' ∧ w'.cell? ⟨W7.heap.size + 1, 0, none⟩ = some (.bool (decide (t0 < 0))) ∧ w'.cell? ⟨W7.heap.size + 1, 1, none⟩ = some (.slice B9 (wl t0.natAbs) l9) ∧ w'.cell? ⟨W6.heap.size + 1, 0, none⟩ = some (.bool (decide (s0 < 0))) ∧ w'.cell? ⟨W6.heap.size + 1, 1, none⟩ = some (.slice B7 (wl s0.natAbs) l7) ∧ w'.cell? ⟨W3.heap.size, 0, none⟩ = some (.bool (decide (ny < 0))) ∧ w'.cell? ⟨W3.heap.size, 1, none⟩ = some (.slice B4 (wl ny.natAbs) l4) ∧ w'.cell? ⟨W2.heap.size + 1, 0, none⟩ = some (.bool (decide (rr < 0))) ∧ w'.cell? ⟨W2.heap.size + 1, 1, none⟩ = some (.slice B3 (wl rr.natAbs) l3) ∧ w'.cell? ⟨W2.heap.size, 0, none⟩ = some (.bool (decide (qq < 0))) ∧ w'.cell? ⟨W2.heap.size, 1, none⟩ = some (.slice B2 (wl qq.natAbs) l2) ∧ w'.cell? ⟨W1.heap.size, 0, none⟩ = some (.bool (decide (Z < 0))) ∧ w'.cell? ⟨W1.heap.size, 1, none⟩ = some (.slice B1 (wl Z.natAbs) l1) ∧ w'.cell? ⟨w.heap.size + 1, 0, none⟩ = some (.bool t) ∧ w'.cell? ⟨w.heap.size + 1, 1, none⟩ = some (.slice A' m c') ∧ w'.cell? ⟨w.heap.size, 0, none⟩ = some (.bool s) ∧ w'.cell? ⟨w.heap.size, 1, none⟩ = some (.slice A n c))
          (first
            | exact Hs11 HH7.out (Below.refl _ _).drew
            | (refine Hs11 HH7.out (below_next (by assumption) ?_); first | assumption | exact (Below.refl _ _).alloc (Nat.le_refl _) _ | exact below_drewN (Below.refl _ _) _))
          (first
            | (go_at_call 43; (with_reducible refine (HMqy.out B2 l2 _ (in_ai (by assumption) IQ.out) (in_ai (by assumption) IY.out)).mono ?_); rintro e w' ⟨A1, c1, rfl, s1, p1, r1, -, b1⟩)
            | (go_at_call 39; (with_reducible refine (HAqr.out A1 B3 c1 l3 _ (AI.of_post s1 p1 r1) (in_ai (by assumption) IR.out)).mono ?_); rintro e w' ⟨A2, c2, rfl, s2, p2, r2, -, b2⟩)
            | (go_at_call 56; (with_reducible refine (HNx.out _ (in_ai (by assumption) IX.out)).mono ?_); rintro e w' ⟨A3, c3, rfl, s3, p3, r3, -, b3⟩)
            | (go_at_call 38; (with_reducible refine (HSm.out xx A2 A3 c2 c3 _ (s2.below b3) s3 p2 r2).mono ?_); rintro e w' ⟨rfl, b4⟩)
            | (go_at_call 57; (with_reducible refine (HCrZ.out B3 B1 l3 l1 _ (in_ai (by assumption) IR.out) (in_ai (by assumption) IZ.out)).mono ?_); rintro e w' ⟨rfl, b5⟩)
            | (go_at_call 57; (with_reducible refine (HCrN.out B3 B4 l3 l4 _ (in_ai (by assumption) IR.out) (in_ai (by assumption) HN7.out)).mono ?_); rintro e w' ⟨rfl, b6⟩)
            | (go_at_call 57; (with_reducible refine (HCsZ.out B7 B1 l7 l1 _ (in_ai (by assumption) HS7.out) (in_ai (by assumption) IZ.out)).mono ?_); rintro e w' ⟨rfl, b7⟩)
            | (go_at_call 57; (with_reducible refine (HCtZ.out B9 B1 l9 l1 _ (in_ai (by assumption) HT7.out) (in_ai (by assumption) IZ.out)).mono ?_); rintro e w' ⟨rfl, b8⟩)
            | (go_at_call 20; (with_reducible refine (hA.out _).mono ?_); rintro e w' ⟨rfl, b9⟩))
        go_wp2_with fail
        go_ret
        exact ⟨rfl, aw_end BB.out (by assumption)⟩
  · have hsf : shortB [n, m, o] = false := by cases h : shortB [n, m, o] <;> simp_all
    rw [hsf] at HSh
    clear hsh hsf
    go_enter Try.func12, Try.ntmps12
    go_wp2_with fail
    refine HSh.out.mono ?_
    rintro e w' ⟨rfl, rfl⟩
    go_wp2_with fail
    refine (hA.out _).mono ?_
    rintro e W5 ⟨rfl, b24⟩
    have B7 := Lib.hid ((((Below.refl w.heap.size w).alloc (Nat.le_refl _) _).alloc (by simp) _).alloc (by simp; omega) _ |>.alloc (by simp; omega) _ |>.trans (b24.mono (by simp; omega)))
    clear b24
    go_wp2_with fail
    go_ret
    exact ⟨rfl, B7.out⟩
end Go.Proofs.Ytmlkiddkgikdhaa
