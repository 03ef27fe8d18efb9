/- IsModulo of the reference accepts the matrices that are right. -/
import Derived.Test.YtfjmhfmhijhpkaaDoorMdg
namespace Go.Proofs.YtfjmhfmhijhpkaaDoor
open Go.RowKit FF

/-- the eight entries -/
def ent (x u m v n : Int) (k : Nat) : Int := match k with
  | 0 => 0 | 1 => x | 2 => 1 | 3 => 0 | 4 => u | 5 => m | 6 => v | _ => n
theorem ent_win {A Bb p u v x y m n : Int} (h : Mats A Bb p u v x y m n) (k : Nat) : winB (ent x u m v n k) 0 (p - 1) = true := by
  have := h.pp; have := h.u0; have := h.v0; have := h.x0; have := h.m0; have := h.n0
  rw [winB_iff]
  unfold ent
  split <;> omega
theorem ent_cell {W : World} {g : Nat} {x u m v n : Int} (h : Cells W g #[.int .i64 0, .int .i64 x, .int .i64 1, .int .i64 0, .int .i64 u, .int .i64 m, .int .i64 v, .int .i64 n]) (k : Nat) (hk : k < 8) : W.cell? ⟨g, k, none⟩ = some (.int .i64 (ent x u m v n k)) := by
  rw [h.2.1 k (by simpa using hk)]
  match k, hk with
  | 0, _ => rfl
  | 1, _ => rfl
  | 2, _ => rfl
  | 3, _ => rfl
  | 4, _ => rfl
  | 5, _ => rfl
  | 6, _ => rfl
  | 7, _ => rfl
theorem bMod_b (a m : Int) (w : World) (ha : I64 a) (h3 : 0 < m) (hm : I64 m) :
    Calls Tryd.prog 20 #[.int .i64 a, .int .i64 m] w fun r w' => r = .returned (.int .i64 (a % m)) ∧ Below w.heap.size w w' := by
  refine (bMod_any a m w ha h3 hm).mono ?_
  rintro e w' ⟨rfl, n, rfl⟩
  exact ⟨rfl, below_drewN (Below.refl _ _) n⟩

set_option maxHeartbeats 4000000 in
set_option maxRecDepth 100000 in
theorem rIsModulo_good (a b p u v x y m n : Int) (w : World) (hm : Mats a b p u v x y m n) (hx : x = a % p) (hy : y = b % p) (ha : -1000 ≤ a ∧ a ≤ 1000) (hb : -1000 ≤ b ∧ b ≤ 1000) :
    Calls Tryd.prog 9 #[.agg #[.int .i64 a, .int .i64 b], .int .i64 p, .agg #[.int .i64 0, .int .i64 x, .int .i64 1, .int .i64 0], .agg #[.int .i64 u, .int .i64 m, .int .i64 v, .int .i64 n]] w fun r w' => r = .returned (.bool true) ∧ Below w.heap.size w w' := by
  have hp := hm.pp; have hp9 := hm.p9
  have hu := hm.u0; have hv := hm.v0; have hx0 := hm.x0; have hy0 := hm.y0; have hm0 := hm.m0; have hn0 := hm.n0
  have HP := Lib.hid (show 2 < p ∧ p ≤ 10000 from ⟨hp, hp9⟩)
  have i0 : I64 p := ⟨by omega, by omega⟩
  have hMa := fun w => bMod_b a p w ⟨by omega, by omega⟩ (by omega) i0
  have hMb := fun w => bMod_b b p w ⟨by omega, by omega⟩ (by omega) i0
  rw [← hx] at hMa
  rw [← hy] at hMb
  have HMa := Lib.hid hMa; have HMb := Lib.hid hMb
  have ps : ∀ t : Int, 0 ≤ t ∧ t < p → t % p = t := fun t ht => Int.emod_eq_of_lt ht.1 ht.2
  have z0 : (0 : Int) ≤ 0 ∧ (0 : Int) < p := ⟨by omega, by omega⟩
  have z1 : (0 : Int) ≤ 1 ∧ (1 : Int) < p := ⟨by omega, by omega⟩
  have hII := fun w => rModProduct_any 0 x 1 0 0 x 1 0 p w hp hp9 z0 hx0 z1 z0 z0 hx0 z1 z0
  have hJJ := fun w => rModProduct_any u m v n u m v n p w hp hp9 hu hm0 hv hn0 hu hm0 hv hn0
  have hIJ := fun w => rModProduct_any 0 x 1 0 u m v n p w hp hp9 z0 hx0 z1 z0 hu hm0 hv hn0
  have hJI := fun w => rModProduct_any u m v n 0 x 1 0 p w hp hp9 hu hm0 hv hn0 z0 hx0 z1 z0
  rw [hm.jjA, hm.jjB, hm.jjC, hm.jjD] at hJJ
  simp only [Int.zero_mul, Int.mul_zero, Int.one_mul, Int.mul_one, Int.zero_add, Int.add_zero, ps x hx0, ps u hu, ps m hm0, ps n hn0, Int.zero_emod] at hII hIJ hJI
  have HII := Lib.hid hII; have HJJ := Lib.hid hJJ; have HIJ := Lib.hid hIJ; have HJI := Lib.hid hJI
  have b1 := hm.a1; have b2 := hm.a2; have b3 := hm.a3; have b4 := hm.a4
  have r1 : ∀ t : Int, 0 ≤ t % p ∧ t % p < p := fun t => ⟨Int.emod_nonneg _ (by omega), Int.emod_lt_of_pos _ (by omega)⟩
  have k1 := r1 (x * v); have k2 := r1 (x * n); have k3 := r1 (u * x); have k4 := r1 (v * x)
  clear hMa hMb hII hJJ hIJ hJI ps r1 i0
  generalize x * v % p = c1 at *
  generalize x * n % p = c2 at *
  generalize u * x % p = d2 at *
  generalize v * x % p = d4 at *
  have w1 : IntKind.i64.wrap (c1 + m) = c1 + m := wrap_id _ (by omega) (by omega)
  have w2 : IntKind.i64.wrap (c2 + d2) = c2 + d2 := wrap_id _ (by omega) (by omega)
  have w3 : IntKind.i64.wrap (u + n) = u + n := wrap_id _ (by omega) (by omega)
  have w4 : IntKind.i64.wrap (m + d4) = m + d4 := wrap_id _ (by omega) (by omega)
  have t1 : (c1 + m).tmod p = 0 := by rw [Int.tmod_eq_emod_of_nonneg (by omega)]; exact b1
  have t2 : (c2 + d2).tmod p = 0 := by rw [Int.tmod_eq_emod_of_nonneg (by omega)]; exact b2
  have t3 : (u + n).tmod p = 0 := by rw [Int.tmod_eq_emod_of_nonneg (by omega)]; exact b3
  have t4 : (m + d4).tmod p = 0 := by rw [Int.tmod_eq_emod_of_nonneg (by omega)]; exact b4
  have hpz : p ≠ 0 := by omega
  have hpz2 : (p == 0) = false := f_beq hpz
  clear b1 b2 b3 b4 k1 k2 k3 k4 hu hv hx0 hy0 hm0 hn0 z0 z1 hx hy ha hb hp hp9
  go_enter Tryd.func9, Tryd.ntmps9
  go_upto_region 1 with fail
  obtain ⟨W0, hW0⟩ : ∃ W0 : World, W0 = ((w.alloc (.cells #[.int .i64 a, .int .i64 b] 23)).alloc (.cells #[.int .i64 0, .int .i64 x, .int .i64 1, .int .i64 0] 26)).alloc (.cells #[.int .i64 u, .int .i64 m, .int .i64 v, .int .i64 n] 26) := ⟨_, rfl⟩
  rw [← hW0]
  have HB0 := Lib.hid (show Bx w [(w.heap.size + 2, #[.int .i64 u, .int .i64 m, .int .i64 v, .int .i64 n]), (w.heap.size + 1, #[.int .i64 0, .int .i64 x, .int .i64 1, .int .i64 0]), (w.heap.size, #[.int .i64 a, .int .i64 b])] W0 by rw [hW0]; simpa using (((Bx.nil (Below.refl w.heap.size w)).new #[.int .i64 a, .int .i64 b] 23).new #[.int .i64 0, .int .i64 x, .int .i64 1, .int .i64 0] 26).new #[.int .i64 u, .int .i64 m, .int .i64 v, .int .i64 n] 26)
  clear hW0
  obtain ⟨c0_0, c0_1, c0_2, c0_3⟩ := HB0.out.four (List.mem_cons_self ..)
  obtain ⟨c1_0, c1_1, c1_2, c1_3⟩ := HB0.out.four (List.mem_cons_of_mem _ (List.mem_cons_self ..))
  go_upto_region 2 with fail
  clear c0_0 c0_1 c0_2 c0_3 c1_0 c1_1 c1_2 c1_3
  obtain ⟨V1, hV1⟩ : ∃ V1 : World, V1 = W0.alloc (.cells #[.int .i64 0, .int .i64 x, .int .i64 1, .int .i64 0, .int .i64 u, .int .i64 m, .int .i64 v, .int .i64 n] 52) := ⟨_, rfl⟩
  rw [← hV1]
  have HB1 := Lib.hid (show Bx w [(W0.heap.size, #[.int .i64 0, .int .i64 x, .int .i64 1, .int .i64 0, .int .i64 u, .int .i64 m, .int .i64 v, .int .i64 n]), (w.heap.size + 2, #[.int .i64 u, .int .i64 m, .int .i64 v, .int .i64 n]), (w.heap.size + 1, #[.int .i64 0, .int .i64 x, .int .i64 1, .int .i64 0]), (w.heap.size, #[.int .i64 a, .int .i64 b])] V1 from hV1 ▸ HB0.out.new _ _)
  have hlt := HB0.out.lt (List.mem_cons_self ..)
  clear hV1 HB0
  generalize W0.heap.size = g at *
  have HE := Lib.hid (fun k => ent_win hm k)
  go_wp2_with fail
  go_loopw [10] (fun s10 wr => ∃ k : Nat, s10 = .int .i64 k ∧ k ≤ 8 ∧ Bx w [(g, #[.int .i64 0, .int .i64 x, .int .i64 1, .int .i64 0, .int .i64 u, .int .i64 m, .int .i64 v, .int .i64 n]), (w.heap.size + 2, #[.int .i64 u, .int .i64 m, .int .i64 v, .int .i64 n]), (w.heap.size + 1, #[.int .i64 0, .int .i64 x, .int .i64 1, .int .i64 0]), (w.heap.size, #[.int .i64 a, .int .i64 b])] wr) (fun s _ => 8 - (intOf s).toNat)
  case atStart => exact ⟨0, rfl, by omega, HB1.out⟩
  case round =>
    obtain ⟨k, rfl, hk, hb⟩ := hrel
    have HB := Lib.hid hb
    clear hb HB1
    by_cases h0 : k < 8
    · have hc := ent_cell (HB.out.own _ (List.mem_cons_self ..)).2 k h0
      have hw := HE.out k
      have hk1 : (0 : Int) ≤ (k : Int) := by omega
      have hk2 : (k : Int) < 8 := by omega
      have hp1 : IntKind.i64.wrap (p - 1) = p - 1 := wrap_id _ (by have := HP.out; omega) (by have := HP.out; omega)
      generalize ent x u m v n k = e at *
      have hC := fun w => bWithin_any e 0 (p - 1) w
      rw [hw] at hC
      have HC := Lib.hid hC
      clear hw hC
      go_wp2_with fail
      refine (HC.out _).mono ?_
      rintro e1 w1 ⟨rfl, n1, rfl⟩
      have HB2 := Lib.hid (HB.out.drewN n1)
      clear HB hc
      go_wp2_with fail
      exact ⟨⟨k + 1, by go_num, by omega, HB2.out⟩, by simp [intOf]; omega⟩
    obtain rfl : k = 8 := by omega
    clear hk h0 HE
    go_upto_region 7 with fail
    refine wp_region_inv (w.heap.size) [(0, 43, .pointer (some ⟨w.heap.size, 0, none⟩)), (1, 44, .int .i64 a), (2, 45, .int .i64 p), (3, 46, .int .i64 x), (4, 47, .pointer (some ⟨w.heap.size, 1, none⟩)), (5, 48, .int .i64 b), (6, 49, .int .i64 p), (7, 50, .int .i64 y), (8, 11, .int .i64 x), (9, 12, .int .i64 y)] [] [⟨g, 999, #[.int .i64 0, .int .i64 x, .int .i64 1, .int .i64 0, .int .i64 u, .int .i64 m, .int .i64 v, .int .i64 n], #[.int .i64 0, .int .i64 x, .int .i64 1, .int .i64 0, .int .i64 u, .int .i64 m, .int .i64 v, .int .i64 n]⟩, ⟨w.heap.size + 2, 999, #[.int .i64 u, .int .i64 m, .int .i64 v, .int .i64 n], #[.int .i64 u, .int .i64 m, .int .i64 v, .int .i64 n]⟩, ⟨w.heap.size + 1, 999, #[.int .i64 0, .int .i64 x, .int .i64 1, .int .i64 0], #[.int .i64 0, .int .i64 x, .int .i64 1, .int .i64 0]⟩, ⟨w.heap.size, 999, #[.int .i64 a, .int .i64 b], #[.int .i64 a, .int .i64 b]⟩] [43, 44, 45, 46, 47, 48, 49, 50, 11, 12] ?_ (by kernel_rfl) (by kernel_rfl) (by kernel_rfl) ?_ (forall_ops ⟨?_, ?_, ?_, ?_, ?_, ?_, ?_, ?_, ?_, ?_, trivial⟩) ?_
    · exact HB.out.below.size
    · intro c hc
      simp only [List.mem_cons, List.not_mem_nil, or_false] at hc
      rcases hc with rfl | rfl | rfl | rfl
      · exact ⟨(HB.out.own _ (List.mem_cons_self ..)).2, .inr rfl⟩
      · exact ⟨(HB.out.own _ (List.mem_cons_of_mem _ (List.mem_cons_self ..))).2, .inr rfl⟩
      · exact ⟨(HB.out.own _ (List.mem_cons_of_mem _ (List.mem_cons_of_mem _ (List.mem_cons_self ..)))).2, .inr rfl⟩
      · exact ⟨(HB.out.own _ (List.mem_cons_of_mem _ (List.mem_cons_of_mem _ (List.mem_cons_of_mem _ (List.mem_cons_self ..))))).2, .inr rfl⟩
    · refine .inl ⟨.inl rfl, .inl ⟨.pointer (some ⟨w.heap.size, 0, none⟩), by simp, by simp, by simp, fun y W hB hO hV K Q' hK => ?_⟩⟩
      simp only [fr, putAll, List.foldl_cons, List.foldl_nil, List.setIfInBounds_toArray, List.set_cons_zero, List.set_cons_succ] at hK ⊢
      go_simp
      exact hK W (Below.refl _ _)
    · refine .inl ⟨.inl rfl, .inl ⟨.int .i64 a, by simp, by simp, by simp, fun y W hB hO hV K Q' hK => ?_⟩⟩
      have y43 := hV _ (List.mem_cons_self ..) (by kernel_rfl)
      have hc : Cells W (w.heap.size) #[.int .i64 a, .int .i64 b] := hO _ (List.mem_cons_of_mem _ (List.mem_cons_of_mem _ (List.mem_cons_of_mem _ (List.mem_cons_self ..)))) rfl
      have kk := hc.two
      have k0 := kk.1
      have k1 := kk.2
      clear kk
      simp only [fr, putAll, List.foldl_cons, List.foldl_nil, List.setIfInBounds_toArray, List.set_cons_zero, List.set_cons_succ] at hK ⊢
      simp only [y43] at hK ⊢
      go_simp
      exact hK W (Below.refl _ _)
    · refine .inl ⟨.inl rfl, .inl ⟨.int .i64 p, by simp, by simp, by simp, fun y W hB hO hV K Q' hK => ?_⟩⟩
      simp only [fr, putAll, List.foldl_cons, List.foldl_nil, List.setIfInBounds_toArray, List.set_cons_zero, List.set_cons_succ] at hK ⊢
      go_simp
      exact hK W (Below.refl _ _)
    · refine .inl ⟨.inl rfl, .inl ⟨.int .i64 x, by simp, by simp, by simp, fun y W hB hO hV K Q' hK => ?_⟩⟩
      have y44 := hV _ (List.mem_cons_of_mem _ (List.mem_cons_self ..)) (by kernel_rfl)
      have y45 := hV _ (List.mem_cons_of_mem _ (List.mem_cons_of_mem _ (List.mem_cons_self ..))) (by kernel_rfl)
      simp only [fr, putAll, List.foldl_cons, List.foldl_nil, List.setIfInBounds_toArray, List.set_cons_zero, List.set_cons_succ] at hK ⊢
      simp only [y44, y45] at hK ⊢
      go_simp
      refine (HMa.out _).mono ?_
      intro e w' h
      rw [h.1]
      exact hK w' h.2
    · refine .inl ⟨.inl rfl, .inl ⟨.pointer (some ⟨w.heap.size, 1, none⟩), by simp, by simp, by simp, fun y W hB hO hV K Q' hK => ?_⟩⟩
      simp only [fr, putAll, List.foldl_cons, List.foldl_nil, List.setIfInBounds_toArray, List.set_cons_zero, List.set_cons_succ] at hK ⊢
      go_simp
      exact hK W (Below.refl _ _)
    · refine .inl ⟨.inl rfl, .inl ⟨.int .i64 b, by simp, by simp, by simp, fun y W hB hO hV K Q' hK => ?_⟩⟩
      have y47 := hV _ (List.mem_cons_of_mem _ (List.mem_cons_of_mem _ (List.mem_cons_of_mem _ (List.mem_cons_of_mem _ (List.mem_cons_self ..))))) (by kernel_rfl)
      have hc : Cells W (w.heap.size) #[.int .i64 a, .int .i64 b] := hO _ (List.mem_cons_of_mem _ (List.mem_cons_of_mem _ (List.mem_cons_of_mem _ (List.mem_cons_self ..)))) rfl
      have kk := hc.two
      have k0 := kk.1
      have k1 := kk.2
      clear kk
      simp only [fr, putAll, List.foldl_cons, List.foldl_nil, List.setIfInBounds_toArray, List.set_cons_zero, List.set_cons_succ] at hK ⊢
      simp only [y47] at hK ⊢
      go_simp
      exact hK W (Below.refl _ _)
    · refine .inl ⟨.inl rfl, .inl ⟨.int .i64 p, by simp, by simp, by simp, fun y W hB hO hV K Q' hK => ?_⟩⟩
      simp only [fr, putAll, List.foldl_cons, List.foldl_nil, List.setIfInBounds_toArray, List.set_cons_zero, List.set_cons_succ] at hK ⊢
      go_simp
      exact hK W (Below.refl _ _)
    · refine .inl ⟨.inl rfl, .inl ⟨.int .i64 y, by simp, by simp, by simp, fun y W hB hO hV K Q' hK => ?_⟩⟩
      have y48 := hV _ (List.mem_cons_of_mem _ (List.mem_cons_of_mem _ (List.mem_cons_of_mem _ (List.mem_cons_of_mem _ (List.mem_cons_of_mem _ (List.mem_cons_self ..)))))) (by kernel_rfl)
      have y49 := hV _ (List.mem_cons_of_mem _ (List.mem_cons_of_mem _ (List.mem_cons_of_mem _ (List.mem_cons_of_mem _ (List.mem_cons_of_mem _ (List.mem_cons_of_mem _ (List.mem_cons_self ..))))))) (by kernel_rfl)
      simp only [fr, putAll, List.foldl_cons, List.foldl_nil, List.setIfInBounds_toArray, List.set_cons_zero, List.set_cons_succ] at hK ⊢
      simp only [y48, y49] at hK ⊢
      go_simp
      refine (HMb.out _).mono ?_
      intro e w' h
      rw [h.1]
      exact hK w' h.2
    · refine .inl ⟨.inl rfl, .inl ⟨.int .i64 x, by simp, by simp, by simp, fun y W hB hO hV K Q' hK => ?_⟩⟩
      have y46 := hV _ (List.mem_cons_of_mem _ (List.mem_cons_of_mem _ (List.mem_cons_of_mem _ (List.mem_cons_self ..)))) (by kernel_rfl)
      simp only [fr, putAll, List.foldl_cons, List.foldl_nil, List.setIfInBounds_toArray, List.set_cons_zero, List.set_cons_succ] at hK ⊢
      simp only [y46] at hK ⊢
      go_simp
      exact hK W (Below.refl _ _)
    · refine .inl ⟨.inl rfl, .inl ⟨.int .i64 y, by simp, by simp, by simp, fun y W hB hO hV K Q' hK => ?_⟩⟩
      have y50 := hV _ (List.mem_cons_of_mem _ (List.mem_cons_of_mem _ (List.mem_cons_of_mem _ (List.mem_cons_of_mem _ (List.mem_cons_of_mem _ (List.mem_cons_of_mem _ (List.mem_cons_of_mem _ (List.mem_cons_self ..)))))))) (by kernel_rfl)
      simp only [fr, putAll, List.foldl_cons, List.foldl_nil, List.setIfInBounds_toArray, List.set_cons_zero, List.set_cons_succ] at hK ⊢
      simp only [y50] at hK ⊢
      go_simp
      exact hK W (Below.refl _ _)
    intro y W7 hB hO hV hX hA
    have y43 := hV _ (List.mem_cons_self ..)
    dsimp only at y43
    have y44 := hV _ (List.mem_cons_of_mem _ (List.mem_cons_self ..))
    dsimp only at y44
    have y45 := hV _ (List.mem_cons_of_mem _ (List.mem_cons_of_mem _ (List.mem_cons_self ..)))
    dsimp only at y45
    have y46 := hV _ (List.mem_cons_of_mem _ (List.mem_cons_of_mem _ (List.mem_cons_of_mem _ (List.mem_cons_self ..))))
    dsimp only at y46
    have y47 := hV _ (List.mem_cons_of_mem _ (List.mem_cons_of_mem _ (List.mem_cons_of_mem _ (List.mem_cons_of_mem _ (List.mem_cons_self ..)))))
    dsimp only at y47
    have y48 := hV _ (List.mem_cons_of_mem _ (List.mem_cons_of_mem _ (List.mem_cons_of_mem _ (List.mem_cons_of_mem _ (List.mem_cons_of_mem _ (List.mem_cons_self ..))))))
    dsimp only at y48
    have y49 := hV _ (List.mem_cons_of_mem _ (List.mem_cons_of_mem _ (List.mem_cons_of_mem _ (List.mem_cons_of_mem _ (List.mem_cons_of_mem _ (List.mem_cons_of_mem _ (List.mem_cons_self ..)))))))
    dsimp only at y49
    have y50 := hV _ (List.mem_cons_of_mem _ (List.mem_cons_of_mem _ (List.mem_cons_of_mem _ (List.mem_cons_of_mem _ (List.mem_cons_of_mem _ (List.mem_cons_of_mem _ (List.mem_cons_of_mem _ (List.mem_cons_self ..))))))))
    dsimp only at y50
    have y11 := hV _ (List.mem_cons_of_mem _ (List.mem_cons_of_mem _ (List.mem_cons_of_mem _ (List.mem_cons_of_mem _ (List.mem_cons_of_mem _ (List.mem_cons_of_mem _ (List.mem_cons_of_mem _ (List.mem_cons_of_mem _ (List.mem_cons_self ..)))))))))
    dsimp only at y11
    have y12 := hV _ (List.mem_cons_of_mem _ (List.mem_cons_of_mem _ (List.mem_cons_of_mem _ (List.mem_cons_of_mem _ (List.mem_cons_of_mem _ (List.mem_cons_of_mem _ (List.mem_cons_of_mem _ (List.mem_cons_of_mem _ (List.mem_cons_of_mem _ (List.mem_cons_self ..))))))))))
    dsimp only at y12
    have ho0 := hO _ (List.mem_cons_self ..)
    have ho1 := hO _ (List.mem_cons_of_mem _ (List.mem_cons_self ..))
    have ho2 := hO _ (List.mem_cons_of_mem _ (List.mem_cons_of_mem _ (List.mem_cons_self ..)))
    have ho3 := hO _ (List.mem_cons_of_mem _ (List.mem_cons_of_mem _ (List.mem_cons_of_mem _ (List.mem_cons_self ..))))
    dsimp only at ho0 ho1 ho2 ho3
    have HB7 := Lib.hid (show Bx w [(g, #[.int .i64 0, .int .i64 x, .int .i64 1, .int .i64 0, .int .i64 u, .int .i64 m, .int .i64 v, .int .i64 n]), (w.heap.size + 2, #[.int .i64 u, .int .i64 m, .int .i64 v, .int .i64 n]), (w.heap.size + 1, #[.int .i64 0, .int .i64 x, .int .i64 1, .int .i64 0]), (w.heap.size, #[.int .i64 a, .int .i64 b])] W7 from (((((Bx.nil (HB.out.below.trans hB)).cons (HB.out.own _ (List.mem_cons_of_mem _ (List.mem_cons_of_mem _ (List.mem_cons_of_mem _ (List.mem_cons_self ..))))).1 ho3).cons (HB.out.own _ (List.mem_cons_of_mem _ (List.mem_cons_of_mem _ (List.mem_cons_self ..)))).1 ho2).cons (HB.out.own _ (List.mem_cons_of_mem _ (List.mem_cons_self ..))).1 ho1).cons (HB.out.own _ (List.mem_cons_self ..)).1 ho0))
    simp only [fr, putAll, List.foldl_cons, List.foldl_nil, List.setIfInBounds_toArray, List.set_cons_zero, List.set_cons_succ]
    simp only [y43, y44, y45, y46, y47, y48, y49, y50, y11, y12]
    clear y43 y44 y45 y46 y47 y48 y49 y50 y11 y12  hB hO hV hX hA ho0 ho1 ho2 ho3
    clear HB
    go_upto_region 8 with fail
    refine wp_region_inv (w.heap.size) [(0, 51, .agg #[.int .i64 0, .int .i64 x, .int .i64 1, .int .i64 0]), (1, 52, .agg #[.int .i64 u, .int .i64 m, .int .i64 v, .int .i64 n]), (2, 53, .int .i64 p), (3, 54, .agg #[.int .i64 c1, .int .i64 c2, .int .i64 u, .int .i64 m]), (4, 55, .agg #[.int .i64 u, .int .i64 m, .int .i64 v, .int .i64 n]), (5, 56, .agg #[.int .i64 0, .int .i64 x, .int .i64 1, .int .i64 0]), (6, 57, .int .i64 p), (7, 58, .agg #[.int .i64 m, .int .i64 d2, .int .i64 n, .int .i64 d4])] [⟨8, 13, 10, #[.int .i64 0, .int .i64 0, .int .i64 0, .int .i64 0], #[.int .i64 c1, .int .i64 c2, .int .i64 u, .int .i64 m]⟩, ⟨9, 14, 11, #[.int .i64 0, .int .i64 0, .int .i64 0, .int .i64 0], #[.int .i64 m, .int .i64 d2, .int .i64 n, .int .i64 d4]⟩] [⟨g, 999, #[.int .i64 0, .int .i64 x, .int .i64 1, .int .i64 0, .int .i64 u, .int .i64 m, .int .i64 v, .int .i64 n], #[.int .i64 0, .int .i64 x, .int .i64 1, .int .i64 0, .int .i64 u, .int .i64 m, .int .i64 v, .int .i64 n]⟩, ⟨w.heap.size + 2, 999, #[.int .i64 u, .int .i64 m, .int .i64 v, .int .i64 n], #[.int .i64 u, .int .i64 m, .int .i64 v, .int .i64 n]⟩, ⟨w.heap.size + 1, 999, #[.int .i64 0, .int .i64 x, .int .i64 1, .int .i64 0], #[.int .i64 0, .int .i64 x, .int .i64 1, .int .i64 0]⟩, ⟨w.heap.size, 999, #[.int .i64 a, .int .i64 b], #[.int .i64 a, .int .i64 b]⟩] [51, 52, 53, 54, 55, 56, 57, 58, 13, 14] ?_ (by kernel_rfl) (by kernel_rfl) (by kernel_rfl) ?_ (forall_ops ⟨?_, ?_, ?_, ?_, ?_, ?_, ?_, ?_, ?_, ?_, ?_, ?_, trivial⟩) ?_
    · exact HB7.out.below.size
    · intro c hc
      simp only [List.mem_cons, List.not_mem_nil, or_false] at hc
      rcases hc with rfl | rfl | rfl | rfl
      · exact ⟨(HB7.out.own _ (List.mem_cons_self ..)).2, .inr rfl⟩
      · exact ⟨(HB7.out.own _ (List.mem_cons_of_mem _ (List.mem_cons_self ..))).2, .inr rfl⟩
      · exact ⟨(HB7.out.own _ (List.mem_cons_of_mem _ (List.mem_cons_of_mem _ (List.mem_cons_self ..)))).2, .inr rfl⟩
      · exact ⟨(HB7.out.own _ (List.mem_cons_of_mem _ (List.mem_cons_of_mem _ (List.mem_cons_of_mem _ (List.mem_cons_self ..))))).2, .inr rfl⟩
    · refine .inl ⟨.inl rfl, .inl ⟨.agg #[.int .i64 0, .int .i64 x, .int .i64 1, .int .i64 0], by simp, by simp, by simp, fun y W hB hO hV K Q' hK => ?_⟩⟩
      have hc : Cells W (w.heap.size + 1) #[.int .i64 0, .int .i64 x, .int .i64 1, .int .i64 0] := hO _ (List.mem_cons_of_mem _ (List.mem_cons_of_mem _ (List.mem_cons_self ..))) rfl
      have kk := hc.four
      have k0 := kk.1
      have k1 := kk.2.1
      have k2 := kk.2.2.1
      have k3 := kk.2.2.2
      clear kk
      simp only [fr, putAll, List.foldl_cons, List.foldl_nil, List.setIfInBounds_toArray, List.set_cons_zero, List.set_cons_succ] at hK ⊢
      go_simp
      exact hK W (Below.refl _ _)
    · refine .inl ⟨.inl rfl, .inl ⟨.agg #[.int .i64 u, .int .i64 m, .int .i64 v, .int .i64 n], by simp, by simp, by simp, fun y W hB hO hV K Q' hK => ?_⟩⟩
      have hc : Cells W (w.heap.size + 2) #[.int .i64 u, .int .i64 m, .int .i64 v, .int .i64 n] := hO _ (List.mem_cons_of_mem _ (List.mem_cons_self ..)) rfl
      have kk := hc.four
      have k0 := kk.1
      have k1 := kk.2.1
      have k2 := kk.2.2.1
      have k3 := kk.2.2.2
      clear kk
      simp only [fr, putAll, List.foldl_cons, List.foldl_nil, List.setIfInBounds_toArray, List.set_cons_zero, List.set_cons_succ] at hK ⊢
      go_simp
      exact hK W (Below.refl _ _)
    · refine .inl ⟨.inl rfl, .inl ⟨.int .i64 p, by simp, by simp, by simp, fun y W hB hO hV K Q' hK => ?_⟩⟩
      simp only [fr, putAll, List.foldl_cons, List.foldl_nil, List.setIfInBounds_toArray, List.set_cons_zero, List.set_cons_succ] at hK ⊢
      go_simp
      exact hK W (Below.refl _ _)
    · refine .inl ⟨.inl rfl, .inl ⟨.agg #[.int .i64 c1, .int .i64 c2, .int .i64 u, .int .i64 m], by simp, by simp, by simp, fun y W hB hO hV K Q' hK => ?_⟩⟩
      have y51 := hV _ (List.mem_cons_self ..) (by kernel_rfl)
      have y52 := hV _ (List.mem_cons_of_mem _ (List.mem_cons_self ..)) (by kernel_rfl)
      have y53 := hV _ (List.mem_cons_of_mem _ (List.mem_cons_of_mem _ (List.mem_cons_self ..))) (by kernel_rfl)
      simp only [fr, putAll, List.foldl_cons, List.foldl_nil, List.setIfInBounds_toArray, List.set_cons_zero, List.set_cons_succ] at hK ⊢
      simp only [y51, y52, y53] at hK ⊢
      go_simp
      refine (HIJ.out _).mono ?_
      intro e w' h
      rw [h.1]
      exact hK w' h.2
    · refine .inl ⟨.inl rfl, .inl ⟨.agg #[.int .i64 u, .int .i64 m, .int .i64 v, .int .i64 n], by simp, by simp, by simp, fun y W hB hO hV K Q' hK => ?_⟩⟩
      have hc : Cells W (w.heap.size + 2) #[.int .i64 u, .int .i64 m, .int .i64 v, .int .i64 n] := hO _ (List.mem_cons_of_mem _ (List.mem_cons_self ..)) rfl
      have kk := hc.four
      have k0 := kk.1
      have k1 := kk.2.1
      have k2 := kk.2.2.1
      have k3 := kk.2.2.2
      clear kk
      simp only [fr, putAll, List.foldl_cons, List.foldl_nil, List.setIfInBounds_toArray, List.set_cons_zero, List.set_cons_succ] at hK ⊢
      go_simp
      exact hK W (Below.refl _ _)
    · refine .inl ⟨.inl rfl, .inl ⟨.agg #[.int .i64 0, .int .i64 x, .int .i64 1, .int .i64 0], by simp, by simp, by simp, fun y W hB hO hV K Q' hK => ?_⟩⟩
      have hc : Cells W (w.heap.size + 1) #[.int .i64 0, .int .i64 x, .int .i64 1, .int .i64 0] := hO _ (List.mem_cons_of_mem _ (List.mem_cons_of_mem _ (List.mem_cons_self ..))) rfl
      have kk := hc.four
      have k0 := kk.1
      have k1 := kk.2.1
      have k2 := kk.2.2.1
      have k3 := kk.2.2.2
      clear kk
      simp only [fr, putAll, List.foldl_cons, List.foldl_nil, List.setIfInBounds_toArray, List.set_cons_zero, List.set_cons_succ] at hK ⊢
      go_simp
      exact hK W (Below.refl _ _)
    · refine .inl ⟨.inl rfl, .inl ⟨.int .i64 p, by simp, by simp, by simp, fun y W hB hO hV K Q' hK => ?_⟩⟩
      simp only [fr, putAll, List.foldl_cons, List.foldl_nil, List.setIfInBounds_toArray, List.set_cons_zero, List.set_cons_succ] at hK ⊢
      go_simp
      exact hK W (Below.refl _ _)
    · refine .inl ⟨.inl rfl, .inl ⟨.agg #[.int .i64 m, .int .i64 d2, .int .i64 n, .int .i64 d4], by simp, by simp, by simp, fun y W hB hO hV K Q' hK => ?_⟩⟩
      have y55 := hV _ (List.mem_cons_of_mem _ (List.mem_cons_of_mem _ (List.mem_cons_of_mem _ (List.mem_cons_of_mem _ (List.mem_cons_self ..))))) (by kernel_rfl)
      have y56 := hV _ (List.mem_cons_of_mem _ (List.mem_cons_of_mem _ (List.mem_cons_of_mem _ (List.mem_cons_of_mem _ (List.mem_cons_of_mem _ (List.mem_cons_self ..)))))) (by kernel_rfl)
      have y57 := hV _ (List.mem_cons_of_mem _ (List.mem_cons_of_mem _ (List.mem_cons_of_mem _ (List.mem_cons_of_mem _ (List.mem_cons_of_mem _ (List.mem_cons_of_mem _ (List.mem_cons_self ..))))))) (by kernel_rfl)
      simp only [fr, putAll, List.foldl_cons, List.foldl_nil, List.setIfInBounds_toArray, List.set_cons_zero, List.set_cons_succ] at hK ⊢
      simp only [y55, y56, y57] at hK ⊢
      go_simp
      refine (HJI.out _).mono ?_
      intro e w' h
      rw [h.1]
      exact hK w' h.2
    · refine .inl ⟨.inl rfl, .inr (.inl ⟨by simp, by simp, _, (List.mem_cons_self ..), rfl, by simp, by simp, 26, fun y W K Q' hK => ?_⟩)⟩
      simp only [fr, putAll, List.foldl_cons, List.foldl_nil, List.setIfInBounds_toArray, List.set_cons_zero, List.set_cons_succ] at hK ⊢
      go_simp
      exact hK
    · refine .inl ⟨.inl rfl, .inr (.inl ⟨by simp, by simp, _, (List.mem_cons_of_mem _ (List.mem_cons_self ..)), rfl, by simp, by simp, 26, fun y W K Q' hK => ?_⟩)⟩
      simp only [fr, putAll, List.foldl_cons, List.foldl_nil, List.setIfInBounds_toArray, List.set_cons_zero, List.set_cons_succ] at hK ⊢
      go_simp
      exact hK
    · refine .inl ⟨.inl rfl, .inr (.inr (.inl ⟨by simp, by simp, _, (List.mem_cons_self ..), rfl, by simp, by simp, by kernel_rfl, fun y W g hB hV hg hgw hc K Q' hK => ?_⟩))⟩
      have y54 := hV _ (List.mem_cons_of_mem _ (List.mem_cons_of_mem _ (List.mem_cons_of_mem _ (List.mem_cons_self ..)))) (by kernel_rfl)
      have kk := hc.four
      have k0 := kk.1
      have k1 := kk.2.1
      have k2 := kk.2.2.1
      have k3 := kk.2.2.2
      clear kk
      have kk := hc.fr
      have f0 := kk.1
      have f1 := kk.2.1
      have f2 := kk.2.2.1
      have f3 := kk.2.2.2.1
      have f4 := kk.2.2.2.2
      clear kk
      dsimp only at hg
      simp only [fr, putAll, List.foldl_cons, List.foldl_nil, List.setIfInBounds_toArray, List.set_cons_zero, List.set_cons_succ] at hK ⊢
      simp only [hg, y54] at hK ⊢
      go_simp
      exact hK _ (hc.put4 (.int .i64 c1) (.int .i64 c2) (.int .i64 u) (.int .i64 m)) (Only.put4 ..)
    · refine .inl ⟨.inl rfl, .inr (.inr (.inl ⟨by simp, by simp, _, (List.mem_cons_of_mem _ (List.mem_cons_self ..)), rfl, by simp, by simp, by kernel_rfl, fun y W g hB hV hg hgw hc K Q' hK => ?_⟩))⟩
      have y58 := hV _ (List.mem_cons_of_mem _ (List.mem_cons_of_mem _ (List.mem_cons_of_mem _ (List.mem_cons_of_mem _ (List.mem_cons_of_mem _ (List.mem_cons_of_mem _ (List.mem_cons_of_mem _ (List.mem_cons_self ..)))))))) (by kernel_rfl)
      have kk := hc.four
      have k0 := kk.1
      have k1 := kk.2.1
      have k2 := kk.2.2.1
      have k3 := kk.2.2.2
      clear kk
      have kk := hc.fr
      have f0 := kk.1
      have f1 := kk.2.1
      have f2 := kk.2.2.1
      have f3 := kk.2.2.2.1
      have f4 := kk.2.2.2.2
      clear kk
      dsimp only at hg
      simp only [fr, putAll, List.foldl_cons, List.foldl_nil, List.setIfInBounds_toArray, List.set_cons_zero, List.set_cons_succ] at hK ⊢
      simp only [hg, y58] at hK ⊢
      go_simp
      exact hK _ (hc.put4 (.int .i64 m) (.int .i64 d2) (.int .i64 n) (.int .i64 d4)) (Only.put4 ..)
    intro y W8 hB hO hV hX hA
    have y51 := hV _ (List.mem_cons_self ..)
    dsimp only at y51
    have y52 := hV _ (List.mem_cons_of_mem _ (List.mem_cons_self ..))
    dsimp only at y52
    have y53 := hV _ (List.mem_cons_of_mem _ (List.mem_cons_of_mem _ (List.mem_cons_self ..)))
    dsimp only at y53
    have y54 := hV _ (List.mem_cons_of_mem _ (List.mem_cons_of_mem _ (List.mem_cons_of_mem _ (List.mem_cons_self ..))))
    dsimp only at y54
    have y55 := hV _ (List.mem_cons_of_mem _ (List.mem_cons_of_mem _ (List.mem_cons_of_mem _ (List.mem_cons_of_mem _ (List.mem_cons_self ..)))))
    dsimp only at y55
    have y56 := hV _ (List.mem_cons_of_mem _ (List.mem_cons_of_mem _ (List.mem_cons_of_mem _ (List.mem_cons_of_mem _ (List.mem_cons_of_mem _ (List.mem_cons_self ..))))))
    dsimp only at y56
    have y57 := hV _ (List.mem_cons_of_mem _ (List.mem_cons_of_mem _ (List.mem_cons_of_mem _ (List.mem_cons_of_mem _ (List.mem_cons_of_mem _ (List.mem_cons_of_mem _ (List.mem_cons_self ..)))))))
    dsimp only at y57
    have y58 := hV _ (List.mem_cons_of_mem _ (List.mem_cons_of_mem _ (List.mem_cons_of_mem _ (List.mem_cons_of_mem _ (List.mem_cons_of_mem _ (List.mem_cons_of_mem _ (List.mem_cons_of_mem _ (List.mem_cons_self ..))))))))
    dsimp only at y58
    obtain ⟨g1, z0, g1l, g1c⟩ := hX _ (List.mem_cons_self ..)
    dsimp only at z0 g1c
    obtain ⟨g2, z1, g2l, g2c⟩ := hX _ (List.mem_cons_of_mem _ (List.mem_cons_self ..))
    dsimp only at z1 g2c
    have g1neg2 : g1 ≠ g2 := fun e => hA _ (List.mem_cons_self ..) _ (List.mem_cons_of_mem _ (List.mem_cons_self ..)) (by simp) (by simp only [z0, z1, e])
    have ho0 := hO _ (List.mem_cons_self ..)
    have ho1 := hO _ (List.mem_cons_of_mem _ (List.mem_cons_self ..))
    have ho2 := hO _ (List.mem_cons_of_mem _ (List.mem_cons_of_mem _ (List.mem_cons_self ..)))
    have ho3 := hO _ (List.mem_cons_of_mem _ (List.mem_cons_of_mem _ (List.mem_cons_of_mem _ (List.mem_cons_self ..))))
    dsimp only at ho0 ho1 ho2 ho3
    have HB8 := Lib.hid (show Bx w [(g2, #[.int .i64 m, .int .i64 d2, .int .i64 n, .int .i64 d4]), (g1, #[.int .i64 c1, .int .i64 c2, .int .i64 u, .int .i64 m]), (g, #[.int .i64 0, .int .i64 x, .int .i64 1, .int .i64 0, .int .i64 u, .int .i64 m, .int .i64 v, .int .i64 n]), (w.heap.size + 2, #[.int .i64 u, .int .i64 m, .int .i64 v, .int .i64 n]), (w.heap.size + 1, #[.int .i64 0, .int .i64 x, .int .i64 1, .int .i64 0]), (w.heap.size, #[.int .i64 a, .int .i64 b])] W8 from (((((((Bx.nil (HB7.out.below.trans hB)).cons (HB7.out.own _ (List.mem_cons_of_mem _ (List.mem_cons_of_mem _ (List.mem_cons_of_mem _ (List.mem_cons_self ..))))).1 ho3).cons (HB7.out.own _ (List.mem_cons_of_mem _ (List.mem_cons_of_mem _ (List.mem_cons_self ..)))).1 ho2).cons (HB7.out.own _ (List.mem_cons_of_mem _ (List.mem_cons_self ..))).1 ho1).cons (HB7.out.own _ (List.mem_cons_self ..)).1 ho0).cons (Nat.le_trans HB7.out.below.size g1l) g1c).cons (Nat.le_trans HB7.out.below.size g2l) g2c))
    simp only [fr, putAll, List.foldl_cons, List.foldl_nil, List.setIfInBounds_toArray, List.set_cons_zero, List.set_cons_succ]
    simp only [y51, y52, y53, y54, y55, y56, y57, y58, z0, z1]
    clear y51 y52 y53 y54 y55 y56 y57 y58 z0 z1 g1l g1c g2l g2c hB hO hV hX hA ho0 ho1 ho2 ho3
    clear HB7
    obtain ⟨A0_0, A0_1, A0_2, A0_3⟩ := HB8.out.four (List.mem_cons_self ..)
    obtain ⟨A1_0, A1_1, A1_2, A1_3⟩ := HB8.out.four (List.mem_cons_of_mem _ (List.mem_cons_self ..))
    obtain ⟨A3_0, A3_1, A3_2, A3_3⟩ := HB8.out.four (List.mem_cons_of_mem _ (List.mem_cons_of_mem _ (List.mem_cons_of_mem _ (List.mem_cons_self ..))))
    obtain ⟨A4_0, A4_1, A4_2, A4_3⟩ := HB8.out.four (List.mem_cons_of_mem _ (List.mem_cons_of_mem _ (List.mem_cons_of_mem _ (List.mem_cons_of_mem _ (List.mem_cons_self ..)))))
    go_wp2_with fail
    refine (HII.out _).mono ?_
    rintro e8 w8 ⟨rfl, hbb⟩
    have HB9 := Lib.hid (HB8.out.keep hbb)
    clear hbb HB8 A0_0 A0_1 A0_2 A0_3 A1_0 A1_1 A1_2 A1_3 A3_0 A3_1 A3_2 A3_3 A4_0 A4_1 A4_2 A4_3
    obtain ⟨B0_0, B0_1, B0_2, B0_3⟩ := HB9.out.four (List.mem_cons_self ..)
    obtain ⟨B1_0, B1_1, B1_2, B1_3⟩ := HB9.out.four (List.mem_cons_of_mem _ (List.mem_cons_self ..))
    obtain ⟨B3_0, B3_1, B3_2, B3_3⟩ := HB9.out.four (List.mem_cons_of_mem _ (List.mem_cons_of_mem _ (List.mem_cons_of_mem _ (List.mem_cons_self ..))))
    obtain ⟨B4_0, B4_1, B4_2, B4_3⟩ := HB9.out.four (List.mem_cons_of_mem _ (List.mem_cons_of_mem _ (List.mem_cons_of_mem _ (List.mem_cons_of_mem _ (List.mem_cons_self ..)))))
    go_wp2_with fail
    refine (HJJ.out _).mono ?_
    rintro e9 w9 ⟨rfl, hbb⟩
    have HB10 := Lib.hid (HB9.out.keep hbb)
    clear hbb HB9 B0_0 B0_1 B0_2 B0_3 B1_0 B1_1 B1_2 B1_3 B3_0 B3_1 B3_2 B3_3 B4_0 B4_1 B4_2 B4_3
    obtain ⟨C0_0, C0_1, C0_2, C0_3⟩ := HB10.out.four (List.mem_cons_self ..)
    obtain ⟨C1_0, C1_1, C1_2, C1_3⟩ := HB10.out.four (List.mem_cons_of_mem _ (List.mem_cons_self ..))
    obtain ⟨C3_0, C3_1, C3_2, C3_3⟩ := HB10.out.four (List.mem_cons_of_mem _ (List.mem_cons_of_mem _ (List.mem_cons_of_mem _ (List.mem_cons_self ..))))
    obtain ⟨C4_0, C4_1, C4_2, C4_3⟩ := HB10.out.four (List.mem_cons_of_mem _ (List.mem_cons_of_mem _ (List.mem_cons_of_mem _ (List.mem_cons_of_mem _ (List.mem_cons_self ..)))))
    go_wp2_with fail
    go_ret
    exact ⟨rfl, HB10.out.below⟩


end Go.Proofs.YtfjmhfmhijhpkaaDoor
