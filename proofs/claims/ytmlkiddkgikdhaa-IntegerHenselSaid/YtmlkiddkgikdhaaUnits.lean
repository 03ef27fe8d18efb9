/- units of the program: the roots of a unit modulo a prime power. -/
import Derived.Test.YtmlkiddkgikdhaaTon
import Derived.Test.YtmlkiddkgikdhaaSort
import Derived.Laws.IdiomCopy
namespace Go.Proofs.Ytmlkiddkgikdhaa
open Go.RowKit FF

theorem below_setCells {B b : Nat} (hb : B ≤ b) {a : World} : ∀ (vs : List Value) (o : Nat) (w : World), Below B a w → Below B a (w.setCells b o vs)
  | [], _, _, h => h
  | v :: r, o, w, h => below_setCells hb r (o + 1) (w.setCell ⟨b, o, none⟩ v) (h.setCell hb v)
theorem Compact_own {B : Nat} (v : Value) (xs : List Int) (w : World) (h : w.ownsRow B 3 1 v xs.length (cellsI xs)) (hl : xs.length < 4611686018427387904) (h0 : 0 < xs.length) :
    Calls Try.prog 136 #[v] w fun e w' => ∃ A c, e = .returned (.slice A (Lib.compact xs).length c) ∧ ShowsI w' A (Lib.compact xs) ∧ (Lib.compact xs).length ≤ c ∧ c ≤ maxLen ∧ Below B w w' := by
  rcases h.2 with ⟨rfl, hn⟩ | ⟨g, cap, cur, rfl, hb, hg, hnc, hcm, hcs, ht⟩
  · omega
  · have hcell : ∀ j, j < xs.length → w.cell? ⟨g, 0 + j, none⟩ = some (.int .i64 (xs.getD j 0)) := fun j hj => by
      have := h.cellAt j (by omega)
      rw [Nat.zero_add, this, cellsI_get hj]
    have hfr : ∀ j, j < xs.length → w.frozen? ⟨g, 0 + j, none⟩ = false := fun j _ => h.frozenAt _
    have hle := Lib.compact_length_le xs
    refine (Try.slices_Compact_int_cells g 0 xs.length cap xs w (Nat.le_refl _) (by omega) hnc hcell hfr).mono ?_
    rw [List.take_length]
    rintro e w' ⟨rfl, q, rfl⟩
    have hlt : g < w.heap.size := (Array.getElem?_eq_some_iff.1 hg).1
    refine ⟨some ⟨g, 0, none⟩, cap, rfl, fun _ => ⟨g, 0, rfl, ?_, fun i hi => ?_⟩, by omega, hcm, below_setCells hb _ _ _ (below_drewN (Below.refl _ _) q)⟩
    · exact Nat.lt_of_lt_of_le (show g < (w.drewN q).heap.size from hlt) (below_setCells (B := 0) (b := g) (Nat.zero_le _) (a := w.drewN q) ((Lib.compact xs ++ List.replicate (xs.length - (Lib.compact xs).length) 0).map (Value.int .i64)) 0 (w.drewN q) (Below.refl _ _)).size
    · have hlen : ((Lib.compact xs ++ List.replicate (xs.length - (Lib.compact xs).length) 0).map (Value.int .i64)).length = xs.length := by simp; omega
      rw [World.cell?_setCells_in g _ 0 (w.drewN q) (fun j hj => by rw [hlen] at hj; rw [World.cell?_drewN, hcell j hj]; rfl) i (by rw [hlen]; omega)]
      rw [List.getElem_map, List.getElem_append_left hi, List.getD_eq_getElem?_getD, List.getElem?_eq_getElem hi]
      rfl

/-- a new block of integers is a row of the call's own -/
theorem own_new (w : World) (xs : List Int) (n : Nat) (vs : Array Value) (hn : xs.length = n) (hv : vs.toList = cellsI xs) (hm : n ≤ maxLen) :
    (w.alloc (.cells vs 3)).ownsRow w.heap.size 3 1 (.slice (some ⟨w.heap.size, 0, none⟩) n n) n (cellsI xs) := by
  have hs : vs.size = n := by rw [← Array.length_toList, hv, cellsI_length, hn]
  refine ⟨by rw [cellsI_length, hn, Nat.mul_one], .inr ⟨w.heap.size, n, vs, rfl, Nat.le_refl _, ?_, Nat.le_refl _, hm, by omega, ?_⟩⟩
  · exact (MapKept.heap_alloc w _).1
  · rw [hv, Nat.mul_one, List.take_of_length_le (by rw [cellsI_length]; omega)]
theorem compact_asc {l : List Int} (h : l.Pairwise (· < ·)) : Lib.compact l = l := by
  refine Lib.compact_all l fun j hj => ?_
  by_cases h0 : j = 0
  · subst h0; simp [Lib.keeps]
  · refine Lib.keeps_pos ?_
    have h1 := List.pairwise_iff_getElem.1 h (j - 1) j (by omega) hj (by omega)
    rw [getElem!_pos _ j (by simpa using hj), getElem!_pos _ (j - 1) (by simp; omega)]
    simp
    omega
theorem sortI_roots {l : List Int} {u q : Int} (h : IsRoots l u q) : IsRoots (sortI l) u q ∧ (sortI l).Pairwise (· < ·) := by
  have hp := List.mergeSort_perm l (fun x y => decide (x ≤ y))
  have hs := List.pairwise_mergeSort (le := fun x y : Int => decide (x ≤ y)) (fun a b c h1 h2 => by simp at *; omega) (fun a b => by simp; omega) l
  have hnd : (sortI l).Nodup := hp.nodup_iff.2 h.1
  exact ⟨⟨hnd, fun y => by rw [← h.2 y]; exact hp.mem_iff⟩, List.Pairwise.imp₂ (R := fun x y => decide (x ≤ y) = true) (S := fun x y => x ≠ y) (fun {a b} h1 h2 => by simp at h1; omega) hs hnd⟩
theorem four_roots : sortI [1, 3, 3, 1] = [1, 1, 3, 3] ∧ Lib.compact [(1 : Int), 1, 3, 3] = [1, 3] := by
  refine ⟨?_, by decide⟩
  simp [sortI, List.mergeSort, List.MergeSort.Internal.splitInTwo]

/-- what units hands back -/
def UnitsPost (u q : Int) (w : World) (e : Ending) (w' : World) : Prop := ∃ (B : List Int) (A : Option Addr) (c : Nat), IsRoots B u q ∧ B.length ≤ 4 ∧ e = .returned (.slice A B.length c) ∧ ShowsI w' A B ∧ B.length ≤ c ∧ c ≤ maxLen ∧ Below w.heap.size w w'

set_option maxHeartbeats 2000000 in
set_option maxRecDepth 100000 in
theorem units_odd (u : Int) (P k : Nat) (q : Int) (w : World) (hu : I64 u) (hp : IsP P) (h2 : 2 < P) (hk : 1 ≤ k) (hq : (P : Int) ^ k = q) (hq9 : q ≤ 1000000000) (hna : ¬ (P : Int) ∣ u) :
    Calls Try.prog 91 #[.int .i64 u, .int .i64 (P : Int), .int .i64 (k : Int), .int .i64 q] w (UnitsPost u q w) := by
  have hPq : (P : Int) ≤ q := by
    rw [← hq]
    have h3 : P ^ 1 ≤ P ^ k := Nat.pow_le_pow_right (by omega) hk
    have h4 : ((P ^ 1 : Nat) : Int) ≤ ((P ^ k : Nat) : Int) := by omega
    push_cast at h4
    rwa [Int.pow_succ, Int.pow_zero, Int.one_mul] at h4
  have ho : P % 2 = 1 := hp.odd (by omega)
  have hJ := Lib.hid (fun (w : World) => by
    have := jacobi_any u (P : Int) w hu (by omega) (by omega) (by omega)
    rw [Int.toNat_natCast, jac_prime hp] at this
    exact this)
  have hM := Lib.hid (fun w => mod_any u (P : Int) w hu (by omega) ⟨by omega, by omega⟩)
  by_cases hl : leg u P = 1
  · have hleg : leg (u % P) P = 1 := by rw [← hl]; exact leg_congr (Cg.emod _ _)
    have e1 := Int.emod_nonneg u (b := (P : Int)) (by omega)
    have e2 := Int.emod_lt_of_pos u (b := (P : Int)) (by omega)
    have hR := Lib.hid (fun w => rootModulo_any (u % P) P w ⟨by omega, by omega⟩ hp h2 (by omega) hleg)
    have hL := Lib.hid (fun r w hr hrr => lift_any u r q P k w hu hr hp h2 hk hq hq9 hrr hna)
    have hB := Lib.hid (fun (x : Int) (h0 : 0 ≤ x) (h1 : x < q) (h3 : Cg q (x * x) u) => (show IsRoots [x, q - x] u q from hq ▸ unit_list hp (by omega) hk hna (x := x) (by rw [hq]; exact h3) h0 (by rw [hq]; exact h1)))
    rw [hl] at hJ
    clear hq hna hl hleg hp hu
    go_enter Try.func91, Try.ntmps91
    go_wp2_with fail
    refine (hJ.out _).mono ?_
    rintro e w' ⟨rfl, n1, rfl⟩
    go_wp2_with fail
    refine (hM.out _).mono ?_
    rintro e w' ⟨rfl, n2, rfl⟩
    go_wp2_with fail
    refine (hR.out _).mono ?_
    rintro e w' ⟨r, ⟨r0, r1, r2⟩, rfl, n3, rfl⟩
    have R2 := Lib.hid (r2.trans (Cg.emod _ _)); clear r2
    go_wp2_with fail
    refine (hL.out _ _ ⟨by omega, by omega⟩ R2.out).mono ?_
    rintro e w' ⟨x, ⟨x0, x1, x2, _⟩, rfl, n4, rfl⟩
    have HB := Lib.hid (hB.out x x0 x1 x2); clear x2 hB
    go_wp2_with fail
    go_ret
    refine ⟨[x, q - x], some ⟨w.heap.size, 0, none⟩, 2, HB.out, by simp, rfl, ?_, Nat.le_refl _, by decide, ?_⟩
    · exact ShowsI.new (w := w.drewN _) fun i hi => by match i, hi with | 0, _ => rfl | 1, _ => rfl
    · exact (below_drewN (Below.refl _ _) _).alloc (Nat.le_refl _) _
  · have hl1 : leg u P = -1 := by rcases leg_ne hna with e | e; exact absurd e hl; exact e
    have HB := Lib.hid (hq ▸ unit_none hp (by omega) hk hl1)
    have d := bne_iff_ne.2 hl
    clear hq hna hl hl1 hp hu hM
    generalize leg u P = L at *
    go_enter Try.func91, Try.ntmps91
    go_wp2_with fail
    refine (hJ.out _).mono ?_
    rintro e w' ⟨rfl, n1, rfl⟩
    go_wp2_with fail
    go_ret
    exact ⟨[], none, 0, HB.out, by decide, rfl, ShowsI.nil, Nat.le_refl _, by decide, below_drewN (Below.refl _ _) _⟩
end Go.Proofs.Ytmlkiddkgikdhaa
namespace Go.Proofs.Ytmlkiddkgikdhaa
open Go.RowKit FF
theorem two_bounds {j k : Nat} (h : j ≤ k) (hk : k ≤ 29) : (1 : Int) ≤ 2 ^ j ∧ (2 : Int) ^ j ≤ 536870912 := by
  have h1 : 2 ^ j ≤ 2 ^ 29 := Nat.pow_le_pow_right (by omega) (by omega)
  have h2 : ((2 ^ j : Nat) : Int) = 2 ^ j := by push_cast; rfl
  have h3 := two_pow_pos j
  omega
/-- what holds in the loop over powers of 2 -/
def TwoRel (u : Int) (j : Nat) (x : Int) : Prop := Cg ((2 : Int) ^ j) (x * x) u ∧ x % 2 = 1 ∧ 0 ≤ x ∧ x < (2 : Int) ^ (j - 1)

set_option maxHeartbeats 2000000 in
set_option maxRecDepth 100000 in
theorem units_two3 (u : Int) (k : Nat) (q : Int) (w : World) (hu1 : 1 ≤ u) (hu2 : u ≤ 1000000000) (ho : u % 2 = 1) (hk : 3 ≤ k) (hq : (2 : Int) ^ k = q) (hq9 : q ≤ 1000000000) :
    Calls Try.prog 91 #[.int .i64 u, .int .i64 2, .int .i64 (k : Int), .int .i64 q] w (UnitsPost u q w) := by
  have hqn : ((2 ^ k : Nat) : Int) = q := by rw [← hq]; push_cast; rfl
  have q8 : 8 ≤ q := by
    have h3 : 2 ^ 3 ≤ 2 ^ k := Nat.pow_le_pow_right (by omega) hk
    omega
  have hk30 : k ≤ 29 := by
    rcases Nat.lt_or_ge 29 k with g | g
    · exfalso
      have h3 : 2 ^ 30 ≤ 2 ^ k := Nat.pow_le_pow_right (by omega) g
      omega
    · exact g
  have hmin : min q 8 = 8 := by omega
  have hmin2 : min (2 ^ k : Int) 8 = 8 := by rw [hq]; exact hmin
  have hM := Lib.hid (fun (b m : Int) (w : World) (h1 : I64 b) (h2 : 1 ≤ m) (h3 : m ≤ 1000000000) => mod_any b m w h1 (by omega) ⟨by omega, by omega⟩)
  by_cases h8 : u % 8 = 1
  · have d1 := t_beq h8
    have d2 : (u % 8 != 1) = false := by rw [bne_eq_false_iff_eq]; exact h8
    have d4 := f_beq (a := q) (b := 2) (by omega)
    have HT := Lib.hid (show TwoRel u 3 1 from ⟨Cg.of_emod (by rw [show (2 : Int) ^ 3 = 8 by decide]; omega), by omega, by omega, by decide⟩)
    clear h8
    go_enter Try.func91, Try.ntmps91
    go_wp2_with fail
    refine (hM.out _ _ _ ⟨by omega, by omega⟩ (by omega) (by omega)).mono ?_
    rintro e w' ⟨rfl, n1, rfl⟩
    go_wp2_with fail
    go_loopw [10, 11] (fun s10 s11 wr => ∃ (x : Int) (j : Nat), s10 = .int .i64 x ∧ s11 = .int .i64 j ∧ 3 ≤ j ∧ j ≤ k ∧ TwoRel u j x ∧ ∃ n, wr = w.drewN n) (fun _ s11 _ => k - (intOf s11).toNat)
    case atStart => exact ⟨1, 3, rfl, rfl, by omega, hk, HT.out, _, rfl⟩
    case round =>
      obtain ⟨x, j, rfl, rfl, j3, jk, hT, n2, rfl⟩ := hrel
      have HT := Lib.hid hT; clear hT
      by_cases hlt : j < k
      · obtain ⟨b1, b2⟩ := two_bounds (j := j) (k := k) (by omega) hk30
        obtain ⟨b3, b4⟩ := two_bounds (j := j + 1) (k := k) (by omega) hk30
        obtain ⟨b5, b6⟩ := two_bounds (j := j - 1) (k := k) (by omega) hk30
        have x0 := HT.out.2.2.1; have x1 := HT.out.2.2.2
        have x2 : x < 1000000000 := by omega
        obtain ⟨g1, g2⟩ := mul_le_sq x0 x2 x0 x2 (by omega)
        have hex : Cg ((2 : Int) ^ (j + 1)) (x * x) u ↔ (x * x - u) % (2 : Int) ^ (j + 1) = 0 := ⟨fun h => Int.emod_eq_zero_of_dvd h, fun h => Int.dvd_of_emod_eq_zero h⟩
        have HS := Lib.hid (two_step j3 HT.out.1 HT.out.2.1)
        by_cases hz : (x * x - u) % (2 : Int) ^ (j + 1) = 0
        · have HN := Lib.hid (show TwoRel u (j + 1) x from ⟨hex.2 hz, HT.out.2.1, x0, by rw [show j + 1 - 1 = j - 1 + 1 by omega, Int.pow_succ]; omega⟩)
          have d3 : ((x * x - u) % (2 : Int) ^ (j + 1) != 0) = false := by rw [bne_eq_false_iff_eq]; exact hz
          clear hz hex HS
          go_wp2_with fail
          refine (hM.out _ _ _ ⟨by omega, by omega⟩ (by omega) (by omega)).mono ?_
          rintro e w' ⟨rfl, n3, rfl⟩
          go_wp2_with fail
          exact ⟨⟨x, j + 1, rfl, by go_num, by omega, by omega, HN.out, _, rfl⟩, by simp [intOf]; omega⟩
        · have HN := Lib.hid (show TwoRel u (j + 1) (x + 2 ^ (j - 1)) from by
            rcases HS.out with h | ⟨_, h, h'⟩
            · exact absurd (hex.1 h) hz
            · exact ⟨h, h', by omega, by rw [show j + 1 - 1 = j - 1 + 1 by omega, Int.pow_succ]; omega⟩)
          have d3 := bne_iff_ne.2 hz
          clear hz hex HS
          go_wp2_with fail
          refine (hM.out _ _ _ ⟨by omega, by omega⟩ (by omega) (by omega)).mono ?_
          rintro e w' ⟨rfl, n3, rfl⟩
          go_wp2_with fail
          exact ⟨⟨_, j + 1, rfl, by go_num, by omega, by omega, HN.out, _, rfl⟩, by simp [intOf]; omega⟩
      · obtain rfl : j = k := by omega
        have x0 := HT.out.2.2.1; have x1 := HT.out.2.2.2; have xo := HT.out.2.1
        have hh : (2 : Int) ^ (j - 1) = q / 2 := by
          have := pow_two_split (k := j) (by omega)
          omega
        rw [hh] at x1
        have HL := Lib.hid (show IsRoots [x, q - x, x + q / 2, q / 2 - x] u q from by
          have := two_list hk HT.out.1 xo x0 (by rw [hh]; exact x1)
          rw [hq, hh] at this; exact this)
        have M1 := Lib.hid (show (x + q / 2) % q = x + q / 2 from Int.emod_eq_of_lt (by omega) (by omega))
        have M2 := Lib.hid (show (q / 2 - x) % q = q / 2 - x from Int.emod_eq_of_lt (by omega) (by omega))
        clear hh hq hqn xo
        go_wp2_with fail
        refine (hM.out _ _ _ ⟨by omega, by omega⟩ (by omega) (by omega)).mono ?_
        rintro e w' ⟨rfl, n3, rfl⟩
        go_wp2_with fail
        refine (hM.out _ _ _ ⟨by omega, by omega⟩ (by omega) (by omega)).mono ?_
        rintro e w' ⟨rfl, n4, rfl⟩
        rw [M1.out, M2.out]
        go_wp2_with fail
        have HW := Lib.hid (own_new (w.drewN (n2 + n3 + n4)) [x, q - x, x + q / 2, q / 2 - x] 4 #[.int .i64 x, .int .i64 (q - x), .int .i64 (x + q / 2), .int .i64 (q / 2 - x)] rfl rfl (by decide))
        obtain ⟨r1, r2⟩ := sortI_roots HL.out
        refine (Sort_own _ [x, q - x, x + q / 2, q / 2 - x] _ HW.out (by simp)).mono ?_
        rintro e w5 ⟨rfl, hown5, hg5⟩
        have B5 := Lib.hid (Below.grown (B := w.heap.size) ((below_drewN (Below.refl w.heap.size w) (n2 + n3 + n4)).alloc (by simp) (.cells #[.int .i64 x, .int .i64 (q - x), .int .i64 (x + q / 2), .int .i64 (q / 2 - x)] 3)) hg5 (by simp) (fun k hk => by simp [Value.ownBlock] at hk; omega))
        have hl4 := sortI_length [x, q - x, x + q / 2, q / 2 - x]
        have HC := Lib.hid (Compact_own _ (sortI [x, q - x, x + q / 2, q / 2 - x]) w5 (by rw [hl4]; exact hown5) (by rw [hl4]; simp) (by rw [hl4]; simp))
        rw [compact_asc r2] at HC
        clear hown5 hg5 HW
        rw [show [x, q - x, x + q / 2, q / 2 - x].length = 4 from rfl] at hl4
        have HR := Lib.hid r1
        have HL4 := Lib.hid hl4
        clear r1 r2 hl4
        go_wp2_with fail
        refine HC.out.mono ?_
        rintro e w6 ⟨A, c, rfl, hs, hc1, hc2, hb6⟩
        have HS6 := Lib.hid hs; have HB6 := Lib.hid hb6; clear hs hb6
        go_wp2_with fail
        go_ret
        exact ⟨_, A, c, HR.out, by rw [HL4.out]; omega, rfl, HS6.out, hc1, hc2, B5.out.trans (HB6.out.mono (by simp))⟩
  · have HB := Lib.hid (hq ▸ two_none (k := k) (by omega) ho (by rw [hmin2]; exact h8))
    have d2 := bne_iff_ne.2 h8
    clear h8
    go_enter Try.func91, Try.ntmps91
    go_wp2_with fail
    refine (hM.out _ _ _ ⟨by omega, by omega⟩ (by omega) (by omega)).mono ?_
    rintro e w' ⟨rfl, n1, rfl⟩
    go_wp2_with fail
    go_ret
    exact ⟨[], none, 0, HB.out, by decide, rfl, ShowsI.nil, Nat.le_refl _, by decide, below_drewN (Below.refl _ _) _⟩
end Go.Proofs.Ytmlkiddkgikdhaa
namespace Go.Proofs.Ytmlkiddkgikdhaa
open Go.RowKit FF
set_option maxHeartbeats 2000000 in
set_option maxRecDepth 100000 in
theorem units_two1 (u : Int) (w : World) (hu1 : 1 ≤ u) (hu2 : u ≤ 1000000000) (ho : u % 2 = 1) :
    Calls Try.prog 91 #[.int .i64 u, .int .i64 2, .int .i64 1, .int .i64 2] w (UnitsPost u 2 w) := by
  have hM := Lib.hid (fun (w : World) => mod_any u 2 w ⟨by omega, by omega⟩ (by omega) ⟨by omega, by omega⟩)
  rw [ho] at hM
  have HB := Lib.hid (two_one ho)
  clear ho
  go_enter Try.func91, Try.ntmps91
  go_wp2_with fail
  refine (hM.out _).mono ?_
  rintro e w' ⟨rfl, n1, rfl⟩
  go_wp2_with fail
  go_ret
  refine ⟨[1], some ⟨w.heap.size, 0, none⟩, 1, HB.out, by decide, rfl, ?_, Nat.le_refl _, by decide, ?_⟩
  · exact ShowsI.new (w := w.drewN _) fun i hi => by match i, hi with | 0, _ => rfl
  · exact (below_drewN (Below.refl _ _) _).alloc (Nat.le_refl _) _

set_option maxHeartbeats 2000000 in
set_option maxRecDepth 100000 in
theorem units_two2 (u : Int) (w : World) (hu1 : 1 ≤ u) (hu2 : u ≤ 1000000000) (ho : u % 2 = 1) :
    Calls Try.prog 91 #[.int .i64 u, .int .i64 2, .int .i64 2, .int .i64 4] w (UnitsPost u 4 w) := by
  have hM := Lib.hid (fun (b : Int) (w : World) (h : I64 b) => mod_any b 4 w h (by omega) ⟨by omega, by omega⟩)
  by_cases h4 : u % 4 = 1
  · have d2 : (u % 4 != 1) = false := by rw [bne_eq_false_iff_eq]; exact h4
    have HB := Lib.hid (two_two h4)
    have d3 : ((2 : Int) != 2) = false := rfl
    clear h4
    go_enter Try.func91, Try.ntmps91
    go_wp2_with fail
    refine (hM.out _ _ ⟨by omega, by omega⟩).mono ?_
    rintro e w' ⟨rfl, n1, rfl⟩
    go_wp2_with fail
    refine wp_loop_rounds 1 ?_
    rw [rounds_succ]
    go_wp2_with fail
    refine (hM.out _ _ ⟨by omega, by omega⟩).mono ?_
    rintro e w' ⟨rfl, n3, rfl⟩
    go_wp2_with fail
    refine (hM.out _ _ ⟨by omega, by omega⟩).mono ?_
    rintro e w' ⟨rfl, n4, rfl⟩
    go_wp2_with fail
    have HW := Lib.hid (own_new (w.drewN (n1 + n3 + n4)) [1, 3, 3, 1] 4 #[.int .i64 1, .int .i64 3, .int .i64 3, .int .i64 1] rfl rfl (by decide))
    refine (Sort_own _ [1, 3, 3, 1] _ HW.out (by simp)).mono ?_
    rintro e w5 ⟨rfl, hown5, hg5⟩
    rw [four_roots.1] at hown5
    have B5 := Lib.hid (Below.grown (B := w.heap.size) ((below_drewN (Below.refl w.heap.size w) (n1 + n3 + n4)).alloc (by simp) (.cells #[.int .i64 1, .int .i64 3, .int .i64 3, .int .i64 1] 3)) hg5 (by simp) (fun k hk => by simp [Value.ownBlock] at hk; omega))
    have HC := Lib.hid (Compact_own _ [1, 1, 3, 3] w5 hown5 (by simp) (by simp))
    rw [four_roots.2] at HC
    clear hown5 hg5 HW
    go_wp2_with fail
    refine HC.out.mono ?_
    rintro e w6 ⟨A, c, rfl, hs, hc1, hc2, hb6⟩
    have HS6 := Lib.hid hs; have HB6 := Lib.hid hb6; clear hs hb6
    go_wp2_with fail
    go_ret
    exact ⟨_, A, c, HB.out, by simp, rfl, HS6.out, hc1, hc2, B5.out.trans (HB6.out.mono (by simp))⟩
  · have HB := Lib.hid (show IsRoots [] u 4 from two_none (k := 2) (by omega) ho (by rw [show min ((2 : Int) ^ 2) 8 = 4 by decide]; exact h4))
    have d2 := bne_iff_ne.2 h4
    clear h4
    go_enter Try.func91, Try.ntmps91
    go_wp2_with fail
    refine (hM.out _ _ ⟨by omega, by omega⟩).mono ?_
    rintro e w' ⟨rfl, n1, rfl⟩
    go_wp2_with fail
    go_ret
    exact ⟨[], none, 0, HB.out, by decide, rfl, ShowsI.nil, Nat.le_refl _, by decide, below_drewN (Below.refl _ _) _⟩

/-- units, for all units modulo prime powers -/
theorem units_any (u : Int) (P k : Nat) (q : Int) (w : World) (hu1 : 1 ≤ u) (hu2 : u ≤ 1000000000) (hp : IsP P) (hk : 1 ≤ k) (hq : (P : Int) ^ k = q) (hq9 : q ≤ 1000000000) (hna : ¬ (P : Int) ∣ u) :
    Calls Try.prog 91 #[.int .i64 u, .int .i64 (P : Int), .int .i64 (k : Int), .int .i64 q] w (UnitsPost u q w) := by
  by_cases h2 : P = 2
  · subst h2
    have ho : u % 2 = 1 := by
      rcases Int.emod_two_eq u with e | e
      · exact absurd (Int.dvd_of_emod_eq_zero e) hna
      · exact e
    rcases (show k = 1 ∨ k = 2 ∨ 3 ≤ k by omega) with rfl | rfl | hk3
    · have : q = 2 := by rw [← hq]; decide
      subst this; exact units_two1 u w hu1 hu2 ho
    · have : q = 4 := by rw [← hq]; decide
      subst this; exact units_two2 u w hu1 hu2 ho
    · exact units_two3 u k q w hu1 hu2 ho hk3 hq hq9
  · exact units_odd u P k q w ⟨by omega, by omega⟩ hp (by have := hp.1; omega) hk hq hq9 hna
end Go.Proofs.Ytmlkiddkgikdhaa
