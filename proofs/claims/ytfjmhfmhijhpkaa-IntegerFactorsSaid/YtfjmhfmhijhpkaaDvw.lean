/- Divisors of the program. -/
import Derived.Test.YtfjmhfmhijhpkaaDvq
import Derived.Test.YtfjmhfmhijhpkaaRdw
namespace Go.Proofs.Ytfjmhfmhijhpkaa
open Go.RowKit FF

/-- what the call answers -/
def DvPost (w : World) (n : Int) (e : Ending) (w' : World) : Prop :=
  (modB n = false ∧ e = .returned (.tuple #[.slice none 0 0, .int .i64 2]) ∧ Below w.heap.size w w') ∨
  (modB n = true ∧ ∃ v D, e = .returned (.tuple #[v, .int .i64 0]) ∧ DivL n D ∧ Row1 w.heap.size v D.length D w' ∧ Below w.heap.size w w')
/-- the cells of a list that is run through while it grows -/
def Alw (W : World) (g : Nat) (D : List Int) : Prop := g < W.heap.size ∧ ∀ k, k < D.length → W.cell? ⟨g, k, none⟩ = some (.int .i64 (D.getD k 0))
theorem Row1.below {B n : Nat} {v : Value} {xs : List Int} {w w' : World} (h : Row1 B v n xs w) (hb : Below w.heap.size w w') : Row1 B v n xs w' := by
  refine Row1.of_block h fun g hk => ?_
  have := h.row0.lt g hk
  exact hb.block g this
theorem Row1.alw {B n : Nat} {v : Value} {xs : List Int} {w : World} (h : Row1 B v n xs w) (h0 : 0 < n) : ∃ g cap, v = .slice (some ⟨g, 0, none⟩) n cap ∧ n ≤ cap ∧ cap ≤ maxLen ∧ Alw w g xs := by
  obtain ⟨g, cap, rfl, h1, h2, h3, h4⟩ := h.form h0
  obtain ⟨A, c, e, hs, -⟩ := h.shows
  injection e with e1 e2 e3
  subst e1
  have hl := h.len
  obtain ⟨b, o, e, hb, hc⟩ := hs (by omega)
  injection e with e
  injection e with e1 e2
  subst e1; subst e2
  exact ⟨g, cap, rfl, h3, h4, h2, fun k hk => by have := hc k hk; rwa [Nat.zero_add] at this⟩
theorem box_cells {W : World} {T : TypeId} {b : Nat} {x y : Int} (h : Row0 W T 2 (.slice (some ⟨b, 0, none⟩) 1 1) 1 [x, y]) : W.cell? ⟨b, 0, none⟩ = some (.int .i64 x) ∧ W.cell? ⟨b, 1, none⟩ = some (.int .i64 y) := by
  obtain ⟨A, c, e, hs, -⟩ := h.shows
  injection e with e1 e2 e3
  subst e1
  obtain ⟨b', o, e, hb, hc⟩ := hs (by simp)
  injection e with e
  injection e with e1 e2
  subst e1; subst e2
  exact ⟨hc 0 (by simp), hc 1 (by simp)⟩
theorem app_step {W wr w2 : World} {v vF vb : Value} {m l q g0 : Nat} {O D F xb : List Int} {c : Array Value} {T : TypeId} (hT : 90 ≠ 3) (hO : Row1 W.heap.size v m O wr) (hF : Row0 wr 90 2 vF l F) (hb : Row0 wr 90 2 vb q xb)
    (hA : Alw wr g0 D) (hDm : D.length ≤ m) (hB : Below W.heap.size W wr) (hg : (wr.alloc (.cells c T)).grownBy w2 v.ownBlock)
    (hc : ∀ g, v.ownBlock = some g → ∀ o, o < m → w2.cell? ⟨g, o, none⟩ = (wr.alloc (.cells c T)).cell? ⟨g, o, none⟩) :
    Row0 w2 90 2 vF l F ∧ Row0 w2 90 2 vb q xb ∧ Alw w2 g0 D ∧ Below W.heap.size W w2 := by
  have hg' := (World.grownBy_alloc wr (.cells c T) v.ownBlock).trans hg
  refine ⟨hF.beside hO.row0 hT hg', hb.beside hO.row0 hT hg', ⟨Nat.lt_of_lt_of_le hA.1 hg'.size, fun k hk => ?_⟩, hB.grown hg' hB.size (fun k hk => hO.ge k hk)⟩
  rw [← hA.2 k hk]
  by_cases he : v.ownBlock = some g0
  · rw [hc g0 he k (by omega)]
    exact World.cell?_of_block (a := ⟨g0, k, none⟩) (Below.heap_alloc wr _ g0 hA.1)
  · exact World.cell?_of_block (a := ⟨g0, k, none⟩) (hg'.block g0 hA.1 (fun e => he e.symm))

set_option maxRecDepth 100000 in
set_option maxHeartbeats 8000000 in
theorem Divisors_any (n : Int) (w : World) : Calls Try.prog 36 #[.int .i64 n] w (DvPost w n) := by
  have hM := Lib.hid (fun w => modulus_any n w)
  cases hb : modB n
  · rw [hb] at hM
    have HB := Lib.hid hb
    go_enter Try.func36, Try.ntmps36
    go_wp2_with fail
    refine (hM.out _).mono ?_
    rintro e w' ⟨rfl, n1, rfl⟩
    go_wp2_with fail
    go_ret2
    exact .inl ⟨HB.out, rfl, below_drewN (Below.refl _ _) _⟩
  · rw [hb] at hM
    have HB := Lib.hid hb
    obtain ⟨h1, h2⟩ := modB_true.1 hb
    clear hb
    obtain ⟨i0, hi, hz0, hz1, hz2⟩ := info_parts info_int
    have HI := Lib.hid hi; have HZ0 := Lib.hid hz0; have HZ1 := Lib.hid hz1; have HZ2 := Lib.hid hz2
    clear hi hz0 hz1 hz2
    have hFa := Lib.hid (fun w => factors_any n w h1 h2)
    have HAt := Lib.hid (fun i => @facs_at n h1 i)
    have hll : (facs n).length ≤ 30 := facs_len h1 h2
    have HPr := Lib.hid (show prodF ((facs n).take (facs n).length) = n by rw [List.take_length]; exact (facs_ok h1).prod)
    go_enter Try.func36, Try.ntmps36
    go_wp2_with fail
    refine (hM.out _).mono ?_
    rintro e w' ⟨rfl, n1, rfl⟩
    have HO0 := Lib.hid (Row1.lit w.heap.size (w.drewN n1) 1 (by simp))
    have HB0 := Lib.hid ((below_drewN (Below.refl w.heap.size w) n1).alloc (by simp) (.cells #[.int .i64 1] 3))
    clear hM
    go_wp2_with fail
    refine (hFa.out _).mono ?_
    rintro e V ⟨vF, rfl, hG⟩
    have HO1 := Lib.hid (HO0.out.below hG.2)
    have HB1 := Lib.hid (HB0.out.trans (hG.2.mono HB0.out.size))
    have HF1 := Lib.hid hG.row0
    obtain ⟨AF, cF, rfl, -⟩ := hG.row0.shows
    clear hG HO0 HB0 hFa
    generalize hF : facs n = F at *
    have HFe := Lib.hid hF
    clear hF
    generalize hl : F.length = l at *
    have HL := Lib.hid hl
    clear hl
    go_wp2_with fail
    obtain ⟨V0, hV0⟩ : ∃ V0 : World, V0 = V := ⟨_, rfl⟩
    subst hV0
    go_loopw [4, 18] (fun s4 s18 wr => ∃ (i m : Nat) (O : List Int), s18 = .int .i64 i ∧ i ≤ l ∧ DS (prodF (F.take i)) O ∧ (O.length : Int) ≤ prodF (F.take i) ∧ Row1 w.heap.size s4 m O wr ∧ Row0 wr 90 2 (.slice AF l cF) l (flatP F) ∧ Below w.heap.size w wr) (fun _ s18 _ => l - (RowKit.intOf s18).toNat)
    case atStart => exact ⟨0, 1, [1], rfl, Nat.zero_le _, DS.one, by simp [prodF], HO1.out, HF1.out, HB1.out⟩
    case round =>
      clear HO1 HB1 HF1
      obtain ⟨i, m, O, rfl, hi, hDS, hlen, hO, hF, hB⟩ := hrel
      have HD := Lib.hid hDS; have HO := Lib.hid hO; have HF := Lib.hid hF; have HBl := Lib.hid hB; have HLe := Lib.hid hlen
      clear hDS hF hB
      by_cases hil : i < l
      · obtain ⟨p, e, M, hpe, hM0, hM1, hpp, p2, pn, e1, M1, hnd, hle⟩ := HAt.out i hil
        have hm := hO.len
        have HDS := Lib.hid (show DS M O from hM0 ▸ HD.out)
        have hOM : (m : Int) ≤ M := by rw [← hm, ← hM0]; exact HLe.out
        have h0m : 0 < m := by rw [← hm]; exact List.length_pos_of_mem ((HDS.out.2 1).2 ⟨by omega, Int.one_dvd _⟩)
        obtain ⟨g0, cap0, e0, hc0, hc0m, hA⟩ := hO.alw h0m
        obtain rfl := e0
        obtain ⟨A', c', ee, hsF, -⟩ := HF.out.shows
        injection ee with ee1 ee2 ee3
        subst ee1; subst ee3
        obtain ⟨bf, of, rfl, hbf, hcell⟩ := hsF (by rw [flatP_len, HL.out]; omega)
        have q0 := hcell (2 * i) (by rw [flatP_len, HL.out]; omega)
        have q1 := hcell (2 * i + 1) (by rw [flatP_len, HL.out]; omega)
        rw [(flatP_get (by rw [HL.out]; exact hil)).1, hpe, Nat.mul_comm 2 i] at q0
        rw [(flatP_get (by rw [HL.out]; exact hil)).2, hpe, Nat.mul_comm 2 i, ← Nat.add_assoc] at q1
        have HA := Lib.hid hA
        have HM1 := Lib.hid hM1; have HPp := Lib.hid hpp; have HNd := Lib.hid hnd; have HLm := Lib.hid hm
        clear hcell hsF ee2 hA hM0 hM1 hpp hnd hm HD HLe hO hpe
        have he30 : e ≤ 1000000000 := by
          have t1 := succ_le_pow p2 e
          have t2 := Int.mul_le_mul_of_nonneg_right M1 (show 0 ≤ p ^ e by omega)
          omega
        obtain ⟨E, hE⟩ : ∃ E : Int, (e : Int) = E := ⟨_, rfl⟩
        go_upto_region 7 with fail
        have HE := Lib.hid hE
        have hE1 : E ≤ 1000000000 := by omega
        have hE0 : 1 ≤ E := by omega
        obtain ⟨W5, hW5⟩ : ∃ W5, wr.alloc (.cells #[.int .i64 p, .int .i64 E] 90) = W5 := ⟨_, rfl⟩
        have hbe := (Below.refl wr.heap.size wr).alloc (Nat.le_refl _) (.cells #[.int .i64 p, .int .i64 E] 90)
        have HBx5 := Lib.hid (show Row0 W5 90 2 (.slice (some ⟨wr.heap.size, 0, none⟩) 1 1) 1 [p, E] from hW5 ▸ World.ownsRow_lit wr #[.int .i64 p, .int .i64 E] 1 (Nat.zero_le _) (by unfold maxLen; omega) rfl)
        rw [hW5] at hbe ⊢
        clear hW5
        have HR5 := Lib.hid (HO.out.below hbe)
        have HF5 := Lib.hid (HF.out.keep hbe)
        have HA5 := Lib.hid (show Alw W5 g0 O from ⟨Nat.lt_of_lt_of_le HA.out.1 hbe.size, fun k hk => by rw [hbe.cell (p := ⟨g0, k, none⟩) HA.out.1]; exact HA.out.2 k hk⟩)
        have HB5 := Lib.hid (HBl.out.trans (hbe.mono HBl.out.size))
        obtain ⟨z0, z1⟩ := box_cells HBx5.out
        clear hbe HO HF HA HBl q0 q1 hE
        generalize wr.heap.size = bx at *
        have hDle := Lib.hid (fun x (hx : x ∈ O) => (show 1 ≤ x ∧ x ≤ M from ⟨((HDS.out.2 x).1 hx).1, Int.le_of_dvd (by omega) ((HDS.out.2 x).1 hx).2⟩))
        have hPle := Lib.hid (fun j (hj : j ≤ e) => (show 1 ≤ p ^ j ∧ M * p ^ j ≤ n from by
          have t0 : 0 < p ^ j := Int.pow_pos (by omega)
          have t1 : 0 < p ^ e := Int.pow_pos (by omega)
          have t2 := Int.le_of_dvd t1 (ipow_dvd p hj)
          have t3 := Int.mul_le_mul_of_nonneg_left t2 (show 0 ≤ M by omega)
          exact ⟨by omega, by omega⟩))
        go_wp2_with fail
        obtain ⟨W6, hW6⟩ : ∃ W6 : World, W6 = W5 := ⟨_, rfl⟩
        subst hW6
        go_loopw [4, 8, 25] (fun s4 s8 s25 wx => ∃ (j q : Nat) (Q : List Int), s8 = .int .i64 (p ^ j) ∧ s25 = .int .i64 j ∧ (j : Int) ≤ E ∧ DW M p j O Q ∧ Row1 w.heap.size s4 q Q wx ∧ Row0 wx 90 2 (.slice (some ⟨bf, of, none⟩) l cF) l (flatP F) ∧ Row0 wx 90 2 (.slice (some ⟨bx, 0, none⟩) 1 1) 1 [p, E] ∧ Alw wx g0 O ∧ Below w.heap.size w wx) (fun _ _ s25 _ => (E - RowKit.intOf s25).toNat)
        case atStart => exact ⟨0, m, O, by simp, rfl, by omega, DW.start HDS.out, HR5.out, HF5.out, HBx5.out, HA5.out, HB5.out⟩
        case round =>
          clear HR5 HF5 HBx5 HA5 HB5 z0 z1
          obtain ⟨j, q, Q, rfl, rfl, hj, hW, hR, hFj, hBx, hAj, hBj⟩ := hrel
          have HW := Lib.hid hW; have HR4 := Lib.hid hR; have HF4 := Lib.hid hFj; have HBx4 := Lib.hid hBx; have HA4 := Lib.hid hAj; have HB4 := Lib.hid hBj
          have hq := hR.len
          have hq1 := hW.len p2 (by rw [HLm.out]; exact hOM)
          have hq2 := (hPle.out j (by have := HE.out; omega)).2
          have hWl := hW.2
          obtain ⟨z0, z1⟩ := box_cells hBx
          rw [hq] at hq1 hWl
          rw [HLm.out] at hWl
          have hmq : m ≤ q := by rw [hWl]; exact Nat.le_mul_of_pos_right m (by omega)
          clear hW hR hFj hBx hAj hBj hq
          by_cases hjE : (j : Int) < E
          · obtain ⟨hP1, hP2⟩ := hPle.out (j + 1) (by have := HE.out; omega)
            have hPs : p ^ j * p = p ^ (j + 1) := (Int.pow_succ ..).symm
            have hPj1 := (hPle.out j (by have := HE.out; omega)).1
            have hqm : q + m ≤ 1000000000 := by
              have t1 := (DW.step HPp.out p2 HNd.out HW.out HDS.out).len p2 (by rw [HLm.out]; exact hOM)
              rw [List.length_append, List.length_map, HLm.out, HW.out.2, HLm.out, ← hWl] at t1
              omega
            have hPn : p ^ (j + 1) ≤ n := by
              have := Int.mul_le_mul_of_nonneg_right M1 (show 0 ≤ p ^ (j + 1) by omega)
              omega
            have HSt := Lib.hid (fun (h : j + 1 ≤ e) => DW.step HPp.out p2 HNd.out HW.out HDS.out)
            obtain ⟨P, hP⟩ : ∃ P, p ^ j = P := ⟨_, rfl⟩
            obtain ⟨P', hP'⟩ : ∃ P', p ^ (j + 1) = P' := ⟨_, rfl⟩
            have HPe := Lib.hid hP'
            rw [hP] at hPs hPj1 ⊢
            rw [hP'] at hPs hP1 hP2 hPn HSt
            clear hP hP'
            go_wp2_with fail
            obtain ⟨W7, hW7⟩ : ∃ W7 : World, W7 = wr := ⟨_, rfl⟩
            subst hW7
            try rw [hPs]
            go_loopw [4, 33] (fun s4 s33 wy => ∃ (k : Nat), s33 = .int .i64 k ∧ k ≤ m ∧ Row1 w.heap.size s4 (q + k) (Q ++ (O.take k).map (· * P')) wy ∧ Row0 wy 90 2 (.slice (some ⟨bf, of, none⟩) l cF) l (flatP F) ∧ Row0 wy 90 2 (.slice (some ⟨bx, 0, none⟩) 1 1) 1 [p, E] ∧ Alw wy g0 O ∧ Below w.heap.size w wy) (fun _ s33 _ => m - (RowKit.intOf s33).toNat)
            case atStart => exact ⟨0, rfl, Nat.zero_le _, by simpa using HR4.out, HF4.out, HBx4.out, HA4.out, HB4.out⟩
            case round =>
              clear HR4 HF4 HBx4 HA4 HB4 z0 z1
              obtain ⟨k, rfl, hk, hR, hFk, hBx, hAk, hBk⟩ := hrel
              have HR := Lib.hid hR; have HFk := Lib.hid hFk; have HBx := Lib.hid hBx; have HAk := Lib.hid hAk; have HBk := Lib.hid hBk
              clear hR hFk hBx hBk
              by_cases hkm : k < m
              · have y0 := hAk.2 k (by rw [HLm.out]; exact hkm)
                obtain ⟨x1, x2⟩ := hDle.out (O.getD k 0) (by rw [List.getD_eq_getElem?_getD, List.getElem?_eq_getElem (by rw [HLm.out]; exact hkm)]; exact List.getElem_mem _)
                have HN := Lib.hid (show Q ++ (O.take k).map (· * P') ++ [O.getD k 0 * P'] = Q ++ (O.take (k + 1)).map (· * P') by
                  rw [List.append_assoc, List.take_add_one, List.getElem?_eq_getElem (by rw [HLm.out]; exact hkm), List.map_append, List.getD_eq_getElem?_getD, List.getElem?_eq_getElem (by rw [HLm.out]; exact hkm)]; rfl)
                generalize O.getD k 0 = x at *
                have hx0 : 0 ≤ x * P' := Int.mul_nonneg (by omega) (by omega)
                have hx1 : x * P' ≤ 1000000000 := by
                  have := Int.mul_le_mul_of_nonneg_right x2 (show 0 ≤ P' by omega)
                  omega
                have hgs := hAk.1
                clear hAk
                go_wp2_with (at_builtin; (refine wpList_append_row (B := w.heap.size) (wr.alloc (.cells #[.int .i64 (x * P')] 3)) rfl (.tmp 37) (.tmp 41) 46 rfl i0 _ Try.underlying46 HI.out HZ0.out HZ1.out HZ2.out rfl u4 _ rfl (HR.out.kept (World.grownBy_alloc wr _ none) (fun k hk => by cases hk)) (by have := HBk.out.size; simp; omega) rfl (Row1.lit 0 wr (x * P') (Nat.zero_le _)).row0 (by omega) ?_; intro v' w2 hr2 hg2 ho2 hc2; have HR2 := Lib.hid hr2; have HX := Lib.hid (app_step (by decide) HR.out HFk.out HBx.out HAk.out (by have := HLm.out; omega) HBk.out hg2 hc2); clear hr2 hg2 ho2 hc2))
                exact ⟨⟨k + 1, by first | rfl | go_num, by omega, HN.out ▸ HR2.out, HX.out.1, HX.out.2.1, HX.out.2.2.1, HX.out.2.2.2⟩, by simp [RowKit.intOf]; omega⟩
              · obtain rfl : k = m := by omega
                have HR2 := Lib.hid (show Row1 w.heap.size u4 (q + k) (Q ++ O.map (· * P')) wr by
                  have := HR.out
                  rwa [List.take_of_length_le (by rw [HLm.out]; exact Nat.le_refl _)] at this)
                have HS2 := Lib.hid (HSt.out (by have := HE.out; omega))
                clear HR hAk
                go_wp2_with fail
                exact ⟨⟨j + 1, q + k, _, by rw [HPe.out], by first | rfl | go_num, by omega, HS2.out, HR2.out, HFk.out, HBx.out, HAk.out, HBk.out⟩, by simp [RowKit.intOf]; omega⟩
          · have hje : j = e := by have := HE.out; omega
            subst hje
            have HS2 := Lib.hid HW.out.1
            go_wp2_with fail
            exact ⟨⟨i + 1, q, Q, by first | rfl | go_num, by omega, by rw [HM1.out]; exact HS2.out, by rw [HM1.out, HR4.out.len]; exact hq1, HR4.out, HF4.out, HB4.out⟩, by simp [RowKit.intOf]; omega⟩
      · obtain rfl : i = l := by omega
        have HD2 := Lib.hid (show DS n O from HPr.out ▸ HD.out)
        have hm := hO.len
        subst hm
        have hl9 : O.length ≤ 1000000000 := by
          have h := HLe.out
          rw [HPr.out] at h
          omega
        clear HD HLe hO hlen
        go_wp2_with fail
        refine (Sort_own u4 O wr HO.out (by omega)).mono ?_
        rintro e w' ⟨rfl, hS, hg⟩
        have HSo := Lib.hid hS; have HG := Lib.hid hg
        clear hS hg
        go_wp2_with fail
        go_ret2
        refine .inr ⟨HB.out, u4, sortI O, rfl, HD2.out.sorted, by rw [sortI_length]; exact HSo.out, HBl.out.grown HG.out HBl.out.size (fun k hk => HO.out.ge k hk)⟩
end Go.Proofs.Ytfjmhfmhijhpkaa
