/- Which algebras are isomorphic, and the first images: the reference. -/
import Derived.Test.YtfjmhfmhijhpkaaGreatDoorVsl
import Derived.Test.YtfjmhfmhijhpkaaGreatDoorRpu
import Derived.Test.YtfjmhfmhijhpkaaGreatDoorTrn
import Derived.Test.YtfjmhfmhijhpkaaGreatDoorRrm
namespace Go.Proofs.YtfjmhfmhijhpkaaGreatDoor
open Go.RowKit FF

def isoB (a b c d : Int) : Bool := (defB a b == defB c d) && decide (ramL a b 999 = ramL c d 999)
/-- the first images -/
def isoO (a b c d : Int) : Option (Qt × Qt) := firstP (opB c d) (pick (rtB c d a) 9826) (pick (rtB c d b) 9826)
def isoErr (a b c d : Int) : Int := if isoB a b c d = true then (if (isoO a b c d).isSome then 0 else 21) else 12
def isoXX (a b c d : Int) : Qt := if isoB a b c d = true then isoX (isoO a b c d) else Qt.zero
def isoYY (a b c d : Int) : Qt := if isoB a b c d = true then isoY (isoO a b c d) else Qt.zero
theorem iso_no {a b c d : Int} (h : isoB a b c d = false) : isoErr a b c d = 12 ∧ isoXX a b c d = Qt.zero ∧ isoYY a b c d = Qt.zero := by
  unfold isoErr isoXX isoYY; rw [h]; exact ⟨rfl, rfl, rfl⟩
theorem iso_none {a b c d : Int} (h : isoB a b c d = true) (h2 : isoO a b c d = none) : isoErr a b c d = 21 ∧ isoXX a b c d = Qt.zero ∧ isoYY a b c d = Qt.zero := by
  unfold isoErr isoXX isoYY; rw [h, h2]; exact ⟨rfl, rfl, rfl⟩
theorem iso_some {a b c d : Int} {p q : Qt} (h : isoB a b c d = true) (h2 : isoO a b c d = some (p, q)) : isoErr a b c d = 0 ∧ isoXX a b c d = p ∧ isoYY a b c d = q := by
  unfold isoErr isoXX isoYY; rw [h, h2]; exact ⟨rfl, rfl, rfl⟩
theorem ram_word {w w' : World} {l : List Int} {e : Ending} (h : RamPost w l e w') : PostW (VS l.length l) w e w' := by
  obtain ⟨A, c, rfl, h1, h2, h3, h4⟩ := h
  exact ⟨_, rfl, ⟨A, c, rfl, h1, h2, h3⟩, h4⟩
/-- .. that lies in a new block -/
def VF (B n : Nat) (xs : List Int) : Value → World → Prop := fun v W => ∃ A c, v = .slice A n c ∧ (ShowsI W A xs ∧ n ≤ c ∧ c ≤ maxLen) ∧ Fresh B A
theorem Firm.vf (B n : Nat) (xs : List Int) : Firm (VF B n xs) :=
  ⟨fun _ _ _ ⟨A, c, e, ⟨h, k⟩, f⟩ hb => ⟨A, c, e, ⟨showsI_below h hb, k⟩, f⟩, fun _ _ _ _ ⟨A, c, e, ⟨h, k⟩, f⟩ ho hg => ⟨A, c, e, ⟨showsI_only h ho hg, k⟩, f⟩⟩
theorem pure_word {w w' : World} {l : List Qt} {e : Ending} {B : Nat} (h : PurePost w l e w') (hB : B ≤ w.heap.size) : PostW (VF B l.length (qflat l)) w e w' := by
  obtain ⟨A, c, rfl, h1, h2, h3, h4, h5⟩ := h
  exact ⟨_, rfl, ⟨A, c, rfl, ⟨h1, h2, h3⟩, h5.mono hB⟩, h4⟩


set_option maxHeartbeats 4000000 in
set_option maxRecDepth 100000 in
theorem rIsomorphic_any (a b c d : Int) (w : World) (ha : aE a b = 0) (hc : aE c d = 0) :
    Calls Tryz.prog 13 #[.agg #[.int .i64 a, .int .i64 b], .agg #[.int .i64 c, .int .i64 d]] w fun r w' => r = .returned (.bool (isoB a b c d)) ∧ Below w.heap.size w w' := by
  have HD1 := Lib.hid (fun w => rDefinite_any a b w)
  have HD2 := Lib.hid (fun w => rDefinite_any c d w)
  have HR1 := Lib.hid (fun w => (rRamified_any a b w ha).mono fun _ _ h => ram_word h)
  have HR2 := Lib.hid (fun w => (rRamified_any c d w hc).mono fun _ _ h => ram_word h)
  have HI := Lib.hid (show isoB a b c d = ((defB a b == defB c d) && decide (ramL a b 999 = ramL c d 999)) from rfl)
  have hL1 := ramL_len a b 999; have hL2 := ramL_len c d 999
  clear ha hc
  generalize isoB a b c d = F at *
  generalize defB a b = D1 at *
  generalize defB c d = D2 at *
  generalize ramL a b 999 = L1 at *
  generalize ramL c d 999 = L2 at *
  go_enter Tryz.func13, Tryz.ntmps13
  go_upto_region 1 with fail
  obtain ⟨W0, hW0⟩ : ∃ W0 : World, W0 = ((w.alloc (.cells #[.int .i64 a, .int .i64 b] 23)).alloc (.cells #[.int .i64 c, .int .i64 d] 23)) := ⟨_, rfl⟩
  rw [← hW0]
  have HB0 := Lib.hid (show Bx w [(w.heap.size + 1, #[.int .i64 c, .int .i64 d]), (w.heap.size, #[.int .i64 a, .int .i64 b])] W0 by rw [hW0]; simpa using (((Bx.nil (Below.refl w.heap.size w)).new #[.int .i64 a, .int .i64 b] 23).new #[.int .i64 c, .int .i64 d] 23))
  clear hW0
  have hdd : (D1 == D2) = (D1 == D2) := rfl
  clear hdd
  cases hE : D1 == D2
  · skip
    refine wp_region_full (w.heap.size) [(0, 5, VC (.agg #[.int .i64 a, .int .i64 b])), (1, 6, VC (.bool D1)), (2, 7, VC (.agg #[.int .i64 c, .int .i64 d])), (3, 8, VC (.bool D2)), (4, 9, VC (.bool false)), (5, 10, VC (.bool false)), (6, 11, VC (undef)), (7, 12, VC (undef)), (8, 13, VC (undef)), (9, 14, VC (undef)), (10, 15, VC (undef)), (11, 16, VC (.bool false)), (12, 4, VC (.bool false))] [] [⟨w.heap.size + 1, 999, 999, 999, #[.int .i64 c, .int .i64 d], fun v vs => v = .agg vs⟩, ⟨w.heap.size, 999, 999, 999, #[.int .i64 a, .int .i64 b], fun v vs => v = .agg vs⟩] (fun _ => True) [5, 6, 7, 8, 9, 10, 11, 12, 13, 14, 15, 16, 4] ?_ (by kernel_rfl) (by kernel_rfl) (by kernel_rfl) (Firms.all (l := [(0, 5, VC (.agg #[.int .i64 a, .int .i64 b])), (1, 6, VC (.bool D1)), (2, 7, VC (.agg #[.int .i64 c, .int .i64 d])), (3, 8, VC (.bool D2)), (4, 9, VC (.bool false)), (5, 10, VC (.bool false)), (6, 11, VC (undef)), (7, 12, VC (undef)), (8, 13, VC (undef)), (9, 14, VC (undef)), (10, 15, VC (undef)), (11, 16, VC (.bool false)), (12, 4, VC (.bool false))]) ⟨Firm.vc _, Firm.vc _, Firm.vc _, Firm.vc _, Firm.vc _, Firm.vc _, Firm.vc _, Firm.vc _, Firm.vc _, Firm.vc _, Firm.vc _, Firm.vc _, Firm.vc _, trivial⟩) (⟨fun _ _ _ _ _ => trivial, fun _ _ _ _ _ _ _ => trivial⟩) (trivial) ?_ ?_ ?_
    · exact HB0.out.below.size
    · intro c hc
      simp only [List.mem_cons, List.not_mem_nil, or_false] at hc
      rcases hc with rfl | rfl
      · exact ⟨(HB0.out.own _ (List.mem_cons_self ..)).2, fun h => absurd rfl h⟩
      · exact ⟨(HB0.out.own _ (List.mem_cons_of_mem _ (List.mem_cons_self ..))).2, fun h => absurd rfl h⟩
    · refine forall_ops ⟨?_, ?_, ?_, ?_, ?_, ?_, ?_, ?_, ?_, ?_, ?_, ?_, ?_, trivial⟩
      · refine .inl ⟨.inl rfl, .inl ⟨by simp, by simp, fun y W hB hE hO hV K Q' hK => ?_⟩⟩
        have hc : Cells W (w.heap.size) #[.int .i64 a, .int .i64 b] := hO _ (List.mem_cons_of_mem _ (List.mem_cons_self ..)) rfl
        have k0 := hc.2.1 0 (by simp)
        have k1 := hc.2.1 1 (by simp)
        simp only [List.getElem?_toArray, List.getElem?_cons_zero, List.getElem?_cons_succ] at k0 k1
        clear hc
        simp only [fr, putAll, List.foldl_cons, List.foldl_nil, List.setIfInBounds_toArray, List.set_cons_zero, List.set_cons_succ] at hK ⊢
        go_simp
        exact hK (.agg #[.int .i64 a, .int .i64 b]) W (Below.refl _ _) (word_only (d := 5) (by kernel_rfl) (show VC _ _ W from rfl))
      · refine .inl ⟨.inl rfl, .inl ⟨by simp, by simp, fun y W hB hE hO hV K Q' hK => ?_⟩⟩
        have y5 : y 5 = .agg #[.int .i64 a, .int .i64 b] := hV (0, 5, VC (.agg #[.int .i64 a, .int .i64 b])) (word_get (by kernel_rfl)) (by kernel_rfl)
        simp only [fr, putAll, List.foldl_cons, List.foldl_nil, List.setIfInBounds_toArray, List.set_cons_zero, List.set_cons_succ] at hK ⊢
        simp only [y5] at hK ⊢
        go_simp
        refine (calls_vc (HD1.out W)).mono ?_
        rintro e w' ⟨v, rfl, hv, hb⟩
        exact hK v w' hb (word_only (d := 6) (by kernel_rfl) hv)
      · refine .inl ⟨.inl rfl, .inl ⟨by simp, by simp, fun y W hB hE hO hV K Q' hK => ?_⟩⟩
        have hc : Cells W (w.heap.size + 1) #[.int .i64 c, .int .i64 d] := hO _ (List.mem_cons_self ..) rfl
        have k0 := hc.2.1 0 (by simp)
        have k1 := hc.2.1 1 (by simp)
        simp only [List.getElem?_toArray, List.getElem?_cons_zero, List.getElem?_cons_succ] at k0 k1
        clear hc
        simp only [fr, putAll, List.foldl_cons, List.foldl_nil, List.setIfInBounds_toArray, List.set_cons_zero, List.set_cons_succ] at hK ⊢
        go_simp
        exact hK (.agg #[.int .i64 c, .int .i64 d]) W (Below.refl _ _) (word_only (d := 7) (by kernel_rfl) (show VC _ _ W from rfl))
      · refine .inl ⟨.inl rfl, .inl ⟨by simp, by simp, fun y W hB hE hO hV K Q' hK => ?_⟩⟩
        have y7 : y 7 = .agg #[.int .i64 c, .int .i64 d] := hV (2, 7, VC (.agg #[.int .i64 c, .int .i64 d])) (word_get (by kernel_rfl)) (by kernel_rfl)
        simp only [fr, putAll, List.foldl_cons, List.foldl_nil, List.setIfInBounds_toArray, List.set_cons_zero, List.set_cons_succ] at hK ⊢
        simp only [y7] at hK ⊢
        go_simp
        refine (calls_vc (HD2.out W)).mono ?_
        rintro e w' ⟨v, rfl, hv, hb⟩
        exact hK v w' hb (word_only (d := 8) (by kernel_rfl) hv)
      · refine .inl ⟨.inl rfl, .inl ⟨by simp, by simp, fun y W hB hE hO hV K Q' hK => ?_⟩⟩
        have y6 : y 6 = .bool D1 := hV (1, 6, VC (.bool D1)) (word_get (by kernel_rfl)) (by kernel_rfl)
        have y8 : y 8 = .bool D2 := hV (3, 8, VC (.bool D2)) (word_get (by kernel_rfl)) (by kernel_rfl)
        simp only [fr, putAll, List.foldl_cons, List.foldl_nil, List.setIfInBounds_toArray, List.set_cons_zero, List.set_cons_succ] at hK ⊢
        simp only [y6, y8] at hK ⊢
        go_simp
        exact hK (.bool false) W (Below.refl _ _) (word_only (d := 9) (by kernel_rfl) (show VC _ _ W from rfl))
      · refine .inl ⟨.inl rfl, .inl ⟨by simp, by simp, fun y W hB hE hO hV K Q' hK => ?_⟩⟩
        have y9 : y 9 = .bool false := hV (4, 9, VC (.bool false)) (word_get (by kernel_rfl)) (by kernel_rfl)
        simp only [fr, putAll, List.foldl_cons, List.foldl_nil, List.setIfInBounds_toArray, List.set_cons_zero, List.set_cons_succ] at hK ⊢
        simp only [y9] at hK ⊢
        go_simp
        exact hK (.bool false) W (Below.refl _ _) (word_only (d := 10) (by kernel_rfl) (show VC _ _ W from rfl))
      · exact .inr ⟨⟨5, false, rfl, by kernel_rfl, (5, 10, VC (.bool false)), word_get (by kernel_rfl), rfl, fun _ _ h => h⟩, fun x hx he W => word_only (i := 6) (d := 11) (by kernel_rfl) (show VC undef undef W from rfl) x hx he, by simp, by simp⟩
      · exact .inr ⟨⟨5, false, rfl, by kernel_rfl, (5, 10, VC (.bool false)), word_get (by kernel_rfl), rfl, fun _ _ h => h⟩, fun x hx he W => word_only (i := 7) (d := 12) (by kernel_rfl) (show VC undef undef W from rfl) x hx he, by simp, by simp⟩
      · exact .inr ⟨⟨5, false, rfl, by kernel_rfl, (5, 10, VC (.bool false)), word_get (by kernel_rfl), rfl, fun _ _ h => h⟩, fun x hx he W => word_only (i := 8) (d := 13) (by kernel_rfl) (show VC undef undef W from rfl) x hx he, by simp, by simp⟩
      · exact .inr ⟨⟨5, false, rfl, by kernel_rfl, (5, 10, VC (.bool false)), word_get (by kernel_rfl), rfl, fun _ _ h => h⟩, fun x hx he W => word_only (i := 9) (d := 14) (by kernel_rfl) (show VC undef undef W from rfl) x hx he, by simp, by simp⟩
      · exact .inr ⟨⟨5, false, rfl, by kernel_rfl, (5, 10, VC (.bool false)), word_get (by kernel_rfl), rfl, fun _ _ h => h⟩, fun x hx he W => word_only (i := 10) (d := 15) (by kernel_rfl) (show VC undef undef W from rfl) x hx he, by simp, by simp⟩
      · refine .inl ⟨.inl rfl, .inl ⟨by simp, by simp, fun y W hB hE hO hV K Q' hK => ?_⟩⟩
        have y10 : y 10 = .bool false := hV (5, 10, VC (.bool false)) (word_get (by kernel_rfl)) (by kernel_rfl)
        have y15 : y 15 = undef := hV (10, 15, VC (undef)) (word_get (by kernel_rfl)) (by kernel_rfl)
        simp only [fr, putAll, List.foldl_cons, List.foldl_nil, List.setIfInBounds_toArray, List.set_cons_zero, List.set_cons_succ] at hK ⊢
        simp only [y10, y15] at hK ⊢
        go_simp
        exact hK (.bool false) W (Below.refl _ _) (word_only (d := 16) (by kernel_rfl) (show VC _ _ W from rfl))
      · refine .inl ⟨.inl rfl, .inl ⟨by simp, by simp, fun y W hB hE hO hV K Q' hK => ?_⟩⟩
        have y16 : y 16 = .bool false := hV (11, 16, VC (.bool false)) (word_get (by kernel_rfl)) (by kernel_rfl)
        simp only [fr, putAll, List.foldl_cons, List.foldl_nil, List.setIfInBounds_toArray, List.set_cons_zero, List.set_cons_succ] at hK ⊢
        simp only [y16] at hK ⊢
        go_simp
        exact hK (.bool false) W (Below.refl _ _) (word_only (d := 4) (by kernel_rfl) (show VC _ _ W from rfl))
    intro y W hB hE hO hV hX hA
    have y5 : y 5 = .agg #[.int .i64 a, .int .i64 b] := hV (0, 5, VC (.agg #[.int .i64 a, .int .i64 b])) (word_get (by kernel_rfl))
    have y6 : y 6 = .bool D1 := hV (1, 6, VC (.bool D1)) (word_get (by kernel_rfl))
    have y7 : y 7 = .agg #[.int .i64 c, .int .i64 d] := hV (2, 7, VC (.agg #[.int .i64 c, .int .i64 d])) (word_get (by kernel_rfl))
    have y8 : y 8 = .bool D2 := hV (3, 8, VC (.bool D2)) (word_get (by kernel_rfl))
    have y9 : y 9 = .bool false := hV (4, 9, VC (.bool false)) (word_get (by kernel_rfl))
    have y10 : y 10 = .bool false := hV (5, 10, VC (.bool false)) (word_get (by kernel_rfl))
    have y11 : y 11 = undef := hV (6, 11, VC (undef)) (word_get (by kernel_rfl))
    have y12 : y 12 = undef := hV (7, 12, VC (undef)) (word_get (by kernel_rfl))
    have y13 : y 13 = undef := hV (8, 13, VC (undef)) (word_get (by kernel_rfl))
    have y14 : y 14 = undef := hV (9, 14, VC (undef)) (word_get (by kernel_rfl))
    have y15 : y 15 = undef := hV (10, 15, VC (undef)) (word_get (by kernel_rfl))
    have y16 : y 16 = .bool false := hV (11, 16, VC (.bool false)) (word_get (by kernel_rfl))
    have y4 : y 4 = .bool false := hV (12, 4, VC (.bool false)) (word_get (by kernel_rfl))
    have ho0 := (hO _ (List.mem_cons_self ..)).1 rfl
    dsimp only at ho0
    have ho1 := (hO _ (List.mem_cons_of_mem _ (List.mem_cons_self ..))).1 rfl
    dsimp only at ho1
    have HB1 := Lib.hid (show Bx w [(w.heap.size + 1, #[.int .i64 c, .int .i64 d]), (w.heap.size, #[.int .i64 a, .int .i64 b])] W from (((Bx.nil (HB0.out.below.trans hB)).cons (HB0.out.own _ (List.mem_cons_of_mem _ (List.mem_cons_self ..))).1 ho1).cons (HB0.out.own _ (List.mem_cons_self ..)).1 ho0))
    have HE1 := Lib.hid hE
    simp only [fr, putAll, List.foldl_cons, List.foldl_nil, List.setIfInBounds_toArray, List.set_cons_zero, List.set_cons_succ]
    simp only [y5, y6, y7, y8, y9, y10, y11, y12, y13, y14, y15, y16, y4]
    clear y5 y6 y7 y8 y9 y10 y11 y12 y13 y14 y15 y16 y4  hB hE hO hV hX hA ho0 ho1
    go_wp2_with fail
    go_ret
    exact ⟨ret_bool (by rw [HI.out, hE]; simp), HB1.out.below⟩
  refine wp_region_full (w.heap.size) [(0, 5, VC (.agg #[.int .i64 a, .int .i64 b])), (1, 6, VC (.bool D1)), (2, 7, VC (.agg #[.int .i64 c, .int .i64 d])), (3, 8, VC (.bool D2)), (4, 9, VC (.bool true)), (5, 10, VC (.bool true)), (6, 11, VC (.agg #[.int .i64 a, .int .i64 b])), (7, 12, VS (L1.length) L1), (8, 13, VC (.agg #[.int .i64 c, .int .i64 d])), (9, 14, VS (L2.length) L2), (10, 15, VC (.bool ((decide (L1 = L2))))), (11, 16, VC (.bool ((decide (L1 = L2))))), (12, 4, VC (.bool ((decide (L1 = L2)))))] [] [⟨w.heap.size + 1, 999, 999, 999, #[.int .i64 c, .int .i64 d], fun v vs => v = .agg vs⟩, ⟨w.heap.size, 999, 999, 999, #[.int .i64 a, .int .i64 b], fun v vs => v = .agg vs⟩] (fun _ => True) [5, 6, 7, 8, 9, 10, 11, 12, 13, 14, 15, 16, 4] ?_ (by kernel_rfl) (by kernel_rfl) (by kernel_rfl) (Firms.all (l := [(0, 5, VC (.agg #[.int .i64 a, .int .i64 b])), (1, 6, VC (.bool D1)), (2, 7, VC (.agg #[.int .i64 c, .int .i64 d])), (3, 8, VC (.bool D2)), (4, 9, VC (.bool true)), (5, 10, VC (.bool true)), (6, 11, VC (.agg #[.int .i64 a, .int .i64 b])), (7, 12, VS (L1.length) L1), (8, 13, VC (.agg #[.int .i64 c, .int .i64 d])), (9, 14, VS (L2.length) L2), (10, 15, VC (.bool ((decide (L1 = L2))))), (11, 16, VC (.bool ((decide (L1 = L2))))), (12, 4, VC (.bool ((decide (L1 = L2)))))]) ⟨Firm.vc _, Firm.vc _, Firm.vc _, Firm.vc _, Firm.vc _, Firm.vc _, Firm.vc _, Firm.vs _ _, Firm.vc _, Firm.vs _ _, Firm.vc _, Firm.vc _, Firm.vc _, trivial⟩) (⟨fun _ _ _ _ _ => trivial, fun _ _ _ _ _ _ _ => trivial⟩) (trivial) ?_ ?_ ?_
  · exact HB0.out.below.size
  · intro c hc
    simp only [List.mem_cons, List.not_mem_nil, or_false] at hc
    rcases hc with rfl | rfl
    · exact ⟨(HB0.out.own _ (List.mem_cons_self ..)).2, fun h => absurd rfl h⟩
    · exact ⟨(HB0.out.own _ (List.mem_cons_of_mem _ (List.mem_cons_self ..))).2, fun h => absurd rfl h⟩
  · refine forall_ops ⟨?_, ?_, ?_, ?_, ?_, ?_, ?_, ?_, ?_, ?_, ?_, ?_, ?_, trivial⟩
    · refine .inl ⟨.inl rfl, .inl ⟨by simp, by simp, fun y W hB hE hO hV K Q' hK => ?_⟩⟩
      have hc : Cells W (w.heap.size) #[.int .i64 a, .int .i64 b] := hO _ (List.mem_cons_of_mem _ (List.mem_cons_self ..)) rfl
      have k0 := hc.2.1 0 (by simp)
      have k1 := hc.2.1 1 (by simp)
      simp only [List.getElem?_toArray, List.getElem?_cons_zero, List.getElem?_cons_succ] at k0 k1
      clear hc
      simp only [fr, putAll, List.foldl_cons, List.foldl_nil, List.setIfInBounds_toArray, List.set_cons_zero, List.set_cons_succ] at hK ⊢
      go_simp
      exact hK (.agg #[.int .i64 a, .int .i64 b]) W (Below.refl _ _) (word_only (d := 5) (by kernel_rfl) (show VC _ _ W from rfl))
    · refine .inl ⟨.inl rfl, .inl ⟨by simp, by simp, fun y W hB hE hO hV K Q' hK => ?_⟩⟩
      have y5 : y 5 = .agg #[.int .i64 a, .int .i64 b] := hV (0, 5, VC (.agg #[.int .i64 a, .int .i64 b])) (word_get (by kernel_rfl)) (by kernel_rfl)
      simp only [fr, putAll, List.foldl_cons, List.foldl_nil, List.setIfInBounds_toArray, List.set_cons_zero, List.set_cons_succ] at hK ⊢
      simp only [y5] at hK ⊢
      go_simp
      refine (calls_vc (HD1.out W)).mono ?_
      rintro e w' ⟨v, rfl, hv, hb⟩
      exact hK v w' hb (word_only (d := 6) (by kernel_rfl) hv)
    · refine .inl ⟨.inl rfl, .inl ⟨by simp, by simp, fun y W hB hE hO hV K Q' hK => ?_⟩⟩
      have hc : Cells W (w.heap.size + 1) #[.int .i64 c, .int .i64 d] := hO _ (List.mem_cons_self ..) rfl
      have k0 := hc.2.1 0 (by simp)
      have k1 := hc.2.1 1 (by simp)
      simp only [List.getElem?_toArray, List.getElem?_cons_zero, List.getElem?_cons_succ] at k0 k1
      clear hc
      simp only [fr, putAll, List.foldl_cons, List.foldl_nil, List.setIfInBounds_toArray, List.set_cons_zero, List.set_cons_succ] at hK ⊢
      go_simp
      exact hK (.agg #[.int .i64 c, .int .i64 d]) W (Below.refl _ _) (word_only (d := 7) (by kernel_rfl) (show VC _ _ W from rfl))
    · refine .inl ⟨.inl rfl, .inl ⟨by simp, by simp, fun y W hB hE hO hV K Q' hK => ?_⟩⟩
      have y7 : y 7 = .agg #[.int .i64 c, .int .i64 d] := hV (2, 7, VC (.agg #[.int .i64 c, .int .i64 d])) (word_get (by kernel_rfl)) (by kernel_rfl)
      simp only [fr, putAll, List.foldl_cons, List.foldl_nil, List.setIfInBounds_toArray, List.set_cons_zero, List.set_cons_succ] at hK ⊢
      simp only [y7] at hK ⊢
      go_simp
      refine (calls_vc (HD2.out W)).mono ?_
      rintro e w' ⟨v, rfl, hv, hb⟩
      exact hK v w' hb (word_only (d := 8) (by kernel_rfl) hv)
    · refine .inl ⟨.inl rfl, .inl ⟨by simp, by simp, fun y W hB hE hO hV K Q' hK => ?_⟩⟩
      have y6 : y 6 = .bool D1 := hV (1, 6, VC (.bool D1)) (word_get (by kernel_rfl)) (by kernel_rfl)
      have y8 : y 8 = .bool D2 := hV (3, 8, VC (.bool D2)) (word_get (by kernel_rfl)) (by kernel_rfl)
      simp only [fr, putAll, List.foldl_cons, List.foldl_nil, List.setIfInBounds_toArray, List.set_cons_zero, List.set_cons_succ] at hK ⊢
      simp only [y6, y8] at hK ⊢
      go_simp
      exact hK (.bool true) W (Below.refl _ _) (word_only (d := 9) (by kernel_rfl) (show VC _ _ W from rfl))
    · refine .inl ⟨.inl rfl, .inl ⟨by simp, by simp, fun y W hB hE hO hV K Q' hK => ?_⟩⟩
      have y9 : y 9 = .bool true := hV (4, 9, VC (.bool true)) (word_get (by kernel_rfl)) (by kernel_rfl)
      simp only [fr, putAll, List.foldl_cons, List.foldl_nil, List.setIfInBounds_toArray, List.set_cons_zero, List.set_cons_succ] at hK ⊢
      simp only [y9] at hK ⊢
      go_simp
      exact hK (.bool true) W (Below.refl _ _) (word_only (d := 10) (by kernel_rfl) (show VC _ _ W from rfl))
    · refine .inl ⟨.inr ⟨5, true, rfl, by kernel_rfl, (5, 10, VC (.bool true)), word_get (by kernel_rfl), rfl, fun _ _ h => h⟩, .inl ⟨by simp, by simp, fun y W hB hE hO hV K Q' hK => ?_⟩⟩
      have hc : Cells W (w.heap.size) #[.int .i64 a, .int .i64 b] := hO _ (List.mem_cons_of_mem _ (List.mem_cons_self ..)) rfl
      have k0 := hc.2.1 0 (by simp)
      have k1 := hc.2.1 1 (by simp)
      simp only [List.getElem?_toArray, List.getElem?_cons_zero, List.getElem?_cons_succ] at k0 k1
      clear hc
      simp only [fr, putAll, List.foldl_cons, List.foldl_nil, List.setIfInBounds_toArray, List.set_cons_zero, List.set_cons_succ] at hK ⊢
      go_simp
      exact hK (.agg #[.int .i64 a, .int .i64 b]) W (Below.refl _ _) (word_only (d := 11) (by kernel_rfl) (show VC _ _ W from rfl))
    · refine .inl ⟨.inr ⟨5, true, rfl, by kernel_rfl, (5, 10, VC (.bool true)), word_get (by kernel_rfl), rfl, fun _ _ h => h⟩, .inl ⟨by simp, by simp, fun y W hB hE hO hV K Q' hK => ?_⟩⟩
      have y11 : y 11 = .agg #[.int .i64 a, .int .i64 b] := hV (6, 11, VC (.agg #[.int .i64 a, .int .i64 b])) (word_get (by kernel_rfl)) (by kernel_rfl)
      simp only [fr, putAll, List.foldl_cons, List.foldl_nil, List.setIfInBounds_toArray, List.set_cons_zero, List.set_cons_succ] at hK ⊢
      simp only [y11] at hK ⊢
      go_simp
      refine (HR1.out W).mono ?_
      rintro e w' ⟨v, rfl, hv, hb⟩
      exact hK v w' hb (word_only (d := 12) (by kernel_rfl) hv)
    · refine .inl ⟨.inr ⟨5, true, rfl, by kernel_rfl, (5, 10, VC (.bool true)), word_get (by kernel_rfl), rfl, fun _ _ h => h⟩, .inl ⟨by simp, by simp, fun y W hB hE hO hV K Q' hK => ?_⟩⟩
      have hc : Cells W (w.heap.size + 1) #[.int .i64 c, .int .i64 d] := hO _ (List.mem_cons_self ..) rfl
      have k0 := hc.2.1 0 (by simp)
      have k1 := hc.2.1 1 (by simp)
      simp only [List.getElem?_toArray, List.getElem?_cons_zero, List.getElem?_cons_succ] at k0 k1
      clear hc
      simp only [fr, putAll, List.foldl_cons, List.foldl_nil, List.setIfInBounds_toArray, List.set_cons_zero, List.set_cons_succ] at hK ⊢
      go_simp
      exact hK (.agg #[.int .i64 c, .int .i64 d]) W (Below.refl _ _) (word_only (d := 13) (by kernel_rfl) (show VC _ _ W from rfl))
    · refine .inl ⟨.inr ⟨5, true, rfl, by kernel_rfl, (5, 10, VC (.bool true)), word_get (by kernel_rfl), rfl, fun _ _ h => h⟩, .inl ⟨by simp, by simp, fun y W hB hE hO hV K Q' hK => ?_⟩⟩
      have y13 : y 13 = .agg #[.int .i64 c, .int .i64 d] := hV (8, 13, VC (.agg #[.int .i64 c, .int .i64 d])) (word_get (by kernel_rfl)) (by kernel_rfl)
      simp only [fr, putAll, List.foldl_cons, List.foldl_nil, List.setIfInBounds_toArray, List.set_cons_zero, List.set_cons_succ] at hK ⊢
      simp only [y13] at hK ⊢
      go_simp
      refine (HR2.out W).mono ?_
      rintro e w' ⟨v, rfl, hv, hb⟩
      exact hK v w' hb (word_only (d := 14) (by kernel_rfl) hv)
    · refine .inl ⟨.inr ⟨5, true, rfl, by kernel_rfl, (5, 10, VC (.bool true)), word_get (by kernel_rfl), rfl, fun _ _ h => h⟩, .inl ⟨by simp, by simp, fun y W hB hE hO hV K Q' hK => ?_⟩⟩
      obtain ⟨u12_0, u12_1, y12, i12⟩ : VS (L1.length) L1 (y 12) W := hV (7, 12, VS (L1.length) L1) (word_get (by kernel_rfl)) (by kernel_rfl)
      obtain ⟨u14_0, u14_1, y14, i14⟩ : VS (L2.length) L2 (y 14) W := hV (9, 14, VS (L2.length) L2) (word_get (by kernel_rfl)) (by kernel_rfl)
      simp only [fr, putAll, List.foldl_cons, List.foldl_nil, List.setIfInBounds_toArray, List.set_cons_zero, List.set_cons_succ] at hK ⊢
      simp only [y12, y14] at hK ⊢
      go_simp
      refine (calls_ret (Ints_any _ _ L1 L2 _ _ W i12.1 i14.1 (by omega))).mono ?_
      rintro e w' ⟨v, rfl, hv, hb⟩
      exact hK v w' hb (word_only (d := 15) (by kernel_rfl) hv)
    · refine .inl ⟨.inl rfl, .inl ⟨by simp, by simp, fun y W hB hE hO hV K Q' hK => ?_⟩⟩
      have y10 : y 10 = .bool true := hV (5, 10, VC (.bool true)) (word_get (by kernel_rfl)) (by kernel_rfl)
      have y15 : y 15 = .bool ((decide (L1 = L2))) := hV (10, 15, VC (.bool ((decide (L1 = L2))))) (word_get (by kernel_rfl)) (by kernel_rfl)
      simp only [fr, putAll, List.foldl_cons, List.foldl_nil, List.setIfInBounds_toArray, List.set_cons_zero, List.set_cons_succ] at hK ⊢
      simp only [y10, y15] at hK ⊢
      go_simp
      exact hK (.bool ((decide (L1 = L2)))) W (Below.refl _ _) (word_only (d := 16) (by kernel_rfl) (show VC _ _ W from rfl))
    · refine .inl ⟨.inl rfl, .inl ⟨by simp, by simp, fun y W hB hE hO hV K Q' hK => ?_⟩⟩
      have y16 : y 16 = .bool ((decide (L1 = L2))) := hV (11, 16, VC (.bool ((decide (L1 = L2))))) (word_get (by kernel_rfl)) (by kernel_rfl)
      simp only [fr, putAll, List.foldl_cons, List.foldl_nil, List.setIfInBounds_toArray, List.set_cons_zero, List.set_cons_succ] at hK ⊢
      simp only [y16] at hK ⊢
      go_simp
      exact hK (.bool ((decide (L1 = L2)))) W (Below.refl _ _) (word_only (d := 4) (by kernel_rfl) (show VC _ _ W from rfl))
  intro y W hB hE hO hV hX hA
  have y5 : y 5 = .agg #[.int .i64 a, .int .i64 b] := hV (0, 5, VC (.agg #[.int .i64 a, .int .i64 b])) (word_get (by kernel_rfl))
  have y6 : y 6 = .bool D1 := hV (1, 6, VC (.bool D1)) (word_get (by kernel_rfl))
  have y7 : y 7 = .agg #[.int .i64 c, .int .i64 d] := hV (2, 7, VC (.agg #[.int .i64 c, .int .i64 d])) (word_get (by kernel_rfl))
  have y8 : y 8 = .bool D2 := hV (3, 8, VC (.bool D2)) (word_get (by kernel_rfl))
  have y9 : y 9 = .bool true := hV (4, 9, VC (.bool true)) (word_get (by kernel_rfl))
  have y10 : y 10 = .bool true := hV (5, 10, VC (.bool true)) (word_get (by kernel_rfl))
  have y11 : y 11 = .agg #[.int .i64 a, .int .i64 b] := hV (6, 11, VC (.agg #[.int .i64 a, .int .i64 b])) (word_get (by kernel_rfl))
  obtain ⟨u12_0, u12_1, y12, j12⟩ : VS (L1.length) L1 (y 12) W := hV (7, 12, VS (L1.length) L1) (word_get (by kernel_rfl))
  have J12 := Lib.hid j12; clear j12
  have y13 : y 13 = .agg #[.int .i64 c, .int .i64 d] := hV (8, 13, VC (.agg #[.int .i64 c, .int .i64 d])) (word_get (by kernel_rfl))
  obtain ⟨u14_0, u14_1, y14, j14⟩ : VS (L2.length) L2 (y 14) W := hV (9, 14, VS (L2.length) L2) (word_get (by kernel_rfl))
  have J14 := Lib.hid j14; clear j14
  have y15 : y 15 = .bool ((decide (L1 = L2))) := hV (10, 15, VC (.bool ((decide (L1 = L2))))) (word_get (by kernel_rfl))
  have y16 : y 16 = .bool ((decide (L1 = L2))) := hV (11, 16, VC (.bool ((decide (L1 = L2))))) (word_get (by kernel_rfl))
  have y4 : y 4 = .bool ((decide (L1 = L2))) := hV (12, 4, VC (.bool ((decide (L1 = L2))))) (word_get (by kernel_rfl))
  have ho0 := (hO _ (List.mem_cons_self ..)).1 rfl
  dsimp only at ho0
  have ho1 := (hO _ (List.mem_cons_of_mem _ (List.mem_cons_self ..))).1 rfl
  dsimp only at ho1
  have HB1 := Lib.hid (show Bx w [(w.heap.size + 1, #[.int .i64 c, .int .i64 d]), (w.heap.size, #[.int .i64 a, .int .i64 b])] W from (((Bx.nil (HB0.out.below.trans hB)).cons (HB0.out.own _ (List.mem_cons_of_mem _ (List.mem_cons_self ..))).1 ho1).cons (HB0.out.own _ (List.mem_cons_self ..)).1 ho0))
  have HE1 := Lib.hid hE
  simp only [fr, putAll, List.foldl_cons, List.foldl_nil, List.setIfInBounds_toArray, List.set_cons_zero, List.set_cons_succ]
  simp only [y5, y6, y7, y8, y9, y10, y11, y12, y13, y14, y15, y16, y4]
  clear y5 y6 y7 y8 y9 y10 y11 y12 y13 y14 y15 y16 y4  hB hE hO hV hX hA ho0 ho1
  go_wp2_with fail
  go_ret
  exact ⟨ret_bool (by rw [HI.out, hE]; simp), HB1.out.below⟩

end Go.Proofs.YtfjmhfmhijhpkaaGreatDoor
