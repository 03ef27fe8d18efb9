/- CheckFactor of the program. -/
import Derived.Test.YtfjmhfmhijhpkaaShp
import Derived.Test.YtfjmhfmhijhpkaaCkp
import Derived.Test.YtfjmhfmhijhpkaaIntA
import Derived.Deep.DeepCutAuto
import Derived.Deep.RegionHeld3
import Derived.Deep.DrawnRows
import Derived.StillTailTactics
namespace Go.Proofs.Ytfjmhfmhijhpkaa
open Go.RowKit FF
attribute [local go_sem ↓] Go.wp_at_zero Go.wp_at_succ

/-- wpAnyH_take, the operation found in the list -/
theorem take_held {P : Program} {md : Region.Mode} {ops : Array Oper} {Q : Exit → Act → World → Prop} {S : World → Prop} {i : Nat} {oi : Oper} {rs : List Oper} {v : Value} {fuel : Nat} {listed : Array Bool} {a : Act} {w : World} (hi : ops.toList.drop i = oi :: rs)
    (hs : Region.noSelect ops = true) (hf : Region.free md ops listed i = true) (hr : (Region.ready md ops listed).contains i = true)
    (hQ : ∀ c a w, Q (.panic c) (a.put oi.dst v) w → Q (.panic c) a w) (hy : YieldsIf P ops S oi v a) (hS : S w)
    (h : wpAnyH P md ops Q S fuel (listed.setIfInBounds i true) (a.put oi.dst v) w) : wpAnyH P md ops Q S (fuel + 1) listed a w := by
  refine wpAnyH_take (oi := oi) ?_ hs hf hr hQ hy hS h
  have h1 : (ops.toList.drop i)[0]? = some oi := by rw [hi]; rfl
  rw [List.getElem?_drop, Nat.add_zero, Array.getElem?_toList] at h1
  exact h1
/-- what CheckFactor accepts -/
def CfGood (n : Int) (l : List (Int × Int)) (Ls : List (List Stpp)) : Prop := l = castP (facs n) ∧ Ls.length = l.length ∧ ∀ i, i < l.length → CkE (l.getD i (0, 0)).1 (Ls.getD i []) 0
def CfE (n : Int) (l : List (Int × Int)) (Ls : List (List Stpp)) (E : Int) : Prop := (modB n = false ∧ E = 2) ∨ (modB n = true ∧ CfGood n l Ls ∧ E = 0) ∨ (modB n = true ∧ ¬ CfGood n l Ls ∧ E = 18)
theorem CfE.unique {n : Int} {l : List (Int × Int)} {Ls : List (List Stpp)} {E E' : Int} (h : CfE n l Ls E) (h' : CfE n l Ls E') : E = E' := by
  rcases h with ⟨a, rfl⟩ | ⟨a, b, rfl⟩ | ⟨a, b, rfl⟩ <;> rcases h' with ⟨a', rfl⟩ | ⟨a', b', rfl⟩ | ⟨a', b', rfl⟩ <;> first | rfl | exact absurd b b' | exact absurd b' b | (rw [a] at a'; cases a')
def CfPost (w : World) (n : Int) (l : List (Int × Int)) (Ls : List (List Stpp)) (e : Ending) (w' : World) : Prop := ∃ E, e = .returned (.int .i64 E) ∧ CfE n l Ls E ∧ Below w.heap.size w w'
/-- the proof at place i is right -/
def cfOk (l : List (Int × Int)) (Ls : List (List Stpp)) (i : Nat) : Prop := CkE (l.getD i (0, 0)).1 (Ls.getD i []) 0
theorem cfOk.prime {l : List (Int × Int)} {Ls : List (List Stpp)} {i : Nat} (h : cfOk l Ls i) : IsP (l.getD i (0, 0)).1.toNat ∧ (l.getD i (0, 0)).1 ≤ 1000000000 := CkE.prime h
theorem CfGood.steps {n : Int} (hn : 1 ≤ n) {l : List (Int × Int)} {Ls : List (List Stpp)} (h : CfGood n l Ls) : (∀ i, i < l.length → cfStep n l (cfOk l Ls) i) ∧ restL n (l.map fun x => x.1) = 1 := cf_complete hn h.1 h.2.2
theorem CfGood.mk {n : Int} (hn : 1 ≤ n) {l : List (Int × Int)} {Ls : List (List Stpp)} (hl : Ls.length = l.length) (h : ∀ i, i < l.length → cfStep n l (cfOk l Ls) i) (hr : restL n (l.map fun x => x.1) = 1) : CfGood n l Ls :=
  ⟨cf_sound hn (fun _ _ ho => ho.prime.1) h hr, hl, fun i hi => (h i hi).2.2.1⟩
theorem rest_step {n : Int} {l : List (Int × Int)} {i : Nat} (h : i < l.length) : restL n ((l.take (i + 1)).map fun x => x.1) = rest (l.getD i (0, 0)).1 (restL n ((l.take i).map fun x => x.1)) := by
  rw [List.take_add_one, List.map_append, restL_append, List.getElem?_eq_getElem h, getD_lt h]; rfl
set_option maxRecDepth 100000 in
set_option maxHeartbeats 8000000 in
theorem CheckFactor_any (n : Int) (A A2 : Option Addr) (l : List (Int × Int)) (Ls : List (List Stpp)) (c c2 : Nat) (w : World) (hl : ShowsW w A l) (hlc : l.length ≤ c) (hcm : c ≤ maxLen) (hL : ShowsL w A2 Ls)
    (hI1 : ∀ i, i < l.length → I64 (l.getD i (0, 0)).1) (hI2 : ∀ i, i < l.length → I64 (l.getD i (0, 0)).2) (hI : ListsI Ls) :
    Calls Try.prog 37 #[.int .i64 n, .slice A l.length c, .slice A2 Ls.length c2] w (CfPost w n l Ls) := by
  have HM := Lib.hid (fun w => modulus_any n w)
  unfold maxLen at hcm
  have HS := Lib.hid hl; have HL := Lib.hid hL; have HI := Lib.hid hI; have HI1 := Lib.hid hI1; have HI2 := Lib.hid hI2
  obtain ⟨nl, hnl⟩ : ∃ nl, l.length = nl := ⟨_, rfl⟩
  obtain ⟨nL, hnL⟩ : ∃ nL, Ls.length = nL := ⟨_, rfl⟩
  have HN := Lib.hid hnl; have HNL := Lib.hid hnL
  rw [hnl] at hlc ⊢
  rw [hnL]
  clear hl hL hI hI1 hI2 hnl hnL
  cases hm : modB n
  · have HMb := Lib.hid hm
    rw [hm] at HM
    clear hm
    go_enter Try.func37, Try.ntmps37
    go_wp2_with fail
    refine (HM.out _).mono ?_
    rintro e w' ⟨rfl, n1, rfl⟩
    go_wp2_with fail
    go_ret
    exact ⟨2, rfl, .inl ⟨HMb.out, rfl⟩, below_drewN (Below.refl _ _) _⟩
  · have HMb := Lib.hid hm
    obtain ⟨hn1, hn9⟩ := modB_true.1 hm
    rw [hm] at HM
    clear hm
    by_cases hne : nL = nl
    · subst hne
      go_enter Try.func37, Try.ntmps37
      go_wp2_with fail
      refine (HM.out _).mono ?_
      rintro e w' ⟨rfl, n1, rfl⟩
      have HB0 := Lib.hid (below_drewN (Below.refl w.heap.size w) n1)
      clear HM
      go_wp2_with fail
      go_loopw [7, 8, 9, 10, 11, 23] (fun s7 _ _ _ _ s23 wx => ∃ (i : Nat) (r : Int), s23 = .int .i64 i ∧ i ≤ nL ∧ s7 = .int .i64 r ∧ r = restL n ((l.take i).map fun x => x.1) ∧ 1 ≤ r ∧ r ≤ n ∧ (∀ j, j < i → cfStep n l (cfOk l Ls) j) ∧ Below w.heap.size w wx) (fun _ _ _ _ _ s23 _ => nL - (intOf s23).toNat)
      case atStart => exact ⟨0, n, rfl, Nat.zero_le _, rfl, rfl, hn1, Int.le_refl _, (fun j hj => absurd hj (by omega)), HB0.out⟩
      case round =>
        obtain ⟨i, r, rfl, hi, rfl, hr, hr1, hr2, hst, hB⟩ := hrel
        have HR := Lib.hid hr; have HSt := Lib.hid hst; have HB := Lib.hid hB
        clear hr hst hB HB0
        by_cases hil : i < nL
        · have hil2 : i < l.length := by rw [HN.out]; exact hil
          obtain ⟨bl, ol, rfl, hbl, hcl⟩ := (HS.out.below HB.out) (by omega)
          obtain ⟨x0, x1⟩ := hcl i hil2
          obtain ⟨bp, op, rfl, hbp, hcp⟩ := (HL.out.below HB.out) (by rw [HNL.out]; omega)
          obtain ⟨Ai, ci, z0, hsi, hli, hci⟩ := hcp i (by rw [HNL.out]; exact hil)
          obtain ⟨p, hp⟩ : ∃ p, (l.getD i (0, 0)).1 = p := ⟨_, rfl⟩
          obtain ⟨ex, hex⟩ : ∃ ex, (l.getD i (0, 0)).2 = ex := ⟨_, rfl⟩
          have hpi := HI1.out i hil2
          have hei := HI2.out i hil2
          have HPe := Lib.hid hp; have HEe := Lib.hid hex
          rw [hp] at x0 hpi; rw [hex] at x1 hei
          have hCk := Lib.hid (fun W (h : Below wr.heap.size wr W) => CheckPrime_any Ai (Ls.getD i []) ci p W (hsi.below h) (Nat.le_trans hli hci) (HI.out i (by rw [HNL.out]; exact hil)))
          obtain ⟨lp, hlp⟩ : ∃ lp, (Ls.getD i []).length = lp := ⟨_, rfl⟩
          rw [hlp] at z0 hli hCk
          unfold maxLen at hci
          have hcl0 : 0 < i → ∃ q, (l.getD (i - 1) (0, 0)).1 = q ∧ wr.cell? ⟨bl, ol + (i - 1) * 2, none⟩ = some (.int .i64 q) := fun h => ⟨_, rfl, (hcl (i - 1) (by omega)).1⟩
          have HC0 := Lib.hid hcl0
          clear hp hex hcl hcp hlp hsi hcl0
          go_upto_region 9 with fail
          obtain ⟨V, hV⟩ : ∃ V, wr.alloc (.cells #[.int .i64 p, .int .i64 ex] 90) = V := ⟨_, rfl⟩
          have hbV : Below wr.heap.size wr V := hV ▸ (Below.refl _ _).alloc (Nat.le_refl _) _
          have y0 : V.cell? ⟨wr.heap.size, 0, none⟩ = some (.int .i64 p) := by rw [← hV]; simp [go_sem]
          have y1 : V.cell? ⟨wr.heap.size, 1, none⟩ = some (.int .i64 ex) := by rw [← hV]; simp [go_sem]
          have hsV : wr.heap.size < V.heap.size := by rw [← hV]; simp
          have z1 := (hbV.cell (p := ⟨bp, op + i, none⟩) hbp).trans z0
          rw [hV]
          obtain ⟨B9, hB9⟩ : ∃ B9, wr.heap.size = B9 := ⟨_, rfl⟩
          have HV := Lib.hid hbV
          have HB9 := Lib.hid hB9
          rw [hB9] at y0 y1 hsV hbl hbp ⊢
          clear hV hB9 hbV x0 x1 z0
          have hbl2 : bl < V.heap.size := by omega
          have hbp2 : bp < V.heap.size := by omega
          have hi9 : (i : Int) < (nL : Int) := by omega
          have hi8 : (0 : Int) ≤ (i : Int) := by omega
          go_cut [55] (fun s55 wx => ∃ B : Bool, s55 = .bool B ∧ (B = false → 1 ≤ ex ∧ (0 < i → (l.getD (i - 1) (0, 0)).1 < p) ∧ cfOk l Ls i) ∧ (B = true → ¬ cfStep n l (cfOk l Ls) i) ∧ Below V.heap.size V wx)
          case first =>
            by_cases he : ex < 1
            · have d1 : decide (ex < 1) = true := decide_eq_true he
              have HX := Lib.hid (show ¬ cfStep n l (cfOk l Ls) i from fun h => by have := h.1; rw [HEe.out] at this; omega)
              clear he
              go_big_quiet (fail)
              go_wp2_with fail
              go_meet
              exact ⟨true, rfl, (fun h => by cases h), fun _ => HX.out, below_drewN (Below.refl _ _) _⟩
            · have d1 : decide (ex < 1) = false := decide_eq_false he
              by_cases hi0 : i = 0
              · have HX := Lib.hid (fun (h : CkE p (Ls.getD i []) 0) => (show 1 ≤ ex ∧ (0 < i → (l.getD (i - 1) (0, 0)).1 < p) ∧ cfOk l Ls i from ⟨by omega, (fun h => absurd h (by omega)), by unfold cfOk; rw [HPe.out]; exact h⟩))
                have HY := Lib.hid (fun E (h : CkE p (Ls.getD i []) E) (h0 : E ≠ 0) => (show ¬ cfStep n l (cfOk l Ls) i from fun g => by have := g.2.2.1; unfold cfOk at this; rw [HPe.out] at this; exact h0 (h.unique this)))
                have d2 : decide ((0 : Int) < (i : Int)) = false := decide_eq_false (by omega)
                have d2n : decide (0 < i) = false := decide_eq_false (by omega)
                have HC9 := Lib.hid (fun W (h : Below V.heap.size V W) => hCk.out W (HV.out.trans (h.mono HV.out.size)))
                have HZ := Lib.hid hi0
                clear he hi0
                have MK := Lib.hid (fun w' (h : Below V.heap.size V w') => (show Below V.heap.size V w' ∧ w'.cell? ⟨B9, 0, none⟩ = some (.int .i64 p) ∧ w'.cell? ⟨B9, 1, none⟩ = some (.int .i64 ex) ∧ w'.cell? ⟨bp, op + i, none⟩ = some (.slice Ai lp ci) from
                  ⟨h, (h.cell (p := ⟨B9, 0, none⟩) hsV).trans y0, (h.cell (p := ⟨B9, 1, none⟩) hsV).trans y1, (h.cell (p := ⟨bp, op + i, none⟩) hbp2).trans z1⟩))
                have HG := Lib.hid (MK.out _ (Below.refl _ _).drew)
                refine wp_region_held_drew (S := (fun w' => Below V.heap.size V w' ∧ w'.cell? ⟨B9, 0, none⟩ = some (.int .i64 p) ∧ w'.cell? ⟨B9, 1, none⟩ = some (.int .i64 ex) ∧ w'.cell? ⟨bp, op + i, none⟩ = some (.slice Ai lp ci))) (by kernel_rfl) ?_ (fun hHeld => ?_)
                · exact HG.out
                refine take_held (i := 0) (v := ?_) rfl (by kernel_rfl) (by kernel_rfl) (by kernel_rfl) (fun _ _ _ h => h) (Or.inl ⟨by rfl, ?_⟩) (by assumption) ?_
                rotate_left
                · intro w hSw; (try dsimp only at hSw); go_simp; first | done | with_reducible rfl | (have hz := HZ.out; omega) | (simp [HZ.out])
                try simp only [Act.put, List.setIfInBounds_toArray, List.set_cons_zero, List.set_cons_succ]
                refine take_held (i := 1) (v := ?_) rfl (by kernel_rfl) (by kernel_rfl) (by kernel_rfl) (fun _ _ _ h => h) (Or.inl ⟨by rfl, ?_⟩) (by assumption) ?_
                rotate_left
                · intro w hSw; (try dsimp only at hSw); go_simp; first | done | with_reducible rfl | (have hz := HZ.out; omega) | (simp [HZ.out])
                try simp only [Act.put, List.setIfInBounds_toArray, List.set_cons_zero, List.set_cons_succ]
                refine take_held (i := 2) (v := ?_) rfl (by kernel_rfl) (by kernel_rfl) (by kernel_rfl) (fun _ _ _ h => h) (Or.inl ⟨by rfl, ?_⟩) (by assumption) ?_
                rotate_left
                · intro w hSw; (try dsimp only at hSw); go_simp; first | done | with_reducible rfl | (have hz := HZ.out; omega) | (simp [HZ.out])
                try simp only [Act.put, List.setIfInBounds_toArray, List.set_cons_zero, List.set_cons_succ]
                refine take_held (i := 3) (v := ?_) rfl (by kernel_rfl) (by kernel_rfl) (by kernel_rfl) (fun _ _ _ h => h) (Or.inl ⟨by rfl, ?_⟩) (by assumption) ?_
                rotate_left
                · intro w hSw; (try dsimp only at hSw); go_simp; first | done | with_reducible rfl | (have hz := HZ.out; omega) | (simp [HZ.out])
                try simp only [Act.put, List.setIfInBounds_toArray, List.set_cons_zero, List.set_cons_succ]
                refine take_held (i := 4) (v := ?_) rfl (by kernel_rfl) (by kernel_rfl) (by kernel_rfl) (fun _ _ _ h => h) (Or.inl ⟨by rfl, ?_⟩) (by assumption) ?_
                rotate_left
                · intro w hSw; (try dsimp only at hSw); go_simp; first | done | with_reducible rfl | (have hz := HZ.out; omega) | (simp [HZ.out])
                try simp only [Act.put, List.setIfInBounds_toArray, List.set_cons_zero, List.set_cons_succ]
                refine take_held (i := 5) (v := .bool false) rfl (by kernel_rfl) (by kernel_rfl) (by kernel_rfl) (fun _ _ _ h => h) (Or.inl ⟨by rfl, ?_⟩) (by assumption) ?_
                · intro w hSw; (try dsimp only at hSw); go_simp; first | done | with_reducible rfl | (have hz := HZ.out; omega) | (simp [HZ.out])
                try simp only [Act.put, List.setIfInBounds_toArray, List.set_cons_zero, List.set_cons_succ]
                refine take_held (i := 6) (v := .bool false) rfl (by kernel_rfl) (by kernel_rfl) (by kernel_rfl) (fun _ _ _ h => h) (Or.inl ⟨by rfl, ?_⟩) (by assumption) ?_
                · intro w hSw; (try dsimp only at hSw); go_simp; first | done | with_reducible rfl | (have hz := HZ.out; omega) | (simp [HZ.out])
                try simp only [Act.put, List.setIfInBounds_toArray, List.set_cons_zero, List.set_cons_succ]
                refine take_held (i := 7) (v := undef) rfl (by kernel_rfl) (by kernel_rfl) (by kernel_rfl) (fun _ _ _ h => h) (Or.inr ⟨by rfl, rfl⟩) (by assumption) ?_
                try simp only [Act.put, List.setIfInBounds_toArray, List.set_cons_zero, List.set_cons_succ]
                refine take_held (i := 8) (v := undef) rfl (by kernel_rfl) (by kernel_rfl) (by kernel_rfl) (fun _ _ _ h => h) (Or.inr ⟨by rfl, rfl⟩) (by assumption) ?_
                try simp only [Act.put, List.setIfInBounds_toArray, List.set_cons_zero, List.set_cons_succ]
                refine take_held (i := 9) (v := undef) rfl (by kernel_rfl) (by kernel_rfl) (by kernel_rfl) (fun _ _ _ h => h) (Or.inr ⟨by rfl, rfl⟩) (by assumption) ?_
                try simp only [Act.put, List.setIfInBounds_toArray, List.set_cons_zero, List.set_cons_succ]
                refine take_held (i := 10) (v := undef) rfl (by kernel_rfl) (by kernel_rfl) (by kernel_rfl) (fun _ _ _ h => h) (Or.inr ⟨by rfl, rfl⟩) (by assumption) ?_
                try simp only [Act.put, List.setIfInBounds_toArray, List.set_cons_zero, List.set_cons_succ]
                refine take_held (i := 11) (v := undef) rfl (by kernel_rfl) (by kernel_rfl) (by kernel_rfl) (fun _ _ _ h => h) (Or.inr ⟨by rfl, rfl⟩) (by assumption) ?_
                try simp only [Act.put, List.setIfInBounds_toArray, List.set_cons_zero, List.set_cons_succ]
                refine take_held (i := 12) (v := undef) rfl (by kernel_rfl) (by kernel_rfl) (by kernel_rfl) (fun _ _ _ h => h) (Or.inr ⟨by rfl, rfl⟩) (by assumption) ?_
                try simp only [Act.put, List.setIfInBounds_toArray, List.set_cons_zero, List.set_cons_succ]
                refine take_held (i := 13) (v := undef) rfl (by kernel_rfl) (by kernel_rfl) (by kernel_rfl) (fun _ _ _ h => h) (Or.inr ⟨by rfl, rfl⟩) (by assumption) ?_
                try simp only [Act.put, List.setIfInBounds_toArray, List.set_cons_zero, List.set_cons_succ]
                refine take_held (i := 14) (v := undef) rfl (by kernel_rfl) (by kernel_rfl) (by kernel_rfl) (fun _ _ _ h => h) (Or.inr ⟨by rfl, rfl⟩) (by assumption) ?_
                try simp only [Act.put, List.setIfInBounds_toArray, List.set_cons_zero, List.set_cons_succ]
                refine take_held (i := 15) (v := undef) rfl (by kernel_rfl) (by kernel_rfl) (by kernel_rfl) (fun _ _ _ h => h) (Or.inr ⟨by rfl, rfl⟩) (by assumption) ?_
                try simp only [Act.put, List.setIfInBounds_toArray, List.set_cons_zero, List.set_cons_succ]
                refine take_held (i := 16) (v := ?_) rfl (by kernel_rfl) (by kernel_rfl) (by kernel_rfl) (fun _ _ _ h => h) (Or.inl ⟨by rfl, ?_⟩) (by assumption) ?_
                rotate_left
                · intro w hSw; (try dsimp only at hSw); go_simp; first | done | with_reducible rfl | (have hz := HZ.out; omega) | (simp [HZ.out])
                try simp only [Act.put, List.setIfInBounds_toArray, List.set_cons_zero, List.set_cons_succ]
                refine take_held (i := 17) (v := ?_) rfl (by kernel_rfl) (by kernel_rfl) (by kernel_rfl) (fun _ _ _ h => h) (Or.inl ⟨by rfl, ?_⟩) (by assumption) ?_
                rotate_left
                · intro w hSw; (try dsimp only at hSw); go_simp; first | done | with_reducible rfl | (have hz := HZ.out; omega) | (simp [HZ.out])
                try simp only [Act.put, List.setIfInBounds_toArray, List.set_cons_zero, List.set_cons_succ]
                refine take_held (i := 18) (v := ?_) rfl (by kernel_rfl) (by kernel_rfl) (by kernel_rfl) (fun _ _ _ h => h) (Or.inl ⟨by rfl, ?_⟩) (by assumption) ?_
                rotate_left
                · intro w hSw; (try dsimp only at hSw); go_simp; first | done | with_reducible rfl | (have hz := HZ.out; omega) | (simp [HZ.out])
                try simp only [Act.put, List.setIfInBounds_toArray, List.set_cons_zero, List.set_cons_succ]
                refine take_held (i := 19) (v := ?_) rfl (by kernel_rfl) (by kernel_rfl) (by kernel_rfl) (fun _ _ _ h => h) (Or.inl ⟨by rfl, ?_⟩) (by assumption) ?_
                rotate_left
                · intro w hSw; (try dsimp only at hSw); go_simp; first | done | with_reducible rfl | (have hz := HZ.out; omega) | (simp [HZ.out])
                try simp only [Act.put, List.setIfInBounds_toArray, List.set_cons_zero, List.set_cons_succ]
                refine take_held (i := 20) (v := ?_) rfl (by kernel_rfl) (by kernel_rfl) (by kernel_rfl) (fun _ _ _ h => h) (Or.inl ⟨by rfl, ?_⟩) (by assumption) ?_
                rotate_left
                · intro w hSw; (try dsimp only at hSw); go_simp; first | done | with_reducible rfl | (have hz := HZ.out; omega) | (simp [HZ.out])
                try simp only [Act.put, List.setIfInBounds_toArray, List.set_cons_zero, List.set_cons_succ]
                refine take_held (i := 21) (v := ?_) rfl (by kernel_rfl) (by kernel_rfl) (by kernel_rfl) (fun _ _ _ h => h) (Or.inl ⟨by rfl, ?_⟩) (by assumption) ?_
                rotate_left
                · intro w hSw; (try dsimp only at hSw); go_simp; first | done | with_reducible rfl | (have hz := HZ.out; omega) | (simp [HZ.out])
                try simp only [Act.put, List.setIfInBounds_toArray, List.set_cons_zero, List.set_cons_succ]
                refine take_held (i := 22) (v := ?_) rfl (by kernel_rfl) (by kernel_rfl) (by kernel_rfl) (fun _ _ _ h => h) (Or.inl ⟨by rfl, ?_⟩) (by assumption) ?_
                rotate_left
                · intro w hSw; (try dsimp only at hSw); go_simp; first | done | with_reducible rfl | (have hz := HZ.out; omega) | (simp [HZ.out])
                try simp only [Act.put, List.setIfInBounds_toArray, List.set_cons_zero, List.set_cons_succ]
                refine take_held (i := 23) (v := ?_) rfl (by kernel_rfl) (by kernel_rfl) (by kernel_rfl) (fun _ _ _ h => h) (Or.inl ⟨by rfl, ?_⟩) (by assumption) ?_
                rotate_left
                · intro w hSw; (try dsimp only at hSw); go_simp; first | done | with_reducible rfl | (have hz := HZ.out; omega) | (simp [HZ.out])
                try simp only [Act.put, List.setIfInBounds_toArray, List.set_cons_zero, List.set_cons_succ]
                refine take_held (i := 24) (v := ?_) rfl (by kernel_rfl) (by kernel_rfl) (by kernel_rfl) (fun _ _ _ h => h) (Or.inl ⟨by rfl, ?_⟩) (by assumption) ?_
                rotate_left
                · intro w hSw; (try dsimp only at hSw); go_simp; first | done | with_reducible rfl | (have hz := HZ.out; omega) | (simp [HZ.out])
                try simp only [Act.put, List.setIfInBounds_toArray, List.set_cons_zero, List.set_cons_succ]
                refine wpAnyH_ready (rs := [25]) (by kernel_rfl) (by simp) ?_
                refine AllReadyH.cons rfl (fun K hK => ?_) AllReadyH.nil
                go_simp
                (go_at_call 21; (with_reducible refine (HC9.out _ (And.left (by assumption))).mono ?_); rintro e w2 ⟨E, rfl, hEi, b2⟩)
                refine hK.out _ _ ?_ (fun hHeld2 => ?_)
                · exact MK.out _ ((And.left hHeld : Below V.heap.size V _).trans (b2.mono (And.left hHeld).size))
                clear hK K hHeld
                try simp only [Act.put, List.setIfInBounds_toArray, List.set_cons_zero, List.set_cons_succ]
                refine take_held (i := 26) (v := ?_) rfl (by kernel_rfl) (by kernel_rfl) (by kernel_rfl) (fun _ _ _ h => h) (Or.inl ⟨by rfl, ?_⟩) (by assumption) ?_
                rotate_left
                · intro w hSw; (try dsimp only at hSw); go_simp; first | done | with_reducible rfl | (have hz := HZ.out; omega) | (simp [HZ.out])
                try simp only [Act.put, List.setIfInBounds_toArray, List.set_cons_zero, List.set_cons_succ]
                refine take_held (i := 27) (v := ?_) rfl (by kernel_rfl) (by kernel_rfl) (by kernel_rfl) (fun _ _ _ h => h) (Or.inl ⟨by rfl, ?_⟩) (by assumption) ?_
                rotate_left
                · intro w hSw; (try dsimp only at hSw); go_simp; first | done | with_reducible rfl | (have hz := HZ.out; omega) | (simp [HZ.out])
                try simp only [Act.put, List.setIfInBounds_toArray, List.set_cons_zero, List.set_cons_succ]
                refine wpAnyH_done (by kernel_rfl) ?_ _
                all_goals
                  have HBv := (And.left (by assumption) : Below V.heap.size V w2)
                  have HEi := Lib.hid hEi
                  clear hEi
                  by_cases hE0 : E = 0
                  · have dE : (E != 0) = false := by rw [hE0]; rfl
                    have HX2 := Lib.hid (HX.out (hE0 ▸ HEi.out))
                    clear hE0
                    go_wp2_with fail
                    go_meet
                    exact ⟨false, by rw [dE], fun _ => HX2.out, (fun h => by cases h), HBv⟩
                  · have dE : (E != 0) = true := bne_iff_ne.2 hE0
                    have HY2 := Lib.hid (HY.out E HEi.out hE0)
                    clear hE0
                    go_wp2_with fail
                    go_meet
                    exact ⟨true, by rw [dE], (fun h => by cases h), fun _ => HY2.out, HBv⟩
              · obtain ⟨q, hq, w0⟩ := HC0.out (by omega)
                have HQ := Lib.hid hq
                have w1 := (HV.out.cell (p := ⟨bl, ol + (i - 1) * 2, none⟩) (show bl < wr.heap.size by have := HB9.out; omega)).trans w0
                have d2 : decide ((0 : Int) < (i : Int)) = true := decide_eq_true (by omega)
                have d2n : decide (0 < i) = true := decide_eq_true (by omega)
                have e1 : IntKind.i64.wrap ((i : Int) - 1) = (i : Int) - 1 := IntWalk.i64_in _ (by omega)
                have e2 : (1 : Int) ≤ (i : Int) := by omega
                have e3 : ((i : Int) - 1).toNat = i - 1 := by omega
                have e4 : (i : Int) - 1 < (nL : Int) := by omega
                have e5 : (0 : Int) ≤ (i : Int) - 1 := by omega
                clear hq w0
                by_cases hpq : p ≤ q
                · have d3 : decide (p ≤ q) = true := decide_eq_true hpq
                  have HX := Lib.hid (show ¬ cfStep n l (cfOk l Ls) i from fun h => by have := h.2.1 (by omega); rw [HPe.out, HQ.out] at this; omega)
                  clear he hpq
                  go_big_quiet (fail)
                  go_wp2_with fail
                  go_meet
                  exact ⟨true, rfl, (fun h => by cases h), fun _ => HX.out, below_drewN (Below.refl _ _) _⟩
                · have d3 : decide (p ≤ q) = false := decide_eq_false hpq
                  have HX := Lib.hid (fun (h : CkE p (Ls.getD i []) 0) => (show 1 ≤ ex ∧ (0 < i → (l.getD (i - 1) (0, 0)).1 < p) ∧ cfOk l Ls i from ⟨by omega, fun _ => by rw [HQ.out]; omega, by unfold cfOk; rw [HPe.out]; exact h⟩))
                  have HY := Lib.hid (fun E (h : CkE p (Ls.getD i []) E) (h0 : E ≠ 0) => (show ¬ cfStep n l (cfOk l Ls) i from fun g => by have := g.2.2.1; unfold cfOk at this; rw [HPe.out] at this; exact h0 (h.unique this)))
                  have MK := Lib.hid (fun w' (h : Below V.heap.size V w') => (show Below V.heap.size V w' ∧ w'.cell? ⟨B9, 0, none⟩ = some (.int .i64 p) ∧ w'.cell? ⟨B9, 1, none⟩ = some (.int .i64 ex) ∧ w'.cell? ⟨bl, ol + (i - 1) * 2, none⟩ = some (.int .i64 q) ∧ w'.cell? ⟨bp, op + i, none⟩ = some (.slice Ai lp ci) from
                    ⟨h, (h.cell (p := ⟨B9, 0, none⟩) hsV).trans y0, (h.cell (p := ⟨B9, 1, none⟩) hsV).trans y1, (h.cell (p := ⟨bl, ol + (i - 1) * 2, none⟩) hbl2).trans w1, (h.cell (p := ⟨bp, op + i, none⟩) hbp2).trans z1⟩))
                  have HC9 := Lib.hid (fun W (h : Below V.heap.size V W) => hCk.out W (HV.out.trans (h.mono HV.out.size)))
                  have HG := Lib.hid (MK.out _ (Below.refl _ _).drew)
                  clear he hpq
                  go_region_held3 (fun w' => Below V.heap.size V w' ∧ w'.cell? ⟨B9, 0, none⟩ = some (.int .i64 p) ∧ w'.cell? ⟨B9, 1, none⟩ = some (.int .i64 ex) ∧ w'.cell? ⟨bl, ol + (i - 1) * 2, none⟩ = some (.int .i64 q) ∧ w'.cell? ⟨bp, op + i, none⟩ = some (.slice Ai lp ci))
                    (first
                      | assumption
                      | exact HG.out
                      | exact MK.out _ ((And.left (by assumption) : Below V.heap.size V _).trans (Below.mono (by assumption) (Below.size (And.left (by assumption))))))
                    (first
                      | (go_at_call 21; (with_reducible refine (HC9.out _ (And.left (by assumption))).mono ?_); rintro e w2 ⟨E, rfl, hEi, b2⟩))
                  all_goals
                    have HBv := (And.left (by assumption) : Below V.heap.size V w2)
                    have HEi := Lib.hid hEi
                    clear hEi
                    by_cases hE0 : E = 0
                    · have dE : (E != 0) = false := by rw [hE0]; rfl
                      have HX2 := Lib.hid (HX.out (hE0 ▸ HEi.out))
                      clear hE0
                      go_wp2_with fail
                      go_meet
                      exact ⟨false, by rw [dE], fun _ => HX2.out, (fun h => by cases h), HBv⟩
                    · have dE : (E != 0) = true := bne_iff_ne.2 hE0
                      have HY2 := Lib.hid (HY.out E HEi.out hE0)
                      clear hE0
                      go_wp2_with fail
                      go_meet
                      exact ⟨true, by rw [dE], (fun h => by cases h), fun _ => HY2.out, HBv⟩
          case rest =>
            obtain ⟨B, rfl, hBf, hBt, hBv⟩ := hcut
            have HBv := Lib.hid (HB.out.trans ((HV.out.trans (hBv.mono HV.out.size)).mono HB.out.size))
            cases B
            · obtain ⟨g1, g2, g3⟩ := hBf rfl
              have HG2 := Lib.hid g2; have HG3 := Lib.hid g3
              have hpp := g3.prime
              rw [HPe.out] at hpp
              obtain ⟨hp1, hp2⟩ := hpp
              have hp3 := hp1.1
              have HPp := Lib.hid hp1
              have v0 := (hBv.cell (p := ⟨B9, 0, none⟩) hsV).trans y0
              have v1 := (hBv.cell (p := ⟨B9, 1, none⟩) hsV).trans y1
              have HVl := Lib.hid (fun W => valuation_any r p W ⟨by omega, by omega⟩ (by omega) (by omega) (by omega))
              obtain ⟨q1, q2⟩ := rest_le (p := p) (n := r) (by omega) hr1
              have HStep := Lib.hid (show (vp p r : Int) = ex → cfStep n l (cfOk l Ls) i from fun h => ⟨by rw [HEe.out]; exact g1, by rw [HPe.out]; exact g2, g3, by rw [HPe.out, HEe.out, ← HR.out]; exact h⟩)
              have HNst := Lib.hid (show cfStep n l (cfOk l Ls) i → (vp p r : Int) = ex from fun h => by have := h.2.2.2; rw [HPe.out, HEe.out, ← HR.out] at this; exact this)
              have HNx := Lib.hid (show restL n ((l.take (i + 1)).map fun x => x.1) = rest p r by rw [rest_step hil2, HPe.out, ← HR.out])
              clear hBf hBt hBv g2 g3 hp1 y0 y1 z1
              go_wp2_with fail
              refine (HVl.out _).mono ?_
              rintro e w' ⟨rfl, n3, rfl⟩
              by_cases hv : (vp p r : Int) = ex
              · have d5 : ((vp p r : Int) != ex) = false := by rw [hv]; simp
                have HS9 := Lib.hid (HStep.out hv)
                clear hv
                obtain ⟨vr, hvr⟩ : ∃ vr, rest p r = vr := ⟨_, rfl⟩
                rw [hvr] at q1 q2 HNx ⊢
                clear hvr
                go_wp2_with fail
                exact ⟨⟨i + 1, vr, by first | rfl | go_num, by omega, rfl, HNx.out.symm, q1, by omega, (fun j hj => by
                  rcases Nat.lt_or_ge j i with g | g
                  · exact HSt.out j g
                  · rw [show j = i by omega]; exact HS9.out), below_drewN HBv.out n3⟩, by simp [intOf]; omega⟩
              · have d5 : ((vp p r : Int) != ex) = true := bne_iff_ne.2 hv
                have HX := Lib.hid (show ¬ CfGood n l Ls from fun h => hv (HNst.out ((h.steps hn1).1 i hil2)))
                clear hv
                go_wp2_with fail
                go_ret
                exact ⟨18, rfl, .inr (.inr ⟨HMb.out, HX.out, rfl⟩), below_drewN HBv.out n3⟩
            · have HX := Lib.hid (show ¬ CfGood n l Ls from fun h => hBt rfl ((h.steps hn1).1 i hil2))
              clear hBf hBt hBv
              go_wp2_with fail
              go_ret
              exact ⟨18, rfl, .inr (.inr ⟨HMb.out, HX.out, rfl⟩), HBv.out⟩
        · have hie : i = nL := by omega
          have HRe := Lib.hid (show r = restL n (l.map fun x => x.1) by rw [HR.out, hie, ← HN.out, List.take_length])
          have HAll := Lib.hid (show ∀ j, j < l.length → cfStep n l (cfOk l Ls) j from fun j hj => HSt.out j (by rw [HN.out] at hj; omega))
          by_cases hr9 : r = 1
          · have HX := Lib.hid (show CfGood n l Ls from CfGood.mk hn1 (by rw [HN.out, HNL.out]) HAll.out (by rw [← HRe.out]; exact hr9))
            have d6 : (r != 1) = false := by rw [hr9]; rfl
            clear hr9 hie
            go_wp2_with fail
            go_ret
            exact ⟨0, rfl, .inr (.inl ⟨HMb.out, HX.out, rfl⟩), HB.out⟩
          · have HX := Lib.hid (show ¬ CfGood n l Ls from fun h => hr9 (by rw [HRe.out]; exact (h.steps hn1).2))
            have d6 : (r != 1) = true := bne_iff_ne.2 hr9
            clear hr9 hie
            go_wp2_with fail
            go_ret
            exact ⟨18, rfl, .inr (.inr ⟨HMb.out, HX.out, rfl⟩), HB.out⟩
    · go_enter Try.func37, Try.ntmps37
      go_wp2_with fail
      refine (HM.out _).mono ?_
      rintro e w' ⟨rfl, n1, rfl⟩
      go_wp2_with fail
      go_ret
      exact ⟨18, rfl, .inr (.inr ⟨HMb.out, (fun h => hne (by rw [← HNL.out, ← HN.out]; exact h.2.1)), rfl⟩), below_drewN (Below.refl _ _) _⟩
end Go.Proofs.Ytfjmhfmhijhpkaa
