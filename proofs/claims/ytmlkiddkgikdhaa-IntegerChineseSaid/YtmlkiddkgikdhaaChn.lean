/- Chinese of the program and of the reference. -/
import Derived.Test.YtmlkiddkgikdhaaInv
import Derived.Test.YtmlkiddkgikdhaaOwn
import Derived.Test.YtmlkiddkgikdhaaChin
import Derived.Test.YtmlkiddkgikdhaaBez
import Derived.Deep.DeepCutAuto
namespace Go.Proofs.Ytmlkiddkgikdhaa
open Go.RowKit FF

/-- a list of residues joined to the rest -/
def chinGo : List (Int × Int) → Int → Int → Int × Int × Int
  | [], R, M => (R, M, 0)
  | x :: l, R, M => if 1000000000 < chinM M x.2 then (0, 0, 8) else chinGo l (chinR R M x.1 x.2) (chinM M x.2)
/-- two residues that agree -/
def agreeB (x y : Int × Int) : Bool := x.1 % (Int.gcd x.2 y.2 : Int) == y.1 % (Int.gcd x.2 y.2 : Int)
/-- all before the first are of one mind -/
def pairsB (l : List (Int × Int)) : Bool := (List.range l.length).all fun i => (List.range i).all fun k => agreeB (l.getD i (0, 0)) (l.getD k (0, 0))
def chinAll (l : List (Int × Int)) : Int × Int × Int :=
  if 20 < l.length then (0, 0, 8) else if (l.all fun x => modB x.2) = false then (0, 0, 2) else if pairsB l = false then (0, 0, 12) else chinGo l 0 1
/-- a slice of pairs that reads so -/
def ShowsP (w : World) (A : Option Addr) (l : List (Int × Int)) : Prop :=
  0 < l.length → ∃ b o, A = some ⟨b, o, none⟩ ∧ b < w.heap.size ∧ ∀ i, i < l.length → w.cell? ⟨b, o + i * 2, none⟩ = some (.int .i64 (l.getD i (0, 0)).1) ∧ w.cell? ⟨b, o + i * 2 + 1, none⟩ = some (.int .i64 (l.getD i (0, 0)).2)

theorem chinAll_mod {l : List (Int × Int)} {i : Nat} (h20 : ¬ 20 < l.length) (hi : i < l.length) (h : modB (l.getD i (0, 0)).2 = false) : chinAll l = (0, 0, 2) := by
  have hf : (l.all fun x => modB x.2) = false := by
    rw [List.all_eq_false]
    refine ⟨l.getD i (0, 0), ?_, by rw [h]; simp⟩
    rw [List.getD_eq_getElem?_getD, List.getElem?_eq_getElem hi]; exact List.getElem_mem _
  unfold chinAll; rw [if_neg h20, if_pos hf]
theorem all_mod {l : List (Int × Int)} (hm : ∀ j, j < l.length → modB (l.getD j (0, 0)).2 = true) : (l.all fun x => modB x.2) = true := by
  rw [List.all_eq_true]
  intro x hx
  obtain ⟨j, hj, rfl⟩ := List.getElem_of_mem hx
  have := hm j hj
  rwa [List.getD_eq_getElem?_getD, List.getElem?_eq_getElem hj] at this
theorem chinAll_pair {l : List (Int × Int)} {i k : Nat} (h20 : ¬ 20 < l.length) (hm : ∀ j, j < l.length → modB (l.getD j (0, 0)).2 = true) (hi : i < l.length) (hk : k < i) (h : agreeB (l.getD i (0, 0)) (l.getD k (0, 0)) = false) : chinAll l = (0, 0, 12) := by
  have hf : pairsB l = false := by
    unfold pairsB
    rw [List.all_eq_false]
    refine ⟨i, List.mem_range.2 hi, ?_⟩
    rw [Bool.not_eq_true, List.all_eq_false]
    exact ⟨k, List.mem_range.2 hk, by rw [h]; simp⟩
  unfold chinAll; rw [if_neg h20, if_neg (by rw [all_mod hm]; simp), if_pos hf]
theorem chinAll_go {l : List (Int × Int)} (h20 : ¬ 20 < l.length) (hm : ∀ j, j < l.length → modB (l.getD j (0, 0)).2 = true) (hp : ∀ i, i < l.length → ∀ k, k < i → agreeB (l.getD i (0, 0)) (l.getD k (0, 0)) = true) : chinAll l = chinGo l 0 1 := by
  have hf : pairsB l = true := by
    unfold pairsB
    rw [List.all_eq_true]
    intro i hi
    rw [List.all_eq_true]
    intro k hk
    exact hp i (List.mem_range.1 hi) k (List.mem_range.1 hk)
  unfold chinAll; rw [if_neg h20, if_neg (by rw [all_mod hm]; simp), if_neg (by rw [hf]; simp)]
theorem chinGo_at {l : List (Int × Int)} {i : Nat} (hi : i < l.length) (R M : Int) : chinGo (l.drop i) R M =
    if 1000000000 < chinM M (l.getD i (0, 0)).2 then (0, 0, 8) else chinGo (l.drop (i + 1)) (chinR R M (l.getD i (0, 0)).1 (l.getD i (0, 0)).2) (chinM M (l.getD i (0, 0)).2) := by
  rw [List.drop_eq_getElem_cons hi, List.getD_eq_getElem?_getD, List.getElem?_eq_getElem hi]
  rfl
/-- two cells, at the bottom of what has been laid since a world -/
structure Two (w : World) (a b : Int) (wr : World) : Prop where
  bel : Below w.heap.size w wr
  c0 : wr.cell? ⟨w.heap.size, 0, none⟩ = some (.int .i64 a)
  c1 : wr.cell? ⟨w.heap.size, 1, none⟩ = some (.int .i64 b)
  f0 : wr.frozen? ⟨w.heap.size, 0, none⟩ = false
  f1 : wr.frozen? ⟨w.heap.size, 1, none⟩ = false
  lt : w.heap.size < wr.heap.size
section
variable {w wr w' : World} {a b : Int}
theorem Two.start (w : World) (T : TypeId) (a b : Int) : Two w a b (w.alloc (.cells #[.int .i64 a, .int .i64 b] T)) :=
  ⟨(Below.refl _ _).alloc (Nat.le_refl _) _, by simp [go_sem], by simp [go_sem], by simp [go_sem], by simp [go_sem], by simp⟩
theorem Two.next (h : Two w a b wr) (hb : Below wr.heap.size wr w') : Two w a b w' :=
  ⟨h.bel.trans (hb.mono (Nat.le_of_lt h.lt)), (hb.cell h.lt).trans h.c0, (hb.cell h.lt).trans h.c1, (hb.frozen h.lt).trans h.f0, (hb.frozen h.lt).trans h.f1, Nat.lt_of_lt_of_le h.lt hb.size⟩
theorem Two.drewN (h : Two w a b wr) (n : Nat) : Two w a b (wr.drewN n) := ⟨below_drewN h.bel n, h.c0, h.c1, h.f0, h.f1, h.lt⟩
theorem Two.put (h : Two w a b wr) (a' b' : Int) : Two w a' b' ((wr.setCell ⟨w.heap.size, 0, none⟩ (.int .i64 a')).setCell ⟨w.heap.size, 1, none⟩ (.int .i64 b')) := by
  have h1 : (wr.setCell ⟨w.heap.size, 0, none⟩ (.int .i64 a')).cell? ⟨w.heap.size, 1, none⟩ = some (.int .i64 b) := (World.cell?_setCell_other _ _ _ _ (by simp)).trans h.c1
  refine ⟨(h.bel.setCell (Nat.le_refl _) _).setCell (Nat.le_refl _) _, ?_, World.cell?_setCell_same _ _ _ h1, ?_, ?_, ?_⟩
  · exact (World.cell?_setCell_other _ _ _ _ (by simp)).trans (World.cell?_setCell_same _ _ _ h.c0)
  · rw [World.frozen?_setCell, World.frozen?_setCell]; exact h.f0
  · rw [World.frozen?_setCell, World.frozen?_setCell]; exact h.f1
  · simpa using h.lt
end
theorem ShowsP.at {w : World} {A : Option Addr} {l : List (Int × Int)} {N i : Nat} (h : ShowsP w A l) (hN : l.length = N) (hi : i < N) : ∃ b o, A = some ⟨b, o, none⟩ ∧ b < w.heap.size ∧
    w.cell? ⟨b, o + i * 2, none⟩ = some (.int .i64 (l.getD i (0, 0)).1) ∧ w.cell? ⟨b, o + i * 2 + 1, none⟩ = some (.int .i64 (l.getD i (0, 0)).2) := by
  obtain ⟨b, o, e, hb, hc⟩ := h (by omega)
  exact ⟨b, o, e, hb, hc i (by omega)⟩


set_option maxRecDepth 100000 in
set_option maxHeartbeats 8000000 in
theorem Chinese_any (A : Option Addr) (l : List (Int × Int)) (c : Nat) (w : World) (hs : ShowsP w A l) (hl : l.length ≤ 25) (hlc : l.length ≤ c) (hr : ∀ i, i < l.length → I64 (l.getD i (0, 0)).1) :
    Calls Try.prog 54 #[.slice A l.length c] w fun e w' => e = .returned (.tuple #[.agg #[.int .i64 (chinAll l).1, .int .i64 (chinAll l).2.1], .int .i64 (chinAll l).2.2]) ∧ Below w.heap.size w w' := by
  have HS := Lib.hid hs
  have hMo := Lib.hid (fun m w => modulus_any m w)
  clear hs
  by_cases h20 : 20 < l.length
  · have hE : chinAll l = (0, 0, 8) := if_pos h20
    rw [hE]
    clear hE hlc hr
    generalize l.length = N at *
    go_enter Try.func54, Try.ntmps54
    go_wp2_with fail
    refine bodyPost_ret (v := .tuple #[.agg #[.int .i64 0, .int .i64 0], .int .i64 8]) (by simp [results, Try.results54, go_sem]) rfl ?_
    exact ⟨rfl, (Below.refl _ _).alloc (Nat.le_refl _) _⟩
  · have hN0 : ∃ N : Nat, l.length = N := ⟨_, rfl⟩
    obtain ⟨N, hN⟩ := hN0
    have HN := Lib.hid hN
    have H20 := Lib.hid h20
    have hMd := Lib.hid (fun (b m : Int) (w : World) (h1 : I64 b) (h2 : 1 ≤ m) (h3 : m ≤ 1000000000) => mod_any b m w h1 (by omega) ⟨by omega, by omega⟩)
    have hGc := Lib.hid (fun (a b : Int) (w : World) (h1 : 1 ≤ a) (h2 : a ≤ 1000000000) (h3 : 1 ≤ b) (h4 : b ≤ 1000000000) => gcd_any a b w (by omega) (by omega))
    have hIv := Lib.hid (fun (a m : Int) (w : World) (h : I64 a) (h1 : 1 ≤ m) (h2 : m ≤ 1000000000) (h3 : Int.gcd a m = 1) => inverse_any a m w h h1 h2 h3)
    have HI := Lib.hid hr
    rw [hN] at hl h20 hlc ⊢
    clear hN hr
    go_enter Try.func54, Try.ntmps54
    go_wp2_with fail
    go_loopw [23] (fun s23 wr => ∃ i : Nat, s23 = .int .i64 i ∧ i ≤ N ∧ Two w 0 0 wr ∧ ∀ j, j < i → modB (l.getD j (0, 0)).2 = true) (fun s23 _ => N - (intOf s23).toNat)
    case atStart => exact ⟨0, rfl, Nat.zero_le _, Two.start _ _ _ _, fun j hj => absurd hj (by omega)⟩
    case round =>
      obtain ⟨i, rfl, hi, hR, hG⟩ := hrel
      have HR := Lib.hid hR; have HG := Lib.hid hG
      clear hR hG
      by_cases hlt : i < N
      · obtain ⟨b, o, rfl, hb, hc1, hc2⟩ := HS.out.at HN.out hlt
        have hk1 := (HR.out.bel.cell (p := ⟨b, o + i * 2, none⟩) hb).trans hc1
        have hk2 := (HR.out.bel.cell (p := ⟨b, o + i * 2 + 1, none⟩) hb).trans hc2
        have hlt' : (i : Int) < N := by omega
        clear hc1 hc2
        cases hm : modB (l.getD i (0, 0)).2
        · have hE := Lib.hid (chinAll_mod H20.out (by rw [HN.out]; exact hlt) hm)
          have hMi := Lib.hid (fun w => hm ▸ hMo.out (l.getD i (0, 0)).2 w)
          clear hm
          generalize (l.getD i (0, 0)).1 = r at *
          generalize (l.getD i (0, 0)).2 = m at *
          go_wp2_with fail
          refine (hMi.out _).mono ?_
          rintro e w' ⟨rfl, n1, rfl⟩
          have HR2 := HR.out.next (below_drewN ((Below.refl _ _).alloc (Nat.le_refl _) (.cells #[.int .i64 r, .int .i64 m] 61)) n1)
          obtain ⟨q0, q1, q2, q3, q4, q5⟩ := HR2
          go_wp2_with fail
          refine bodyPost_ret (v := .tuple #[.agg #[.int .i64 0, .int .i64 0], .int .i64 2]) (by simp [results, Try.results54, go_sem, q1, q2]) rfl ?_
          exact ⟨by rw [hE.out], (q0.setCell (Nat.le_refl _) _).setCell (Nat.le_refl _) _⟩
        · have hMi := Lib.hid (fun w => hm ▸ hMo.out (l.getD i (0, 0)).2 w)
          have HM := Lib.hid hm
          clear hm
          generalize (l.getD i (0, 0)).1 = r at *
          generalize hmm : (l.getD i (0, 0)).2 = m at *
          have HMM := Lib.hid hmm
          clear hmm
          go_wp2_with fail
          refine (hMi.out _).mono ?_
          rintro e w' ⟨rfl, n1, rfl⟩
          go_wp2_with fail
          refine ⟨⟨i + 1, by go_num, by omega, ?_, fun j hj => ?_⟩, by simp [intOf]; omega⟩
          · exact HR.out.next (below_drewN ((Below.refl _ _).alloc (Nat.le_refl _) _) _)
          · rcases Nat.lt_or_ge j i with g | g
            · exact HG.out j g
            · obtain rfl : j = i := by omega
              rw [HMM.out]; exact HM.out
      · obtain rfl : N = i := by omega
        have HMB := Lib.hid (fun j (hj : j < N) => modB_true.1 (HG.out j hj))
        clear hMo
        go_wp2_with fail
        go_loopw [35] (fun s35 wr => ∃ i : Nat, s35 = .int .i64 i ∧ i ≤ N ∧ Two w 0 0 wr ∧ ∀ j, j < i → ∀ k, k < j → agreeB (l.getD j (0, 0)) (l.getD k (0, 0)) = true) (fun s35 _ => N - (intOf s35).toNat)
        case atStart => exact ⟨0, rfl, Nat.zero_le _, HR.out, fun j hj => absurd hj (by omega)⟩
        case round =>
          clear HR
          obtain ⟨i, rfl, hi, hR, hP⟩ := hrel
          have HR := Lib.hid hR; have HP := Lib.hid hP
          clear hR hP
          by_cases hlt : i < N
          · obtain ⟨b, o, rfl, hb, hc1, hc2⟩ := HS.out.at HN.out hlt
            have hk1 := (HR.out.bel.cell (p := ⟨b, o + i * 2, none⟩) hb).trans hc1
            have hk2 := (HR.out.bel.cell (p := ⟨b, o + i * 2 + 1, none⟩) hb).trans hc2
            have hlt' : (i : Int) < N := by omega
            have hr1 := HI.out i (by rw [HN.out]; exact hlt)
            obtain ⟨m1, m2⟩ := HMB.out i hlt
            have hx : ∃ x, l.getD i (0, 0) = x := ⟨_, rfl⟩
            obtain ⟨x, hx⟩ := hx
            have HX := Lib.hid hx
            rw [hx] at hk1 hk2 m1 m2 hr1
            clear hc1 hc2 hx
            go_wp2_with fail
            obtain ⟨W6, hW6⟩ : ∃ W6 : World, W6 = wr := ⟨_, rfl⟩
            subst hW6
            obtain ⟨W7, hW7⟩ : ∃ W7 : World, W7 = W6.alloc (.cells #[.int .i64 x.1, .int .i64 x.2] 61) := ⟨_, rfl⟩
            have HW := Lib.hid hW7
            rw [← hW7]
            clear hW7
            have B7 := Lib.hid (show Below W6.heap.size W6 W7 from HW.out ▸ (Below.refl _ _).alloc (Nat.le_refl _) _)
            have g7 : W6.heap.size < W7.heap.size := by rw [HW.out]; simp
            have c70 : W7.cell? ⟨W6.heap.size, 0, none⟩ = some (.int .i64 x.1) := by rw [HW.out]; simp [go_sem]
            have c71 : W7.cell? ⟨W6.heap.size, 1, none⟩ = some (.int .i64 x.2) := by rw [HW.out]; simp [go_sem]
            clear hk1 hk2
            go_loopw [44] (fun s44 wr2 => ∃ k : Nat, s44 = .int .i64 k ∧ k ≤ i ∧ Below W7.heap.size W7 wr2 ∧ ∀ k', k' < k → agreeB (l.getD i (0, 0)) (l.getD k' (0, 0)) = true) (fun s44 _ => i - (intOf s44).toNat)
            case atStart => exact ⟨0, rfl, Nat.zero_le _, Below.refl _ _, fun j hj => absurd hj (by omega)⟩
            case round =>
              obtain ⟨k, rfl, hk, hB, hQ⟩ := hrel
              have HB := Lib.hid hB; have HQ := Lib.hid hQ
              clear hB hQ
              by_cases hlt2 : k < i
              · obtain ⟨b', o', he, hb', hc1, hc2⟩ := HS.out.at HN.out (show k < N by omega)
                injection he with he; injection he with he1 he2
                subst he1; subst he2
                have hbW : b < W7.heap.size := Nat.lt_of_lt_of_le hb (Nat.le_trans HR.out.bel.size B7.out.size)
                have hbr : b < W6.heap.size := Nat.lt_of_lt_of_le hb HR.out.bel.size
                have hk1 := ((HB.out.cell (p := ⟨b, o + k * 2, none⟩) hbW).trans (B7.out.cell (p := ⟨b, o + k * 2, none⟩) hbr)).trans ((HR.out.bel.cell (p := ⟨b, o + k * 2, none⟩) hb).trans hc1)
                have hk2 := ((HB.out.cell (p := ⟨b, o + k * 2 + 1, none⟩) hbW).trans (B7.out.cell (p := ⟨b, o + k * 2 + 1, none⟩) hbr)).trans ((HR.out.bel.cell (p := ⟨b, o + k * 2 + 1, none⟩) hb).trans hc2)
                have e0 := (HB.out.cell (p := ⟨W6.heap.size, 0, none⟩) g7).trans c70
                have e1 := (HB.out.cell (p := ⟨W6.heap.size, 1, none⟩) g7).trans c71
                have g8 : W6.heap.size < wr.heap.size := Nat.lt_of_lt_of_le g7 HB.out.size
                have hlt2' : (k : Int) < i := by omega
                have hr2 := HI.out k (by rw [HN.out]; omega)
                obtain ⟨m3, m4⟩ := HMB.out k (by omega)
                have hy : ∃ y, l.getD k (0, 0) = y := ⟨_, rfl⟩
                obtain ⟨y, hy⟩ := hy
                have HY := Lib.hid hy
                rw [hy] at hk1 hk2 m3 m4 hr2
                clear hc1 hc2 hy
                have hgc : ∃ g : Int, (Int.gcd x.2 y.2 : Int) = g ∧ 1 ≤ g ∧ g ≤ 1000000000 := by
                  obtain ⟨h1, h2, -⟩ := chin_bounds (R := 0) (r := 0) (M := x.2) (m := y.2) (Int.le_refl 0) (by omega) m2 m3 m4
                  exact ⟨_, rfl, h1, h2⟩
                obtain ⟨g, hg, g1, g2⟩ := hgc
                have hGi := Lib.hid (fun w => hg ▸ hGc.out x.2 y.2 w m1 m2 m3 m4)
                have hMx := Lib.hid (fun w => hMd.out x.1 g w hr1 g1 g2)
                have hMy := Lib.hid (fun w => hMd.out y.1 g w hr2 g1 g2)
                have hA : agreeB x y = (x.1 % g == y.1 % g) := by unfold agreeB; rw [hg]
                clear hg
                cases hc : (x.1 % g == y.1 % g)
                · have hE := Lib.hid (chinAll_pair H20.out (fun j hj => HG.out j (by rw [← HN.out]; exact hj)) (by rw [HN.out]; exact hlt) hlt2 (by rw [HX.out, HY.out, hA, hc]))
                  have hc2 : (x.1 % g != y.1 % g) = true := by rw [bne, hc]; rfl
                  clear hA
                  generalize x.1 % g = v1 at *
                  generalize y.1 % g = v2 at *
                  go_wp2_with fail
                  refine (hGi.out _).mono ?_
                  rintro e w' ⟨rfl, n1, rfl⟩
                  go_wp2_with fail
                  go_big_quiet ((go_at_call 89; first | with_reducible exact quiet_off (hMx.out _) | exact quiet_off (hMy.out _)))
                  have HR2 := (HR.out.next B7.out).next ((HB.out.alloc HB.out.size (.cells #[.int .i64 y.1, .int .i64 y.2] 61)) |> fun h => below_drewN h (n1 + nq))
                  obtain ⟨q0, -, -, -, -, -⟩ := HR2
                  obtain ⟨-, p1, p2, p3, p4, p5⟩ := (HR.out.next B7.out).next HB.out
                  go_wp2_with fail
                  refine bodyPost_ret (v := .tuple #[.agg #[.int .i64 0, .int .i64 0], .int .i64 12]) (by simp [results, Try.results54, go_sem, p1, p2, p5]) rfl ?_
                  exact ⟨by rw [hE.out], (q0.setCell (Nat.le_refl _) _).setCell (Nat.le_refl _) _⟩
                · have HA := Lib.hid (show agreeB (l.getD i (0, 0)) (l.getD k (0, 0)) = true by rw [HX.out, HY.out, hA, hc])
                  have hc2 : (x.1 % g != y.1 % g) = false := by rw [bne, hc]; rfl
                  clear hA
                  generalize x.1 % g = v1 at *
                  generalize y.1 % g = v2 at *
                  go_wp2_with fail
                  refine (hGi.out _).mono ?_
                  rintro e w' ⟨rfl, n1, rfl⟩
                  go_wp2_with fail
                  go_big_quiet ((go_at_call 89; first | with_reducible exact quiet_off (hMx.out _) | exact quiet_off (hMy.out _)))
                  go_wp2_with fail
                  refine ⟨⟨k + 1, by go_num, by omega, below_drewN (HB.out.alloc HB.out.size _) _, fun k' hk' => ?_⟩, by simp [intOf]; omega⟩
                  rcases Nat.lt_or_ge k' k with g | g
                  · exact HQ.out k' g
                  · obtain rfl : k' = k := by omega
                    exact HA.out
              · obtain rfl : k = i := by omega
                go_wp2_with fail
                refine ⟨⟨k + 1, by go_num, by omega, (HR.out.next B7.out).next HB.out, fun j hj k' hk' => ?_⟩, by simp [intOf]; omega⟩
                rcases Nat.lt_or_ge j k with g | g
                · exact HP.out j g k' hk'
                · obtain rfl : j = k := by omega
                  exact HQ.out k' hk'
          · obtain rfl : N = i := by omega
            have hgo := Lib.hid (chinAll_go H20.out (fun j hj => HG.out j (by rw [← HN.out]; exact hj)) (fun j hj => HP.out j (by rw [← HN.out]; exact hj)))
            go_wp2_with fail
            obtain ⟨W1, hW1⟩ : ∃ W1 : World, W1 = wr := ⟨_, rfl⟩
            subst hW1
            go_loopw [68] (fun s68 wr => ∃ (i : Nat) (R M : Int), s68 = .int .i64 i ∧ i ≤ N ∧ Two W1 R M wr ∧ 0 ≤ R ∧ R < M ∧ M ≤ 1000000000 ∧ chinGo (l.drop i) R M = chinAll l) (fun s68 _ => N - (intOf s68).toNat)
            case atStart => exact ⟨0, 0, 1, rfl, Nat.zero_le _, Two.start _ _ _ _, by omega, by omega, by omega, hgo.out.symm⟩
            case round =>
              obtain ⟨i, R, M, rfl, hi, hT, R0, RM, M9, hgo2⟩ := hrel
              have HT := Lib.hid hT; have HGo := Lib.hid hgo2
              obtain ⟨t0, t1, t2, t3, t4, t5⟩ := hT
              clear hgo2 t0
              by_cases hlt : i < N
              · obtain ⟨b, o, rfl, hb, hc1, hc2⟩ := HS.out.at HN.out hlt
                have hbW : b < W1.heap.size := Nat.lt_of_lt_of_le hb HR.out.bel.size
                have hk1 := (HT.out.bel.cell (p := ⟨b, o + i * 2, none⟩) hbW).trans ((HR.out.bel.cell (p := ⟨b, o + i * 2, none⟩) hb).trans hc1)
                have hk2 := (HT.out.bel.cell (p := ⟨b, o + i * 2 + 1, none⟩) hbW).trans ((HR.out.bel.cell (p := ⟨b, o + i * 2 + 1, none⟩) hb).trans hc2)
                have hlt' : (i : Int) < N := by omega
                have hr1 := HI.out i (by rw [HN.out]; exact hlt)
                obtain ⟨m1, m2⟩ := HMB.out i hlt
                have HAt := Lib.hid (chinGo_at (l := l) (i := i) (by rw [HN.out]; exact hlt) R M)
                generalize l.getD i (0, 0) = x at *
                clear hc1 hc2
                have HCR := Lib.hid (fun h => chin_next (r := x.1) R0 RM m1 M9 m2 h)
                obtain ⟨g1, g2, b1, b2, a1, a2, hab, p0, p1, d1, d2, d3, d4, -⟩ := chin_bounds (r := x.1) R0 RM M9 m1 m2
                have eR := Lib.hid (show chinR R M x.1 x.2 = R + M * chinT R M x.1 x.2 from rfl)
                have eM := Lib.hid (show chinM M x.2 = M * (x.2 / Int.gcd M x.2) from rfl)
                have eT := Lib.hid (show chinT R M x.1 x.2 = (x.1 % x.2 - R).tdiv (Int.gcd M x.2) % (x.2 / Int.gcd M x.2) * invM (M / Int.gcd M x.2) (x.2 / Int.gcd M x.2) % (x.2 / Int.gcd M x.2) from rfl)
                obtain ⟨v0, v1, -⟩ := invM_spec (a := M / Int.gcd M x.2) (m := x.2 / Int.gcd M x.2) (by omega) hab
                have hGi := Lib.hid (fun w => hGc.out M x.2 w (by omega) M9 m1 m2)
                have hMx := Lib.hid (fun w => hMd.out x.1 x.2 w hr1 m1 m2)
                have hIx := Lib.hid (fun w => hIv.out (M / Int.gcd M x.2) (x.2 / Int.gcd M x.2) w ⟨by omega, by omega⟩ b1 b2 hab)
                have y0 := Int.emod_nonneg x.1 (b := x.2) (by omega)
                have y1 := Int.emod_lt_of_pos x.1 (b := x.2) (by omega)
                clear hab
                generalize (Int.gcd M x.2 : Int) = g at *
                have k7 : W1.heap.size < wr.heap.size := t5
                by_cases hbig : 1000000000 < M * (x.2 / g)
                · have hE := Lib.hid (show chinAll l = (0, 0, 8) by rw [← HGo.out, HAt.out, if_pos (by rw [eM.out]; exact hbig)])
                  go_wp2_with fail
                  refine (hGi.out _).mono ?_
                  rintro e w' ⟨rfl, n1, rfl⟩
                  obtain ⟨-, p1, p2, p3, p4, p5⟩ := HR.out.next HT.out.bel
                  have HB := Lib.hid ((HR.out.next HT.out.bel).bel)
                  go_wp2_with fail
                  refine bodyPost_ret (v := .tuple #[.agg #[.int .i64 0, .int .i64 0], .int .i64 8]) (by simp [results, Try.results54, go_sem, p1, p2, p5]) rfl ?_
                  exact ⟨by rw [hE.out], ((below_drewN (HB.out.alloc HB.out.size _) n1).setCell (Nat.le_refl _) _).setCell (Nat.le_refl _) _⟩
                · obtain ⟨j0, j1, j2, j3, j4, j5⟩ := HCR.out (by rw [eM.out]; omega)
                  have HNx := Lib.hid (show chinGo (l.drop (i + 1)) (chinR R M x.1 x.2) (chinM M x.2) = chinAll l by rw [← HGo.out, HAt.out, if_neg (by rw [eM.out]; exact hbig)])
                  rw [eR.out, eM.out] at HNx
                  rw [eR.out, eM.out] at j5
                  rw [eR.out] at j4
                  rw [eT.out] at j0 j1 j2 j3 j4 j5 HNx
                  clear HCR HGo HAt eR eM eT
                  have hMD := Lib.hid (fun w => hMd.out ((x.1 % x.2 - R).tdiv g) (x.2 / g) w ⟨by omega, by omega⟩ b1 b2)
                  have z0 := Int.emod_nonneg ((x.1 % x.2 - R).tdiv g) (b := x.2 / g) (by omega)
                  have z1 := Int.emod_lt_of_pos ((x.1 % x.2 - R).tdiv g) (b := x.2 / g) (by omega)
                  obtain ⟨z2, z3⟩ := mul_le z0 (by omega : (x.1 % x.2 - R).tdiv g % (x.2 / g) ≤ 1000000000) v0 (by omega : invM (M / g) (x.2 / g) ≤ 1000000000)
                  generalize x.1 % x.2 = rr at *
                  generalize invM (M / g) (x.2 / g) = iv at *
                  go_wp2_with fail
                  refine (hGi.out _).mono ?_
                  rintro e w' ⟨rfl, n1, rfl⟩
                  go_wp2_with fail
                  go_big_quiet ((first | (go_at_call 98; exact quiet_off (hIx.out _)) | (go_at_call 89; first | with_reducible exact quiet_off (hMx.out _) | exact quiet_off (hMD.out _))))
                  go_wp2_with fail
                  exact ⟨⟨i + 1, _, _, by go_num, by omega, (HT.out.next (below_drewN ((Below.refl _ _).alloc (Nat.le_refl _) _) _)).put _ _, j4, j5, by omega, HNx.out⟩, by simp [intOf]; omega⟩
              · obtain rfl : N = i := by omega
                have hE : chinAll l = (R, M, 0) := by rw [← HGo.out, List.drop_of_length_le (by rw [HN.out]; exact Nat.le_refl _)]; rfl
                have HE := Lib.hid hE
                clear hE
                obtain ⟨-, p1, p2, p3, p4, p5⟩ := HR.out.next HT.out.bel
                have HB := Lib.hid ((HR.out.next HT.out.bel).bel)
                go_wp2_with fail
                refine bodyPost_ret (v := .tuple #[.agg #[.int .i64 R, .int .i64 M], .int .i64 0]) (by simp [results, Try.results54, go_sem, p1, p2]) rfl ?_
                exact ⟨by rw [HE.out], (HB.out.setCell (Nat.le_refl _) _).setCell (Nat.le_refl _) _⟩
end Go.Proofs.Ytmlkiddkgikdhaa
