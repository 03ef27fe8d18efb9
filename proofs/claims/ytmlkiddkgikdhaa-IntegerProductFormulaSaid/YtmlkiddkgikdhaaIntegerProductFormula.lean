/- The law IntegerProductFormula answers true at all numbers. -/
import Derived.Test.YtmlkiddkgikdhaaRRt
import Derived.Test.YtmlkiddkgikdhaaHst
import Derived.Test.YtmlkiddkgikdhaaVb
import Derived.Test.YtmlkiddkgikdhaaSqh
import Derived.Test.YtmlkiddkgikdhaaIntF
import Derived.Test.YtmlkiddkgikdhaaIntegerSquares
import Derived.Deep.DeepCutAuto
namespace Go.Proofs.Ytmlkiddkgikdhaa
open Go.RowKit FF

theorem prod_bound {a b : Int} (a1 : -20000 ≤ a) (a2 : a ≤ 20000) (b1 : -20000 ≤ b) (b2 : b ≤ 20000) : -800000000 ≤ 2 * a * b ∧ 2 * a * b ≤ 800000000 := by
  have h1 : (2 * a * b).natAbs ≤ 800000000 := by
    rw [Int.natAbs_mul, Int.natAbs_mul]
    exact Nat.mul_le_mul (Nat.mul_le_mul (Nat.le_refl 2) (show a.natAbs ≤ 20000 by omega)) (show b.natAbs ≤ 20000 by omega)
  omega
/-- the two first cells of an array's variable -/
def Has1 (W : World) (g : Nat) (x y : Int) : Prop := g < W.heap.size ∧ W.cell? ⟨g, 0, none⟩ = some (.int .i64 x) ∧ W.cell? ⟨g, 1, none⟩ = some (.int .i64 y)
theorem Has1.keep {W W' : World} {g : Nat} {x y : Int} (h : Has1 W g x y) (b : Below W.heap.size W W') : Has1 W' g x y :=
  ⟨Nat.lt_of_lt_of_le h.1 b.size, by rw [b.cell (p := ⟨g, 0, none⟩) h.1]; exact h.2.1, by rw [b.cell (p := ⟨g, 1, none⟩) h.1]; exact h.2.2⟩
/-- a list as a row, wherever it lies -/
def Row0 (wr : World) (T : TypeId) (size : Nat) (v : Value) (n : Nat) (xs : List Int) : Prop := wr.ownsRow 0 T size v n (cellsI xs)
theorem Got.row0 {w wr : World} {T : TypeId} {size n : Nat} {v : Value} {xs : List Int} (h : Got w T size v n xs wr) : Row0 wr T size v n xs := by
  refine ⟨h.1.1, ?_⟩
  rcases h.1.2 with h0 | ⟨g, cap, cur, h1, -, h4⟩
  · exact .inl h0
  · exact .inr ⟨g, cap, cur, h1, Nat.zero_le _, h4⟩
theorem Row0.keep {wr w2 : World} {T : TypeId} {size n : Nat} {v : Value} {xs : List Int} (h : Row0 wr T size v n xs) (hb : Below wr.heap.size wr w2) : Row0 w2 T size v n xs := by
  refine ⟨h.1, ?_⟩
  rcases h.2 with h0 | ⟨g, cap, cur, h1, h2, h3, h4⟩
  · exact .inl h0
  · exact .inr ⟨g, cap, cur, h1, h2, by rw [hb.block g (Array.getElem?_eq_some_iff.1 h3).1]; exact h3, h4⟩
theorem Row0.shows {wr : World} {T : TypeId} {size n : Nat} {v : Value} {xs : List Int} (h : Row0 wr T size v n xs) : ∃ A c, v = .slice A n c ∧ ShowsI wr A xs ∧ n ≤ c ∧ c ≤ maxLen := by
  have hl : xs.length = n * size := by have := h.1; rwa [cellsI_length] at this
  rcases h.2 with ⟨rfl, hn⟩ | ⟨g, cap, cur, rfl, hb, hg, hnc, hcm, hcs, ht⟩
  · subst hn
    have : xs = [] := List.eq_nil_of_length_eq_zero (by omega)
    subst this
    exact ⟨none, 0, rfl, ShowsI.nil, Nat.le_refl _, by simp [maxLen]⟩
  · refine ⟨some ⟨g, 0, none⟩, cap, rfl, fun h0 => ⟨g, 0, rfl, (Array.getElem?_eq_some_iff.1 hg).1, fun i hi => ?_⟩, hnc, hcm⟩
    have := h.cellAt i (by rw [← hl]; exact hi)
    rw [Nat.zero_add, this, cellsI_get hi]
/-- a row stays where a row of another type grows -/
theorem Row0.beside {wr w2 : World} {T T' : TypeId} {size size' n n' : Nat} {v v' : Value} {xs xs' : List Int} (h : Row0 wr T size v n xs) (h' : Row0 wr T' size' v' n' xs') (hT : T ≠ T') (hg : wr.grownBy w2 v'.ownBlock) : Row0 w2 T size v n xs := by
  refine ⟨h.1, ?_⟩
  rcases h.2 with h0 | ⟨g, cap, cur, h1, h2, h3, h4⟩
  · exact .inl h0
  · refine .inr ⟨g, cap, cur, h1, h2, ?_, h4⟩
    rw [hg.block g (Array.getElem?_eq_some_iff.1 h3).1 (fun e => ?_)]
    · exact h3
    · rcases h'.2 with ⟨rfl, -⟩ | ⟨g', cap', cur', rfl, -, h3', -⟩
      · cases e
      · simp [Value.ownBlock] at e
        subst e
        rw [h3] at h3'
        injection h3' with h3'
        injection h3' with _ e2
        exact hT e2
theorem wpList_append_got2 {P : Program} {ops : Array Oper} {rest : List Oper} {o : Oper} {a : Act} {Q : Exit → Act → World → Prop} (hgd : o.guard = none) (s x : Operand) (t : TypeId)
    (ho : o.op = .call { callee := .builtin .append, args := #[s, x], argTypes := #[t, t] })
    (E : TypeId) (i : TypeInfo) (z : Value) (size bytes : Nat) (ht : P.underlying t = some (.slice E)) (hi : P.info? E = some i) (hz : i.zero = some z)
    (hsize : i.size = size) (hby : i.bytes = bytes) (hzs : z.cells.size = size) (hsz : 0 < size)
    (v : Value) (n : Nat) (xs : List Int) (hs : a.eval s = v) {w wr : World} (hG : Got w E size v n xs wr) (news : Array Value) (T' : TypeId) (ys : List Int) (hn : news.toList = cellsI ys) (hl : ys.length = size) (c : Nat)
    (hx : a.eval x = .slice (some ⟨wr.heap.size, 0, none⟩) 1 c) (hbound : (n + 1) * bytes ≤ 140737488355328) (h63 : n + 1 ≤ maxLen)
    (h : ∀ v' w', Got w E size v' (n + 1) (xs ++ ys) w' → (wr.alloc (.cells news T')).grownBy w' v.ownBlock → wpList P ops Q rest (a.put o.dst v') w') : wpList P ops Q (o :: rest) a (wr.alloc (.cells news T')) := by
  have hsz' : (wr.alloc (.cells news T')).heap.size = wr.heap.size + 1 := by simp
  refine wpList_append_own (wr.alloc (.cells news T')) hgd s x t ho w.heap.size E i z size bytes ht hi hz hsize hby hzs hsz v n (cellsI xs) hs (hG.alloc _).1 ⟨wr.heap.size, 0, none⟩ 1 c (cellsI ys) hx (by rw [cellsI_length]; omega) (fun j u hj => ?_) (cellsI_one ys) h63 hbound (by have := hG.2.size; omega) (fun v' w' h1 h2 _ => h v' w' ⟨?_, ?_⟩ h2)
  · rw [Addr.add_lit, Nat.zero_add, World.cell?_alloc_at (w := wr) news T' wr.heap.size j rfl, ← Array.getElem?_toList, hn, hj]
  · have e : cellsI xs ++ cellsI ys = cellsI (xs ++ ys) := by simp [cellsI]
    rw [← e]; exact h1
  · exact Below.grown (hG.alloc _).2 h2 (by have := hG.2.size; omega) hG.row_ge
theorem mul_range {x y m n k : Int} (h1 : -m ≤ x) (h2 : x ≤ m) (h3 : 0 ≤ y) (h4 : y ≤ n) (hk : m * n ≤ k) : -k ≤ x * y ∧ x * y ≤ k := by
  have hm : 0 ≤ m := by omega
  have e1 : x * y ≤ m * n := Int.le_trans (Int.mul_le_mul_of_nonneg_right h2 h3) (Int.mul_le_mul_of_nonneg_left h4 hm)
  have e2 : -m * y ≤ x * y := Int.mul_le_mul_of_nonneg_right h1 h3
  have e3 : m * y ≤ m * n := Int.mul_le_mul_of_nonneg_left h4 hm
  rw [Int.neg_mul] at e2
  omega
theorem sign_facts {S T Q : Int} (hs : S = 1 ∨ S = -1) (ht : T = 1 ∨ T = -1) (hq : Q = 1 ∨ Q = -1) : -1 ≤ S * T ∧ S * T ≤ 1 ∧ S * S = 1 ∧ -1 ≤ Q * S ∧ Q * S ≤ 1 ∧ -1 ≤ S * S ∧ S * S ≤ 1 := by
  rcases hs with rfl | rfl <;> rcases ht with rfl | rfl <;> rcases hq with rfl | rfl <;> decide
theorem bne_same (x : Int) : (x != x) = false := by simp
theorem below_open {w w' : World} {o : Obj} {n : Nat} (h : Below ((w.alloc o).drewN n).heap.size ((w.alloc o).drewN n) w') : Below w.heap.size w w' :=
  (below_drewN ((Below.refl _ _).alloc (Nat.le_refl _) _) n).trans (h.mono (by simp))

set_option maxRecDepth 100000 in
set_option maxHeartbeats 4000000 in
theorem IntegerProductFormula_law (a b u0 v0 c : Int) (w : World) (_ha : I64 a) (_hb : I64 b) (hu0 : I64 u0) (hv0 : I64 v0) (_hc : I64 c) :
    Calls Try.prog 15 #[.int .i64 a, .int .i64 b, .agg #[.int .i64 u0, .int .i64 v0, .int .i64 c]] w fun e w' => e = .returned (.bool true) ∧ Below w.heap.size w w' := by
  have hA := Lib.hid awake_any
  have hW1 := Lib.hid (fun w => bWithin_any a (-20000) 20000 w)
  have hW2 := Lib.hid (fun w => bWithin_any b (-20000) 20000 w)
  have hW3 := Lib.hid (fun w => bWithin_any c (-20000) 20000 w)
  cases c1 : winB a (-20000) 20000
  · rw [c1] at hW1
    clear c1
    go_enter Try.func15, Try.ntmps15
    go_wp2_with fail
    refine (hW1.out _).mono ?_
    rintro e w' ⟨rfl, n1, rfl⟩
    go_wp2_with fail
    refine (hA.out _).mono ?_
    rintro e w' ⟨rfl, hb⟩
    have HB := Lib.hid (below_open hb)
    clear hb
    go_wp2_with fail
    go_ret
    exact ⟨rfl, HB.out⟩
  cases c2 : winB b (-20000) 20000
  · rw [c1] at hW1
    rw [c2] at hW2
    clear c1 c2
    go_enter Try.func15, Try.ntmps15
    go_wp2_with fail
    refine (hW1.out _).mono ?_
    rintro e w' ⟨rfl, n1, rfl⟩
    go_wp2_with fail
    refine (hW2.out _).mono ?_
    rintro e w' ⟨rfl, n2, rfl⟩
    go_wp2_with fail
    refine (hA.out _).mono ?_
    rintro e w' ⟨rfl, hb⟩
    have HB := Lib.hid (below_open hb)
    clear hb
    go_wp2_with fail
    go_ret
    exact ⟨rfl, HB.out⟩
  cases c3 : winB c (-20000) 20000
  · rw [c1] at hW1
    rw [c2] at hW2
    rw [c3] at hW3
    clear c1 c2 c3
    go_enter Try.func15, Try.ntmps15
    go_wp2_with fail
    refine (hW1.out _).mono ?_
    rintro e w' ⟨rfl, n1, rfl⟩
    go_wp2_with fail
    refine (hW2.out _).mono ?_
    rintro e w' ⟨rfl, n2, rfl⟩
    go_wp2_with fail
    refine (hW3.out _).mono ?_
    rintro e w' ⟨rfl, n3, rfl⟩
    go_wp2_with fail
    refine (hA.out _).mono ?_
    rintro e w' ⟨rfl, hb⟩
    have HB := Lib.hid (below_open hb)
    clear hb
    go_wp2_with fail
    go_ret
    exact ⟨rfl, HB.out⟩
  rw [c1] at hW1
  rw [c2] at hW2
  rw [c3] at hW3
  obtain ⟨a1, a2⟩ := winB_iff.1 c1
  obtain ⟨b1, b2⟩ := winB_iff.1 c2
  obtain ⟨d1, d2⟩ := winB_iff.1 c3
  clear c1 c2 c3
  by_cases za : a = 0
  · have da := t_beq za
    clear za
    go_enter Try.func15, Try.ntmps15
    go_wp2_with fail
    refine (hW1.out _).mono ?_
    rintro e w' ⟨rfl, n1, rfl⟩
    go_wp2_with fail
    refine (hW2.out _).mono ?_
    rintro e w' ⟨rfl, n2, rfl⟩
    go_wp2_with fail
    refine (hW3.out _).mono ?_
    rintro e w' ⟨rfl, n3, rfl⟩
    go_wp2_with fail
    refine (hA.out _).mono ?_
    rintro e w' ⟨rfl, hb⟩
    have HB := Lib.hid (below_open hb)
    clear hb
    go_wp2_with fail
    go_ret
    exact ⟨rfl, HB.out⟩
  have ea := f_beq za
  by_cases zb : b = 0
  · have db := t_beq zb
    clear zb
    go_enter Try.func15, Try.ntmps15
    go_wp2_with fail
    refine (hW1.out _).mono ?_
    rintro e w' ⟨rfl, n1, rfl⟩
    go_wp2_with fail
    refine (hW2.out _).mono ?_
    rintro e w' ⟨rfl, n2, rfl⟩
    go_wp2_with fail
    refine (hW3.out _).mono ?_
    rintro e w' ⟨rfl, n3, rfl⟩
    go_wp2_with fail
    refine (hA.out _).mono ?_
    rintro e w' ⟨rfl, hb⟩
    have HB := Lib.hid (below_open hb)
    clear hb
    go_wp2_with fail
    go_ret
    exact ⟨rfl, HB.out⟩
  have eb := f_beq zb
  by_cases zc : c = 0
  · have dc := t_beq zc
    clear zc
    go_enter Try.func15, Try.ntmps15
    go_wp2_with fail
    refine (hW1.out _).mono ?_
    rintro e w' ⟨rfl, n1, rfl⟩
    go_wp2_with fail
    refine (hW2.out _).mono ?_
    rintro e w' ⟨rfl, n2, rfl⟩
    go_wp2_with fail
    refine (hW3.out _).mono ?_
    rintro e w' ⟨rfl, n3, rfl⟩
    go_wp2_with fail
    refine (hA.out _).mono ?_
    rintro e w' ⟨rfl, hb⟩
    have HB := Lib.hid (below_open hb)
    clear hb
    go_wp2_with fail
    go_ret
    exact ⟨rfl, HB.out⟩
  have ec := f_beq zc
  have HZ := Lib.hid (show a ≠ 0 ∧ b ≠ 0 ∧ c ≠ 0 from ⟨za, zb, zc⟩)
  have hab := prod_bound a1 a2 b1 b2
  have HAb2 := True.intro
  have HAb := Lib.hid (fun (x : Int) (w : World) h1 h2 => bAbs_any x w h1 h2)
  have HFa := Lib.hid (fun w => Factor_any (a.natAbs : Nat) w (by omega) (by omega))
  have HFb := Lib.hid (fun w => Factor_any (b.natAbs : Nat) w (by omega) (by omega))
  have hla := facs_short (n := (a.natAbs : Nat)) (by omega) (by omega)
  have hlb := facs_short (n := (b.natAbs : Nat)) (by omega) (by omega)
  clear za zb zc
  obtain ⟨i0, hi, hz0, hz1, hz2⟩ := info_parts info_int
  have HI := Lib.hid hi; have HZ0 := Lib.hid hz0; have HZ1 := Lib.hid hz1; have HZ2 := Lib.hid hz2
  clear hi hz0 hz1 hz2
  obtain ⟨M, hM⟩ : ∃ M : Nat, (2 * a * b).natAbs = M := ⟨_, rfl⟩
  go_enter Try.func15, Try.ntmps15
  go_wp2_with fail
  refine (hW1.out _).mono ?_
  rintro e w' ⟨rfl, n1, rfl⟩
  go_wp2_with fail
  refine (hW2.out _).mono ?_
  rintro e w' ⟨rfl, n2, rfl⟩
  go_wp2_with fail
  refine (hW3.out _).mono ?_
  rintro e w' ⟨rfl, n3, rfl⟩
  go_wp2_with fail
  obtain ⟨hab1, hab2⟩ := hab
  refine (HAb.out (2 * a * b) _ (by omega) (by omega)).mono ?_
  rintro e w' ⟨rfl, n4, rfl⟩
  have HB0 := Lib.hid (below_drewN (below_drewN ((Below.refl w.heap.size w).alloc (Nat.le_refl _) (.cells #[.int .i64 u0, .int .i64 v0, .int .i64 c] 79)) (n1 + n2 + n3)) n4)
  have hW0 : ∃ W0 : World, W0 = ((w.alloc (.cells #[.int .i64 u0, .int .i64 v0, .int .i64 c] 79)).drewN (n1 + n2 + n3)).drewN n4 := ⟨_, rfl⟩
  have hc0 : (((w.alloc (.cells #[.int .i64 u0, .int .i64 v0, .int .i64 c] 79)).drewN (n1 + n2 + n3)).drewN n4).cell? ⟨w.heap.size, 0, none⟩ = some (.int .i64 u0) := by simp [go_sem]
  have hc1 : (((w.alloc (.cells #[.int .i64 u0, .int .i64 v0, .int .i64 c] 79)).drewN (n1 + n2 + n3)).drewN n4).cell? ⟨w.heap.size, 1, none⟩ = some (.int .i64 v0) := by simp [go_sem]
  have hsz : w.heap.size < (((w.alloc (.cells #[.int .i64 u0, .int .i64 v0, .int .i64 c] 79)).drewN (n1 + n2 + n3)).drewN n4).heap.size := by simp
  obtain ⟨W0, hW0⟩ := hW0
  rw [← hW0] at HB0 hc0 hc1 hsz ⊢
  clear hW0
  rw [hM]
  have HG0 := Lib.hid (show Got W0 3 1 (.slice (some ⟨W0.heap.size, 0, none⟩) 1 1) 1 [0] (W0.alloc (.cells #[.int .i64 0] 3)) from ⟨World.ownsRow_lit _ #[.int .i64 0] 1 (Nat.le_refl _) (by unfold maxLen; omega) rfl, (Below.refl _ _).alloc (Nat.le_refl _) _⟩)
  have HK := Lib.hid (show Has1 W0 w.heap.size u0 v0 from ⟨hsz, hc0, hc1⟩)
  clear hc0 hc1 hsz
  go_wp2_with (at_builtin; refine wpList_append_got rfl (.tmp 63) (.tmp 64) 30 rfl 3 i0 (.int .i64 0) 1 8 Try.underlying30 HI.out HZ0.out HZ1.out HZ2.out rfl (by decide) (.slice (some ⟨W0.heap.size, 0, none⟩) 1 1) 1 [0] rfl HG0.out _ _ [2] rfl rfl 1 (by rw [World.size_alloc]; rfl) (by omega) (by unfold maxLen; omega) ?_; intro v1 W1 hg1; have HG1 := Lib.hid hg1; clear hg1)
  clear HG0
  refine (HAb.out a _ (by omega) (by omega)).mono ?_
  rintro e w' ⟨rfl, n5, rfl⟩
  go_wp2_with fail
  refine (HFa.out _).mono ?_
  rintro e W2 ⟨v2, rfl, hF⟩
  obtain ⟨A1, cA, rfl, -, -, -, -⟩ := hF.shows
  have HG2 := Lib.hid ((HG1.out.drewN n5).keep hF.2)
  have HS1 := Lib.hid hF.row0
  clear hF HG1
  go_wp2_with fail
  refine (HAb.out b _ (by omega) (by omega)).mono ?_
  rintro e w' ⟨rfl, n6, rfl⟩
  go_wp2_with fail
  refine (HFb.out _).mono ?_
  rintro e W3 ⟨v3, rfl, hF⟩
  obtain ⟨A2, cB, rfl, -, -, -, -⟩ := hF.shows
  have HG3 := Lib.hid ((HG2.out.drewN n6).keep hF.2)
  have HT1 := Lib.hid ((HS1.out.keep (below_drewN (Below.refl _ _) n6)).keep hF.2)
  have HT2 := Lib.hid hF.row0
  have HP := Lib.hid (fun (L : List Int) (h : L = addP (addP [0, 2] (facs (a.natAbs : Nat))) (facs (b.natAbs : Nat))) => (show L = placesOf a b from h))
  clear hF HG2 HS1 HFa HFb HAb2
  generalize facs (a.natAbs : Nat) = lA at *
  generalize facs (b.natAbs : Nat) = lB at *
  go_wp2_with fail
  go_loopw [9, 14] (fun s9 s14 wr => ∃ (i : Nat) (P : List Int), s14 = .int .i64 i ∧ i ≤ lA.length ∧ P = addP [0, 2] (lA.take i) ∧ Got W0 3 1 s9 P.length P wr ∧ Row0 wr 45 2 (.slice A1 lA.length cA) lA.length (flatP lA) ∧ Row0 wr 45 2 (.slice A2 lB.length cB) lB.length (flatP lB)) (fun _ s _ => lA.length - (intOf s).toNat)
  case atStart => exact ⟨0, [0, 2], rfl, Nat.zero_le _, rfl, HG3.out, HT1.out, HT2.out⟩
  case round =>
    clear HG3 HT1 HT2
    obtain ⟨i, P, rfl, hi, hPe, hG, hR1, hR2⟩ := hrel
    have hPl := addP_len [0, 2] (lA.take i)
    rw [← hPe, List.length_take] at hPl
    have hbl : [0, 2].length ≤ 16 := (by decide)
    obtain ⟨A9, c9, rfl, hs9, -, -, -⟩ := hG.shows
    have HG := Lib.hid hG; have HR1 := Lib.hid hR1; have HR2 := Lib.hid hR2; have HS9 := Lib.hid hs9; have HPE := Lib.hid hPe
    clear hG hR1 hR2 hs9 hPe
    by_cases hlt : i < lA.length
    · obtain ⟨A1', c1', hAe, hsh, -, -⟩ := HR1.out.shows
      injection hAe with hAe1 _ hAe2
      subst hAe1
      clear hAe2
      obtain ⟨b1', o1, rfl, hbk, hcell⟩ := hsh (by rw [flatP_len]; omega)
      have hx0 := hcell (2 * i) (by rw [flatP_len]; omega)
      rw [(flatP_get hlt).1, Nat.mul_comm 2 i] at hx0
      clear hcell hsh
      have HTk := Lib.hid (addP_take [0, 2] hlt)
      rw [← HPE.out] at HTk
      generalize (lA.getD i (0, 0)).1 = q at *
      have HH := Lib.hid (bHas_any A9 P c9 q wr HS9.out (by unfold maxLen; omega))
      by_cases hm : q ∈ P
      · have HN := Lib.hid (show P = addP [0, 2] (lA.take (i + 1)) by rw [HTk.out, if_pos hm])
        rw [decide_eq_true hm] at HH
        clear hm HTk HPE
        go_wp2_with fail
        refine HH.out.mono ?_
        rintro e w' ⟨rfl, n7, rfl⟩
        clear HH
        go_wp2_with fail
        exact ⟨⟨i + 1, P, rfl, by omega, HN.out, HG.out.drewN n7, HR1.out.keep (below_drewN (Below.refl _ _) n7), HR2.out.keep (below_drewN (Below.refl _ _) n7)⟩, by simp [intOf]; omega⟩
      · have HN := Lib.hid (show P ++ [q] = addP [0, 2] (lA.take (i + 1)) by rw [HTk.out, if_neg hm])
        rw [decide_eq_false hm] at HH
        clear hm HTk HPE
        go_wp2_with fail
        refine HH.out.mono ?_
        rintro e w' ⟨rfl, n7, rfl⟩
        clear HH
        have HG7 := Lib.hid (HG.out.drewN n7)
        have HR17 := Lib.hid ((HR1.out.keep (below_drewN (Below.refl _ _) n7)).keep ((Below.refl _ _).alloc (Nat.le_refl _) (.cells #[.int .i64 q] 3)))
        have HR27 := Lib.hid ((HR2.out.keep (below_drewN (Below.refl _ _) n7)).keep ((Below.refl _ _).alloc (Nat.le_refl _) (.cells #[.int .i64 q] 3)))
        clear HG HR1 HR2
        go_wp2_with (at_builtin; refine wpList_append_got2 rfl (.tmp 106) (.tmp 112) 30 rfl 3 i0 (.int .i64 0) 1 8 Try.underlying30 HI.out HZ0.out HZ1.out HZ2.out rfl (by decide) _ P.length P rfl HG7.out _ _ [q] rfl rfl 1 rfl (by omega) (by unfold maxLen; omega) ?_; intro v8 w8 hg8 hw8)
        exact ⟨⟨i + 1, P ++ [q], rfl, by omega, HN.out, by rw [List.length_append]; exact hg8, HR17.out.beside (HG7.out.alloc _).row0 (by decide) hw8, HR27.out.beside (HG7.out.alloc _).row0 (by decide) hw8⟩, by simp [intOf]; omega⟩
    · obtain rfl : i = lA.length := by omega
      rw [List.take_length] at HPE
      obtain rfl : P = addP [0, 2] lA := HPE.out
      have HG4 := HG; have HR1p := HR1; have HR2p := HR2
      clear HG HR1 HR2 HS9 HPE hPl hbl hi hlt
      go_wp2_with fail
      go_loopw [9, 15] (fun s9 s15 wr => ∃ (i : Nat) (P : List Int), s15 = .int .i64 i ∧ i ≤ lB.length ∧ P = addP (addP [0, 2] lA) (lB.take i) ∧ Got W0 3 1 s9 P.length P wr ∧ Row0 wr 45 2 (.slice A1 lA.length cA) lA.length (flatP lA) ∧ Row0 wr 45 2 (.slice A2 lB.length cB) lB.length (flatP lB)) (fun _ s _ => lB.length - (intOf s).toNat)
      case atStart => exact ⟨0, addP [0, 2] lA, rfl, Nat.zero_le _, rfl, HG4.out, HR1p.out, HR2p.out⟩
      case round =>
        clear HG4 HR1p HR2p
        obtain ⟨i, P, rfl, hi, hPe, hG, hR1, hR2⟩ := hrel
        have hPl := addP_len (addP [0, 2] lA) (lB.take i)
        rw [← hPe, List.length_take] at hPl
        have hbl : (addP [0, 2] lA).length ≤ 16 := Nat.le_trans (addP_len _ _) (by simp; omega)
        obtain ⟨A9, c9, rfl, hs9, -, -, -⟩ := hG.shows
        have HG := Lib.hid hG; have HR1 := Lib.hid hR1; have HR2 := Lib.hid hR2; have HS9 := Lib.hid hs9; have HPE := Lib.hid hPe
        clear hG hR1 hR2 hs9 hPe
        by_cases hlt : i < lB.length
        · obtain ⟨A1', c1', hAe, hsh, -, -⟩ := HR2.out.shows
          injection hAe with hAe1 _ hAe2
          subst hAe1
          clear hAe2
          obtain ⟨b1', o1, rfl, hbk, hcell⟩ := hsh (by rw [flatP_len]; omega)
          have hx0 := hcell (2 * i) (by rw [flatP_len]; omega)
          rw [(flatP_get hlt).1, Nat.mul_comm 2 i] at hx0
          clear hcell hsh
          have HTk := Lib.hid (addP_take (addP [0, 2] lA) hlt)
          rw [← HPE.out] at HTk
          generalize (lB.getD i (0, 0)).1 = q at *
          have HH := Lib.hid (bHas_any A9 P c9 q wr HS9.out (by unfold maxLen; omega))
          by_cases hm : q ∈ P
          · have HN := Lib.hid (show P = addP (addP [0, 2] lA) (lB.take (i + 1)) by rw [HTk.out, if_pos hm])
            rw [decide_eq_true hm] at HH
            clear hm HTk HPE
            go_wp2_with fail
            refine HH.out.mono ?_
            rintro e w' ⟨rfl, n7, rfl⟩
            clear HH
            go_wp2_with fail
            exact ⟨⟨i + 1, P, rfl, by omega, HN.out, HG.out.drewN n7, HR1.out.keep (below_drewN (Below.refl _ _) n7), HR2.out.keep (below_drewN (Below.refl _ _) n7)⟩, by simp [intOf]; omega⟩
          · have HN := Lib.hid (show P ++ [q] = addP (addP [0, 2] lA) (lB.take (i + 1)) by rw [HTk.out, if_neg hm])
            rw [decide_eq_false hm] at HH
            clear hm HTk HPE
            go_wp2_with fail
            refine HH.out.mono ?_
            rintro e w' ⟨rfl, n7, rfl⟩
            clear HH
            have HG7 := Lib.hid (HG.out.drewN n7)
            have HR17 := Lib.hid ((HR1.out.keep (below_drewN (Below.refl _ _) n7)).keep ((Below.refl _ _).alloc (Nat.le_refl _) (.cells #[.int .i64 q] 3)))
            have HR27 := Lib.hid ((HR2.out.keep (below_drewN (Below.refl _ _) n7)).keep ((Below.refl _ _).alloc (Nat.le_refl _) (.cells #[.int .i64 q] 3)))
            clear HG HR1 HR2
            go_wp2_with (at_builtin; refine wpList_append_got2 rfl (.tmp 128) (.tmp 134) 30 rfl 3 i0 (.int .i64 0) 1 8 Try.underlying30 HI.out HZ0.out HZ1.out HZ2.out rfl (by decide) _ P.length P rfl HG7.out _ _ [q] rfl rfl 1 rfl (by omega) (by unfold maxLen; omega) ?_; intro v8 w8 hg8 hw8)
            exact ⟨⟨i + 1, P ++ [q], rfl, by omega, HN.out, by rw [List.length_append]; exact hg8, HR17.out.beside (HG7.out.alloc _).row0 (by decide) hw8, HR27.out.beside (HG7.out.alloc _).row0 (by decide) hw8⟩, by simp [intOf]; omega⟩
        · obtain rfl : i = lB.length := by omega
          rw [List.take_length] at HPE
          clear hPl hbl hi hlt
          have HPL := Lib.hid (HP.out P HPE.out)
          have hPl2 : P.length ≤ 30 := by
            have h1 := addP_len (addP [0, 2] lA) lB
            have h2 := addP_len [0, 2] lA
            simp only [List.length_cons, List.length_nil] at h2
            rw [HPE.out]; omega
          have HKr := Lib.hid (HK.out.keep HG.out.2)
          have HBr := Lib.hid (below_then HB0.out HG.out.2)
          have HGr := Lib.hid HS9.out
          clear HP HPE HG HR1 HR2 HS9 HK hla hlb
          have hMu := Lib.hid (fun w => bMod_any u0 200 w hu0 (by omega) ⟨by omega, by omega⟩)
          have hMv := Lib.hid (fun w => bMod_any v0 200 w hv0 (by omega) ⟨by omega, by omega⟩)
          obtain ⟨u1, u2, v1', v2'⟩ : 0 ≤ u0 % 200 ∧ u0 % 200 ≤ 199 ∧ 0 ≤ v0 % 200 ∧ v0 % 200 ≤ 199 := by omega
          generalize u0 % 200 = U at *
          generalize v0 % 200 = V at *
          obtain ⟨p1, p2⟩ := mul_range (k := 4000000) a1 a2 u1 u2 (by decide)
          obtain ⟨p3, p4⟩ := mul_range (k := 800000000) p1 p2 u1 u2 (by decide)
          obtain ⟨p5, p6⟩ := mul_range (k := 4000000) b1 b2 v1' v2' (by decide)
          obtain ⟨p7, p8⟩ := mul_range (k := 800000000) p5 p6 v1' v2' (by decide)
          obtain ⟨wo, hwo⟩ : ∃ wo : World, wo = wr := ⟨_, rfl⟩
          subst hwo
          obtain ⟨-, hk0, hk1⟩ := HKr.out
          go_wp2_with fail
          go_big_quiet ((go_at_call 32; first | with_reducible exact Calls.quiet_of (hMu.out _) | with_reducible exact Calls.quiet_of (hMv.out _)))
          clear hk0 hk1 hMu hMv
          go_wp2_with fail
          have HSol := Lib.hid (fun (r : Int) (h : r * r = a * U * U + b * V * V) (h0 : 0 < a * U * U + b * V * V) (p : Int) (hp : p = 0 ∨ IsP p.toNat) => (hil_solved HZ.out.1 HZ.out.2.1 (u := U) (v := V) (w := r) (by rintro rfl; omega) (by rw [h, Int.mul_assoc, Int.mul_assoc]) hp : Hil a b p = 1))
          obtain ⟨vv, hvv⟩ : ∃ vv, a * U * U + b * V * V = vv := ⟨_, rfl⟩
          have hvl : -1600000000 ≤ vv ∧ vv ≤ 1600000000 := by omega
          obtain ⟨hvl1, hvl2⟩ := hvl
          rw [hvv] at HSol ⊢
          clear hvv p1 p2 p3 p4 p5 p6 p7 p8 u1 u2 v1' v2'
          have hAv := fun w => bAbs_any vv w (by omega) (by omega)
          obtain ⟨za, hza⟩ : ∃ za : Int, (vv.natAbs : Int) = za := ⟨_, rfl⟩
          have hzr : 0 ≤ za ∧ za ≤ 1600000000 := by omega
          rw [hza] at hAv
          have HAv := Lib.hid hAv
          have HOf := Lib.hid (fun w => Of_any za w ⟨by omega, by omega⟩)
          have HOv := Lib.hid (fun w => Of_any vv w ⟨by omega, by omega⟩)
          have abz : Ab 2 za := by
            unfold Ab
            have : (4294967296 : Nat) ^ 2 = 18446744073709551616 := by decide
            show za.natAbs < 4294967296 ^ 2
            omega
          have abv : Ab 2 vv := by
            unfold Ab
            have : (4294967296 : Nat) ^ 2 = 18446744073709551616 := by decide
            show vv.natAbs < 4294967296 ^ 2
            omega
          have lz := abz.wl
          have lv := abv.wl
          have lr := abz.sqZ.wl
          have lrr := (abz.sqZ.mul abz.sqZ).wl
          have HRt := Lib.hid (fun (B : Option Addr) (k : Nat) w' h => Root_int (decide (za < 0)) B (wl za.natAbs) k za w' h (by omega))
          have HMr := Lib.hid (fun (B : Option Addr) (k : Nat) w' h h' => Mul_any (decide (sqZ za < 0)) (decide (sqZ za < 0)) B B (wl (sqZ za).natAbs) (wl (sqZ za).natAbs) k k (sqZ za) (sqZ za) w' h h' (by omega))
          have HCm := Lib.hid (fun (B B' : Option Addr) (k k' : Nat) w' h h' => Cmp_any (decide (sqZ za * sqZ za < 0)) (decide (vv < 0)) B B' (wl (sqZ za * sqZ za).natAbs) (wl vv.natAbs) k k' (sqZ za * sqZ za) vv w' h h' (by omega))
          have HSol2 := Lib.hid (fun (h : sgn (sqZ za * sqZ za - vv) = 0) (h0 : 0 < vv) => HSol.out (sqZ za) (by rcases sgn_cases (sqZ za * sqZ za - vv) with g | g | g <;> omega) h0)
          rw [show errR za = 0 from if_neg (by omega)] at HRt
          unfold RPost at HRt
          unfold IntPost at HMr
          generalize sgn (sqZ za * sqZ za - vv) = gs at *
          generalize sqZ za * sqZ za = rr at *
          generalize sqZ za = rt at *
          clear HSol hzr abz abv hAv hza
          refine (HAv.out _).mono ?_
          rintro e w' ⟨rfl, n7, rfl⟩
          go_wp2_with fail
          refine (HOf.out _).mono ?_
          rintro e W4 ⟨B1, l1, rfl, s1, p1, q1, -, b1⟩
          have HB4 := Lib.hid (below_then (below_drewN (Below.refl wo.heap.size wo) (nq + n7)) b1)
          have hI := AI.of_post s1 p1 q1
          have HI4 := Lib.hid hI
          clear s1 p1 q1 b1 hI HAv HOf
          go_wp2_with fail
          refine (HRt.out _ _ _ HI4.out).mono ?_
          rintro e W5 ⟨B2, l2, rfl, s2, p2, q2, b2⟩
          have HB5 := Lib.hid (below_then HB4.out b2)
          have HI5 := Lib.hid ((AI.of_post s2 p2 q2).alloc (.cells #[.bool (decide (rt < 0)), .slice B2 (wl rt.natAbs) l2] 51))
          have HH5 := Lib.hid (Has.new W5 (.bool (decide (rt < 0))) (.slice B2 (wl rt.natAbs) l2) 51)
          have HB6 := Lib.hid (below_new HB5.out (.cells #[.bool (decide (rt < 0)), .slice B2 (wl rt.natAbs) l2] 51))
          clear s2 p2 q2 b2 HB4 HI4 HB5 HRt
          go_upto_region 23 with fail
          obtain ⟨W6, hW6⟩ : ∃ W6, W5.alloc (.cells #[.bool (decide (rt < 0)), .slice B2 (wl rt.natAbs) l2] 51) = W6 := ⟨_, rfl⟩
          rw [hW6] at HI5 HH5 HB6 ⊢
          clear hW6
          go_cut [21] (fun s21 wx => ∃ Sv : Bool, s21 = .bool Sv ∧ (Sv = true → ∀ p : Int, p = 0 ∨ IsP p.toNat → Hil a b p = 1) ∧ Below W6.heap.size W6 wx)
          case first =>
            obtain ⟨-, e1, f1⟩ := HH5.out
            by_cases hv : 0 < vv
            · have HS3 := Lib.hid (fun h => HSol2.out h hv)
              clear HSol2
              go_wp2_with fail
              refine (HMr.out B2 l2 _ HI5.out HI5.out).mono ?_
              rintro e W7 ⟨B3, l3, rfl, s3, p3, q3, -, b3⟩
              have hI := AI.of_post s3 p3 q3
              have HI7 := Lib.hid hI; have HB7 := Lib.hid b3
              clear s3 p3 q3 b3 hI
              go_wp2_with fail
              refine (HOv.out _).mono ?_
              rintro e W8 ⟨B4, l4, rfl, s4, p4, q4, -, b4⟩
              have hC := HCm.out B3 B4 l3 l4 _ (HI7.out.keep b4) (AI.of_post s4 p4 q4)
              have HC := Lib.hid hC; have HB8 := Lib.hid (below_then HB7.out b4)
              clear hC s4 p4 q4 b4 HI7
              go_wp2_with fail
              refine HC.out.mono ?_
              rintro e W9 ⟨rfl, b5⟩
              have HB9 := Lib.hid (below_then HB8.out b5)
              clear b5 HC
              by_cases hg : gs = 0
              · have HS4 := Lib.hid (HS3.out hg)
                have hg2 := t_beq hg
                clear hg
                go_wp2_with fail
                go_meet
                exact ⟨true, rfl, fun _ => HS4.out, HB9.out⟩
              · have hg2 := f_beq hg
                clear hg
                go_wp2_with fail
                go_meet
                exact ⟨false, rfl, (fun h => by cases h), HB9.out⟩
            · have hv2 : decide (0 < vv) = false := decide_eq_false hv
              clear HSol2 HMr HCm HOv
              go_wp2_with fail
              go_meet
              exact ⟨false, rfl, (fun h => by cases h), Below.refl _ _⟩
          case rest =>
            obtain ⟨Sv, rfl, hS, hB⟩ := hcut
            have HS := Lib.hid hS
            have HBw := Lib.hid (below_then (below_then HBr.out HB6.out) hB)
            have HG9 := Lib.hid ((HGr.out.below HB6.out).below hB)
            clear hS hB HSol2 HMr HCm HOv HI5 HH5 HB6 HBr HGr hvl1 hvl2 lz lv lr lrr
            go_wp2_with fail
            have HOK := Lib.hid (fun q (h : q ∈ P) => (show (q = 0 ∨ IsP q.toNat) ∧ 0 ≤ q ∧ q ≤ 20000 ∧ (q ≠ 0 → (M : Int) % q = 0) by
              rw [HPL.out] at h
              have h1 := (placesOf_ok HZ.out.1 HZ.out.2.1).ok q h
              have h2 := placesOf_bound HZ.out.1 HZ.out.2.1 h
              refine ⟨h1, ?_, by omega, fun h0 => by rw [← hM]; exact Int.emod_eq_zero_of_dvd (placesOf_dvd HZ.out.1 HZ.out.2.1 h h0)⟩
              rcases h1 with h1 | h1
              · omega
              · have := h1.1; omega))
            have HPr := Lib.hid (show prodH a b P = 1 by rw [HPL.out]; exact placesOf_product HZ.out.1 HZ.out.2.1)
            have HPc := Lib.hid (fun i => prodH_cases HZ.out.1 HZ.out.2.1 (L := P.take i) (fun q hq => (HOK.out q (List.mem_of_mem_take hq)).1))
            have hH : ∀ (x y q : Int) (w : World), x ≠ 0 → y ≠ 0 → -400000000 ≤ x ∧ x ≤ 400000000 → -400000000 ≤ y ∧ y ≤ 400000000 → q ∈ P → Calls Try.prog 18 #[.int .i64 x, .int .i64 y, .int .i64 q] w (Ret w (.tuple #[.int .i64 (Hil x y q), .int .i64 0])) := by
              intro x y q w hx hy bx bY hq
              have h := Hilbert_any x y q w
              obtain ⟨h1, h2, h3, -⟩ := HOK.out q hq
              have hE : hilE x y q = 0 := by
                unfold hilE
                rw [if_neg (by omega), if_neg (by rw [inB_iff.2 (by omega), inB_iff.2 (by omega)]; simp), if_neg]
                rintro ⟨e1, e2⟩
                rcases h1 with h1 | h1
                · exact e1 h1
                · rw [isPB_iff.2 ⟨h1, by omega⟩] at e2; cases e2
              have hV : hilV x y q = Hil x y q := if_pos hE
              rw [hE, hV] at h
              exact h
            have HHl := Lib.hid hH
            have hbc : -400000000 ≤ b * c ∧ b * c ≤ 400000000 := by
              have : (b * c).natAbs ≤ 400000000 := by
                rw [Int.natAbs_mul]
                exact Nat.mul_le_mul (show b.natAbs ≤ 20000 by omega) (show c.natAbs ≤ 20000 by omega)
              omega
            obtain ⟨bc1, bc2⟩ := hbc
            obtain ⟨n, hn⟩ : ∃ n, P.length = n := ⟨_, rfl⟩
            have HN := Lib.hid hn
            rw [hn] at hPl2 ⊢
            clear hn hH HPL
            go_loopw [22, 23] (fun s22 s23 wr => ∃ i : Nat, s23 = .int .i64 i ∧ i ≤ n ∧ s22 = .int .i64 (prodH a b (P.take i)) ∧ ∃ m, wr = wc.drewN m) (fun _ s _ => n - (intOf s).toNat)
            case atStart => exact ⟨0, rfl, Nat.zero_le _, rfl, 0, rfl⟩
            case round =>
              obtain ⟨i, rfl, hi, rfl, m, rfl⟩ := hrel
              by_cases hlt : i < n
              · obtain ⟨bk, o1, rfl, hbk, hcell⟩ := HG9.out (by rw [HN.out]; omega)
                have hx0 := hcell i (by rw [HN.out]; omega)
                clear hcell
                have hmem : P.getD i 0 ∈ P := by
                  rw [List.getD_eq_getElem?_getD, List.getElem?_eq_getElem (by rw [HN.out]; exact hlt)]; exact List.getElem_mem _
                have HTk := Lib.hid (prodH_take (a := a) (b := b) (show i < P.length by rw [HN.out]; exact hlt))
                obtain ⟨k1, k2, k3, k4⟩ := HOK.out _ hmem
                have hp1 := HPc.out i
                generalize prodH a b (P.take i) = Q at *
                generalize P.getD i 0 = q at *
                have hz := HZ.out
                have HH1 := Lib.hid (fun w => HHl.out a b q w hz.1 hz.2.1 (by omega) (by omega) hmem)
                have HH2 := Lib.hid (fun w => HHl.out a c q w hz.1 hz.2.2 (by omega) (by omega) hmem)
                have hH3 := fun w => HHl.out a (b * c) q w hz.1 (Int.mul_ne_zero hz.2.1 hz.2.2) (by omega) (by omega) hmem
                rw [hil_mul_right hz.1 hz.2.1 hz.2.2 k1] at hH3
                have HH3 := Lib.hid hH3
                have hs := hil_cases hz.1 hz.2.1 k1
                have ht := hil_cases hz.1 hz.2.2 k1
                have HS1 := Lib.hid (fun h => HS.out h q k1)
                clear hH3 hz hmem k1
                generalize Hil a b q = S at *
                generalize Hil a c q = T at *
                have hst := sign_facts hs ht hp1
                obtain ⟨t1, t2, t3, t4, t5, t6, t7⟩ := hst
                have ds : (S * S != 1) = false := by rw [t3]; rfl
                have db := bne_same (S * T)
                clear t3
                by_cases hq0 : q = 0
                · have dq : decide (0 < q) = false := decide_eq_false (by omega)
                  clear k4 hq0 hs ht hp1
                  cases Sv
                  · clear HS1
                    go_wp2_with fail
                    refine (HH1.out _).mono ?_
                    rintro e w' ⟨rfl, n8, rfl⟩
                    clear HH1
                    go_wp2_with fail
                    refine (HH2.out _).mono ?_
                    rintro e w' ⟨rfl, n9, rfl⟩
                    clear HH2
                    go_wp2_with fail
                    refine (HH3.out _).mono ?_
                    rintro e w' ⟨rfl, n10, rfl⟩
                    clear HH3
                    go_wp2_with fail
                    exact ⟨⟨i + 1, rfl, by omega, by rw [HTk.out], _, rfl⟩, by simp [intOf]; omega⟩
                  · have HSS := HS1.out rfl
                    have d1 : (S != 1) = false := by rw [HSS]; rfl
                    clear HSS HS1
                    go_wp2_with fail
                    refine (HH1.out _).mono ?_
                    rintro e w' ⟨rfl, n8, rfl⟩
                    clear HH1
                    go_wp2_with fail
                    refine (HH2.out _).mono ?_
                    rintro e w' ⟨rfl, n9, rfl⟩
                    clear HH2
                    go_wp2_with fail
                    refine (HH3.out _).mono ?_
                    rintro e w' ⟨rfl, n10, rfl⟩
                    clear HH3
                    go_wp2_with fail
                    exact ⟨⟨i + 1, rfl, by omega, by rw [HTk.out], _, rfl⟩, by simp [intOf]; omega⟩
                · have hq1 : 1 ≤ q := by omega
                  have dq : decide (0 < q) = true := decide_eq_true (by omega)
                  have dm : ((M : Int) % q != 0) = false := by rw [k4 hq0]; rfl
                  clear k4 hq0 hs ht hp1
                  cases Sv
                  · clear HS1
                    go_wp2_with fail
                    refine (HH1.out _).mono ?_
                    rintro e w' ⟨rfl, n8, rfl⟩
                    clear HH1
                    go_wp2_with fail
                    refine (HH2.out _).mono ?_
                    rintro e w' ⟨rfl, n9, rfl⟩
                    clear HH2
                    go_wp2_with fail
                    refine (HH3.out _).mono ?_
                    rintro e w' ⟨rfl, n10, rfl⟩
                    clear HH3
                    go_wp2_with fail
                    exact ⟨⟨i + 1, rfl, by omega, by rw [HTk.out], _, rfl⟩, by simp [intOf]; omega⟩
                  · have HSS := HS1.out rfl
                    have d1 : (S != 1) = false := by rw [HSS]; rfl
                    clear HSS HS1
                    go_wp2_with fail
                    refine (HH1.out _).mono ?_
                    rintro e w' ⟨rfl, n8, rfl⟩
                    clear HH1
                    go_wp2_with fail
                    refine (HH2.out _).mono ?_
                    rintro e w' ⟨rfl, n9, rfl⟩
                    clear HH2
                    go_wp2_with fail
                    refine (HH3.out _).mono ?_
                    rintro e w' ⟨rfl, n10, rfl⟩
                    clear HH3
                    go_wp2_with fail
                    exact ⟨⟨i + 1, rfl, by omega, by rw [HTk.out], _, rfl⟩, by simp [intOf]; omega⟩
              · obtain rfl : i = n := by omega
                have HE := Lib.hid (show prodH a b (P.take i) = 1 by rw [← HN.out, List.take_length]; exact HPr.out)
                clear HHl HOK HPc HS HG9
                generalize prodH a b (P.take i) = Q at *
                obtain rfl : Q = 1 := HE.out
                go_wp2_with fail
                refine (hA.out _).mono ?_
                rintro e w' ⟨rfl, hb⟩
                have HE2 := Lib.hid (below_then (below_drewN HBw.out m) hb)
                clear hb
                go_wp2_with fail
                go_ret
                exact ⟨rfl, HE2.out⟩
end Go.Proofs.Ytmlkiddkgikdhaa
