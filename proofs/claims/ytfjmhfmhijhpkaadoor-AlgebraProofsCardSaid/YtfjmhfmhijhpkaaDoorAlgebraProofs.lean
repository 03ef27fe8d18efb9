/- The law AlgebraProofs answers true at all algebras and lists of elements. -/
import Derived.Test.YtfjmhfmhijhpkaaDoorRci
import Derived.Test.YtfjmhfmhijhpkaaDoorAw30
import Derived.Deep.Slices
namespace Go.Proofs.YtfjmhfmhijhpkaaDoor
open Go.RowKit Go.WideShapes Go.ChangeShapes Go.Joins Go.Deep FF

section
variable {H : Type} {enc : TypeId × Value → H} {P : Program} {w : World} {base : Nat} {held : Bool}
/-- a slice of elements that came in -/
theorem open_quats {nn : Nat} {t e : TypeId} {v : Value} {d : DataW H} {p : List MemPlace} (ht : P.underlying t = some (.slice e)) (hB : intCells P nn e = true) (hC : P.cellsOf e = 5) {r : Reach} {b0 : Nat} (hv : Value.okWide P w r b0 t v) (h : DataW.Trod enc P w base (fun _ => true) held t v d p) :
    ∃ (A : Option Addr) (l : List Qt) (c : Nat), v = .slice A l.length c ∧ ShowsI w A (flatQ l) := by
  obtain ⟨va, vl, vc, rfl⟩ := okWide_slice ht hv
  obtain ⟨fuel, hf⟩ := h
  rcases open_slice ht hf with ⟨hcs, _⟩ | ⟨a, len, cap, m, n, D, Pl, hcs, _, hl, hm, hmm, _, hx⟩
  · simp only [Value.cells, List.cons.injEq, and_true] at hcs
    exact ⟨none, [], 0, hcs, fun h => absurd h (by simp [flatQ])⟩
  · rw [if_pos rfl] at hmm
    have each : ∀ i, i < len → ∃ q : Qt, w.cell? ((a.add (i * 5)).add 0) = some (.int .i64 q.w) ∧ w.cell? ((a.add (i * 5)).add 1) = some (.int .i64 q.x) ∧ w.cell? ((a.add (i * 5)).add 2) = some (.int .i64 q.y) ∧ w.cell? ((a.add (i * 5)).add 3) = some (.int .i64 q.z) ∧ w.cell? ((a.add (i * 5)).add 4) = some (.int .i64 q.d) := by
      intro i hi'
      obtain ⟨cs', h1, h2⟩ := hx i (by omega)
      rw [hC] at h1
      obtain ⟨_, hlen, hcell⟩ := World.cells?_some h1
      have key := fun j (hj : j < 5) => intCells_spec hB h2 j (by omega)
      obtain ⟨a0, e0, -⟩ := key 0 (by omega)
      obtain ⟨a1, e1, -⟩ := key 1 (by omega)
      obtain ⟨a2, e2, -⟩ := key 2 (by omega)
      obtain ⟨a3, e3, -⟩ := key 3 (by omega)
      obtain ⟨a4, e4, -⟩ := key 4 (by omega)
      refine ⟨⟨a0, a1, a2, a3, a4⟩, ?_, ?_, ?_, ?_, ?_⟩
      · rw [hcell 0 (by omega), List.getElem?_eq_getElem (by omega), e0]
      · rw [hcell 1 (by omega), List.getElem?_eq_getElem (by omega), e1]
      · rw [hcell 2 (by omega), List.getElem?_eq_getElem (by omega), e2]
      · rw [hcell 3 (by omega), List.getElem?_eq_getElem (by omega), e3]
      · rw [hcell 4 (by omega), List.getElem?_eq_getElem (by omega), e4]
    haveI : Inhabited Qt := ⟨Qt.zero⟩
    obtain ⟨q, hq⟩ := choose_lt each
    simp only [Value.cells, List.cons.injEq, and_true] at hcs
    have hlen : ((List.range len).map q).length = len := by simp
    have hget : ∀ i, i < len → ((List.range len).map q).getD i Qt.zero = q i := fun i hi => by
      rw [List.getD_eq_getElem?_getD, List.getElem?_map, List.getElem?_range hi]; rfl
    refine ⟨some a, (List.range len).map q, cap, by rw [hlen]; exact hcs, fun hp => ?_⟩
    rw [flatQ_len, hlen] at hp
    obtain ⟨b, o, spot⟩ := a
    have hspot : spot = none := by
      have := World.cell?_spot (hq 0 (by omega)).1
      simpa [Addr.add] using this
    subst hspot
    simp only [Go.WideShapes.add_plain] at hq
    refine ⟨b, o, rfl, cell_block (hq 0 (by omega)).1, fun i hi => ?_⟩
    rw [flatQ_len, hlen] at hi
    have hi5 : i / 5 < len := by omega
    obtain ⟨f0, f1, f2, f3, f4⟩ := flatQ_get (l := (List.range len).map q) (i := i / 5) (by rw [hlen]; exact hi5)
    rw [hget _ hi5] at f0 f1 f2 f3 f4
    obtain ⟨g0, g1, g2, g3, g4⟩ := hq (i / 5) hi5
    have hj : i % 5 = 0 ∨ i % 5 = 1 ∨ i % 5 = 2 ∨ i % 5 = 3 ∨ i % 5 = 4 := by omega
    rcases hj with h | h | h | h | h
    · rw [show i = 5 * (i / 5) by omega, f0, show o + 5 * (i / 5) = o + i / 5 * 5 + 0 by omega]; exact g0
    · rw [show i = 5 * (i / 5) + 1 by omega, f1, show o + (5 * (i / 5) + 1) = o + i / 5 * 5 + 1 by omega]; exact g1
    · rw [show i = 5 * (i / 5) + 2 by omega, f2, show o + (5 * (i / 5) + 2) = o + i / 5 * 5 + 2 by omega]; exact g2
    · rw [show i = 5 * (i / 5) + 3 by omega, f3, show o + (5 * (i / 5) + 3) = o + i / 5 * 5 + 3 by omega]; exact g3
    · rw [show i = 5 * (i / 5) + 4 by omega, f4, show o + (5 * (i / 5) + 4) = o + i / 5 * 5 + 4 by omega]; exact g4
end
theorem two_of {l : List Qt} (h : l.length = 2) : ∃ p0 p1 p2 p3 p4 q0 q1 q2 q3 q4, l = [⟨p0, p1, p2, p3, p4⟩, ⟨q0, q1, q2, q3, q4⟩] := by
  match l, h with
  | [⟨p0, p1, p2, p3, p4⟩, ⟨q0, q1, q2, q3, q4⟩], _ => exact ⟨p0, p1, p2, p3, p4, q0, q1, q2, q3, q4, rfl⟩
theorem qCheckIso_any (a b c d : Int) (A : Option Addr) (l : List Qt) (cp : Nat) (w : World) (hx : ShowsI w A (flatQ l)) :
    Calls Tryd.prog 10 #[.agg #[.int .i64 a, .int .i64 b], .agg #[.int .i64 c, .int .i64 d], .slice A l.length cp] w fun r w' => r = .returned (.int .i64 (isoF a b c d l)) ∧ Below w.heap.size w w' := by
  by_cases h2 : l.length = 2
  · by_cases ha : aE a b = 0
    · by_cases hc : aE c d = 0
      · obtain ⟨p0, p1, p2, p3, p4, q0, q1, q2, q3, q4, rfl⟩ := two_of h2
        have := qCheckIso_two a b c d p0 p1 p2 p3 p4 q0 q1 q2 q3 q4 A cp w ha hc hx
        rw [isoF, if_pos ha, if_pos hc]
        exact this
      · exact qCheckIso_short a b c d A l _ cp w rfl (.inr (.inr hc))
    · exact qCheckIso_short a b c d A l _ cp w rfl (.inr (.inl ha))
  · exact qCheckIso_short a b c d A l _ cp w rfl (.inl h2)
theorem rCheckIso_any (a b c d : Int) (A : Option Addr) (l : List Qt) (cp : Nat) (w : World) (ha : aE a b = 0) (hc : aE c d = 0) (hx : ShowsI w A (flatQ l)) :
    Calls Tryd.prog 11 #[.agg #[.int .i64 a, .int .i64 b], .agg #[.int .i64 c, .int .i64 d], .slice A l.length cp] w fun r w' => r = .returned (.int .i64 (isoE a b c d l)) ∧ Below w.heap.size w w' := by
  by_cases h2 : l.length = 2
  · obtain ⟨p0, p1, p2, p3, p4, q0, q1, q2, q3, q4, rfl⟩ := two_of h2
    exact rCheckIso_two a b c d p0 p1 p2 p3 p4 q0 q1 q2 q3 q4 A cp w ha hc hx
  · rw [isoE, if_neg h2]
    exact rCheckIso_short a b c d A _ cp w h2

set_option maxHeartbeats 4000000 in
set_option maxRecDepth 100000 in
theorem AlgebraProofs_law (a b c d : Int) (A : Option Addr) (l : List Qt) (cp : Nat) (w : World) (hx : ShowsI w A (flatQ l)) :
    Calls Tryd.prog 4 #[.agg #[.int .i64 a, .int .i64 b], .agg #[.int .i64 c, .int .i64 d], .slice A l.length cp] w fun e w' => e = .returned (.bool true) ∧ Below w.heap.size w w' := by
  have HA := Lib.hid awake3_any
  have HI := Lib.hid (fun (w' : World) (hb : Below w.heap.size w w') => qCheckIso_any a b c d A l cp w' (hx.below hb))
  have hR := fun (ha : aE a b = 0) (hc : aE c d = 0) (w' : World) (hb : Below w.heap.size w w') => rCheckIso_any a b c d A l cp w' ha hc (hx.below hb)
  have HR1 := Lib.hid (fun w => rCheck_any a b w)
  have HR2 := Lib.hid (fun w => rCheck_any c d w)
  have hF : isoF a b c d l = if aE a b = 0 then (if aE c d = 0 then isoE a b c d l else aE c d) else aE a b := rfl
  rw [hF] at HI
  clear hx hF
  generalize l.length = n at *
  generalize isoE a b c d l = F at *
  generalize aE a b = E1 at *
  generalize aE c d = E2 at *
  by_cases h5 : 5 < n
  · clear hR HI HR1 HR2
    go_enter Tryd.func4, Tryd.ntmps4
    go_upto_region 1 with fail
    obtain ⟨W0, hW0⟩ : ∃ W0 : World, W0 = ((w.alloc (.cells #[.int .i64 a, .int .i64 b] 23)).alloc (.cells #[.int .i64 c, .int .i64 d] 23)) := ⟨_, rfl⟩
    rw [← hW0]
    have HB0 := Lib.hid (show Bx w [(w.heap.size + 1, #[.int .i64 c, .int .i64 d]), (w.heap.size, #[.int .i64 a, .int .i64 b])] W0 by rw [hW0]; simpa using (((Bx.nil (Below.refl w.heap.size w)).new #[.int .i64 a, .int .i64 b] 23).new #[.int .i64 c, .int .i64 d] 23))
    clear hW0
    go_wp2_with fail
    refine (HA.out _).mono ?_
    rintro e1 w1 ⟨rfl, hbb⟩
    have HB1 := Lib.hid (HB0.out.keep hbb)
    clear hbb HB0
    have dn : decide ((n : Int) > 5) = true := decide_eq_true (by omega)
    go_wp2_with fail
    go_ret
    exact ⟨rfl, HB1.out.below⟩

  by_cases h1 : E1 = 0
  · rw [if_pos h1] at HI
    by_cases h2 : E2 = 0
    · rw [if_pos h2] at HI
      have HR := Lib.hid (hR h1 h2)
      subst h1 h2
      clear hR
      go_enter Tryd.func4, Tryd.ntmps4
      go_upto_region 1 with fail
      obtain ⟨W0, hW0⟩ : ∃ W0 : World, W0 = ((w.alloc (.cells #[.int .i64 a, .int .i64 b] 23)).alloc (.cells #[.int .i64 c, .int .i64 d] 23)) := ⟨_, rfl⟩
      rw [← hW0]
      have HB0 := Lib.hid (show Bx w [(w.heap.size + 1, #[.int .i64 c, .int .i64 d]), (w.heap.size, #[.int .i64 a, .int .i64 b])] W0 by rw [hW0]; simpa using (((Bx.nil (Below.refl w.heap.size w)).new #[.int .i64 a, .int .i64 b] 23).new #[.int .i64 c, .int .i64 d] 23))
      clear hW0
      go_wp2_with fail
      refine (HA.out _).mono ?_
      rintro e1 w1 ⟨rfl, hbb⟩
      have HB1 := Lib.hid (HB0.out.keep hbb)
      clear hbb HB0
      have dn : decide ((5 : Int) < n) = false := decide_eq_false (by omega)
      obtain ⟨c0_0, c0_1⟩ := HB1.out.two (List.mem_cons_self ..)
      obtain ⟨c1_0, c1_1⟩ := HB1.out.two (List.mem_cons_of_mem _ (List.mem_cons_self ..))
      go_wp2_with fail
      refine (HI.out _ HB1.out.below).mono ?_
      rintro e2 w2 ⟨rfl, hbb⟩
      have HB2 := Lib.hid (HB1.out.keep hbb)
      clear c0_0 c0_1 c1_0 c1_1
      clear hbb HB1
      obtain ⟨c0_0, c0_1⟩ := HB2.out.two (List.mem_cons_self ..)
      obtain ⟨c1_0, c1_1⟩ := HB2.out.two (List.mem_cons_of_mem _ (List.mem_cons_self ..))
      go_wp2_with fail
      refine (HR1.out _).mono ?_
      rintro e3 w3 ⟨rfl, hbb⟩
      have HB3 := Lib.hid (HB2.out.keep hbb)
      clear c0_0 c0_1 c1_0 c1_1
      clear hbb HB2
      obtain ⟨c0_0, c0_1⟩ := HB3.out.two (List.mem_cons_self ..)
      obtain ⟨c1_0, c1_1⟩ := HB3.out.two (List.mem_cons_of_mem _ (List.mem_cons_self ..))
      go_wp2_with fail
      refine (HR2.out _).mono ?_
      rintro e4 w4 ⟨rfl, hbb⟩
      have HB4 := Lib.hid (HB3.out.keep hbb)
      clear c0_0 c0_1 c1_0 c1_1
      clear hbb HB3
      obtain ⟨c0_0, c0_1⟩ := HB4.out.two (List.mem_cons_self ..)
      obtain ⟨c1_0, c1_1⟩ := HB4.out.two (List.mem_cons_of_mem _ (List.mem_cons_self ..))
      go_wp2_with fail
      refine (HR.out _ HB4.out.below).mono ?_
      rintro e5 w5 ⟨rfl, hbb⟩
      have HB5 := Lib.hid (HB4.out.keep hbb)
      clear c0_0 c0_1 c1_0 c1_1
      clear hbb HB4
      go_wp2_with fail
      go_ret
      exact ⟨rfl, HB5.out.below⟩

    · rw [if_neg h2] at HI
      have d2 : (E2 != 0) = true := bne_iff_ne.2 h2
      subst h1
      clear hR
      go_enter Tryd.func4, Tryd.ntmps4
      go_upto_region 1 with fail
      obtain ⟨W0, hW0⟩ : ∃ W0 : World, W0 = ((w.alloc (.cells #[.int .i64 a, .int .i64 b] 23)).alloc (.cells #[.int .i64 c, .int .i64 d] 23)) := ⟨_, rfl⟩
      rw [← hW0]
      have HB0 := Lib.hid (show Bx w [(w.heap.size + 1, #[.int .i64 c, .int .i64 d]), (w.heap.size, #[.int .i64 a, .int .i64 b])] W0 by rw [hW0]; simpa using (((Bx.nil (Below.refl w.heap.size w)).new #[.int .i64 a, .int .i64 b] 23).new #[.int .i64 c, .int .i64 d] 23))
      clear hW0
      go_wp2_with fail
      refine (HA.out _).mono ?_
      rintro e1 w1 ⟨rfl, hbb⟩
      have HB1 := Lib.hid (HB0.out.keep hbb)
      clear hbb HB0
      have dn : decide ((5 : Int) < n) = false := decide_eq_false (by omega)
      obtain ⟨c0_0, c0_1⟩ := HB1.out.two (List.mem_cons_self ..)
      obtain ⟨c1_0, c1_1⟩ := HB1.out.two (List.mem_cons_of_mem _ (List.mem_cons_self ..))
      go_wp2_with fail
      refine (HI.out _ HB1.out.below).mono ?_
      rintro e2 w2 ⟨rfl, hbb⟩
      have HB2 := Lib.hid (HB1.out.keep hbb)
      clear c0_0 c0_1 c1_0 c1_1
      clear hbb HB1
      obtain ⟨c0_0, c0_1⟩ := HB2.out.two (List.mem_cons_self ..)
      obtain ⟨c1_0, c1_1⟩ := HB2.out.two (List.mem_cons_of_mem _ (List.mem_cons_self ..))
      go_wp2_with fail
      refine (HR1.out _).mono ?_
      rintro e3 w3 ⟨rfl, hbb⟩
      have HB3 := Lib.hid (HB2.out.keep hbb)
      clear c0_0 c0_1 c1_0 c1_1
      clear hbb HB2
      obtain ⟨c0_0, c0_1⟩ := HB3.out.two (List.mem_cons_self ..)
      obtain ⟨c1_0, c1_1⟩ := HB3.out.two (List.mem_cons_of_mem _ (List.mem_cons_self ..))
      go_wp2_with fail
      refine (HR2.out _).mono ?_
      rintro e4 w4 ⟨rfl, hbb⟩
      have HB4 := Lib.hid (HB3.out.keep hbb)
      clear c0_0 c0_1 c1_0 c1_1
      clear hbb HB3
      go_wp2_with fail
      go_ret
      exact ⟨rfl, HB4.out.below⟩

  · rw [if_neg h1] at HI
    have d1 : (E1 != 0) = true := bne_iff_ne.2 h1
    clear hR HR2
    go_enter Tryd.func4, Tryd.ntmps4
    go_upto_region 1 with fail
    obtain ⟨W0, hW0⟩ : ∃ W0 : World, W0 = ((w.alloc (.cells #[.int .i64 a, .int .i64 b] 23)).alloc (.cells #[.int .i64 c, .int .i64 d] 23)) := ⟨_, rfl⟩
    rw [← hW0]
    have HB0 := Lib.hid (show Bx w [(w.heap.size + 1, #[.int .i64 c, .int .i64 d]), (w.heap.size, #[.int .i64 a, .int .i64 b])] W0 by rw [hW0]; simpa using (((Bx.nil (Below.refl w.heap.size w)).new #[.int .i64 a, .int .i64 b] 23).new #[.int .i64 c, .int .i64 d] 23))
    clear hW0
    go_wp2_with fail
    refine (HA.out _).mono ?_
    rintro e1 w1 ⟨rfl, hbb⟩
    have HB1 := Lib.hid (HB0.out.keep hbb)
    clear hbb HB0
    have dn : decide ((5 : Int) < n) = false := decide_eq_false (by omega)
    obtain ⟨c0_0, c0_1⟩ := HB1.out.two (List.mem_cons_self ..)
    obtain ⟨c1_0, c1_1⟩ := HB1.out.two (List.mem_cons_of_mem _ (List.mem_cons_self ..))
    go_wp2_with fail
    refine (HI.out _ HB1.out.below).mono ?_
    rintro e2 w2 ⟨rfl, hbb⟩
    have HB2 := Lib.hid (HB1.out.keep hbb)
    clear c0_0 c0_1 c1_0 c1_1
    clear hbb HB1
    obtain ⟨c0_0, c0_1⟩ := HB2.out.two (List.mem_cons_self ..)
    obtain ⟨c1_0, c1_1⟩ := HB2.out.two (List.mem_cons_of_mem _ (List.mem_cons_self ..))
    go_wp2_with fail
    refine (HR1.out _).mono ?_
    rintro e3 w3 ⟨rfl, hbb⟩
    have HB3 := Lib.hid (HB2.out.keep hbb)
    clear c0_0 c0_1 c1_0 c1_1
    clear hbb HB2
    go_wp2_with fail
    go_ret
    exact ⟨rfl, HB3.out.below⟩


end Go.Proofs.YtfjmhfmhijhpkaaDoor
