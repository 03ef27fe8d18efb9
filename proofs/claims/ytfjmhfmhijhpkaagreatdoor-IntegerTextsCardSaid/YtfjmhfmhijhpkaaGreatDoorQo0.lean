/- Sums, products with fractions, negatives, conjugates, products in the reference; fractions that are valid. Norms and inverses, in the program and in the reference. Inverses, in the program and in the reference. Boxes of a call's own that are read and written. -/
import Derived.Test.YtfjmhfmhijhpkaaGreatDoorQj0
import Derived.Test.YtfjmhfmhijhpkaaGreatDoorQn0
namespace Go.Proofs.YtfjmhfmhijhpkaaGreatDoor
open Go.RowKit FF

/-- a fraction that may be an argument -/
def frB (n d : Int) : Bool := decide (d ≠ 0 ∧ (-1000000000 ≤ n ∧ n ≤ 1000000000) ∧ (-1000000000 ≤ d ∧ d ≤ 1000000000))
def frE (n d : Int) : Int := if frB n d then 0 else 3
theorem frB_iff {n d : Int} : frB n d = true ↔ d ≠ 0 ∧ (-1000000000 ≤ n ∧ n ≤ 1000000000) ∧ (-1000000000 ≤ d ∧ d ≤ 1000000000) := by unfold frB; rw [decide_eq_true_iff]
theorem frE_cases (n d : Int) : (frB n d = true ∧ frE n d = 0) ∨ (frB n d = false ∧ frE n d = 3) := by unfold frE; cases frB n d <;> simp
def scaleQ (n d : Int) (q : Qt) : Qt := ⟨q.w * n, q.x * n, q.y * n, q.z * n, q.d * d⟩
theorem scaleQ_fit {n d : Int} {q : Qt} (hq : qB q = true) (h : frB n d = true) : fitBound (scaleQ n d q) ∧ (scaleQ n d q).d ≠ 0 := by
  obtain ⟨h0, h1, h2, h3, h4⟩ := qB_iff.1 hq
  obtain ⟨hd, hn, hd2⟩ := frB_iff.1 h
  have b0 := mulb h0 hn; have b1 := mulb h1 hn; have b2 := mulb h2 hn; have b3 := mulb h3 hn
  have b4 := mulb (m := 1000000) (x := q.d) ⟨by omega, by omega⟩ hd2
  have b5 : q.d * d ≠ 0 := Int.mul_ne_zero (by omega) hd
  simp only [Int.reduceMul, Int.reduceNeg] at *
  refine ⟨⟨?_, ?_, ?_, ?_, ?_⟩, ?_⟩ <;> simp only [scaleQ] <;> omega

end Go.Proofs.YtfjmhfmhijhpkaaGreatDoor
namespace Go.Proofs.YtfjmhfmhijhpkaaGreatDoor
open Go.RowKit FF

/-- boxes that stay -/
structure Bxs (w : World) (L : List (Nat × Array Value)) (w' : World) : Prop where
  below : Below w.heap.size w w'
  bx : ∀ x ∈ L, x.1 < w'.heap.size ∧ ∀ i, i < x.2.size → w'.cell? ⟨x.1, i, none⟩ = x.2[i]?
section
variable {w w0 w1 : World} {L : List (Nat × Array Value)}
theorem Bxs.keep (h : Bxs w L w0) (hb : Below w0.heap.size w0 w1) : Bxs w L w1 :=
  ⟨h.below.trans (hb.mono h.below.size), fun x hx => ⟨Nat.lt_of_lt_of_le (h.bx x hx).1 hb.size, fun i hi => (hb.cell (p := ⟨x.1, i, none⟩) (h.bx x hx).1).trans ((h.bx x hx).2 i hi)⟩⟩
theorem Bxs.box (h : Bxs w L w0) {b : Nat} {vs : Array Value} (hm : (b, vs) ∈ L) (i : Nat) (hi : i < vs.size) : w0.cell? ⟨b, i, none⟩ = vs[i]? := (h.bx (b, vs) hm).2 i hi
theorem Bxs.two (h : Bxs w L w0) {b : Nat} {v0 v1 : Value} (hm : (b, #[v0, v1]) ∈ L) : w0.cell? ⟨b, 0, none⟩ = some v0 ∧ w0.cell? ⟨b, 1, none⟩ = some v1 := ⟨h.box hm 0 (by simp), h.box hm 1 (by simp)⟩
theorem Bxs.four (h : Bxs w L w0) {b : Nat} {v0 v1 v2 v3 : Value} (hm : (b, #[v0, v1, v2, v3]) ∈ L) : w0.cell? ⟨b, 0, none⟩ = some v0 ∧ w0.cell? ⟨b, 1, none⟩ = some v1 ∧ w0.cell? ⟨b, 2, none⟩ = some v2 ∧ w0.cell? ⟨b, 3, none⟩ = some v3 := ⟨h.box hm 0 (by simp), h.box hm 1 (by simp), h.box hm 2 (by simp), h.box hm 3 (by simp)⟩
theorem Bxs.five (h : Bxs w L w0) {b : Nat} {v0 v1 v2 v3 v4 : Value} (hm : (b, #[v0, v1, v2, v3, v4]) ∈ L) : w0.cell? ⟨b, 0, none⟩ = some v0 ∧ w0.cell? ⟨b, 1, none⟩ = some v1 ∧ w0.cell? ⟨b, 2, none⟩ = some v2 ∧ w0.cell? ⟨b, 3, none⟩ = some v3 ∧ w0.cell? ⟨b, 4, none⟩ = some v4 :=
  ⟨h.box hm 0 (by simp), h.box hm 1 (by simp), h.box hm 2 (by simp), h.box hm 3 (by simp), h.box hm 4 (by simp)⟩
theorem Bxs.nil (h : Below w.heap.size w w0) : Bxs w [] w0 := ⟨h, fun x hx => by cases hx⟩
theorem Bxs.cons (h : Bxs w L w0) {b : Nat} {vs : Array Value} (hc : Cells w0 b vs) : Bxs w ((b, vs) :: L) w0 :=
  ⟨h.below, fun x hx => by
    rcases List.mem_cons.1 hx with e | e
    · subst e; exact ⟨hc.1, hc.2.1⟩
    · exact h.bx x e⟩
theorem Reg.bxs {r n : Nat} (h : Reg w L r n w0) : Bxs w L w0 := ⟨h.below, fun x hx => ⟨(h.bx x hx).1, (h.bx x hx).2.2⟩⟩
end
@[local go_sem] theorem run_idx0' (c0 c1 c2 c3 : Value) (w : World) : (Instr.index 115 (.agg #[c0, c1, c2, c3]) (.int .i64 0)).run Tryz.prog w = .ok c0 w := by kernel_rfl

set_option maxHeartbeats 4000000 in
set_option maxRecDepth 100000 in
theorem qnorm_any (p0 p1 p2 p3 p4 a b : Int) (w : World) (hq : qB ⟨p0, p1, p2, p3, p4⟩ = true) (ha : aE a b = 0) :
    Calls Tryz.prog 169 #[cv p0 p1 p2 p3, .agg #[.int .i64 a, .int .i64 b]] w fun r w' => r = .returned (.int .i64 (nmQ a b ⟨p0, p1, p2, p3, p4⟩)) ∧ Below w.heap.size w w' := by
  obtain ⟨h0, h1, h2, h3, h4⟩ := qB_iff.1 hq
  simp only at h0 h1 h2 h3 h4
  obtain ⟨-, -, ha', hb'⟩ := aE_zero.1 ha
  have HK := Lib.hid (fun w => qconj_any p0 p1 p2 p3 w (by omega) (by omega) (by omega))
  have ht : ∃ m1 m2 m3 : Int, ∀ w, Calls Tryz.prog 114 #[cv p0 p1 p2 p3, .agg #[.int .i64 a, .int .i64 b], cv p0 (-p1) (-p2) (-p3)] w fun r w' => r = .returned (cv (nmQ a b ⟨p0, p1, p2, p3, p4⟩) m1 m2 m3) ∧ Below w.heap.size w w' := by
    have h := fun w => qtimes_raw p0 p1 p2 p3 p0 (-p1) (-p2) (-p3) a b w h0 h1 h2 h3 h0 (by unfold small6; omega) (by unfold small6; omega) (by unfold small6; omega) ha' hb'
    have e : p0 * p0 + a * p1 * (-p1) + b * p2 * (-p2) - a * b * p3 * (-p3) = nmQ a b ⟨p0, p1, p2, p3, p4⟩ := by simp only [nmQ]; grind
    simp only [e] at h
    exact ⟨_, _, _, h⟩
  obtain ⟨m1, m2, m3, ht⟩ := ht
  have HT := Lib.hid ht
  clear ht h0 h1 h2 h3 h4 ha' hb' hq ha
  generalize nmQ a b ⟨p0, p1, p2, p3, p4⟩ = N at *
  unfold cv at *
  generalize -p1 = n1 at *
  generalize -p2 = n2 at *
  generalize -p3 = n3 at *
  go_enter Tryz.func169, Tryz.ntmps169
  go_wp2_with fail
  obtain ⟨W7, hW7⟩ : ∃ W7 : World, W7 = ((w.alloc (.cells #[.int .i64 p0, .int .i64 p1, .int .i64 p2, .int .i64 p3] 115)).alloc (.cells #[.int .i64 a, .int .i64 b] 23)) := ⟨_, rfl⟩
  rw [← hW7]
  have HG := show Bxs w [(w.heap.size, #[.int .i64 p0, .int .i64 p1, .int .i64 p2, .int .i64 p3]), (w.heap.size + 1, #[.int .i64 a, .int .i64 b])] W7 from
    hW7 ▸ ((Bxs.nil (below_2 _ _)).cons (Cells.new _ _ _ (by simp))).cons ((Cells.new _ _ _ rfl).alloc _)
  have MK := Lib.hid (fun w' (h : Bxs w [(w.heap.size, #[.int .i64 p0, .int .i64 p1, .int .i64 p2, .int .i64 p3]), (w.heap.size + 1, #[.int .i64 a, .int .i64 b])] w') => And.intro h (And.intro (h.four (List.mem_cons_self ..)) (h.two (List.mem_cons_of_mem _ (List.mem_cons_self ..)))))
  have HG2 := Lib.hid (MK.out _ (HG.keep (Below.refl _ _).drew))
  clear hW7 HG
  go_region_held3 (fun w' => Bxs w [(w.heap.size, #[.int .i64 p0, .int .i64 p1, .int .i64 p2, .int .i64 p3]), (w.heap.size + 1, #[.int .i64 a, .int .i64 b])] w' ∧ (w'.cell? ⟨w.heap.size, 0, none⟩ = some (.int .i64 p0) ∧ w'.cell? ⟨w.heap.size, 1, none⟩ = some (.int .i64 p1) ∧ w'.cell? ⟨w.heap.size, 2, none⟩ = some (.int .i64 p2) ∧ w'.cell? ⟨w.heap.size, 3, none⟩ = some (.int .i64 p3)) ∧ (w'.cell? ⟨w.heap.size + 1, 0, none⟩ = some (.int .i64 a) ∧ w'.cell? ⟨w.heap.size + 1, 1, none⟩ = some (.int .i64 b)))
    (first
      | assumption
      | exact HG2.out
      | exact MK.out _ (Bxs.keep (And.left (by assumption)) (by assumption)))
    (first
      | (go_at_call 170; (with_reducible refine (HK.out _).mono ?_); rintro e w' ⟨rfl, hb⟩)
      | (go_at_call 114; (with_reducible refine (HT.out _).mono ?_); rintro e w' ⟨rfl, hb⟩))
  have hR : Bxs w [(w.heap.size, #[.int .i64 p0, .int .i64 p1, .int .i64 p2, .int .i64 p3]), (w.heap.size + 1, #[.int .i64 a, .int .i64 b])] _ := (by assumption : _ ∧ _).1
  go_wp2_with fail
  go_ret
  exact ⟨rfl, hR.below⟩
end Go.Proofs.YtfjmhfmhijhpkaaGreatDoor
namespace Go.Proofs.YtfjmhfmhijhpkaaGreatDoor
open Go.RowKit FF

def ivE (a b : Int) (q : Qt) : Int := if nmQ a b q = 0 then 10 else fitE (invN a b q)
def ivQ (a b : Int) (q : Qt) : Qt := if nmQ a b q = 0 then Qt.zero else fitQ (invN a b q)
/-- an element if there is no error before -/
def orQ (E : Int) (q : Qt) : Qt := if E = 0 then q else Qt.zero
def orE (E F : Int) : Int := if E = 0 then F else E
theorem invN_fit {a b : Int} {q : Qt} (hq : qB q = true) (ha : aE a b = 0) : fitBound (invN a b q) := by
  obtain ⟨h0, h1, h2, h3, h4⟩ := qB_iff.1 hq
  obtain ⟨-, -, ha', hb'⟩ := aE_zero.1 ha
  have hn := nm_bound ha' hb' hq
  have hd : -1000000 ≤ q.d ∧ q.d ≤ 1000000 := by omega
  have b0 := mulb h0 hd
  have b1 := mulb (x := -q.x) (m := 1000000) (by omega) hd
  have b2 := mulb (x := -q.y) (m := 1000000) (by omega) hd
  have b3 := mulb (x := -q.z) (m := 1000000) (by omega) hd
  simp only [Int.reduceMul, Int.reduceNeg] at *
  refine ⟨⟨?_, ?_⟩, ⟨?_, ?_⟩, ⟨?_, ?_⟩, ⟨?_, ?_⟩, ⟨?_, ?_⟩⟩ <;> simp only [invN] <;> omega

set_option maxHeartbeats 4000000 in
set_option maxRecDepth 100000 in
theorem qInverse_any (a b p0 p1 p2 p3 p4 : Int) (w : World) :
    Calls Tryz.prog 108 #[.agg #[.int .i64 a, .int .i64 b], qv ⟨p0, p1, p2, p3, p4⟩] w fun r w' => r = .returned (.tuple #[qv (orQ (allE a b [⟨p0, p1, p2, p3, p4⟩]) (ivQ a b ⟨p0, p1, p2, p3, p4⟩)), .int .i64 (orE (allE a b [⟨p0, p1, p2, p3, p4⟩]) (ivE a b ⟨p0, p1, p2, p3, p4⟩))]) ∧ Below w.heap.size w w' := by
  have HE := Lib.hid (show orQ (allE a b [⟨p0, p1, p2, p3, p4⟩]) (ivQ a b ⟨p0, p1, p2, p3, p4⟩) = (if allE a b [⟨p0, p1, p2, p3, p4⟩] = 0 then ivQ a b ⟨p0, p1, p2, p3, p4⟩ else Qt.zero) ∧ orE (allE a b [⟨p0, p1, p2, p3, p4⟩]) (ivE a b ⟨p0, p1, p2, p3, p4⟩) = (if allE a b [⟨p0, p1, p2, p3, p4⟩] = 0 then ivE a b ⟨p0, p1, p2, p3, p4⟩ else allE a b [⟨p0, p1, p2, p3, p4⟩]) from ⟨rfl, rfl⟩)
  have HI := Lib.hid (show ivQ a b ⟨p0, p1, p2, p3, p4⟩ = (if nmQ a b ⟨p0, p1, p2, p3, p4⟩ = 0 then Qt.zero else fitQ (invN a b ⟨p0, p1, p2, p3, p4⟩)) ∧ ivE a b ⟨p0, p1, p2, p3, p4⟩ = (if nmQ a b ⟨p0, p1, p2, p3, p4⟩ = 0 then 10 else fitE (invN a b ⟨p0, p1, p2, p3, p4⟩)) from ⟨rfl, rfl⟩)
  have HC := Lib.hid (fun A c w hx => qboth_any a b A [⟨p0, p1, p2, p3, p4⟩] 1 c w hx rfl (by omega))
  have HF := Lib.hid (fun (h : allE a b [⟨p0, p1, p2, p3, p4⟩] = 0) => (show (∀ w, Calls Tryz.prog 95 #[qv ⟨p0, p1, p2, p3, p4⟩] w fun r w' => r = .returned (cv p0 p1 p2 p3) ∧ Below w.heap.size w w') ∧ (∀ w, Calls Tryz.prog 169 #[cv p0 p1 p2 p3, .agg #[.int .i64 a, .int .i64 b]] w fun r w' => r = .returned (.int .i64 (nmQ a b ⟨p0, p1, p2, p3, p4⟩)) ∧ Below w.heap.size w w') ∧ (∀ w, Calls Tryz.prog 170 #[cv p0 p1 p2 p3] w fun r w' => r = .returned (cv p0 (-p1) (-p2) (-p3)) ∧ Below w.heap.size w w') ∧ (∀ w, Calls Tryz.prog 171 #[cv p0 (-p1) (-p2) (-p3), .int .i64 p4] w fun r w' => r = .returned (cv (p0 * p4) (-p1 * p4) (-p2 * p4) (-p3 * p4)) ∧ Below w.heap.size w w') ∧ (nmQ a b ⟨p0, p1, p2, p3, p4⟩ ≠ 0 → (∀ w, Calls Tryz.prog 65 #[cv (p0 * p4) (-p1 * p4) (-p2 * p4) (-p3 * p4), .int .i64 (nmQ a b ⟨p0, p1, p2, p3, p4⟩)] w fun r w' => r = .returned (.tuple #[qv (fitQ (invN a b ⟨p0, p1, p2, p3, p4⟩)), .int .i64 (fitE (invN a b ⟨p0, p1, p2, p3, p4⟩))]) ∧ Below w.heap.size w w')) from by
    obtain ⟨ha, hall⟩ := allE_zero.1 h
    have hq := hall ⟨p0, p1, p2, p3, p4⟩ (by simp)
    obtain ⟨k0, k1, k2, k3, k4⟩ := qB_iff.1 hq
    simp only at k0 k1 k2 k3 k4
    exact ⟨fun w => qof_any _ _ _ _ _ w, fun w => qnorm_any p0 p1 p2 p3 p4 a b w hq ha, fun w => qconj_any _ _ _ _ w (by omega) (by omega) (by omega), fun w => qscaled_any _ _ _ _ _ w (by omega) (by omega) (by omega) (by omega) (by omega), fun hn w => qfit_any (invN a b ⟨p0, p1, p2, p3, p4⟩) w (invN_fit hq ha) hn⟩))
  have HN := Lib.hid (show invN a b ⟨p0, p1, p2, p3, p4⟩ = ⟨p0 * p4, -p1 * p4, -p2 * p4, -p3 * p4, nmQ a b ⟨p0, p1, p2, p3, p4⟩⟩ from rfl)
  generalize orQ (allE a b [⟨p0, p1, p2, p3, p4⟩]) (ivQ a b ⟨p0, p1, p2, p3, p4⟩) = RQ at *
  generalize orE (allE a b [⟨p0, p1, p2, p3, p4⟩]) (ivE a b ⟨p0, p1, p2, p3, p4⟩) = RE at *
  generalize allE a b [⟨p0, p1, p2, p3, p4⟩] = E at *
  generalize fitQ (invN a b ⟨p0, p1, p2, p3, p4⟩) = FQ at *
  generalize fitE (invN a b ⟨p0, p1, p2, p3, p4⟩) = FE at *
  generalize ivQ a b ⟨p0, p1, p2, p3, p4⟩ = IQ at *
  generalize ivE a b ⟨p0, p1, p2, p3, p4⟩ = IE at *
  generalize nmQ a b ⟨p0, p1, p2, p3, p4⟩ = M at *
  clear HN
  simp only [qv, cv] at HC HF
  simp only [qv]
  go_enter Tryz.func108, Tryz.ntmps108
  go_wp2_with fail
  refine (HC.out _ _ _ (shows_flat1 (by simp) p0 p1 p2 p3 p4)).mono ?_
  rintro e1 w1 ⟨rfl, hbb⟩
  have HG := Lib.hid (show Reg w [(w.heap.size, #[.int .i64 a, .int .i64 b]), (w.heap.size + 1, #[.int .i64 p0, .int .i64 p1, .int .i64 p2, .int .i64 p3, .int .i64 p4])] (w.heap.size + 2) 5 w1 from ((((Reg.nil (vs := #[.int .i64 0, .int .i64 0, .int .i64 0, .int .i64 0, .int .i64 0]) ((((Below.refl _ _).alloc (Nat.le_refl _) _).alloc (by simp; try omega) _).alloc (by simp; try omega) _) (by omega) (Cells.new _ _ _ (by simp))).cons ((Cells.new _ _ _ (by simp)).alloc _) (by omega)).cons (((Cells.new _ _ _ (by simp)).alloc _).alloc _) (by omega)).keep ((Below.refl _ _).alloc (Nat.le_refl _) _)).keep hbb)
  clear hbb HC
  obtain ⟨z0, z1, z2, z3, z4, f0, f1, f2, f3, f4⟩ := HG.out.res5
  by_cases hE : E = 0
  · subst hE
    obtain ⟨rfl, rfl⟩ := HE.out
    obtain ⟨hO, hNo, hK, hS, hT⟩ := HF.out rfl
    clear HF HE z0 z1 z2 z3 z4 f0 f1 f2 f3 f4
    have HO := Lib.hid hO
    have HNo := Lib.hid hNo
    have HK := Lib.hid hK
    have HS := Lib.hid hS
    have HT := Lib.hid hT
    clear hO hNo hK hS hT
    generalize -p1 * p4 = s1 at *
    generalize -p2 * p4 = s2 at *
    generalize -p3 * p4 = s3 at *
    generalize p0 * p4 = s0 at *
    generalize -p1 = m1 at *
    generalize -p2 = m2 at *
    generalize -p3 = m3 at *
    have mk := fun w' (h : Reg w [(w.heap.size, #[.int .i64 a, .int .i64 b]), (w.heap.size + 1, #[.int .i64 p0, .int .i64 p1, .int .i64 p2, .int .i64 p3, .int .i64 p4])] (w.heap.size + 2) 5 w') => And.intro h (And.intro (h.two (List.mem_cons_self ..)) (And.intro (h.five (List.mem_cons_of_mem _ (List.mem_cons_self ..))) h.res5))
    have MK := Lib.hid mk
    have HG2 := Lib.hid (mk _ (HG.out.keep (Below.refl _ _).drew))
    clear mk
    go_upto_region 4 with fail
    go_region_held3 (fun w' => Reg w [(w.heap.size, #[.int .i64 a, .int .i64 b]), (w.heap.size + 1, #[.int .i64 p0, .int .i64 p1, .int .i64 p2, .int .i64 p3, .int .i64 p4])] (w.heap.size + 2) 5 w' ∧ (w'.cell? ⟨w.heap.size, 0, none⟩ = some (.int .i64 a) ∧ w'.cell? ⟨w.heap.size, 1, none⟩ = some (.int .i64 b)) ∧ (w'.cell? ⟨w.heap.size + 1, 0, none⟩ = some (.int .i64 p0) ∧ w'.cell? ⟨w.heap.size + 1, 1, none⟩ = some (.int .i64 p1) ∧ w'.cell? ⟨w.heap.size + 1, 2, none⟩ = some (.int .i64 p2) ∧ w'.cell? ⟨w.heap.size + 1, 3, none⟩ = some (.int .i64 p3) ∧ w'.cell? ⟨w.heap.size + 1, 4, none⟩ = some (.int .i64 p4)) ∧ Res5 (w.heap.size + 2) w')
      (first
        | assumption
        | exact HG2.out
        | exact MK.out _ (Reg.keep (And.left (by assumption)) (by assumption))
        | exact MK.out _ (Reg.set5 (And.left (by assumption)) _ _ _ _ _))
      (first
        | (go_at_call 95; (with_reducible refine (HO.out _).mono ?_); rintro e w' ⟨rfl, hb⟩)
        | (go_at_call 169; (with_reducible refine (HNo.out _).mono ?_); rintro e w' ⟨rfl, hb⟩))
    have HG3 := Lib.hid (show Reg w [(w.heap.size, #[.int .i64 a, .int .i64 b]), (w.heap.size + 1, #[.int .i64 p0, .int .i64 p1, .int .i64 p2, .int .i64 p3, .int .i64 p4])] (w.heap.size + 2) 5 w' by repeat (first | exact HG2.out.1 | refine Reg.keep ?_ (by assumption)))
    clear HG2 MK HG
    rename_i hHeld
    clear hHeld
    by_cases hM : M = 0
    · subst hM
      obtain ⟨rfl, rfl⟩ := HI.out
      clear HT HI
      obtain ⟨z0, z1, z2, z3, z4, f0, f1, f2, f3, f4⟩ := HG3.out.res5
      go_wp2_with fail
      obtain ⟨W9, e9, q0, q1, q2, q3, q4, B9⟩ := HG3.out.fin5 (.int .i64 (0)) (.int .i64 (0)) (.int .i64 (0)) (.int .i64 (0)) (.int .i64 (0))
      rw [e9]
      refine bodyPost_ret (v := .tuple #[.agg #[.int .i64 0, .int .i64 0, .int .i64 0, .int .i64 0, .int .i64 0], .int .i64 10]) (by simp [results, Tryz.results108, go_sem, q0, q1, q2, q3, q4]) rfl ?_
      exact ⟨rfl, B9⟩
    · have dM : (M == 0) = false := f_beq hM
      have hI := HI.out
      rw [if_neg hM, if_neg hM] at hI
      obtain ⟨rfl, rfl⟩ := hI
      have HT2 := Lib.hid (HT.out hM)
      clear HT HI hM HNo
      obtain ⟨g0, g1, g2, g3, g4⟩ := RQ
      have mk := fun w' (h : Reg w [(w.heap.size, #[.int .i64 a, .int .i64 b]), (w.heap.size + 1, #[.int .i64 p0, .int .i64 p1, .int .i64 p2, .int .i64 p3, .int .i64 p4])] (w.heap.size + 2) 5 w') => And.intro h (And.intro (h.two (List.mem_cons_self ..)) (And.intro (h.five (List.mem_cons_of_mem _ (List.mem_cons_self ..))) h.res5))
      have MK := Lib.hid mk
      have HG2 := Lib.hid (mk _ (HG3.out.keep (Below.refl _ _).drew))
      clear mk
      go_upto_region 7 with fail
      go_region_held3 (fun w' => Reg w [(w.heap.size, #[.int .i64 a, .int .i64 b]), (w.heap.size + 1, #[.int .i64 p0, .int .i64 p1, .int .i64 p2, .int .i64 p3, .int .i64 p4])] (w.heap.size + 2) 5 w' ∧ (w'.cell? ⟨w.heap.size, 0, none⟩ = some (.int .i64 a) ∧ w'.cell? ⟨w.heap.size, 1, none⟩ = some (.int .i64 b)) ∧ (w'.cell? ⟨w.heap.size + 1, 0, none⟩ = some (.int .i64 p0) ∧ w'.cell? ⟨w.heap.size + 1, 1, none⟩ = some (.int .i64 p1) ∧ w'.cell? ⟨w.heap.size + 1, 2, none⟩ = some (.int .i64 p2) ∧ w'.cell? ⟨w.heap.size + 1, 3, none⟩ = some (.int .i64 p3) ∧ w'.cell? ⟨w.heap.size + 1, 4, none⟩ = some (.int .i64 p4)) ∧ Res5 (w.heap.size + 2) w')
        (first
          | exact HG2.out
          | exact MK.out _ (Reg.keep (And.left (by assumption)) (by assumption))
          | exact MK.out _ (Reg.set5 (And.left (by assumption)) _ _ _ _ _))
        (first
          | (go_at_call 95; (with_reducible refine (HO.out _).mono ?_); rintro e w' ⟨rfl, hb⟩)
          | (go_at_call 170; (with_reducible refine (HK.out _).mono ?_); rintro e w' ⟨rfl, hb⟩)
          | (go_at_call 171; (with_reducible refine (HS.out _).mono ?_); rintro e w' ⟨rfl, hb⟩)
          | (go_at_call 65; (with_reducible refine (HT2.out _).mono ?_); rintro e w' ⟨rfl, hb⟩))
      have hR : Reg w [(w.heap.size, #[.int .i64 a, .int .i64 b]), (w.heap.size + 1, #[.int .i64 p0, .int .i64 p1, .int .i64 p2, .int .i64 p3, .int .i64 p4])] (w.heap.size + 2) 5 w' := by repeat (first | exact HG2.out.1 | refine Reg.keep ?_ (by assumption))
      obtain ⟨W9, e9, q0, q1, q2, q3, q4, B9⟩ := Reg.fin5 hR (.int .i64 g0) (.int .i64 g1) (.int .i64 g2) (.int .i64 g3) (.int .i64 g4)
      rw [e9]
      clear hR HG2 MK HG3
      go_wp2_with fail
      refine bodyPost_ret (v := .tuple #[.agg #[.int .i64 g0, .int .i64 g1, .int .i64 g2, .int .i64 g3, .int .i64 g4], .int .i64 RE]) (by simp [results, Tryz.results108, go_sem, q0, q1, q2, q3, q4]) rfl ?_
      exact ⟨rfl, B9⟩
  · have d1 : (E == 0) = false := f_beq hE
    obtain ⟨h1, h2⟩ := HE.out
    rw [if_neg hE] at h1 h2
    subst h1; subst h2
    clear HE HF HI
    go_wp2_with fail
    obtain ⟨W9, e9, q0, q1, q2, q3, q4, B9⟩ := HG.out.fin5 (.int .i64 (0)) (.int .i64 (0)) (.int .i64 (0)) (.int .i64 (0)) (.int .i64 (0))
    rw [e9]
    refine bodyPost_ret (v := .tuple #[.agg #[.int .i64 0, .int .i64 0, .int .i64 0, .int .i64 0, .int .i64 0], .int .i64 RE]) (by simp [results, Tryz.results108, go_sem, q0, q1, q2, q3, q4]) rfl ?_
    exact ⟨rfl, B9⟩
end Go.Proofs.YtfjmhfmhijhpkaaGreatDoor
namespace Go.Proofs.YtfjmhfmhijhpkaaGreatDoor
open Go.RowKit FF

/-- boxes of the call's own, with what they hold -/
structure Bx (w : World) (L : List (Nat × Array Value)) (W : World) : Prop where
  below : Below w.heap.size w W
  own : ∀ x ∈ L, w.heap.size ≤ x.1 ∧ Cells W x.1 x.2
section
variable {w W W' : World} {L : List (Nat × Array Value)} {b : Nat} {v0 v1 v2 v3 v4 : Value}
theorem Bx.keep (h : Bx w L W) (hb : Below W.heap.size W W') : Bx w L W' := ⟨h.below.trans (hb.mono h.below.size), fun x hx => ⟨(h.own x hx).1, (h.own x hx).2.keep hb⟩⟩
theorem Bx.nil (h : Below w.heap.size w W) : Bx w [] W := ⟨h, fun x hx => by cases hx⟩
theorem Bx.cons {vs : Array Value} (h : Bx w L W) (hb : w.heap.size ≤ b) (hc : Cells W b vs) : Bx w ((b, vs) :: L) W :=
  ⟨h.below, fun x hx => by
    rcases List.mem_cons.1 hx with e | e
    · subst e; exact ⟨hb, hc⟩
    · exact h.own x e⟩
theorem Bx.new (h : Bx w L W) (vs : Array Value) (T : TypeId) : Bx w ((W.heap.size, vs) :: L) (W.alloc (.cells vs T)) :=
  (h.keep ((Below.refl _ _).alloc (Nat.le_refl _) _)).cons h.below.size (Cells.new W vs T rfl)
theorem Bx.drewN (h : Bx w L W) (n : Nat) : Bx w L (W.drewN n) := h.keep (below_drewN (Below.refl _ _) n)
theorem Bx.sub {L' : List (Nat × Array Value)} (h : Bx w L W) (hs : ∀ x ∈ L', x ∈ L) : Bx w L' W := ⟨h.below, fun x hx => h.own x (hs x hx)⟩
theorem Bx.lt {vs : Array Value} (h : Bx w L W) (hm : (b, vs) ∈ L) : w.heap.size ≤ b ∧ b < W.heap.size := ⟨(h.own _ hm).1, (h.own _ hm).2.1⟩
theorem Bx.two (h : Bx w L W) (hm : (b, #[v0, v1]) ∈ L) : W.cell? ⟨b, 0, none⟩ = some v0 ∧ W.cell? ⟨b, 1, none⟩ = some v1 := (h.own _ hm).2.two
theorem Bx.five (h : Bx w L W) (hm : (b, #[v0, v1, v2, v3, v4]) ∈ L) : W.cell? ⟨b, 0, none⟩ = some v0 ∧ W.cell? ⟨b, 1, none⟩ = some v1 ∧ W.cell? ⟨b, 2, none⟩ = some v2 ∧ W.cell? ⟨b, 3, none⟩ = some v3 ∧ W.cell? ⟨b, 4, none⟩ = some v4 := (h.own _ hm).2.five
theorem Bx.fr {vs : Array Value} (h : Bx w L W) (hm : (b, vs) ∈ L) : W.frozen? ⟨b, 0, none⟩ = false ∧ W.frozen? ⟨b, 1, none⟩ = false ∧ W.frozen? ⟨b, 2, none⟩ = false ∧ W.frozen? ⟨b, 3, none⟩ = false ∧ W.frozen? ⟨b, 4, none⟩ = false := (h.own _ hm).2.fr
/-- a store of five cells -/
theorem Bx.put5 (h : Bx w L W) (hm : (b, #[v0, v1, v2, v3, v4]) ∈ L) (u0 u1 u2 u3 u4 : Value) {L' : List (Nat × Array Value)} (hL : ∀ x ∈ L', (x ∈ L ∧ x.1 ≠ b) ∨ x = (b, #[u0, u1, u2, u3, u4])) :
    ∃ W9, (((((W.setCell ⟨b, 0, none⟩ u0).setCell ⟨b, 1, none⟩ u1).setCell ⟨b, 2, none⟩ u2).setCell ⟨b, 3, none⟩ u3).setCell ⟨b, 4, none⟩ u4) = W9 ∧ Bx w L' W9 ∧ W9.heap.size = W.heap.size ∧ (b, #[u0, u1, u2, u3, u4]) = (b, #[u0, u1, u2, u3, u4]) ∧
      W9.cell? ⟨b, 0, none⟩ = some u0 ∧ W9.cell? ⟨b, 1, none⟩ = some u1 ∧ W9.cell? ⟨b, 2, none⟩ = some u2 ∧ W9.cell? ⟨b, 3, none⟩ = some u3 ∧ W9.cell? ⟨b, 4, none⟩ = some u4 := by
  obtain ⟨W9, e9, B9, C9, K9, S9⟩ := store5 h.below (h.own _ hm).1 (h.own _ hm).2 u0 u1 u2 u3 u4
  refine ⟨W9, e9, ⟨B9, fun x hx => ?_⟩, S9, rfl, C9.five⟩
  rcases hL x hx with ⟨h1, h2⟩ | rfl
  · exact ⟨(h.own x h1).1, K9 _ _ (Ne.symm h2) (h.own x h1).2⟩
  · exact ⟨(h.own _ hm).1, C9⟩
end

theorem mulOk {a b : Int} {p q : Qt} (hp : qB p = true) (hq : qB q = true) (ha : aE a b = 0) : allE a b [p, q] = 0 := allE_zero.2 ⟨ha, by simp [hp, hq]⟩
theorem qMul_ok (a b : Int) (p q : Qt) (w : World) (hp : qB p = true) (hq : qB q = true) (ha : aE a b = 0) :
    Calls Tryz.prog 109 #[.agg #[.int .i64 a, .int .i64 b], qv p, qv q] w fun r w' => r = .returned (.tuple #[qv (fitQ (mulQ a b p q)), .int .i64 (fitE (mulQ a b p q))]) ∧ Below w.heap.size w w' := by
  obtain ⟨p0, p1, p2, p3, p4⟩ := p
  obtain ⟨q0, q1, q2, q3, q4⟩ := q
  have h := qMul_any a b p0 p1 p2 p3 p4 q0 q1 q2 q3 q4 w
  rw [mulOk hp hq ha] at h
  exact h
/-- the power of a valid element -/
def pwQ (a b : Int) (q : Qt) (n : Int) : Qt := if n < 0 then (if ivE a b q = 0 then powQ a b (ivQ a b q) n.natAbs else Qt.zero) else powQ a b q n.natAbs
def pwE (a b : Int) (q : Qt) (n : Int) : Int := if n < 0 then (if ivE a b q = 0 then powE a b (ivQ a b q) n.natAbs else ivE a b q) else powE a b q n.natAbs
theorem iv_valid {a b : Int} {q : Qt} (h : ivE a b q = 0) : qB (ivQ a b q) = true := by
  unfold ivE at h; unfold ivQ
  split at h
  · cases h
  · rename_i hn
    rw [if_neg hn]
    obtain ⟨h1, h2⟩ := fitE_zero h
    rw [h2]; exact h1

set_option maxHeartbeats 4000000 in
set_option maxRecDepth 100000 in
theorem qPower_pos (a b p0 p1 p2 p3 p4 : Int) (N : Nat) (w : World) (hN : N ≤ 60) (hq : qB ⟨p0, p1, p2, p3, p4⟩ = true) (ha : aE a b = 0) :
    Calls Tryz.prog 36 #[.agg #[.int .i64 a, .int .i64 b], qv ⟨p0, p1, p2, p3, p4⟩, .int .i64 N] w fun r w' => r = .returned (.tuple #[qv (powQ a b ⟨p0, p1, p2, p3, p4⟩ N), .int .i64 (powE a b ⟨p0, p1, p2, p3, p4⟩ N)]) ∧ Below w.heap.size w w' := by
  have hE : allE a b [⟨p0, p1, p2, p3, p4⟩] = 0 := allE_zero.2 ⟨ha, by simp [hq]⟩
  have HC := Lib.hid (fun A c w hx => hE ▸ qboth_any a b A [⟨p0, p1, p2, p3, p4⟩] 1 c w hx rfl (by omega))
  have HMu := Lib.hid (fun o w (ho : qB o = true) => qMul_ok a b o ⟨p0, p1, p2, p3, p4⟩ w ho hq ha)
  clear hE hq ha
  simp only [qv] at HC HMu
  generalize hRQ : powQ a b ⟨p0, p1, p2, p3, p4⟩ N = RQ at *
  generalize hRE : powE a b ⟨p0, p1, p2, p3, p4⟩ N = RE at *
  have HRQ := Lib.hid hRQ; have HRE := Lib.hid hRE
  clear hRQ hRE
  have d1 : decide ((N : Int) < -60) = false := decide_eq_false (by omega)
  have d2 : decide (60 < (N : Int)) = false := decide_eq_false (by omega)
  have d3 : decide ((N : Int) < 0) = false := decide_eq_false (by omega)
  simp only [qv]
  go_enter Tryz.func36, Tryz.ntmps36
  go_wp2_with fail
  refine (HC.out _ _ _ (shows_flat1 (by simp) p0 p1 p2 p3 p4)).mono ?_
  rintro e1 w1 ⟨rfl, hbb⟩
  have HB1 := Lib.hid (show Bx w [(w.heap.size, #[.int .i64 a, .int .i64 b]), (w.heap.size + 1, #[.int .i64 p0, .int .i64 p1, .int .i64 p2, .int .i64 p3, .int .i64 p4]), (w.heap.size + 2, #[.int .i64 0, .int .i64 0, .int .i64 0, .int .i64 0, .int .i64 0])] w1 from (((((Bx.nil (((((Below.refl _ _).alloc (by simp; try omega) _).alloc (by simp; try omega) _).alloc (by simp; try omega) _).alloc (by simp; try omega) _)).cons (by omega) ((Cells.new _ _ _ (by simp)).alloc _)).cons (by omega) (((Cells.new _ _ _ (by simp)).alloc _).alloc _)).cons (by omega) ((((Cells.new _ _ _ (by simp)).alloc _).alloc _).alloc _))).keep hbb)
  clear hbb HC
  go_upto_region 11 with fail
  have hOB : w.heap.size + 2 < w1.heap.size := (HB1.out.lt (List.mem_cons_of_mem _ (List.mem_cons_of_mem _ (List.mem_cons_self ..)))).2
  obtain ⟨W2, hW2⟩ : ∃ W2 : World, W2 = w1.alloc (.cells #[.int .i64 1, .int .i64 0, .int .i64 0, .int .i64 0, .int .i64 1] 29) := ⟨_, rfl⟩
  have HB0 := Lib.hid (show Bx w ((w1.heap.size, #[.int .i64 1, .int .i64 0, .int .i64 0, .int .i64 0, .int .i64 1]) :: [(w.heap.size, #[.int .i64 a, .int .i64 b]), (w.heap.size + 1, #[.int .i64 p0, .int .i64 p1, .int .i64 p2, .int .i64 p3, .int .i64 p4]), (w.heap.size + 2, #[.int .i64 0, .int .i64 0, .int .i64 0, .int .i64 0, .int .i64 0])]) W2 from hW2 ▸ HB1.out.new _ _)
  go_wp2_with fail
  rw [← hW2]
  clear hW2
  generalize w1.heap.size = OB at *
  clear HB1
  go_loopw [12, 13, 46] (fun _ _ s46 wx => ∃ (k : Nat) (o0 o1 o2 o3 o4 : Int), s46 = .int .i64 k ∧ k ≤ N ∧ powS a b ⟨p0, p1, p2, p3, p4⟩ k = some ⟨o0, o1, o2, o3, o4⟩ ∧ Bx w [(OB, #[.int .i64 o0, .int .i64 o1, .int .i64 o2, .int .i64 o3, .int .i64 o4]), (w.heap.size, #[.int .i64 a, .int .i64 b]), (w.heap.size + 1, #[.int .i64 p0, .int .i64 p1, .int .i64 p2, .int .i64 p3, .int .i64 p4]), (w.heap.size + 2, #[.int .i64 0, .int .i64 0, .int .i64 0, .int .i64 0, .int .i64 0])] wx) (fun _ _ s46 _ => N - (intOf s46).toNat)
  case atStart => exact ⟨0, 1, 0, 0, 0, 1, rfl, Nat.zero_le _, rfl, HB0.out⟩
  case round =>
    clear HB0
    obtain ⟨k, o0, o1, o2, o3, o4, rfl, hk, ho, hb⟩ := hrel
    have HO := Lib.hid ho; have HB := Lib.hid hb
    clear ho hb
    obtain ⟨c0_0, c0_1, c0_2, c0_3, c0_4⟩ := HB.out.five (List.mem_cons_self ..)
    obtain ⟨c1_0, c1_1⟩ := HB.out.two (List.mem_cons_of_mem _ (List.mem_cons_self ..))
    obtain ⟨c2_0, c2_1, c2_2, c2_3, c2_4⟩ := HB.out.five (List.mem_cons_of_mem _ (List.mem_cons_of_mem _ (List.mem_cons_self ..)))
    obtain ⟨c3_0, c3_1, c3_2, c3_3, c3_4⟩ := HB.out.five (List.mem_cons_of_mem _ (List.mem_cons_of_mem _ (List.mem_cons_of_mem _ (List.mem_cons_self ..))))
    obtain ⟨f0, f1, f2, f3, f4⟩ := HB.out.fr (List.mem_cons_of_mem _ (List.mem_cons_of_mem _ (List.mem_cons_of_mem _ (List.mem_cons_self ..))))
    by_cases hlt : k < N
    · have HM := Lib.hid (fun w => HMu.out ⟨o0, o1, o2, o3, o4⟩ w (powS_valid HO.out))
      have HS := Lib.hid (fun h => powS_next HO.out h)
      have HT := Lib.hid (fun h => pow_fell HO.out hlt h)
      generalize fitQ (mulQ a b ⟨o0, o1, o2, o3, o4⟩ ⟨p0, p1, p2, p3, p4⟩) = FQ at *
      generalize fitE (mulQ a b ⟨o0, o1, o2, o3, o4⟩ ⟨p0, p1, p2, p3, p4⟩) = FE at *
      obtain ⟨g0, g1, g2, g3, g4⟩ := FQ
      simp only at HM
      clear HO
      go_wp2_with fail
      refine (HM.out _).mono ?_
      rintro e1 w3 ⟨rfl, hbb⟩
      have HB3 := Lib.hid (HB.out.keep hbb)
      clear hbb HB HM c0_0 c0_1 c0_2 c0_3 c0_4 c1_0 c1_1 c2_0 c2_1 c2_2 c2_3 c2_4 c3_0 c3_1 c3_2 c3_3 c3_4 f0 f1 f2 f3 f4
      obtain ⟨W4, hW4⟩ : ∃ W4 : World, W4 = w3.alloc (.cells #[.int .i64 g0, .int .i64 g1, .int .i64 g2, .int .i64 g3, .int .i64 g4] 29) := ⟨_, rfl⟩
      have HB4 := Lib.hid (show Bx w ((w3.heap.size, #[.int .i64 g0, .int .i64 g1, .int .i64 g2, .int .i64 g3, .int .i64 g4]) :: [(OB, #[.int .i64 o0, .int .i64 o1, .int .i64 o2, .int .i64 o3, .int .i64 o4]), (w.heap.size, #[.int .i64 a, .int .i64 b]), (w.heap.size + 1, #[.int .i64 p0, .int .i64 p1, .int .i64 p2, .int .i64 p3, .int .i64 p4]), (w.heap.size + 2, #[.int .i64 0, .int .i64 0, .int .i64 0, .int .i64 0, .int .i64 0])]) W4 from hW4 ▸ HB3.out.new _ _)
      have hOB := (HB3.out.lt (List.mem_cons_self ..)).2
      by_cases hF : FE = 0
      · subst hF
        have HS2 := Lib.hid (HS.out rfl)
        clear HS HT HB3
        go_upto_region 17 with fail
        rw [← hW4]
        clear hW4
        obtain ⟨c0_0, c0_1, c0_2, c0_3, c0_4⟩ := HB4.out.five (List.mem_cons_self ..)
        obtain ⟨c1_0, c1_1, c1_2, c1_3, c1_4⟩ := HB4.out.five (List.mem_cons_of_mem _ (List.mem_cons_self ..))
        obtain ⟨f0, f1, f2, f3, f4⟩ := HB4.out.fr (List.mem_cons_of_mem _ (List.mem_cons_self ..))
        obtain ⟨W9, e9, B9, -⟩ := HB4.out.put5 (List.mem_cons_of_mem _ (List.mem_cons_self ..)) (.int .i64 g0) (.int .i64 g1) (.int .i64 g2) (.int .i64 g3) (.int .i64 g4) (L' := [(OB, #[.int .i64 g0, .int .i64 g1, .int .i64 g2, .int .i64 g3, .int .i64 g4]), (w.heap.size, #[.int .i64 a, .int .i64 b]), (w.heap.size + 1, #[.int .i64 p0, .int .i64 p1, .int .i64 p2, .int .i64 p3, .int .i64 p4]), (w.heap.size + 2, #[.int .i64 0, .int .i64 0, .int .i64 0, .int .i64 0, .int .i64 0])]) (by
          intro x hx
          simp only [List.mem_cons, List.not_mem_nil, or_false] at hx ⊢
          rcases hx with rfl | rfl | rfl | rfl
          · exact .inr rfl
          · exact .inl ⟨.inr (.inr (.inl rfl)), by simp only; omega⟩
          · exact .inl ⟨.inr (.inr (.inr (.inl rfl))), by simp only; omega⟩
          · exact .inl ⟨.inr (.inr (.inr (.inr rfl))), by simp only; omega⟩)
        have HB9 := Lib.hid B9
        clear B9 HB4
        go_upto_region 18 with fail
        try rw [e9]
        clear e9 c0_0 c0_1 c0_2 c0_3 c0_4 c1_0 c1_1 c1_2 c1_3 c1_4 f0 f1 f2 f3 f4
        go_wp2_with fail
        exact ⟨⟨k + 1, g0, g1, g2, g3, g4, by go_num, by omega, HS2.out, HB9.out⟩, by simp [intOf]; omega⟩
      · have d1 : (FE == 0) = false := f_beq hF
        obtain ⟨t1, t2, t3⟩ := HT.out hF
        have HT1 := Lib.hid t1; have HT2 := Lib.hid t2
        subst t3
        clear t1 t2 HS HT HB3 hF
        go_upto_region 16 with fail
        rw [← hW4]
        clear hW4
        obtain ⟨c0_0, c0_1, c0_2, c0_3, c0_4⟩ := HB4.out.five (List.mem_cons_of_mem _ (List.mem_cons_of_mem _ (List.mem_cons_of_mem _ (List.mem_cons_of_mem _ (List.mem_cons_self ..)))))
        obtain ⟨f0, f1, f2, f3, f4⟩ := HB4.out.fr (List.mem_cons_of_mem _ (List.mem_cons_of_mem _ (List.mem_cons_of_mem _ (List.mem_cons_of_mem _ (List.mem_cons_self ..)))))
        obtain ⟨W9, e9, B9, -, -, q0, q1, q2, q3, q4⟩ := HB4.out.put5 (List.mem_cons_of_mem _ (List.mem_cons_of_mem _ (List.mem_cons_of_mem _ (List.mem_cons_of_mem _ (List.mem_cons_self ..))))) (.int .i64 0) (.int .i64 0) (.int .i64 0) (.int .i64 0) (.int .i64 0) (L' := []) (fun x hx => by cases hx)
        go_wp2_with fail
        try rw [e9]
        refine bodyPost_ret (v := .tuple #[.agg #[.int .i64 0, .int .i64 0, .int .i64 0, .int .i64 0, .int .i64 0], .int .i64 8]) (by simp [results, Tryz.results36, go_sem, q0, q1, q2, q3, q4]) rfl ?_
        exact ⟨by rw [← HRQ.out, ← HRE.out, HT1.out, HT2.out]; rfl, B9.below⟩
    · obtain rfl : k = N := by omega
      have HD := Lib.hid (pow_done HO.out)
      obtain ⟨W9, e9, B9, -, -, q0, q1, q2, q3, q4⟩ := HB.out.put5 (List.mem_cons_of_mem _ (List.mem_cons_of_mem _ (List.mem_cons_of_mem _ (List.mem_cons_self ..)))) (.int .i64 o0) (.int .i64 o1) (.int .i64 o2) (.int .i64 o3) (.int .i64 o4) (L' := []) (fun x hx => by cases hx)
      clear HO HB
      go_wp2_with fail
      try rw [e9]
      refine bodyPost_ret (v := .tuple #[.agg #[.int .i64 o0, .int .i64 o1, .int .i64 o2, .int .i64 o3, .int .i64 o4], .int .i64 0]) (by simp [results, Tryz.results36, go_sem, q0, q1, q2, q3, q4]) rfl ?_
      exact ⟨by rw [← HRQ.out, ← HRE.out, HD.out.1, HD.out.2], B9.below⟩
end Go.Proofs.YtfjmhfmhijhpkaaGreatDoor
