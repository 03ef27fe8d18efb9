/- Texts of elements: Parse of the program. -/
import Derived.Test.YtimdkjbmeogpoaaGreatDoorTTpm
import Derived.Deep.DeepCutAuto
import Derived.BigRegion
namespace Go.Proofs.YtimdkjbmeogpoaaGreatDoor
open Go.RowKit FF
def preP (s : List UInt8) : List UInt8 × Int :=
  if Lib.hasPrefix s [40] = true then ((Lib.cut (Lib.trimPrefix s [40]) [41, 47]).1, if (Lib.cut (Lib.trimPrefix s [40]) [41, 47]).2.1.length ≤ 7 then (Lib.atoi (Lib.cut (Lib.trimPrefix s [40]) [41, 47]).2.1).getD 0 else 1) else (s, 1)
theorem candQ_pre (s : List UInt8) : candQ s = bodyP (preP s).1 ⟨0, 0, 0, 0, (preP s).2⟩ := by
  unfold candQ preP
  split <;> rfl
theorem trim_len (l p : List UInt8) : (Lib.trimPrefix l p).length ≤ l.length := by
  unfold Lib.trimPrefix; split
  · simp
  · exact Nat.le_refl _
theorem cut_len (l p : List UInt8) : (Lib.cut l p).1.length ≤ l.length ∧ (Lib.cut l p).2.1.length ≤ l.length := by
  unfold Lib.cut; split <;> simp <;> omega
theorem preP_len (s : List UInt8) : (preP s).1.length ≤ s.length := by
  unfold preP; split
  · exact Nat.le_trans (cut_len _ _).1 (trim_len _ _)
  · exact Nat.le_refl _
theorem idx_cases (l : List UInt8) (c : UInt8) : Lib.indexByte l c = -1 ∨ ∃ k : Nat, Lib.indexByte l c = k ∧ k < l.length := by
  induction l with
  | nil => exact .inl rfl
  | cons b l ih =>
    unfold Lib.indexByte
    split
    · exact .inr ⟨0, rfl, by simp⟩
    · rcases ih with h | ⟨k, h, hk⟩
      · rw [h]; exact .inl rfl
      · rw [h, if_neg (by simp)]
        exact .inr ⟨k + 1, by simp, by simpa using hk⟩
theorem has_len {l p : List UInt8} (h : Lib.hasPrefix l p = true) : p.length ≤ l.length := by
  unfold Lib.hasPrefix at h
  exact (List.isPrefixOf_iff_prefix.1 h).length_le
theorem body_run (s : List UInt8) (c : Qt) : ∃ (b : List UInt8) (sg : Int), ((Lib.hasPrefix s [45] = true ∧ b = Lib.trimPrefix s [45] ∧ sg = -1) ∨ (Lib.hasPrefix s [45] = false ∧ b = s ∧ sg = 1)) ∧ b.length ≤ s.length ∧ bodyP s c = runP (s.length + 1) b sg c := by
  unfold bodyP
  cases h : Lib.hasPrefix s [45]
  · exact ⟨s, 1, .inr ⟨rfl, rfl, rfl⟩, Nat.le_refl _, by simp⟩
  · exact ⟨_, -1, .inl ⟨rfl, rfl, rfl⟩, trim_len _ _, by simp⟩
theorem data_str (l : List UInt8) : (⟨l.toArray⟩ : ByteArray).data.toList = l := by simp
theorem cpre_any (l : List UInt8) (c : UInt8) (w : World) : Calls Tryz.prog 51 #[.string ⟨l.toArray⟩, .string ⟨#[c]⟩] w fun e w' => e = .returned (.tuple #[.string ⟨(Lib.trimPrefix l [c]).toArray⟩, .bool (Lib.hasPrefix l [c])]) ∧ w' = w := by
  have h := Tryz.strings_CutPrefix ⟨l.toArray⟩ ⟨#[c]⟩ w
  rw [data_str] at h
  exact h
theorem cut_any (l : List UInt8) (w : World) (hE : Ev w) (hl : l.length ≤ 400) : Calls Tryz.prog 52 #[.string ⟨l.toArray⟩, .string ⟨#[41, 47]⟩] w fun e w' => e = .returned (.tuple #[.string ⟨(Lib.cut l [41, 47]).1.toArray⟩, .string ⟨(Lib.cut l [41, 47]).2.1.toArray⟩, .bool (Lib.cut l [41, 47]).2.2]) ∧ Below w.heap.size w w' := by
  obtain ⟨m, hm⟩ := hE.ml
  have h := Tryz.strings_Cut ⟨l.toArray⟩ ⟨#[41, 47]⟩ m w (by show l.toArray.size < _; simp; omega) hm
  rw [data_str] at h
  exact h.mono fun e w' ⟨h1, n, h2⟩ => ⟨h1, h2 ▸ below_drewN (Below.refl _ _) n⟩
theorem idx_any (l : List UInt8) (w : World) : Calls Tryz.prog 54 #[.string ⟨l.toArray⟩, .int .u8 32] w fun e w' => e = .returned (.int .i64 (Lib.indexByte l 32)) ∧ w' = w := by
  have h := Tryz.strings_IndexByte ⟨l.toArray⟩ 32 w
  rw [data_str] at h
  exact h
theorem pre_any (l : List UInt8) (c : UInt8) (w : World) : Calls Tryz.prog 56 #[.string ⟨l.toArray⟩, .string ⟨#[32, c, 32]⟩] w fun e w' => e = .returned (.bool (Lib.hasPrefix l [32, c, 32])) ∧ w' = w := by
  have h := Tryz.strings_HasPrefix ⟨l.toArray⟩ ⟨#[32, c, 32]⟩ w
  rw [data_str] at h
  exact h
theorem plcP_le (s : List UInt8) : (plcP s).1 ≤ 3 := by
  unfold plcP
  split
  · split
    · simp
    · split
      · simp
      · split <;> simp
  · simp
theorem termP_cells (c0 c1 c2 c3 D : Int) (s : List UInt8) (sg : Int) : ∃ d0 d1 d2 d3, termP ⟨c0, c1, c2, c3, D⟩ s sg = ⟨d0, d1, d2, d3, D⟩ ∧ (if (plcP s).2.length ≤ 7 then setC c0 c1 c2 c3 (plcP s).1 (sg * numP (plcP s).2) else #[.int .i64 c0, .int .i64 c1, .int .i64 c2, .int .i64 c3]) = #[.int .i64 d0, .int .i64 d1, .int .i64 d2, .int .i64 d3] := by
  unfold termP
  have hp := plcP_le s
  generalize (plcP s).1 = k at *
  split
  · match k, hp with
    | 0, _ => exact ⟨_, _, _, _, rfl, rfl⟩
    | 1, _ => exact ⟨_, _, _, _, rfl, rfl⟩
    | 2, _ => exact ⟨_, _, _, _, rfl, rfl⟩
    | 3, _ => exact ⟨_, _, _, _, rfl, rfl⟩
  · exact ⟨_, _, _, _, rfl, rfl⟩
theorem Cells.low {W W' : World} {g b : Nat} {vs : Array Value} (h : Cells W g vs) (hb : Below b W W') (hs : W.heap.size ≤ W'.heap.size) (hg : g < b) : Cells W' g vs := h.of_block hs (hb.block g hg)
theorem term_boxes {w W W' : World} {b : Nat} {c0 c1 c2 c3 D sg : Int} {s : List UInt8} (h : Bx w [(b, #[.int .i64 c0, .int .i64 c1, .int .i64 c2, .int .i64 c3]), (w.heap.size + 1, #[.int .i64 0, .int .i64 0, .int .i64 0, .int .i64 0, .int .i64 D]), (w.heap.size, #[.int .i64 0, .int .i64 0, .int .i64 0, .int .i64 0, .int .i64 0])] W) (hb : w.heap.size + 1 < b) (ht : TermPost b c0 c1 c2 c3 s sg W W') :
    ∃ d0 d1 d2 d3, termP ⟨c0, c1, c2, c3, D⟩ s sg = ⟨d0, d1, d2, d3, D⟩ ∧ Bx w [(b, #[.int .i64 d0, .int .i64 d1, .int .i64 d2, .int .i64 d3]), (w.heap.size + 1, #[.int .i64 0, .int .i64 0, .int .i64 0, .int .i64 0, .int .i64 D]), (w.heap.size, #[.int .i64 0, .int .i64 0, .int .i64 0, .int .i64 0, .int .i64 0])] W' := by
  obtain ⟨d0, d1, d2, d3, h1, h2⟩ := termP_cells c0 c1 c2 c3 D s sg
  obtain ⟨t1, t2, t3⟩ := ht
  rw [h2] at t1
  refine ⟨d0, d1, d2, d3, h1, h.below.trans (t2.mono (by omega)), fun x hx => ?_⟩
  simp only [List.mem_cons, List.not_mem_nil, or_false] at hx
  rcases hx with rfl | rfl | rfl
  · exact ⟨by simp only; omega, t1⟩
  · exact ⟨by simp only; omega, (h.own _ (List.mem_cons_of_mem _ (List.mem_cons_self ..))).2.low t2 t3 hb⟩
  · exact ⟨Nat.le_refl _, (h.own _ (List.mem_cons_of_mem _ (List.mem_cons_of_mem _ (List.mem_cons_self ..)))).2.low t2 t3 (by omega)⟩
def parP (s : List UInt8) : Prop := qB (candQ s) = true ∧ fmtQ (candQ s) = s
theorem take_str (l : List UInt8) (k : Nat) : (⟨l.toArray⟩ : ByteArray).extract 0 k = ⟨(l.take k).toArray⟩ := by
  have := extract_str l 0 k
  rw [Nat.zero_add] at this
  rw [this]; simp
theorem drop_str (l : List UInt8) (k : Nat) (h : k ≤ l.length) : (⟨l.toArray⟩ : ByteArray).extract k l.length = ⟨(l.drop k).toArray⟩ := by
  have := extract_str l k (l.length - k)
  rw [show k + (l.length - k) = l.length by omega] at this
  rw [this, List.take_of_length_le (by simp)]
def LoopI (w : World) (b : Nat) (e0 e1 e2 e3 D : Int) (s5 s12 s15 : Value) (wr : World) : Prop :=
  ∃ m : Bool, s15 = .bool m ∧ (m = true → ∃ (t : List UInt8) (sg c0 c1 c2 c3 : Int) (f : Nat), s5 = .string ⟨t.toArray⟩ ∧ s12 = .int .i64 sg ∧ (sg = 1 ∨ sg = -1) ∧ t.length ≤ 200 ∧ t.length ≤ f ∧ (⟨e0, e1, e2, e3, D⟩ : Qt) = runP (f + 1) t sg ⟨c0, c1, c2, c3, D⟩ ∧ Bx w [(b, #[.int .i64 c0, .int .i64 c1, .int .i64 c2, .int .i64 c3]), (w.heap.size + 1, #[.int .i64 0, .int .i64 0, .int .i64 0, .int .i64 0, .int .i64 D]), (w.heap.size, #[.int .i64 0, .int .i64 0, .int .i64 0, .int .i64 0, .int .i64 0])] wr) ∧ (m = false → Bx w [(b, #[.int .i64 e0, .int .i64 e1, .int .i64 e2, .int .i64 e3]), (w.heap.size + 1, #[.int .i64 0, .int .i64 0, .int .i64 0, .int .i64 0, .int .i64 D]), (w.heap.size, #[.int .i64 0, .int .i64 0, .int .i64 0, .int .i64 0, .int .i64 0])] wr)
theorem termP_d (c : Qt) (s : List UInt8) (sg : Int) : (termP c s sg).d = c.d := by
  obtain ⟨a, b, x, y, z⟩ := c
  obtain ⟨d0, d1, d2, d3, h, -⟩ := termP_cells a b x y z s sg
  rw [h]
theorem runP_d : ∀ (f : Nat) (b : List UInt8) (sg : Int) (c : Qt), (runP f b sg c).d = c.d
  | 0, _, _, _ => rfl
  | f + 1, b, sg, c => by
    unfold runP
    split
    · exact termP_d c b sg
    · simp only
      split
      · rw [runP_d f, termP_d]
      · split
        · rw [runP_d f, termP_d]
        · exact termP_d ..
theorem runD (s : List UInt8) (D : Int) : (bodyP s ⟨0, 0, 0, 0, D⟩).d = D := by
  unfold bodyP; split <;> exact runP_d ..
set_option maxHeartbeats 4000000 in
set_option maxRecDepth 100000 in
theorem Parse_walk (s : List UInt8) (w : World) (hl : s.length ≤ 200) (hE : Ev w) (e0 e1 e2 e3 e4 : Int) (hcand : candQ s = ⟨e0, e1, e2, e3, e4⟩) :
    Calls Tryz.prog 17 #[.string ⟨s.toArray⟩] w fun e w' => (∃ q E, e = .returned (.tuple #[qv q, .int .i64 E]) ∧ (parP s ∧ q = nrm (candQ s) ∧ E = 0 ∨ ¬ parP s ∧ q = Qt.zero ∧ E = 7)) ∧ Below w.heap.size w w' := by
  have d1 : ¬ (200 : Int) < (s.length : Int) := by omega
  have HL := Lib.hid hl; have HE := Lib.hid hE; have HCd := Lib.hid hcand
  have HW := Lib.hid (show ∀ W, Below w.heap.size w W → Ev W from fun W h => hE.at h)
  clear hl hE hcand
  go_enter Tryz.func17, Tryz.ntmps17
  go_upto_region 4 with fail
  obtain ⟨W0, e0⟩ : ∃ W0, ((w.alloc (.cells #[.int .i64 0, .int .i64 0, .int .i64 0, .int .i64 0, .int .i64 0] 35)).alloc (.cells #[.int .i64 0, .int .i64 0, .int .i64 0, .int .i64 0, .int .i64 1] 35)) = W0 := ⟨_, rfl⟩
  have HB0 := Lib.hid (show Bx w [(w.heap.size + 1, #[.int .i64 0, .int .i64 0, .int .i64 0, .int .i64 0, .int .i64 1]), (w.heap.size, #[.int .i64 0, .int .i64 0, .int .i64 0, .int .i64 0, .int .i64 0])] W0 from by rw [← e0]; simpa using (((Bx.nil (Below.refl w.heap.size w)).new #[.int .i64 0, .int .i64 0, .int .i64 0, .int .i64 0, .int .i64 0] 35).new #[.int .i64 0, .int .i64 0, .int .i64 0, .int .i64 0, .int .i64 1] 35))
  rw [e0]; clear e0
  go_wp2_with fail
  refine (cpre_any s 40 _).mono ?_
  rintro _ w1 ⟨rfl, hw⟩; rw [hw]; clear hw w1
  go_upto_if 31 with fail
  obtain ⟨D, hD⟩ : ∃ D, D = (preP s).2 := ⟨_, rfl⟩
  obtain ⟨bd, hbd⟩ : ∃ bd, bd = (preP s).1 := ⟨_, rfl⟩
  have HBd := Lib.hid (show bd.length ≤ 200 from by rw [hbd]; exact Nat.le_trans (preP_len s) HL.out)
  have HD := Lib.hid hD; have HBe := Lib.hid hbd; clear hD hbd
  go_cut [5, 6, 7] (fun s5 _ _ wx => s5 = .string ⟨bd.toArray⟩ ∧ Bx w [(w.heap.size + 1, #[.int .i64 0, .int .i64 0, .int .i64 0, .int .i64 0, .int .i64 D]), (w.heap.size, #[.int .i64 0, .int .i64 0, .int .i64 0, .int .i64 0, .int .i64 0])] wx)
  case first =>
    by_cases hp : Lib.hasPrefix s [40] = true
    · have HPr := Lib.hid (show preP s = _ from if_pos hp)
      have hil := Nat.le_trans (trim_len s [40]) HL.out
      obtain ⟨inn, hinn⟩ : ∃ inn, inn = Lib.trimPrefix s [40] := ⟨_, rfl⟩
      rw [← hinn] at HPr hil ⊢
      have HCt := Lib.hid (fun W h => cut_any inn W (HW.out W h) (by omega))
      obtain ⟨hc1, hc2⟩ := cut_len inn [41, 47]
      obtain ⟨cu, hcu⟩ : ∃ cu, Lib.cut inn [41, 47] = cu := ⟨_, rfl⟩
      rw [hcu] at HPr HCt hc1 hc2
      obtain ⟨t, dn, ok⟩ := cu
      dsimp only at HPr HCt hc1 hc2
      have ht : bd = t := by rw [HBe.out, HPr.out]
      subst ht
      have HDn := Lib.hid (show D = if dn.length ≤ 7 then (Lib.atoi dn).getD 0 else 1 from by rw [HD.out, HPr.out])
      have HA := Lib.hid (fun W h => atoi_any dn W (HW.out W h) (by omega))
      unfold AtoiPost at HA
      rw [hp]; clear hcu hinn
      go_wp2_with fail
      refine (HCt.out _ HB0.out.below).mono ?_
      rintro _ w2 ⟨rfl, hb⟩
      have HB2 := Lib.hid (HB0.out.keep hb); clear hb
      by_cases h7 : dn.length ≤ 7
      · have e7 : (dn.length : Int) ≤ 7 := by omega
        have HD7 := Lib.hid (show D = (Lib.atoi dn).getD 0 from by rw [HDn.out, if_pos h7])
        have HN18 := Lib.hid (show dn.length ≤ 18 by omega)
        clear h7 hc1 hc2 hil hp
        go_wp2_with fail
        refine (HA.out _ HB2.out.below).mono ?_
        rintro _ w3 ⟨n, x, rfl, hn, hb⟩
        have hnD : n = D := (hn HN18.out).trans HD7.out.symm
        subst hnD
        have HB3 := Lib.hid (HB2.out.keep hb); clear hb hn
        obtain ⟨z0, z1, z2, z3, z4⟩ := HB3.out.five (List.mem_cons_self ..)
        obtain ⟨f0, f1, f2, f3, f4⟩ := HB3.out.fr (List.mem_cons_self ..)
        have HB4 := Lib.hid (HB3.out.set1 (List.mem_cons_self ..) 4 (.int .i64 n) (by simp) (vs' := #[.int .i64 0, .int .i64 0, .int .i64 0, .int .i64 0, .int .i64 n]) rfl (L' := [(w.heap.size + 1, #[.int .i64 0, .int .i64 0, .int .i64 0, .int .i64 0, .int .i64 n]), (w.heap.size, #[.int .i64 0, .int .i64 0, .int .i64 0, .int .i64 0, .int .i64 0])]) (fun x hx => by simp only [List.mem_cons, List.not_mem_nil, or_false] at hx ⊢; rcases hx with rfl | rfl <;> simp))
        go_wp2_with fail
        go_meet
        exact ⟨rfl, HB4.out⟩
      · have e7 : ¬ (dn.length : Int) ≤ 7 := by omega
        have hD1 : D = 1 := by rw [HDn.out, if_neg h7]
        subst hD1
        clear h7 hc1 hc2 hil hp
        go_wp2_with fail
        go_meet
        exact ⟨rfl, HB2.out⟩
    · have hp' : Lib.hasPrefix s [40] = false := by simpa using hp
      have hPr : preP s = (s, 1) := if_neg hp
      have ht : bd = s := by rw [HBe.out, hPr]
      have hD1 : D = 1 := by rw [HD.out, hPr]
      subst hD1; subst ht
      rw [hp']; clear hp hp' hPr
      go_wp2_with fail
      go_meet
      exact ⟨rfl, HB0.out⟩
  case rest =>
    obtain ⟨rfl, hb⟩ := hcut
    have HB1 := Lib.hid hb; clear hb HB0
    have HC2 := Lib.hid (show bodyP bd ⟨0, 0, 0, 0, D⟩ = ⟨e0, e1, e2, e3, D⟩ ∧ e4 = D from by have := HCd.out; rw [candQ_pre, ← HBe.out, ← HD.out] at this; have hd := runD bd D; rw [this] at hd; simp only at hd; subst hd; exact ⟨this, rfl⟩)
    obtain ⟨bb, sg0, hsp, hbl, hrun⟩ := body_run bd ⟨0, 0, 0, 0, D⟩
    rw [HC2.out.1] at hrun
    have hD := HC2.out.2; subst hD
    go_upto_region 12 with fail
    obtain ⟨b, hbw⟩ : ∃ b, b = wc.heap.size := ⟨_, rfl⟩
    obtain ⟨W2, e2⟩ : ∃ W2, wc.alloc (.cells #[.int .i64 0, .int .i64 0, .int .i64 0, .int .i64 0] 84) = W2 := ⟨_, rfl⟩
    have HB2 := Lib.hid (show Bx w [(b, #[.int .i64 0, .int .i64 0, .int .i64 0, .int .i64 0]), (w.heap.size + 1, #[.int .i64 0, .int .i64 0, .int .i64 0, .int .i64 0, .int .i64 e4]), (w.heap.size, #[.int .i64 0, .int .i64 0, .int .i64 0, .int .i64 0, .int .i64 0])] W2 from by rw [hbw, ← e2]; exact HB1.out.new _ _)
    rw [e2, ← hbw]
    have hlt := HB1.out.lt (List.mem_cons_self ..)
    have hb1 : w.heap.size + 1 < b := by rw [hbw]; exact hlt.2
    clear e2 hbw hlt HB1
    have HRn := Lib.hid hrun; have HSp := Lib.hid hsp; have HBl := Lib.hid hbl; clear hrun hsp hbl
    go_wp2_with fail
    refine (cpre_any bd 45 _).mono ?_
    rintro _ w1 ⟨rfl, hw⟩; rw [hw]; clear hw w1
    go_upto_if 53 with fail
    go_cut [5, 12, 13, 14] (fun s5 s12 _ _ wx => s5 = .string ⟨bb.toArray⟩ ∧ s12 = .int .i64 sg0 ∧ wx = W2)
    case first =>
      rcases HSp.out with ⟨h1, rfl, rfl⟩ | ⟨h1, rfl, rfl⟩
      · rw [h1]
        go_wp2_with fail
        go_meet
        exact ⟨rfl, rfl, rfl⟩
      · rw [h1]
        go_wp2_with fail
        go_meet
        exact ⟨rfl, rfl, rfl⟩
    case rest =>
      obtain ⟨rfl, rfl, hwc⟩ := hcut
      rw [hwc]; clear hwc
      have HSg := Lib.hid (show sg0 = 1 ∨ sg0 = -1 from by rcases HSp.out with ⟨-, -, h⟩ | ⟨-, -, h⟩; exact .inr h; exact .inl h)
      clear HSp
      go_wp2_with fail
      go_loopw [5, 12, 15] (fun s5 s12 s15 wr => LoopI w b e0 e1 e2 e3 e4 s5 s12 s15 wr) (fun s5 _ s15 _ => match s15, s5 with | .bool true, .string t => t.size + 1 | _, _ => 0)
      case atStart => exact ⟨true, rfl, (fun _ => ⟨bb, sg0, 0, 0, 0, 0, bd.length, rfl, rfl, HSg.out, by have := HBd.out; have := HBl.out; omega, HBl.out, HRn.out, HB2.out⟩), fun h => by cases h⟩
      case round =>
        obtain ⟨m, rfl, h1, h2⟩ := hrel
        clear HB2
        cases m
        · have HBf := Lib.hid (h2 rfl)
          clear h1 h2
          go_wp2_with fail
          have HBx := Lib.hid HBf.out
          obtain ⟨c0, c1, c2, c3⟩ := (HBx.out.own _ (List.mem_cons_self ..)).2.four
          obtain ⟨z0, z1, z2, z3, z4⟩ := HBx.out.five (List.mem_cons_of_mem _ (List.mem_cons_self ..))
          obtain ⟨f0, f1, f2, f3, f4⟩ := HBx.out.fr (List.mem_cons_of_mem _ (List.mem_cons_self ..))
          have n1 : w.heap.size + 1 ≠ b := by omega
          have n2 : b ≠ w.heap.size + 1 := by omega
          go_region
          have hq0 : Bx w [(w.heap.size + 1, #[.int .i64 0, .int .i64 0, .int .i64 0, .int .i64 0, .int .i64 e4]), (w.heap.size, #[.int .i64 0, .int .i64 0, .int .i64 0, .int .i64 0, .int .i64 0])] wr := HBx.out.sub (fun x hx => by simp only [List.mem_cons, List.not_mem_nil, or_false] at hx ⊢; rcases hx with rfl | rfl <;> simp)
          have hq1 := hq0.set1 (List.mem_cons_self ..) 0 (.int .i64 e0) (by simp) (vs' := #[.int .i64 e0, .int .i64 0, .int .i64 0, .int .i64 0, .int .i64 e4]) rfl (L' := [(w.heap.size + 1, #[.int .i64 e0, .int .i64 0, .int .i64 0, .int .i64 0, .int .i64 e4]), (w.heap.size, #[.int .i64 0, .int .i64 0, .int .i64 0, .int .i64 0, .int .i64 0])]) (fun x hx => by simp only [List.mem_cons, List.not_mem_nil, or_false] at hx ⊢; rcases hx with rfl | rfl <;> simp)
          have hq2 := hq1.set1 (List.mem_cons_self ..) 1 (.int .i64 e1) (by simp) (vs' := #[.int .i64 e0, .int .i64 e1, .int .i64 0, .int .i64 0, .int .i64 e4]) rfl (L' := [(w.heap.size + 1, #[.int .i64 e0, .int .i64 e1, .int .i64 0, .int .i64 0, .int .i64 e4]), (w.heap.size, #[.int .i64 0, .int .i64 0, .int .i64 0, .int .i64 0, .int .i64 0])]) (fun x hx => by simp only [List.mem_cons, List.not_mem_nil, or_false] at hx ⊢; rcases hx with rfl | rfl <;> simp)
          have hq3 := hq2.set1 (List.mem_cons_self ..) 2 (.int .i64 e2) (by simp) (vs' := #[.int .i64 e0, .int .i64 e1, .int .i64 e2, .int .i64 0, .int .i64 e4]) rfl (L' := [(w.heap.size + 1, #[.int .i64 e0, .int .i64 e1, .int .i64 e2, .int .i64 0, .int .i64 e4]), (w.heap.size, #[.int .i64 0, .int .i64 0, .int .i64 0, .int .i64 0, .int .i64 0])]) (fun x hx => by simp only [List.mem_cons, List.not_mem_nil, or_false] at hx ⊢; rcases hx with rfl | rfl <;> simp)
          have hq4 := hq3.set1 (List.mem_cons_self ..) 3 (.int .i64 e3) (by simp) (vs' := #[.int .i64 e0, .int .i64 e1, .int .i64 e2, .int .i64 e3, .int .i64 e4]) rfl (L' := [(w.heap.size + 1, #[.int .i64 e0, .int .i64 e1, .int .i64 e2, .int .i64 e3, .int .i64 e4]), (w.heap.size, #[.int .i64 0, .int .i64 0, .int .i64 0, .int .i64 0, .int .i64 0])]) (fun x hx => by simp only [List.mem_cons, List.not_mem_nil, or_false] at hx ⊢; rcases hx with rfl | rfl <;> simp)
          have HB5 := Lib.hid (hq4.keep (Below.refl _ _).drew)
          clear hq0 hq1 hq2 hq3 hq4 c0 c1 c2 c3 z0 z1 z2 z3 z4 f0 f1 f2 f3 f4 n1 n2
          obtain ⟨W5, hW5⟩ : ∃ W5, ((((wr.setCell ⟨w.heap.size + 1, 0, none⟩ (.int .i64 e0)).setCell ⟨w.heap.size + 1, 1, none⟩ (.int .i64 e1)).setCell ⟨w.heap.size + 1, 2, none⟩ (.int .i64 e2)).setCell ⟨w.heap.size + 1, 3, none⟩ (.int .i64 e3)).drew = W5 := ⟨_, rfl⟩
          rw [hW5] at HB5 ⊢
          clear hW5
          obtain ⟨z0, z1, z2, z3, z4⟩ := HB5.out.five (List.mem_cons_self ..)
          have HFm := Lib.hid (fun W h => qFormat_any ⟨e0, e1, e2, e3, e4⟩ W (HW.out W h).tab)
          have hFm := HFm.out; unfold qv at hFm; have HFn := Lib.hid hFm; clear hFm HFm
          have HNm := Lib.hid (fun W => qNormal_any ⟨e0, e1, e2, e3, e4⟩ W)
          have hF := HFn.out; clear HFn
          by_cases hq : qB ⟨e0, e1, e2, e3, e4⟩ = true
          · have hfe : fmtV ⟨e0, e1, e2, e3, e4⟩ = fmtQ ⟨e0, e1, e2, e3, e4⟩ := if_pos hq
            rw [qE_zero.2 hq, hfe] at hF
            obtain ⟨F, hFe⟩ : ∃ F, fmtQ ⟨e0, e1, e2, e3, e4⟩ = F := ⟨_, rfl⟩
            rw [hFe] at hF
            have hnm := HNm.out
            rw [(resQ_good hq).1, (resQ_good hq).2] at hnm
            obtain ⟨n0, n1, n2, n3, n4, hnn⟩ : ∃ n0 n1 n2 n3 n4, nrm ⟨e0, e1, e2, e3, e4⟩ = ⟨n0, n1, n2, n3, n4⟩ := ⟨_, _, _, _, _, rfl⟩
            rw [hnn] at hnm; unfold qv at hnm
            have HNo := Lib.hid hnm; have HNe := Lib.hid hnn; clear hnm hnn
            by_cases ht : F = s
            · have HPp := Lib.hid (show parP s from by unfold parP; rw [HCd.out]; exact ⟨hq, hFe.trans ht⟩)
              rw [ht] at hF
              clear hq hfe hFe ht
              have HFn := Lib.hid hF; clear hF
              go_wp2_with fail
              refine (HFn.out _ HB5.out.below).mono ?_
              rintro _ w6 ⟨rfl, hb⟩
              have HB8 := Lib.hid (HB5.out.keep hb); clear hb z0 z1 z2 z3 z4
              obtain ⟨z0, z1, z2, z3, z4⟩ := HB8.out.five (List.mem_cons_self ..)
              go_wp2_with fail
              refine (HNo.out _).mono ?_
              rintro _ w7 ⟨rfl, hb⟩
              have HB9' := Lib.hid (HB8.out.keep hb); clear hb HB8 z0 z1 z2 z3 z4
              have HB8 := Lib.hid HB9'.out; clear HB9'
              obtain ⟨g0, g1, g2, g3, g4⟩ := HB8.out.five (List.mem_cons_of_mem _ (List.mem_cons_self ..))
              obtain ⟨f0, f1, f2, f3, f4⟩ := HB8.out.fr (List.mem_cons_of_mem _ (List.mem_cons_self ..))
              obtain ⟨W9, e9, hB9, -, -, r0, r1, r2, r3, r4⟩ := HB8.out.put5 (List.mem_cons_of_mem _ (List.mem_cons_self ..)) (.int .i64 n0) (.int .i64 n1) (.int .i64 n2) (.int .i64 n3) (.int .i64 n4) (L' := [(w.heap.size + 1, #[.int .i64 e0, .int .i64 e1, .int .i64 e2, .int .i64 e3, .int .i64 e4]), (w.heap.size, #[.int .i64 n0, .int .i64 n1, .int .i64 n2, .int .i64 n3, .int .i64 n4])]) (fun x hx => by simp only [List.mem_cons, List.not_mem_nil, or_false] at hx ⊢; rcases hx with rfl | rfl <;> simp)
              have HB9 := Lib.hid hB9; clear hB9
              go_wp2_with fail
              try rw [e9]
              refine bodyPost_ret (v := .tuple #[.agg #[.int .i64 n0, .int .i64 n1, .int .i64 n2, .int .i64 n3, .int .i64 n4], .int .i64 0]) (by simp [results, Tryz.results17, go_sem, r0, r1, r2, r3, r4]) rfl ?_
              exact ⟨⟨⟨n0, n1, n2, n3, n4⟩, 0, rfl, .inl ⟨HPp.out, by rw [HCd.out]; exact HNe.out.symm, rfl⟩⟩, HB9.out.below⟩
            · have HNp := Lib.hid (show ¬ parP s from by unfold parP; rw [HCd.out]; exact fun h => ht (hFe.symm.trans h.2))
              have hne : (F == s) = false := by simpa using ht
              clear hq hfe hFe ht
              have HFn := Lib.hid hF; clear hF
              go_wp2_with fail
              refine (HFn.out _ HB5.out.below).mono ?_
              rintro _ w6 ⟨rfl, hb⟩
              have HB8 := Lib.hid (HB5.out.keep hb); clear hb z0 z1 z2 z3 z4
              obtain ⟨g0, g1, g2, g3, g4⟩ := HB8.out.five (List.mem_cons_of_mem _ (List.mem_cons_self ..))
              obtain ⟨f0, f1, f2, f3, f4⟩ := HB8.out.fr (List.mem_cons_of_mem _ (List.mem_cons_self ..))
              obtain ⟨W9, e9, hB9, -, -, r0, r1, r2, r3, r4⟩ := HB8.out.put5 (List.mem_cons_of_mem _ (List.mem_cons_self ..)) (.int .i64 0) (.int .i64 0) (.int .i64 0) (.int .i64 0) (.int .i64 0) (L' := [(w.heap.size + 1, #[.int .i64 e0, .int .i64 e1, .int .i64 e2, .int .i64 e3, .int .i64 e4]), (w.heap.size, #[.int .i64 0, .int .i64 0, .int .i64 0, .int .i64 0, .int .i64 0])]) (fun x hx => by simp only [List.mem_cons, List.not_mem_nil, or_false] at hx ⊢; rcases hx with rfl | rfl <;> simp)
              have HB9 := Lib.hid hB9; clear hB9
              go_wp2_with fail
              try rw [e9]
              refine bodyPost_ret (v := .tuple #[.agg #[.int .i64 0, .int .i64 0, .int .i64 0, .int .i64 0, .int .i64 0], .int .i64 7]) (by simp [results, Tryz.results17, go_sem, r0, r1, r2, r3, r4]) rfl ?_
              exact ⟨⟨Qt.zero, 7, rfl, .inr ⟨HNp.out, rfl, rfl⟩⟩, HB9.out.below⟩
          · have hqf : qB ⟨e0, e1, e2, e3, e4⟩ = false := by simpa using hq
            have HNp := Lib.hid (show ¬ parP s from by unfold parP; rw [HCd.out]; exact fun h => hq h.1)
            have hq3 : qE ⟨e0, e1, e2, e3, e4⟩ = 3 := by unfold qE; rw [if_neg hq]
            have hfe : fmtV ⟨e0, e1, e2, e3, e4⟩ = [] := if_neg hq
            rw [hq3, hfe] at hF
            clear hq hqf hq3 hfe
            have HFn := Lib.hid hF; clear hF
            go_wp2_with fail
            refine (HFn.out _ HB5.out.below).mono ?_
            rintro _ w6 ⟨rfl, hb⟩
            have HB8 := Lib.hid (HB5.out.keep hb); clear hb z0 z1 z2 z3 z4
            obtain ⟨g0, g1, g2, g3, g4⟩ := HB8.out.five (List.mem_cons_of_mem _ (List.mem_cons_self ..))
            obtain ⟨f0, f1, f2, f3, f4⟩ := HB8.out.fr (List.mem_cons_of_mem _ (List.mem_cons_self ..))
            obtain ⟨W9, e9, hB9, -, -, r0, r1, r2, r3, r4⟩ := HB8.out.put5 (List.mem_cons_of_mem _ (List.mem_cons_self ..)) (.int .i64 0) (.int .i64 0) (.int .i64 0) (.int .i64 0) (.int .i64 0) (L' := [(w.heap.size + 1, #[.int .i64 e0, .int .i64 e1, .int .i64 e2, .int .i64 e3, .int .i64 e4]), (w.heap.size, #[.int .i64 0, .int .i64 0, .int .i64 0, .int .i64 0, .int .i64 0])]) (fun x hx => by simp only [List.mem_cons, List.not_mem_nil, or_false] at hx ⊢; rcases hx with rfl | rfl <;> simp)
            have HB9 := Lib.hid hB9; clear hB9
            go_wp2_with fail
            try rw [e9]
            refine bodyPost_ret (v := .tuple #[.agg #[.int .i64 0, .int .i64 0, .int .i64 0, .int .i64 0, .int .i64 0], .int .i64 7]) (by simp [results, Tryz.results17, go_sem, r0, r1, r2, r3, r4]) rfl ?_
            exact ⟨⟨Qt.zero, 7, rfl, .inr ⟨HNp.out, rfl, rfl⟩⟩, HB9.out.below⟩
        · obtain ⟨t, sg, c0, c1, c2, c3, f, rfl, rfl, hsg, htl, hfl, hr, hb⟩ := h1 rfl
          clear h2
          have HB := Lib.hid hb; have HSs := Lib.hid hsg; have HTl := Lib.hid htl; have HFl := Lib.hid hfl; have HR := Lib.hid hr; clear hb hsg htl hfl hr
          go_wp2_with fail
          refine (idx_any t _).mono ?_
          rintro _ w1 ⟨rfl, hw⟩; rw [hw]; clear hw w1
          rcases idx_cases t 32 with hi | ⟨k, hi, hk⟩
          · rw [hi]
            have HTm := Lib.hid (term_any b c0 c1 c2 c3 t sg wr (HB.out.own _ (List.mem_cons_self ..)).2 (HW.out _ HB.out.below) (by have := HTl.out; omega) HSs.out)
            have HRt := Lib.hid (show termP ⟨c0, c1, c2, c3, e4⟩ t sg = ⟨e0, e1, e2, e3, e4⟩ from by have := HR.out; unfold runP at this; rw [hi, if_pos (by omega)] at this; exact this.symm)
            clear hi
            go_wp2_with fail
            refine HTm.out.mono ?_
            rintro _ w2 ⟨rfl, ht⟩
            obtain ⟨x0, x1, x2, x3, hx, hbx⟩ := term_boxes HB.out (by omega) ht
            rw [HRt.out] at hx
            injection hx with y0 y1 y2 y3
            subst y0 y1 y2 y3
            clear ht HTm
            go_wp2_with fail
            have HBx := Lib.hid hbx
            obtain ⟨c0, c1, c2, c3⟩ := (HBx.out.own _ (List.mem_cons_self ..)).2.four
            obtain ⟨z0, z1, z2, z3, z4⟩ := HBx.out.five (List.mem_cons_of_mem _ (List.mem_cons_self ..))
            obtain ⟨f0, f1, f2, f3, f4⟩ := HBx.out.fr (List.mem_cons_of_mem _ (List.mem_cons_self ..))
            have n1 : w.heap.size + 1 ≠ b := by omega
            have n2 : b ≠ w.heap.size + 1 := by omega
            go_region
            have hq0 : Bx w [(w.heap.size + 1, #[.int .i64 0, .int .i64 0, .int .i64 0, .int .i64 0, .int .i64 e4]), (w.heap.size, #[.int .i64 0, .int .i64 0, .int .i64 0, .int .i64 0, .int .i64 0])] w2 := HBx.out.sub (fun x hx => by simp only [List.mem_cons, List.not_mem_nil, or_false] at hx ⊢; rcases hx with rfl | rfl <;> simp)
            have hq1 := hq0.set1 (List.mem_cons_self ..) 0 (.int .i64 e0) (by simp) (vs' := #[.int .i64 e0, .int .i64 0, .int .i64 0, .int .i64 0, .int .i64 e4]) rfl (L' := [(w.heap.size + 1, #[.int .i64 e0, .int .i64 0, .int .i64 0, .int .i64 0, .int .i64 e4]), (w.heap.size, #[.int .i64 0, .int .i64 0, .int .i64 0, .int .i64 0, .int .i64 0])]) (fun x hx => by simp only [List.mem_cons, List.not_mem_nil, or_false] at hx ⊢; rcases hx with rfl | rfl <;> simp)
            have hq2 := hq1.set1 (List.mem_cons_self ..) 1 (.int .i64 e1) (by simp) (vs' := #[.int .i64 e0, .int .i64 e1, .int .i64 0, .int .i64 0, .int .i64 e4]) rfl (L' := [(w.heap.size + 1, #[.int .i64 e0, .int .i64 e1, .int .i64 0, .int .i64 0, .int .i64 e4]), (w.heap.size, #[.int .i64 0, .int .i64 0, .int .i64 0, .int .i64 0, .int .i64 0])]) (fun x hx => by simp only [List.mem_cons, List.not_mem_nil, or_false] at hx ⊢; rcases hx with rfl | rfl <;> simp)
            have hq3 := hq2.set1 (List.mem_cons_self ..) 2 (.int .i64 e2) (by simp) (vs' := #[.int .i64 e0, .int .i64 e1, .int .i64 e2, .int .i64 0, .int .i64 e4]) rfl (L' := [(w.heap.size + 1, #[.int .i64 e0, .int .i64 e1, .int .i64 e2, .int .i64 0, .int .i64 e4]), (w.heap.size, #[.int .i64 0, .int .i64 0, .int .i64 0, .int .i64 0, .int .i64 0])]) (fun x hx => by simp only [List.mem_cons, List.not_mem_nil, or_false] at hx ⊢; rcases hx with rfl | rfl <;> simp)
            have hq4 := hq3.set1 (List.mem_cons_self ..) 3 (.int .i64 e3) (by simp) (vs' := #[.int .i64 e0, .int .i64 e1, .int .i64 e2, .int .i64 e3, .int .i64 e4]) rfl (L' := [(w.heap.size + 1, #[.int .i64 e0, .int .i64 e1, .int .i64 e2, .int .i64 e3, .int .i64 e4]), (w.heap.size, #[.int .i64 0, .int .i64 0, .int .i64 0, .int .i64 0, .int .i64 0])]) (fun x hx => by simp only [List.mem_cons, List.not_mem_nil, or_false] at hx ⊢; rcases hx with rfl | rfl <;> simp)
            have HB5 := Lib.hid (hq4.keep (Below.refl _ _).drew)
            clear hq0 hq1 hq2 hq3 hq4 c0 c1 c2 c3 z0 z1 z2 z3 z4 f0 f1 f2 f3 f4 n1 n2
            obtain ⟨W5, hW5⟩ : ∃ W5, ((((w2.setCell ⟨w.heap.size + 1, 0, none⟩ (.int .i64 e0)).setCell ⟨w.heap.size + 1, 1, none⟩ (.int .i64 e1)).setCell ⟨w.heap.size + 1, 2, none⟩ (.int .i64 e2)).setCell ⟨w.heap.size + 1, 3, none⟩ (.int .i64 e3)).drew = W5 := ⟨_, rfl⟩
            rw [hW5] at HB5 ⊢
            clear hW5
            obtain ⟨z0, z1, z2, z3, z4⟩ := HB5.out.five (List.mem_cons_self ..)
            have HFm := Lib.hid (fun W h => qFormat_any ⟨e0, e1, e2, e3, e4⟩ W (HW.out W h).tab)
            have hFm := HFm.out; unfold qv at hFm; have HFn := Lib.hid hFm; clear hFm HFm
            have HNm := Lib.hid (fun W => qNormal_any ⟨e0, e1, e2, e3, e4⟩ W)
            have hF := HFn.out; clear HFn
            by_cases hq : qB ⟨e0, e1, e2, e3, e4⟩ = true
            · have hfe : fmtV ⟨e0, e1, e2, e3, e4⟩ = fmtQ ⟨e0, e1, e2, e3, e4⟩ := if_pos hq
              rw [qE_zero.2 hq, hfe] at hF
              obtain ⟨F, hFe⟩ : ∃ F, fmtQ ⟨e0, e1, e2, e3, e4⟩ = F := ⟨_, rfl⟩
              rw [hFe] at hF
              have hnm := HNm.out
              rw [(resQ_good hq).1, (resQ_good hq).2] at hnm
              obtain ⟨n0, n1, n2, n3, n4, hnn⟩ : ∃ n0 n1 n2 n3 n4, nrm ⟨e0, e1, e2, e3, e4⟩ = ⟨n0, n1, n2, n3, n4⟩ := ⟨_, _, _, _, _, rfl⟩
              rw [hnn] at hnm; unfold qv at hnm
              have HNo := Lib.hid hnm; have HNe := Lib.hid hnn; clear hnm hnn
              by_cases ht : F = s
              · have HPp := Lib.hid (show parP s from by unfold parP; rw [HCd.out]; exact ⟨hq, hFe.trans ht⟩)
                rw [ht] at hF
                clear hq hfe hFe ht
                have HFn := Lib.hid hF; clear hF
                go_wp2_with fail
                refine (HFn.out _ HB5.out.below).mono ?_
                rintro _ w6 ⟨rfl, hb⟩
                have HB8 := Lib.hid (HB5.out.keep hb); clear hb z0 z1 z2 z3 z4
                obtain ⟨z0, z1, z2, z3, z4⟩ := HB8.out.five (List.mem_cons_self ..)
                go_wp2_with fail
                refine (HNo.out _).mono ?_
                rintro _ w7 ⟨rfl, hb⟩
                have HB9' := Lib.hid (HB8.out.keep hb); clear hb HB8 z0 z1 z2 z3 z4
                have HB8 := Lib.hid HB9'.out; clear HB9'
                obtain ⟨g0, g1, g2, g3, g4⟩ := HB8.out.five (List.mem_cons_of_mem _ (List.mem_cons_self ..))
                obtain ⟨f0, f1, f2, f3, f4⟩ := HB8.out.fr (List.mem_cons_of_mem _ (List.mem_cons_self ..))
                obtain ⟨W9, e9, hB9, -, -, r0, r1, r2, r3, r4⟩ := HB8.out.put5 (List.mem_cons_of_mem _ (List.mem_cons_self ..)) (.int .i64 n0) (.int .i64 n1) (.int .i64 n2) (.int .i64 n3) (.int .i64 n4) (L' := [(w.heap.size + 1, #[.int .i64 e0, .int .i64 e1, .int .i64 e2, .int .i64 e3, .int .i64 e4]), (w.heap.size, #[.int .i64 n0, .int .i64 n1, .int .i64 n2, .int .i64 n3, .int .i64 n4])]) (fun x hx => by simp only [List.mem_cons, List.not_mem_nil, or_false] at hx ⊢; rcases hx with rfl | rfl <;> simp)
                have HB9 := Lib.hid hB9; clear hB9
                go_wp2_with fail
                try rw [e9]
                refine bodyPost_ret (v := .tuple #[.agg #[.int .i64 n0, .int .i64 n1, .int .i64 n2, .int .i64 n3, .int .i64 n4], .int .i64 0]) (by simp [results, Tryz.results17, go_sem, r0, r1, r2, r3, r4]) rfl ?_
                exact ⟨⟨⟨n0, n1, n2, n3, n4⟩, 0, rfl, .inl ⟨HPp.out, by rw [HCd.out]; exact HNe.out.symm, rfl⟩⟩, HB9.out.below⟩
              · have HNp := Lib.hid (show ¬ parP s from by unfold parP; rw [HCd.out]; exact fun h => ht (hFe.symm.trans h.2))
                have hne : (F == s) = false := by simpa using ht
                clear hq hfe hFe ht
                have HFn := Lib.hid hF; clear hF
                go_wp2_with fail
                refine (HFn.out _ HB5.out.below).mono ?_
                rintro _ w6 ⟨rfl, hb⟩
                have HB8 := Lib.hid (HB5.out.keep hb); clear hb z0 z1 z2 z3 z4
                obtain ⟨g0, g1, g2, g3, g4⟩ := HB8.out.five (List.mem_cons_of_mem _ (List.mem_cons_self ..))
                obtain ⟨f0, f1, f2, f3, f4⟩ := HB8.out.fr (List.mem_cons_of_mem _ (List.mem_cons_self ..))
                obtain ⟨W9, e9, hB9, -, -, r0, r1, r2, r3, r4⟩ := HB8.out.put5 (List.mem_cons_of_mem _ (List.mem_cons_self ..)) (.int .i64 0) (.int .i64 0) (.int .i64 0) (.int .i64 0) (.int .i64 0) (L' := [(w.heap.size + 1, #[.int .i64 e0, .int .i64 e1, .int .i64 e2, .int .i64 e3, .int .i64 e4]), (w.heap.size, #[.int .i64 0, .int .i64 0, .int .i64 0, .int .i64 0, .int .i64 0])]) (fun x hx => by simp only [List.mem_cons, List.not_mem_nil, or_false] at hx ⊢; rcases hx with rfl | rfl <;> simp)
                have HB9 := Lib.hid hB9; clear hB9
                go_wp2_with fail
                try rw [e9]
                refine bodyPost_ret (v := .tuple #[.agg #[.int .i64 0, .int .i64 0, .int .i64 0, .int .i64 0, .int .i64 0], .int .i64 7]) (by simp [results, Tryz.results17, go_sem, r0, r1, r2, r3, r4]) rfl ?_
                exact ⟨⟨Qt.zero, 7, rfl, .inr ⟨HNp.out, rfl, rfl⟩⟩, HB9.out.below⟩
            · have hqf : qB ⟨e0, e1, e2, e3, e4⟩ = false := by simpa using hq
              have HNp := Lib.hid (show ¬ parP s from by unfold parP; rw [HCd.out]; exact fun h => hq h.1)
              have hq3 : qE ⟨e0, e1, e2, e3, e4⟩ = 3 := by unfold qE; rw [if_neg hq]
              have hfe : fmtV ⟨e0, e1, e2, e3, e4⟩ = [] := if_neg hq
              rw [hq3, hfe] at hF
              clear hq hqf hq3 hfe
              have HFn := Lib.hid hF; clear hF
              go_wp2_with fail
              refine (HFn.out _ HB5.out.below).mono ?_
              rintro _ w6 ⟨rfl, hb⟩
              have HB8 := Lib.hid (HB5.out.keep hb); clear hb z0 z1 z2 z3 z4
              obtain ⟨g0, g1, g2, g3, g4⟩ := HB8.out.five (List.mem_cons_of_mem _ (List.mem_cons_self ..))
              obtain ⟨f0, f1, f2, f3, f4⟩ := HB8.out.fr (List.mem_cons_of_mem _ (List.mem_cons_self ..))
              obtain ⟨W9, e9, hB9, -, -, r0, r1, r2, r3, r4⟩ := HB8.out.put5 (List.mem_cons_of_mem _ (List.mem_cons_self ..)) (.int .i64 0) (.int .i64 0) (.int .i64 0) (.int .i64 0) (.int .i64 0) (L' := [(w.heap.size + 1, #[.int .i64 e0, .int .i64 e1, .int .i64 e2, .int .i64 e3, .int .i64 e4]), (w.heap.size, #[.int .i64 0, .int .i64 0, .int .i64 0, .int .i64 0, .int .i64 0])]) (fun x hx => by simp only [List.mem_cons, List.not_mem_nil, or_false] at hx ⊢; rcases hx with rfl | rfl <;> simp)
              have HB9 := Lib.hid hB9; clear hB9
              go_wp2_with fail
              try rw [e9]
              refine bodyPost_ret (v := .tuple #[.agg #[.int .i64 0, .int .i64 0, .int .i64 0, .int .i64 0, .int .i64 0], .int .i64 7]) (by simp [results, Tryz.results17, go_sem, r0, r1, r2, r3, r4]) rfl ?_
              exact ⟨⟨Qt.zero, 7, rfl, .inr ⟨HNp.out, rfl, rfl⟩⟩, HB9.out.below⟩
          · rw [hi]
            have htk := take_str t k
            have hdk := drop_str t k (by omega)
            have HTm := Lib.hid (term_any b c0 c1 c2 c3 (t.take k) sg wr (HB.out.own _ (List.mem_cons_self ..)).2 (HW.out _ HB.out.below) (by have := HTl.out; simp; omega) HSs.out)
            have i1 : (0 : Int) ≤ (k : Int) := by omega
            have i2 : (k : Int) ≤ (t.length : Int) := by omega
            have i3 : (t.length : Int) ≤ 200 := by have := HTl.out; omega
            have i4 : ¬ (k : Int) < 0 := by omega
            obtain ⟨r, hr⟩ : ∃ r, r = t.drop k := ⟨_, rfl⟩
            rw [← hr] at hdk
            have HK := Lib.hid hk; have HIk := Lib.hid hi; have HRr := Lib.hid hr; clear hk hi hr
            go_wp2_with fail
            refine HTm.out.mono ?_
            rintro _ w2 ⟨rfl, ht⟩
            obtain ⟨x0, x1, x2, x3, hx, hbx⟩ := term_boxes HB.out (by omega) ht
            have HX := Lib.hid hx; have HB3 := Lib.hid hbx; clear hx hbx ht HTm
            go_wp2_with fail
            refine (pre_any r 43 _).mono ?_
            rintro _ w1 ⟨rfl, hw⟩; rw [hw]; clear hw w1
            have hrn := HR.out
            unfold runP at hrn
            rw [HIk.out, if_neg (by omega)] at hrn
            simp only [Int.toNat_natCast] at hrn
            rw [← HRr.out, HX.out] at hrn
            have HRn2 := Lib.hid hrn; clear hrn
            by_cases hp : Lib.hasPrefix r [32, 43, 32] = true
            · rw [hp]
              have hl3 := has_len hp
              have hl3' : 3 ≤ r.length := hl3
              have hd3 := drop_str r 3 hl3'
              have i5 : (3 : Int) ≤ (r.length : Int) := by omega
              obtain ⟨f', rfl⟩ : ∃ f', f = f' + 1 := ⟨f - 1, by have := HFl.out; have := HK.out; omega⟩
              have HN := Lib.hid (show (r.drop 3).length ≤ f' from by have := HFl.out; have := HK.out; have := HRr.out; rw [List.length_drop, this, List.length_drop]; omega)
              have HN2 := Lib.hid (show (r.drop 3).length < t.length ∧ (r.drop 3).length ≤ 200 from by have := HTl.out; have := HK.out; have h := HRr.out; rw [List.length_drop, h, List.length_drop]; omega)
              have HRf := Lib.hid (show (⟨e0, e1, e2, e3, e4⟩ : Qt) = runP (f' + 1) (r.drop 3) 1 ⟨x0, x1, x2, x3, e4⟩ from by have := HRn2.out; rw [if_pos hp] at this; exact this)
              clear hp hl3 hl3'
              go_wp2_with fail
              exact ⟨⟨true, rfl, (fun _ => ⟨r.drop 3, 1, x0, x1, x2, x3, f', rfl, rfl, .inl rfl, HN2.out.2, HN.out, HRf.out, HB3.out⟩), fun h => by cases h⟩, by have := HN2.out.1; show (r.drop 3).toArray.size + 1 < t.toArray.size + 1; simp at this ⊢; omega⟩
            · have hp1 : Lib.hasPrefix r [32, 43, 32] = false := by simpa using hp
              rw [hp1]
              have HRf := Lib.hid (show (⟨e0, e1, e2, e3, e4⟩ : Qt) = if Lib.hasPrefix r [32, 45, 32] = true then runP f (r.drop 3) (-1) ⟨x0, x1, x2, x3, e4⟩ else ⟨x0, x1, x2, x3, e4⟩ from by have := HRn2.out; rw [if_neg hp] at this; exact this)
              clear hp hp1 HRn2
              go_wp2_with fail
              refine (pre_any r 45 _).mono ?_
              rintro _ w1 ⟨rfl, hw⟩; rw [hw]; clear hw w1
              by_cases hp : Lib.hasPrefix r [32, 45, 32] = true
              · rw [hp]
                have hl3 := has_len hp
                have hl3' : 3 ≤ r.length := hl3
                have hd3 := drop_str r 3 hl3'
                have i5 : (3 : Int) ≤ (r.length : Int) := by omega
                obtain ⟨f', rfl⟩ : ∃ f', f = f' + 1 := ⟨f - 1, by have := HFl.out; have := HK.out; omega⟩
                have HN := Lib.hid (show (r.drop 3).length ≤ f' from by have := HFl.out; have := HK.out; have := HRr.out; rw [List.length_drop, this, List.length_drop]; omega)
                have HN2 := Lib.hid (show (r.drop 3).length < t.length ∧ (r.drop 3).length ≤ 200 from by have := HTl.out; have := HK.out; have h := HRr.out; rw [List.length_drop, h, List.length_drop]; omega)
                have HRg := Lib.hid (show (⟨e0, e1, e2, e3, e4⟩ : Qt) = runP (f' + 1) (r.drop 3) (-1) ⟨x0, x1, x2, x3, e4⟩ from by have := HRf.out; rw [if_pos hp] at this; exact this)
                clear hp hl3 hl3'
                go_wp2_with fail
                exact ⟨⟨true, rfl, (fun _ => ⟨r.drop 3, -1, x0, x1, x2, x3, f', rfl, rfl, .inr rfl, HN2.out.2, HN.out, HRg.out, HB3.out⟩), fun h => by cases h⟩, by have := HN2.out.1; show (r.drop 3).toArray.size + 1 < t.toArray.size + 1; simp at this ⊢; omega⟩
              · have hp1 : Lib.hasPrefix r [32, 45, 32] = false := by simpa using hp
                rw [hp1]
                have hRg : (⟨e0, e1, e2, e3, e4⟩ : Qt) = ⟨x0, x1, x2, x3, e4⟩ := by have := HRf.out; rw [if_neg hp] at this; exact this
                injection hRg with y0 y1 y2 y3
                subst y0 y1 y2 y3
                clear hp hp1 HRf
                go_wp2_with fail
                exact ⟨⟨false, rfl, (fun h => by cases h), fun _ => HB3.out⟩, by simp⟩
end Go.Proofs.YtimdkjbmeogpoaaGreatDoor
