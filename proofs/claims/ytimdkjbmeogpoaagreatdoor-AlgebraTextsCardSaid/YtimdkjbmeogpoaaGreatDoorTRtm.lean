/- Texts of elements: terms, as the reference reads them. -/
import Derived.Test.YtimdkjbmeogpoaaGreatDoorTRnb
import Derived.Test.YtimdkjbmeogpoaaGreatDoorTRpg
namespace Go.Proofs.YtimdkjbmeogpoaaGreatDoor
open Go.RowKit FF
theorem runR_ret {l : List UInt8} {k n pl f : Nat} {sg : Int} {q : Qt} (hn : digN (l.drop k) = n) (hp : plcR (l.drop (k + n)) = pl) (h : l.length < k + n + (if pl = 0 then 0 else 1) + 3) (hk : k + n ≤ l.length) :
    runR (f + 1) (l.drop k) sg q = setP q pl (sg * valR ((l.drop k).take n)) := by
  unfold runR stepR
  simp only [hn, List.drop_drop, hp]
  by_cases h0 : pl = 0
  · simp only [if_pos h0, List.length_drop] at h ⊢
    rw [if_pos (by omega)]
  · simp only [if_neg h0, List.length_drop] at h ⊢
    rw [if_pos (by omega)]
theorem runR_next {l : List UInt8} {k n pl f : Nat} {sg : Int} {q : Qt} {c : UInt8} (hn : digN (l.drop k) = n) (hp : plcR (l.drop (k + n)) = pl) (h : ¬ l.length < k + n + (if pl = 0 then 0 else 1) + 3) (hc : l[k + n + (if pl = 0 then 0 else 1) + 1]? = some c) :
    runR (f + 1) (l.drop k) sg q = runR f (l.drop (k + n + (if pl = 0 then 0 else 1) + 3)) (if c = 45 then -1 else 1) (setP q pl (sg * valR ((l.drop k).take n))) := by
  have e : (if pl = 0 then l.drop (k + n) else l.drop (k + n + 1)) = l.drop (k + n + (if pl = 0 then 0 else 1)) := by split <;> rfl
  conv => lhs; unfold runR stepR
  simp only [hn, List.drop_drop, hp, e]
  rw [if_neg (by rw [List.length_drop]; omega), List.getElem?_drop, hc]
  simp
def QB7 (q : Qt) : Prop := (-10000000 ≤ q.w ∧ q.w ≤ 10000000) ∧ (-10000000 ≤ q.x ∧ q.x ≤ 10000000) ∧ (-10000000 ≤ q.y ∧ q.y ≤ 10000000) ∧ (-10000000 ≤ q.z ∧ q.z ≤ 10000000) ∧ q.d = 1
theorem extract_str (l : List UInt8) (a n : Nat) : (⟨l.toArray⟩ : ByteArray).extract a (a + n) = ⟨((l.drop a).take n).toArray⟩ := by
  apply ByteArray.ext
  show (ByteArray.extract ⟨l.toArray⟩ a (a + n)).data = _
  rw [ByteArray.data_extract]
  apply Array.ext'
  simp [List.extract]
theorem Bx.set1 {w W : World} {L L' : List (Nat × Array Value)} {b : Nat} {vs vs' : Array Value} (h : Bx w L W) (hm : (b, vs) ∈ L) (k : Nat) (u : Value) (hk : k < vs.size) (he : vs.toList.set k u = vs'.toList) (hL : ∀ x ∈ L', (x ∈ L ∧ x.1 ≠ b) ∨ x = (b, vs')) :
    Bx w L' (W.setCell ⟨b, k, none⟩ u) := by
  have hO := Only.setCell W b k u
  refine ⟨hO.below h.below (h.own _ hm).1, fun x hx => ?_⟩
  rcases hL x hx with ⟨h1, h2⟩ | rfl
  · exact ⟨(h.own x h1).1, (h.own x h1).2.only hO h2⟩
  · exact ⟨(h.own _ hm).1, (h.own _ hm).2.setL k u hk he⟩
theorem plcR_at {l : List UInt8} {j : Nat} {c : UInt8} (hc : l[j]? = some c) : plcR (l.drop j) = if c = 105 then 1 else if c = 106 then 2 else if c = 107 then 3 else 0 := by
  obtain ⟨hj, rfl⟩ := List.getElem?_eq_some_iff.1 hc
  rw [List.drop_eq_getElem_cons hj]; rfl
theorem plcR_end {l : List UInt8} {j : Nat} (h : ¬ j < l.length) : plcR (l.drop j) = 0 := by
  rw [List.drop_eq_nil_of_le (by omega)]; rfl
theorem ne_int {c : UInt8} {k : Nat} (hk : k < 256) (h : c ≠ UInt8.ofNat k) : ((c.toNat : Int) == (k : Int)) = false := by
  apply beq_false_of_ne
  intro e
  apply h
  apply UInt8.toNat_inj.1
  rw [UInt8.toNat_ofNat']
  omega
theorem sg_bnd {sg v : Int} (h : sg = 1 ∨ sg = -1) (hv : -10000000 ≤ v ∧ v ≤ 10000000) : -10000000 ≤ sg * v ∧ sg * v ≤ 10000000 := by
  rcases h with rfl | rfl <;> omega
structure TermI (w : World) (l : List UInt8) (T : Qt) (k : Nat) (sg q0 q1 q2 q3 : Int) (f : Nat) (wr : World) : Prop where
  sgn : sg = 1 ∨ sg = -1
  le : k ≤ l.length
  bnd : QB7 ⟨q0, q1, q2, q3, 1⟩
  fuel : l.length ≤ k + f
  run : T = runR (f + 1) (l.drop k) sg ⟨q0, q1, q2, q3, 1⟩
  box : Bx w [(w.heap.size + 1, #[.int .i64 q0, .int .i64 q1, .int .i64 q2, .int .i64 q3, .int .i64 1]), (w.heap.size, #[.int .i64 0, .int .i64 0, .int .i64 0, .int .i64 0, .int .i64 0])] wr
theorem TermI.start {w W : World} {l : List UInt8} (h : Bx w [(w.heap.size + 1, #[.int .i64 0, .int .i64 0, .int .i64 0, .int .i64 0, .int .i64 1]), (w.heap.size, #[.int .i64 0, .int .i64 0, .int .i64 0, .int .i64 0, .int .i64 0])] W) :
    ∃ (k : Nat) (sg : Int), ((negS l = true ∧ k = 1 ∧ sg = -1) ∨ (negS l = false ∧ k = 0 ∧ sg = 1)) ∧ TermI w l (termsR l ⟨0, 0, 0, 0, 1⟩) k sg 0 0 0 0 l.length W := by
  unfold termsR
  have hB : QB7 ⟨0, 0, 0, 0, 1⟩ := ⟨⟨by simp, by simp⟩, ⟨by simp, by simp⟩, ⟨by simp, by simp⟩, ⟨by simp, by simp⟩, rfl⟩
  cases hn : negS l
  · exact ⟨0, 1, .inr ⟨rfl, rfl, rfl⟩, .inl rfl, Nat.zero_le _, hB, by omega, by simp, h⟩
  · have e : cutS l = l.drop 1 ∧ 1 ≤ l.length := by
      cases l with
      | nil => cases hn
      | cons c r =>
        have hc : c = 45 := by simpa [negS] using hn
        simp [cutS, hc]
    exact ⟨1, -1, .inl ⟨rfl, rfl, rfl⟩, .inr rfl, e.2, hB, by omega, by rw [if_pos rfl, e.1], h⟩
theorem negS_get {l : List UInt8} : (negS l = true ↔ l[0]? = some 45) := by
  cases l with
  | nil => simp [negS]
  | cons c r => simp [negS]
set_option maxHeartbeats 4000000 in
set_option maxRecDepth 100000 in
theorem terms_any (l : List UInt8) (w : World) (hl : l.length ≤ 400) :
    Calls Tryz.prog 60 #[.string ⟨l.toArray⟩] w fun e w' => e = .returned (qv (termsR l ⟨0, 0, 0, 0, 1⟩)) ∧ Below w.heap.size w w' := by
  have HL := Lib.hid hl
  obtain ⟨T, hT⟩ : ∃ T, T = termsR l ⟨0, 0, 0, 0, 1⟩ := ⟨_, rfl⟩
  rw [← hT]
  go_enter Tryz.func60, Tryz.ntmps60
  go_upto_region 2 with fail
  obtain ⟨W0, e0⟩ : ∃ W0, ((w.alloc (.cells #[.int .i64 0, .int .i64 0, .int .i64 0, .int .i64 0, .int .i64 0] 35)).alloc (.cells #[.int .i64 0, .int .i64 0, .int .i64 0, .int .i64 0, .int .i64 1] 35)) = W0 := ⟨_, rfl⟩
  have hB0 : Bx w [(w.heap.size + 1, #[.int .i64 0, .int .i64 0, .int .i64 0, .int .i64 0, .int .i64 1]), (w.heap.size, #[.int .i64 0, .int .i64 0, .int .i64 0, .int .i64 0, .int .i64 0])] W0 := by rw [← e0]; simpa using (((Bx.nil (Below.refl w.heap.size w)).new #[.int .i64 0, .int .i64 0, .int .i64 0, .int .i64 0, .int .i64 0] 35).new #[.int .i64 0, .int .i64 0, .int .i64 0, .int .i64 0, .int .i64 1] 35)
  rw [e0]
  obtain ⟨k0, sg0, hsp, hTI⟩ := TermI.start (l := l) hB0
  rw [← hT] at hTI
  have HI := Lib.hid hTI; have HSp := Lib.hid hsp
  clear hT hTI e0 hB0 hsp
  go_upto_region 3 with fail
  go_cut [16] (fun s16 wx => s16 = .bool (negS l) ∧ wx = W0)
  case first =>
    by_cases hl0 : l.length = 0
    · have e1 : decide (0 < l.length) = false := decide_eq_false (by omega)
      have e2 : decide ((0 : Int) < (l.length : Int)) = false := decide_eq_false (by omega)
      have HN := Lib.hid (show negS l = false from by rw [List.length_eq_zero_iff.1 hl0]; rfl)
      go_wp2_with fail
      go_meet
      exact ⟨by rw [HN.out], rfl⟩
    · obtain ⟨c, hc⟩ : ∃ c, l[0]? = some c := ⟨_, List.getElem?_eq_getElem (by omega)⟩
      have hi0 := byte_at (l := l) (j := 0) (by omega) hc
      have e1 : decide (0 < l.length) = true := decide_eq_true (by omega)
      have e2 : decide ((0 : Int) < (l.length : Int)) = true := decide_eq_true (by omega)
      obtain ⟨nb, hnb⟩ : ∃ nb, nb = negS l := ⟨_, rfl⟩
      have e4 : ((c.toNat : Int) == 45) = nb := by
        rw [hnb]
        by_cases h45 : c = 45
        · rw [negS_get.2 (by rw [hc, h45]), h45]; rfl
        · rw [show ((c.toNat : Int) == 45) = false from ne_int (k := 45) (by omega) h45]; symm; rw [← Bool.not_eq_true, negS_get, hc]; simpa using h45
      have HN := Lib.hid hnb
      clear hc hnb
      go_wp2_with fail
      go_meet
      exact ⟨by rw [← HN.out], rfl⟩
  case rest =>
    obtain ⟨rfl, hwc⟩ := hcut
    subst hwc
    go_upto_if 16 with fail
    go_cut [4, 5] (fun s4 s5 wx => s4 = .int .i64 (k0 : Int) ∧ s5 = .int .i64 sg0 ∧ wx = wc)
    case first =>
      rcases HSp.out with ⟨h1, rfl, rfl⟩ | ⟨h1, rfl, rfl⟩
      · rw [h1]
        go_wp2_with fail
        go_meet
        exact ⟨rfl, rfl, rfl⟩
      · rw [h1]
        go_wp2_with fail
        go_meet
        exact ⟨rfl, rfl, rfl⟩
    case rest =>
      obtain ⟨rfl, rfl, rfl⟩ := hcut
      clear HSp
      go_wp2_with fail
      go_loopw [4, 5] (fun s4 s5 wr => ∃ (k : Nat) (sg q0 q1 q2 q3 : Int) (f : Nat), s4 = .int .i64 (k : Int) ∧ s5 = .int .i64 sg ∧ TermI w l T k sg q0 q1 q2 q3 f wr) (fun s _ _ => l.length + 3 - (intOf s).toNat)
      case atStart => exact ⟨k0, sg0, 0, 0, 0, 0, l.length, rfl, rfl, HI.out⟩
      case round =>
        obtain ⟨k, sg, q0, q1, q2, q3, f, rfl, rfl, hI⟩ := hrel
        have hk := hI.le
        have hkn : k + digN (l.drop k) ≤ l.length := by have := digN_le (l.drop k); rw [List.length_drop] at this; omega
        have HD := Lib.hid (fun w => digits_any l k w hk HL.out)
        obtain ⟨n, hn⟩ : ∃ n, n = digN (l.drop k) := ⟨_, rfl⟩
        rw [← hn] at HD hkn
        have HV := Lib.hid (fun w => value_any ((l.drop k).take n) w (by have := HL.out; simp; omega))
        obtain ⟨v, hv⟩ : ∃ v, v = valR ((l.drop k).take n) := ⟨_, rfl⟩
        have hvb := sg_bnd hI.sgn (valR_bnd ((l.drop k).take n))
        rw [← hv] at HV hvb
        have hex := extract_str l k n
        obtain ⟨j, hj⟩ : ∃ j, j = k + n := ⟨_, rfl⟩
        have hj' : (k : Int) + (n : Int) = (j : Int) := by omega
        rw [← hj] at hex hkn
        have hw : IntKind.i64.wrap (sg * v) = sg * v := wrap_id _ (by omega) (by omega)
        have hwj : IntKind.i64.wrap (j : Int) = (j : Int) := wrap_id _ (by omega) (by have := HL.out; omega)
        have d1 : decide (k ≤ l.length) = true := decide_eq_true hk
        have d2 : decide ((k : Int) ≤ (l.length : Int)) = true := decide_eq_true (by omega)
        have b1 : (k : Int) ≤ (j : Int) := by omega
        have b2 : (j : Int) ≤ (l.length : Int) := by omega
        have b3 : (l.length : Int) ≤ 400 := by have := HL.out; omega
        have HI2 := Lib.hid hI; have HN := Lib.hid hn; have HVe := Lib.hid hv; have HJ := Lib.hid hj; have HVB := Lib.hid hvb
        have HB := Lib.hid hI.box
        obtain ⟨u, hu⟩ : ∃ u, u = sg * v := ⟨_, rfl⟩
        rw [← hu] at HVB hvb
        have hw2 : wrap64 (sg * v) = u := by rw [← hu]; unfold wrap64; omega
        rw [← hu] at hw
        have hw3 : IntKind.i64.wrap (sg * v) = u := by rw [← hu]; exact hw
        clear hw
        clear hI hn hv hj hvb hk
        have HU := Lib.hid hu; clear hu
        go_wp2_with fail
        refine (HD.out _).mono ?_
        rintro _ w1 ⟨rfl, hb1⟩
        have HB1 := Lib.hid (HB.out.keep hb1); clear hb1 HB
        go_wp2_with fail
        refine (HV.out _).mono ?_
        rintro _ w2 ⟨rfl, hb1⟩
        have HB2 := Lib.hid (HB1.out.keep hb1); clear hb1 HB1
        obtain ⟨c0, c1, c2, c3, c4⟩ := HB2.out.five (List.mem_cons_self ..)
        obtain ⟨z0, z1, z2, z3, z4⟩ := HB2.out.five (List.mem_cons_of_mem _ (List.mem_cons_self ..))
        obtain ⟨f0, f1, f2, f3, f4⟩ := HB2.out.fr (List.mem_cons_self ..)
        obtain ⟨g0, g1, g2, g3, g4⟩ := HB2.out.fr (List.mem_cons_of_mem _ (List.mem_cons_self ..))
        by_cases hlt : j < l.length
        · obtain ⟨c, hc⟩ : ∃ c, l[j]? = some c := ⟨_, List.getElem?_eq_getElem hlt⟩
          have hgj := byte_at hlt hc
          have hpl := plcR_at hc
          have e1 : decide (j < l.length) = true := decide_eq_true hlt
          have e2 : decide ((j : Int) < (l.length : Int)) = true := decide_eq_true (by omega)
          clear hc
          by_cases h105 : c = 105
          · subst h105
            have hp : plcR (l.drop j) = 1 := hpl
            clear hpl
            have HP := Lib.hid hp; clear hp
            have hB3 := HB2.out.set1 (List.mem_cons_self ..) 1 (.int .i64 u) (by simp) (vs' := #[.int .i64 q0, .int .i64 u, .int .i64 q2, .int .i64 q3, .int .i64 1]) rfl (L' := [(w.heap.size + 1, #[.int .i64 q0, .int .i64 u, .int .i64 q2, .int .i64 q3, .int .i64 1]), (w.heap.size, #[.int .i64 0, .int .i64 0, .int .i64 0, .int .i64 0, .int .i64 0])]) (fun x hx => by simp only [List.mem_cons, List.not_mem_nil, or_false] at hx ⊢; rcases hx with rfl | rfl <;> simp)
            obtain ⟨W3, hW3⟩ : ∃ W3, w2.setCell ⟨w.heap.size + 1, 1, none⟩ (.int .i64 u) = W3 := ⟨_, rfl⟩
            rw [hW3] at hB3
            have HB3 := Lib.hid hB3
            obtain ⟨x0, x1, x2, x3, x4⟩ := hB3.five (List.mem_cons_self ..)
            obtain ⟨y0, y1, y2, y3, y4⟩ := hB3.five (List.mem_cons_of_mem _ (List.mem_cons_self ..))
            obtain ⟨m0, m1, m2, m3, m4⟩ := hB3.fr (List.mem_cons_of_mem _ (List.mem_cons_self ..))
            clear hB3
            by_cases hend : l.length < j + 1 + 3
            · have HT := Lib.hid (show T = ⟨q0, u, q2, q3, 1⟩ from by rw [HI2.out.run, runR_ret (pl := 1) HN.out.symm (by rw [← HJ.out]; exact HP.out) (by rw [← HJ.out]; simpa using hend) (by rw [← HJ.out]; exact hkn), ← HVe.out, ← HU.out]; rfl)
              obtain ⟨W9, e9, hB9, -, -, r0, r1, r2, r3, r4⟩ := HB3.out.put5 (List.mem_cons_of_mem _ (List.mem_cons_self ..)) (.int .i64 q0) (.int .i64 u) (.int .i64 q2) (.int .i64 q3) (.int .i64 1) (L' := [(w.heap.size + 1, #[.int .i64 q0, .int .i64 u, .int .i64 q2, .int .i64 q3, .int .i64 1]), (w.heap.size, #[.int .i64 q0, .int .i64 u, .int .i64 q2, .int .i64 q3, .int .i64 1])]) (fun x hx => by simp only [List.mem_cons, List.not_mem_nil, or_false] at hx ⊢; rcases hx with rfl | rfl <;> simp)
              have HB9 := Lib.hid hB9; clear hB9
              have k1 : (l.length : Int) < (j : Int) + 1 + 3 := by omega
              clear hend
              go_wp2_with fail
              try rw [e9]
              refine bodyPost_ret (v := .agg #[.int .i64 q0, .int .i64 u, .int .i64 q2, .int .i64 q3, .int .i64 1]) (by simp [results, Tryz.results60, go_sem, r0, r1, r2, r3, r4]) rfl ?_
              exact ⟨by rw [HT.out]; rfl, HB9.out.below⟩
            · obtain ⟨b, hb⟩ : ∃ b, l[j + 1 + 1]? = some b := ⟨_, List.getElem?_eq_getElem (by omega)⟩
              have k3 : j + 1 + 1 < l.length := by omega
              have hgb := byte_at (l := l) (j := j + 1 + 1) k3 hb
              obtain ⟨f', rfl⟩ : ∃ f', f = f' + 1 := ⟨f - 1, by have := HI2.out.fuel; have := HJ.out; omega⟩
              have HT := Lib.hid (show T = runR (f' + 1) (l.drop (j + 1 + 3)) (if b = 45 then -1 else 1) ⟨q0, u, q2, q3, 1⟩ from by rw [HI2.out.run, runR_next (pl := 1) (c := b) HN.out.symm (by rw [← HJ.out]; exact HP.out) (by rw [← HJ.out]; simpa using hend) (by rw [← HJ.out]; simpa using hb), ← HVe.out, ← HU.out, ← HJ.out]; rfl)
              have HQ := Lib.hid (show QB7 ⟨q0, u, q2, q3, 1⟩ from by obtain ⟨h0, h1, h2, h3, -⟩ := HI2.out.bnd; exact ⟨h0, HVB.out, h2, h3, rfl⟩)
              have HF := Lib.hid (show l.length ≤ j + 1 + 3 + f' from by have := HI2.out.fuel; have := HJ.out; omega)
              have HE := Lib.hid (show j + 1 + 3 ≤ l.length from by omega)
              have k1 : ¬ (l.length : Int) < (j : Int) + 1 + 3 := by omega
              have k2 : decide (j + 1 + 1 < l.length) = true := decide_eq_true (by omega)
              have k4 : (j : Int) + 1 + 1 < (l.length : Int) := by omega
              clear hend hb
              by_cases hb45 : b = 45
              · subst hb45
                go_wp2_with fail
                exact ⟨⟨j + 1 + 3, -1, q0, u, q2, q3, f', by first | rfl | go_num, rfl, ⟨.inr rfl, HE.out, HQ.out, HF.out, HT.out, HB3.out⟩⟩, by simp only [intOf]; omega⟩
              · have n45 : ((b.toNat : Int) == 45) = false := ne_int (k := 45) (by omega) hb45
                have HT2 := Lib.hid (show T = runR (f' + 1) (l.drop (j + 1 + 3)) 1 ⟨q0, u, q2, q3, 1⟩ from by rw [HT.out, if_neg hb45])
                clear hb45
                go_wp2_with fail
                exact ⟨⟨j + 1 + 3, 1, q0, u, q2, q3, f', by first | rfl | go_num, rfl, ⟨.inl rfl, HE.out, HQ.out, HF.out, HT2.out, HB3.out⟩⟩, by simp only [intOf]; omega⟩
          by_cases h106 : c = 106
          · subst h106
            have hp : plcR (l.drop j) = 2 := hpl
            clear hpl
            have HP := Lib.hid hp; clear hp
            have hB3 := HB2.out.set1 (List.mem_cons_self ..) 2 (.int .i64 u) (by simp) (vs' := #[.int .i64 q0, .int .i64 q1, .int .i64 u, .int .i64 q3, .int .i64 1]) rfl (L' := [(w.heap.size + 1, #[.int .i64 q0, .int .i64 q1, .int .i64 u, .int .i64 q3, .int .i64 1]), (w.heap.size, #[.int .i64 0, .int .i64 0, .int .i64 0, .int .i64 0, .int .i64 0])]) (fun x hx => by simp only [List.mem_cons, List.not_mem_nil, or_false] at hx ⊢; rcases hx with rfl | rfl <;> simp)
            obtain ⟨W3, hW3⟩ : ∃ W3, w2.setCell ⟨w.heap.size + 1, 2, none⟩ (.int .i64 u) = W3 := ⟨_, rfl⟩
            rw [hW3] at hB3
            have HB3 := Lib.hid hB3
            obtain ⟨x0, x1, x2, x3, x4⟩ := hB3.five (List.mem_cons_self ..)
            obtain ⟨y0, y1, y2, y3, y4⟩ := hB3.five (List.mem_cons_of_mem _ (List.mem_cons_self ..))
            obtain ⟨m0, m1, m2, m3, m4⟩ := hB3.fr (List.mem_cons_of_mem _ (List.mem_cons_self ..))
            clear hB3
            by_cases hend : l.length < j + 1 + 3
            · have HT := Lib.hid (show T = ⟨q0, q1, u, q3, 1⟩ from by rw [HI2.out.run, runR_ret (pl := 2) HN.out.symm (by rw [← HJ.out]; exact HP.out) (by rw [← HJ.out]; simpa using hend) (by rw [← HJ.out]; exact hkn), ← HVe.out, ← HU.out]; rfl)
              obtain ⟨W9, e9, hB9, -, -, r0, r1, r2, r3, r4⟩ := HB3.out.put5 (List.mem_cons_of_mem _ (List.mem_cons_self ..)) (.int .i64 q0) (.int .i64 q1) (.int .i64 u) (.int .i64 q3) (.int .i64 1) (L' := [(w.heap.size + 1, #[.int .i64 q0, .int .i64 q1, .int .i64 u, .int .i64 q3, .int .i64 1]), (w.heap.size, #[.int .i64 q0, .int .i64 q1, .int .i64 u, .int .i64 q3, .int .i64 1])]) (fun x hx => by simp only [List.mem_cons, List.not_mem_nil, or_false] at hx ⊢; rcases hx with rfl | rfl <;> simp)
              have HB9 := Lib.hid hB9; clear hB9
              have k1 : (l.length : Int) < (j : Int) + 1 + 3 := by omega
              clear hend
              go_wp2_with fail
              try rw [e9]
              refine bodyPost_ret (v := .agg #[.int .i64 q0, .int .i64 q1, .int .i64 u, .int .i64 q3, .int .i64 1]) (by simp [results, Tryz.results60, go_sem, r0, r1, r2, r3, r4]) rfl ?_
              exact ⟨by rw [HT.out]; rfl, HB9.out.below⟩
            · obtain ⟨b, hb⟩ : ∃ b, l[j + 1 + 1]? = some b := ⟨_, List.getElem?_eq_getElem (by omega)⟩
              have k3 : j + 1 + 1 < l.length := by omega
              have hgb := byte_at (l := l) (j := j + 1 + 1) k3 hb
              obtain ⟨f', rfl⟩ : ∃ f', f = f' + 1 := ⟨f - 1, by have := HI2.out.fuel; have := HJ.out; omega⟩
              have HT := Lib.hid (show T = runR (f' + 1) (l.drop (j + 1 + 3)) (if b = 45 then -1 else 1) ⟨q0, q1, u, q3, 1⟩ from by rw [HI2.out.run, runR_next (pl := 2) (c := b) HN.out.symm (by rw [← HJ.out]; exact HP.out) (by rw [← HJ.out]; simpa using hend) (by rw [← HJ.out]; simpa using hb), ← HVe.out, ← HU.out, ← HJ.out]; rfl)
              have HQ := Lib.hid (show QB7 ⟨q0, q1, u, q3, 1⟩ from by obtain ⟨h0, h1, h2, h3, -⟩ := HI2.out.bnd; exact ⟨h0, h1, HVB.out, h3, rfl⟩)
              have HF := Lib.hid (show l.length ≤ j + 1 + 3 + f' from by have := HI2.out.fuel; have := HJ.out; omega)
              have HE := Lib.hid (show j + 1 + 3 ≤ l.length from by omega)
              have k1 : ¬ (l.length : Int) < (j : Int) + 1 + 3 := by omega
              have k2 : decide (j + 1 + 1 < l.length) = true := decide_eq_true (by omega)
              have k4 : (j : Int) + 1 + 1 < (l.length : Int) := by omega
              clear hend hb
              by_cases hb45 : b = 45
              · subst hb45
                go_wp2_with fail
                exact ⟨⟨j + 1 + 3, -1, q0, q1, u, q3, f', by first | rfl | go_num, rfl, ⟨.inr rfl, HE.out, HQ.out, HF.out, HT.out, HB3.out⟩⟩, by simp only [intOf]; omega⟩
              · have n45 : ((b.toNat : Int) == 45) = false := ne_int (k := 45) (by omega) hb45
                have HT2 := Lib.hid (show T = runR (f' + 1) (l.drop (j + 1 + 3)) 1 ⟨q0, q1, u, q3, 1⟩ from by rw [HT.out, if_neg hb45])
                clear hb45
                go_wp2_with fail
                exact ⟨⟨j + 1 + 3, 1, q0, q1, u, q3, f', by first | rfl | go_num, rfl, ⟨.inl rfl, HE.out, HQ.out, HF.out, HT2.out, HB3.out⟩⟩, by simp only [intOf]; omega⟩
          by_cases h107 : c = 107
          · subst h107
            have hp : plcR (l.drop j) = 3 := hpl
            clear hpl
            have HP := Lib.hid hp; clear hp
            have hB3 := HB2.out.set1 (List.mem_cons_self ..) 3 (.int .i64 u) (by simp) (vs' := #[.int .i64 q0, .int .i64 q1, .int .i64 q2, .int .i64 u, .int .i64 1]) rfl (L' := [(w.heap.size + 1, #[.int .i64 q0, .int .i64 q1, .int .i64 q2, .int .i64 u, .int .i64 1]), (w.heap.size, #[.int .i64 0, .int .i64 0, .int .i64 0, .int .i64 0, .int .i64 0])]) (fun x hx => by simp only [List.mem_cons, List.not_mem_nil, or_false] at hx ⊢; rcases hx with rfl | rfl <;> simp)
            obtain ⟨W3, hW3⟩ : ∃ W3, w2.setCell ⟨w.heap.size + 1, 3, none⟩ (.int .i64 u) = W3 := ⟨_, rfl⟩
            rw [hW3] at hB3
            have HB3 := Lib.hid hB3
            obtain ⟨x0, x1, x2, x3, x4⟩ := hB3.five (List.mem_cons_self ..)
            obtain ⟨y0, y1, y2, y3, y4⟩ := hB3.five (List.mem_cons_of_mem _ (List.mem_cons_self ..))
            obtain ⟨m0, m1, m2, m3, m4⟩ := hB3.fr (List.mem_cons_of_mem _ (List.mem_cons_self ..))
            clear hB3
            by_cases hend : l.length < j + 1 + 3
            · have HT := Lib.hid (show T = ⟨q0, q1, q2, u, 1⟩ from by rw [HI2.out.run, runR_ret (pl := 3) HN.out.symm (by rw [← HJ.out]; exact HP.out) (by rw [← HJ.out]; simpa using hend) (by rw [← HJ.out]; exact hkn), ← HVe.out, ← HU.out]; rfl)
              obtain ⟨W9, e9, hB9, -, -, r0, r1, r2, r3, r4⟩ := HB3.out.put5 (List.mem_cons_of_mem _ (List.mem_cons_self ..)) (.int .i64 q0) (.int .i64 q1) (.int .i64 q2) (.int .i64 u) (.int .i64 1) (L' := [(w.heap.size + 1, #[.int .i64 q0, .int .i64 q1, .int .i64 q2, .int .i64 u, .int .i64 1]), (w.heap.size, #[.int .i64 q0, .int .i64 q1, .int .i64 q2, .int .i64 u, .int .i64 1])]) (fun x hx => by simp only [List.mem_cons, List.not_mem_nil, or_false] at hx ⊢; rcases hx with rfl | rfl <;> simp)
              have HB9 := Lib.hid hB9; clear hB9
              have k1 : (l.length : Int) < (j : Int) + 1 + 3 := by omega
              clear hend
              go_wp2_with fail
              try rw [e9]
              refine bodyPost_ret (v := .agg #[.int .i64 q0, .int .i64 q1, .int .i64 q2, .int .i64 u, .int .i64 1]) (by simp [results, Tryz.results60, go_sem, r0, r1, r2, r3, r4]) rfl ?_
              exact ⟨by rw [HT.out]; rfl, HB9.out.below⟩
            · obtain ⟨b, hb⟩ : ∃ b, l[j + 1 + 1]? = some b := ⟨_, List.getElem?_eq_getElem (by omega)⟩
              have k3 : j + 1 + 1 < l.length := by omega
              have hgb := byte_at (l := l) (j := j + 1 + 1) k3 hb
              obtain ⟨f', rfl⟩ : ∃ f', f = f' + 1 := ⟨f - 1, by have := HI2.out.fuel; have := HJ.out; omega⟩
              have HT := Lib.hid (show T = runR (f' + 1) (l.drop (j + 1 + 3)) (if b = 45 then -1 else 1) ⟨q0, q1, q2, u, 1⟩ from by rw [HI2.out.run, runR_next (pl := 3) (c := b) HN.out.symm (by rw [← HJ.out]; exact HP.out) (by rw [← HJ.out]; simpa using hend) (by rw [← HJ.out]; simpa using hb), ← HVe.out, ← HU.out, ← HJ.out]; rfl)
              have HQ := Lib.hid (show QB7 ⟨q0, q1, q2, u, 1⟩ from by obtain ⟨h0, h1, h2, h3, -⟩ := HI2.out.bnd; exact ⟨h0, h1, h2, HVB.out, rfl⟩)
              have HF := Lib.hid (show l.length ≤ j + 1 + 3 + f' from by have := HI2.out.fuel; have := HJ.out; omega)
              have HE := Lib.hid (show j + 1 + 3 ≤ l.length from by omega)
              have k1 : ¬ (l.length : Int) < (j : Int) + 1 + 3 := by omega
              have k2 : decide (j + 1 + 1 < l.length) = true := decide_eq_true (by omega)
              have k4 : (j : Int) + 1 + 1 < (l.length : Int) := by omega
              clear hend hb
              by_cases hb45 : b = 45
              · subst hb45
                go_wp2_with fail
                exact ⟨⟨j + 1 + 3, -1, q0, q1, q2, u, f', by first | rfl | go_num, rfl, ⟨.inr rfl, HE.out, HQ.out, HF.out, HT.out, HB3.out⟩⟩, by simp only [intOf]; omega⟩
              · have n45 : ((b.toNat : Int) == 45) = false := ne_int (k := 45) (by omega) hb45
                have HT2 := Lib.hid (show T = runR (f' + 1) (l.drop (j + 1 + 3)) 1 ⟨q0, q1, q2, u, 1⟩ from by rw [HT.out, if_neg hb45])
                clear hb45
                go_wp2_with fail
                exact ⟨⟨j + 1 + 3, 1, q0, q1, q2, u, f', by first | rfl | go_num, rfl, ⟨.inl rfl, HE.out, HQ.out, HF.out, HT2.out, HB3.out⟩⟩, by simp only [intOf]; omega⟩
          have hp : plcR (l.drop j) = 0 := by rw [hpl, if_neg h105, if_neg h106, if_neg h107]
          have n105 : ((c.toNat : Int) == 105) = false := ne_int (k := 105) (by omega) h105
          have n106 : ((c.toNat : Int) == 106) = false := ne_int (k := 106) (by omega) h106
          have n107 : ((c.toNat : Int) == 107) = false := ne_int (k := 107) (by omega) h107
          clear hpl h105 h106 h107
          have HP := Lib.hid hp; clear hp
          have hB3 := HB2.out.set1 (List.mem_cons_self ..) 0 (.int .i64 u) (by simp) (vs' := #[.int .i64 u, .int .i64 q1, .int .i64 q2, .int .i64 q3, .int .i64 1]) rfl (L' := [(w.heap.size + 1, #[.int .i64 u, .int .i64 q1, .int .i64 q2, .int .i64 q3, .int .i64 1]), (w.heap.size, #[.int .i64 0, .int .i64 0, .int .i64 0, .int .i64 0, .int .i64 0])]) (fun x hx => by simp only [List.mem_cons, List.not_mem_nil, or_false] at hx ⊢; rcases hx with rfl | rfl <;> simp)
          obtain ⟨W3, hW3⟩ : ∃ W3, w2.setCell ⟨w.heap.size + 1, 0, none⟩ (.int .i64 u) = W3 := ⟨_, rfl⟩
          rw [hW3] at hB3
          have HB3 := Lib.hid hB3
          obtain ⟨x0, x1, x2, x3, x4⟩ := hB3.five (List.mem_cons_self ..)
          obtain ⟨y0, y1, y2, y3, y4⟩ := hB3.five (List.mem_cons_of_mem _ (List.mem_cons_self ..))
          obtain ⟨m0, m1, m2, m3, m4⟩ := hB3.fr (List.mem_cons_of_mem _ (List.mem_cons_self ..))
          clear hB3
          by_cases hend : l.length < j + 3
          · have HT := Lib.hid (show T = ⟨u, q1, q2, q3, 1⟩ from by rw [HI2.out.run, runR_ret (pl := 0) HN.out.symm (by rw [← HJ.out]; exact HP.out) (by rw [← HJ.out]; simpa using hend) (by rw [← HJ.out]; exact hkn), ← HVe.out, ← HU.out]; rfl)
            obtain ⟨W9, e9, hB9, -, -, r0, r1, r2, r3, r4⟩ := HB3.out.put5 (List.mem_cons_of_mem _ (List.mem_cons_self ..)) (.int .i64 u) (.int .i64 q1) (.int .i64 q2) (.int .i64 q3) (.int .i64 1) (L' := [(w.heap.size + 1, #[.int .i64 u, .int .i64 q1, .int .i64 q2, .int .i64 q3, .int .i64 1]), (w.heap.size, #[.int .i64 u, .int .i64 q1, .int .i64 q2, .int .i64 q3, .int .i64 1])]) (fun x hx => by simp only [List.mem_cons, List.not_mem_nil, or_false] at hx ⊢; rcases hx with rfl | rfl <;> simp)
            have HB9 := Lib.hid hB9; clear hB9
            have k1 : (l.length : Int) < (j : Int) + 3 := by omega
            clear hend
            go_wp2_with fail
            try rw [e9]
            refine bodyPost_ret (v := .agg #[.int .i64 u, .int .i64 q1, .int .i64 q2, .int .i64 q3, .int .i64 1]) (by simp [results, Tryz.results60, go_sem, r0, r1, r2, r3, r4]) rfl ?_
            exact ⟨by rw [HT.out]; rfl, HB9.out.below⟩
          · obtain ⟨b, hb⟩ : ∃ b, l[j + 1]? = some b := ⟨_, List.getElem?_eq_getElem (by omega)⟩
            have k3 : j + 1 < l.length := by omega
            have hgb := byte_at (l := l) (j := j + 1) k3 hb
            obtain ⟨f', rfl⟩ : ∃ f', f = f' + 1 := ⟨f - 1, by have := HI2.out.fuel; have := HJ.out; omega⟩
            have HT := Lib.hid (show T = runR (f' + 1) (l.drop (j + 3)) (if b = 45 then -1 else 1) ⟨u, q1, q2, q3, 1⟩ from by rw [HI2.out.run, runR_next (pl := 0) (c := b) HN.out.symm (by rw [← HJ.out]; exact HP.out) (by rw [← HJ.out]; simpa using hend) (by rw [← HJ.out]; simpa using hb), ← HVe.out, ← HU.out, ← HJ.out]; rfl)
            have HQ := Lib.hid (show QB7 ⟨u, q1, q2, q3, 1⟩ from by obtain ⟨h0, h1, h2, h3, -⟩ := HI2.out.bnd; exact ⟨HVB.out, h1, h2, h3, rfl⟩)
            have HF := Lib.hid (show l.length ≤ j + 3 + f' from by have := HI2.out.fuel; have := HJ.out; omega)
            have HE := Lib.hid (show j + 3 ≤ l.length from by omega)
            have k1 : ¬ (l.length : Int) < (j : Int) + 3 := by omega
            have k2 : decide (j + 1 < l.length) = true := decide_eq_true (by omega)
            have k4 : (j : Int) + 1 < (l.length : Int) := by omega
            clear hend hb
            by_cases hb45 : b = 45
            · subst hb45
              go_wp2_with fail
              exact ⟨⟨j + 3, -1, u, q1, q2, q3, f', by first | rfl | go_num, rfl, ⟨.inr rfl, HE.out, HQ.out, HF.out, HT.out, HB3.out⟩⟩, by simp only [intOf]; omega⟩
            · have n45 : ((b.toNat : Int) == 45) = false := ne_int (k := 45) (by omega) hb45
              have HT2 := Lib.hid (show T = runR (f' + 1) (l.drop (j + 3)) 1 ⟨u, q1, q2, q3, 1⟩ from by rw [HT.out, if_neg hb45])
              clear hb45
              go_wp2_with fail
              exact ⟨⟨j + 3, 1, u, q1, q2, q3, f', by first | rfl | go_num, rfl, ⟨.inl rfl, HE.out, HQ.out, HF.out, HT2.out, HB3.out⟩⟩, by simp only [intOf]; omega⟩
        · have hp := plcR_end hlt
          have e1 : decide (j < l.length) = false := decide_eq_false hlt
          have e2 : decide ((j : Int) < (l.length : Int)) = false := decide_eq_false (by omega)
          have HP := Lib.hid hp; clear hp
          have hB3 := HB2.out.set1 (List.mem_cons_self ..) 0 (.int .i64 u) (by simp) (vs' := #[.int .i64 u, .int .i64 q1, .int .i64 q2, .int .i64 q3, .int .i64 1]) rfl (L' := [(w.heap.size + 1, #[.int .i64 u, .int .i64 q1, .int .i64 q2, .int .i64 q3, .int .i64 1]), (w.heap.size, #[.int .i64 0, .int .i64 0, .int .i64 0, .int .i64 0, .int .i64 0])]) (fun x hx => by simp only [List.mem_cons, List.not_mem_nil, or_false] at hx ⊢; rcases hx with rfl | rfl <;> simp)
          obtain ⟨W3, hW3⟩ : ∃ W3, w2.setCell ⟨w.heap.size + 1, 0, none⟩ (.int .i64 u) = W3 := ⟨_, rfl⟩
          rw [hW3] at hB3
          have HB3 := Lib.hid hB3
          obtain ⟨x0, x1, x2, x3, x4⟩ := hB3.five (List.mem_cons_self ..)
          obtain ⟨y0, y1, y2, y3, y4⟩ := hB3.five (List.mem_cons_of_mem _ (List.mem_cons_self ..))
          obtain ⟨m0, m1, m2, m3, m4⟩ := hB3.fr (List.mem_cons_of_mem _ (List.mem_cons_self ..))
          clear hB3
          have hend : l.length < j + 3 := by omega
          have HT := Lib.hid (show T = ⟨u, q1, q2, q3, 1⟩ from by rw [HI2.out.run, runR_ret (pl := 0) HN.out.symm (by rw [← HJ.out]; exact HP.out) (by rw [← HJ.out]; simpa using hend) (by rw [← HJ.out]; exact hkn), ← HVe.out, ← HU.out]; rfl)
          obtain ⟨W9, e9, hB9, -, -, r0, r1, r2, r3, r4⟩ := HB3.out.put5 (List.mem_cons_of_mem _ (List.mem_cons_self ..)) (.int .i64 u) (.int .i64 q1) (.int .i64 q2) (.int .i64 q3) (.int .i64 1) (L' := [(w.heap.size + 1, #[.int .i64 u, .int .i64 q1, .int .i64 q2, .int .i64 q3, .int .i64 1]), (w.heap.size, #[.int .i64 u, .int .i64 q1, .int .i64 q2, .int .i64 q3, .int .i64 1])]) (fun x hx => by simp only [List.mem_cons, List.not_mem_nil, or_false] at hx ⊢; rcases hx with rfl | rfl <;> simp)
          have HB9 := Lib.hid hB9; clear hB9
          have k1 : (l.length : Int) < (j : Int) + 3 := by omega
          clear hend
          go_wp2_with fail
          try rw [e9]
          refine bodyPost_ret (v := .agg #[.int .i64 u, .int .i64 q1, .int .i64 q2, .int .i64 q3, .int .i64 1]) (by simp [results, Tryz.results60, go_sem, r0, r1, r2, r3, r4]) rfl ?_
          exact ⟨by rw [HT.out]; rfl, HB9.out.below⟩
end Go.Proofs.YtimdkjbmeogpoaaGreatDoor
