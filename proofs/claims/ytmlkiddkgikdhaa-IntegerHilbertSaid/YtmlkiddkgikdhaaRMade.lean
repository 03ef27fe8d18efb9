/- made -/
import Derived.Test.YtmlkiddkgikdhaaROf
namespace Go.Proofs.Ytmlkiddkgikdhaa
open Go.RowKit FF
theorem wl_half (v : Nat) : wl v = (hl v + 1) / 2 := half_len v
theorem two_get {v i : Nat} : (digs WB v).getD i 0 = (digs HB v).getD (2 * i) 0 + HB * (digs HB v).getD (2 * i + 1) 0 := half_get v i
theorem getD_past {xs : List Nat} {i : Nat} (h : xs.length ≤ i) : xs.getD i 0 = 0 := by rw [List.getD_eq_getElem?_getD, List.getElem?_eq_none h]; rfl

theorem grown_keep {w w' : World} {row : Option Nat} (hg : w.grownBy w' row) {a : Addr} (hlt : a.block < w.heap.size) (hne : ∀ k, row = some k → a.block < k) : w'.cell? a = w.cell? a ∧ w'.frozen? a = w.frozen? a := by
  have h := hg.block a.block hlt (fun e => by have := hne a.block e.symm; omega)
  exact ⟨World.cell?_of_block h, World.frozen?_of_block h⟩
theorem own_shape {w : World} {B T : Nat} {v : Value} {n : Nat} {xs : List Value} (h : w.ownsRow B T 1 v n xs) : ∃ A c, v = .slice A n c := by
  rcases h.2 with ⟨rfl, rfl⟩ | ⟨g, cap, cur, rfl, _⟩
  · exact ⟨none, 0, rfl⟩
  · exact ⟨_, _, rfl⟩
/-- the loop's relation -/
def madeRel (w1 : World) (nb : Bool) (m : Nat) (dW : List Nat) (k : Nat) (v : Value) (wr : World) : Prop :=
  k ≤ m ∧ wr.cell? ⟨w1.heap.size, 0, none⟩ = some (.bool nb) ∧ wr.cell? ⟨w1.heap.size, 1, none⟩ = some v ∧ wr.frozen? ⟨w1.heap.size, 1, none⟩ = false ∧
    wr.ownsRow (w1.heap.size + 1) 111 1 v k (cells .u32 (dW.take k)) ∧ Below w1.heap.size w1 wr ∧ w1.heap.size < wr.heap.size
theorem madeRel.start (w1 : World) (nb : Bool) (m : Nat) (dW : List Nat) {T : TypeId} : madeRel w1 nb m dW 0 (.slice none 0 0) (w1.alloc (.cells #[.bool nb, .slice none 0 0] T)) := by
  refine ⟨Nat.zero_le _, ?_, ?_, ?_, World.ownsRow_nil _ _ _ _, (Below.refl _ _).alloc (Nat.le_refl _) _, by simp⟩
  · rw [World.cell?_alloc_at _ _ _ _ rfl]; rfl
  · rw [World.cell?_alloc_at _ _ _ _ rfl]; rfl
  · exact World.frozen?_alloc_at _ _ _ _ rfl
theorem madeRel.step {w1 : World} {nb : Bool} {m : Nat} {dW : List Nat} {k : Nat} {v v' : Value} {wr w2 : World} {o : Obj} (h : madeRel w1 nb m dW k v wr) (hk : k < m) {x : Nat}
    (hx : dW.take (k + 1) = dW.take k ++ [x]) (hown : w2.ownsRow (w1.heap.size + 1) 111 1 v' (k + 1) (cells .u32 (dW.take k) ++ [.int .u32 x])) (hg : (wr.alloc o).grownBy w2 v.ownBlock) :
    madeRel w1 nb m dW (k + 1) v' (w2.setCell ⟨w1.heap.size, 1, none⟩ v') ∧ w2.cell? ⟨w1.heap.size, 0, none⟩ = some (.bool nb) ∧ w2.cell? ⟨w1.heap.size, 1, none⟩ = some v ∧ w2.frozen? ⟨w1.heap.size, 1, none⟩ = false := by
  obtain ⟨h1, h2, h3, h4, h5, h6, h7⟩ := h
  have hrow := own_row_ge h5
  obtain ⟨a1, b1⟩ := grown_keep hg (a := ⟨w1.heap.size, 0, none⟩) (by simp; omega) (fun k hk => by have := hrow k hk; simp; omega)
  obtain ⟨a2, b2⟩ := grown_keep hg (a := ⟨w1.heap.size, 1, none⟩) (by simp; omega) (fun k hk => by have := hrow k hk; simp; omega)
  rw [World.cell?_alloc_lt _ _ _ (by simpa using h7)] at a1 a2
  rw [World.frozen?_alloc_past _ _ _ h7] at b2
  rw [h2] at a1; rw [h3] at a2; rw [h4] at b2
  refine ⟨⟨by omega, ?_, ?_, ?_, ?_, ?_, ?_⟩, a1, a2, b2⟩
  · rw [World.cell?_setCell_other _ _ _ _ (by simp)]; exact a1
  · simp [go_sem, a2]
  · simp [go_sem, b2]
  · rw [hx, ← cells_snoc]; exact ownsRow_setCell_below hown (by simp) _
  · exact (((h6.alloc (by omega) o).grown hg (by simp; omega) (fun k hk => by have := hrow k hk; omega))).setCell (Nat.le_refl _) _
  · have := hg.size; simp at this ⊢; omega
set_option maxHeartbeats 2000000 in
set_option maxRecDepth 100000 in
/-- made, from half words -/
theorem rMade_any (ng : Bool) (A : Option Addr) (xs : List Nat) (c : Nat) (w : World) (h : Shows .i64 w A xs) (hd : Dig HB xs) (hc : xs.length ≤ c) (hc2 : c ≤ maxLen) (hxl : xs.length ≤ 3000000) :
    Calls Try.prog 110 #[.bool ng, .slice A xs.length c] w fun e w' => ∃ A' c', e = .returned (.agg #[.bool (ng && decide (val HB xs ≠ 0)), .slice A' (wl (val HB xs)) c']) ∧ Shows .u32 w' A' (digs WB (val HB xs)) ∧ wl (val HB xs) ≤ c' ∧ c' ≤ maxLen ∧ Fresh w.heap.size A' ∧ Below w.heap.size w w' := by
  obtain ⟨i0, hi, hz0, hz1, hz2⟩ := info_parts info_u32
  have HI := Lib.hid hi; have HZ0 := Lib.hid hz0; have HZ1 := Lib.hid hz1; have HZ2 := Lib.hid hz2
  clear hi hz0 hz1 hz2
  have hL : hl (val HB xs) ≤ 3000000 := Nat.le_trans (digs_length_le HB2 (val_lt hd)) hxl
  have HT := Lib.hid (fun w (h : Shows .i64 w A xs) => rTrim_any A xs c w h hd hc hc2 hxl)
  have hdg := Lib.hid (fun i => (dig_digs' HB2 (val HB xs)).getD (show 0 < HB by decide) i)
  have HS := Lib.hid h
  have hpos : decide (val HB xs ≠ 0) = decide (0 < hl (val HB xs)) := by
    rw [decide_eq_decide]
    have := digs_nil HB2 (n := val HB xs)
    unfold hl
    omega
  rw [hpos]
  clear hpos h hd
  have hW := Lib.hid (wl_half (val HB xs))
  have hlenW := Lib.hid (show (digs WB (val HB xs)).length = wl (val HB xs) from rfl)
  have hlenH := Lib.hid (show (digs HB (val HB xs)).length = hl (val HB xs) from rfl)
  have hstep := Lib.hid (fun k (h : k < wl (val HB xs)) => take_snoc (xs := digs WB (val HB xs)) 0 h)
  have htwo := Lib.hid (fun i => two_get (v := val HB xs) (i := i))
  have hfin := Lib.hid (show (digs WB (val HB xs)).take (wl (val HB xs)) = digs WB (val HB xs) from List.take_of_length_le (Nat.le_refl _))
  have htl := Lib.hid (fun k (h : k ≤ wl (val HB xs)) => (by rw [List.length_take]; exact Nat.min_eq_left h : ((digs WB (val HB xs)).take k).length = k))
  have hpast := Lib.hid (fun i (h : hl (val HB xs) ≤ i) => getD_past (xs := digs HB (val HB xs)) (i := i) h)
  generalize hdsW : digs WB (val HB xs) = dW at *
  generalize hdsH : digs HB (val HB xs) = dH at *
  generalize wl (val HB xs) = m at *
  generalize hl (val HB xs) = L at *
  clear hdsW hdsH
  cases ng
  · go_enter Try.func110, Try.ntmps110
    go_wp2_with fail
    refine (HT.out _ (HS.out.alloc _)).mono ?_
    rintro e w1 ⟨A1, c1, rfl, s1, s2, s3, s4, hb1⟩
    rw [World.size_alloc] at hb1
    obtain ⟨k1, k2, k3⟩ := slot_keep hb1
    have HB1 := Lib.hid (below_slot hb1)
    have S1 := Lib.hid s1
    unfold maxLen at s3
    clear s1 s4 hb1 HT HS
    go_wp2_with fail
    obtain ⟨nb, hnb⟩ : ∃ nb, nb = false := ⟨_, rfl⟩
    go_loopw [6, 7] (fun s6 _ wr => ∃ k v, s6 = .int .i64 (2 * k : Nat) ∧ madeRel w1 nb m dW k v wr) (fun s _ _ => m + 1 - ((intOf s).toNat / 2))
    case atStart => exact ⟨0, _, rfl, by rw [hnb]; exact madeRel.start _ _ _ _⟩
    case round =>
      obtain ⟨k, v, rfl, hR⟩ := hrel
      have HR := Lib.hid hR
      obtain ⟨r1, r2, r3, r4, r5, r6, r7⟩ := hR
      have HO := Lib.hid r5
      have hres1 : wr.cell? ⟨w.heap.size, 0, none⟩ = some (.bool false) := (r6.cell (by simpa using k3)).trans (k1 0)
      have hres2 : wr.cell? ⟨w.heap.size, 1, none⟩ = some (.slice none 0 0) := (r6.cell (by simpa using k3)).trans (k1 1)
      have hres3 : wr.frozen? ⟨w.heap.size, 0, none⟩ = false := (r6.frozen (by simpa using k3)).trans (k2 0)
      have hres4 : wr.frozen? ⟨w.heap.size, 1, none⟩ = false := (r6.frozen (by simpa using k3)).trans (k2 1)
      have HBr := Lib.hid r6
      by_cases hk : k < m
      · have hkL : 2 * k < L := by have := hW.out; omega
        obtain ⟨b, o, rfl, hb, hcell⟩ := S1.out.below HBr.out (by have := hlenH.out; omega)
        have hx := hcell (2 * k) (by have := hlenH.out; omega)
        have hxl := hdg.out (2 * k)
        have hTW := hstep.out k hk
        rw [htwo.out] at hTW
        have hlk := htl.out k r1
        by_cases hk2 : 2 * k + 1 < L
        · have hy := hcell (2 * k + 1) (by have := hlenH.out; omega)
          have hyl := hdg.out (2 * k + 1)
          generalize dH.getD (2 * k) 0 = x at *
          generalize dH.getD (2 * k + 1) 0 = y at *
          have HTW := Lib.hid (show dW.take (k + 1) = dW.take k ++ [x + y * 65536] by rw [hTW, Nat.mul_comm HB]; rfl)
          clear hTW hlk hstep htl hpast htwo hfin hdg hcell r6 r5
          unfold HB at hxl hyl
          go_wp2_with (at_builtin; refine wpList_append_own _ rfl (.tmp 43) (.tmp 45) 49 rfl (w1.heap.size + 1) 111 i0 (.int .u32 0) 1 4 Try.underlying49 HI.out HZ0.out HZ1.out HZ2.out rfl (by decide) v k (cells .u32 (dW.take k)) rfl (HO.out.alloc _) ⟨wr.heap.size, 0, none⟩ 1 1 [.int .u32 ((x + y * 65536 : Nat) : Int)] rfl rfl (fun j u hj => by match j, hj with | 0, hj => simp at hj; subst hj; simp [Addr.add, go_sem]) (fun u hu => by simp at hu; subst hu; rfl) (by unfold maxLen; omega) (by omega) (by simp; omega) ?_; intro v' w2 hown2 hgrow2 _; obtain ⟨R1, R2, R3, R4⟩ := madeRel.step HR.out hk HTW.out hown2 hgrow2; have HR1 := Lib.hid R1; obtain ⟨A2, c2, rfl⟩ := own_shape hown2; clear hown2 hgrow2 R1)
          exact ⟨⟨k + 1, _, by go_num, HR1.out⟩, by simp [intOf]; omega⟩
        · have HTW := Lib.hid (show dW.take (k + 1) = dW.take k ++ [dH.getD (2 * k) 0] by rw [hTW, hpast.out (2 * k + 1) (by omega)]; rfl)
          generalize dH.getD (2 * k) 0 = x at *
          clear hTW hlk hstep htl hpast htwo hfin hdg hcell r6 r5
          unfold HB at hxl
          go_wp2_with (at_builtin; refine wpList_append_own _ rfl (.tmp 43) (.tmp 45) 49 rfl (w1.heap.size + 1) 111 i0 (.int .u32 0) 1 4 Try.underlying49 HI.out HZ0.out HZ1.out HZ2.out rfl (by decide) v k (cells .u32 (dW.take k)) rfl (HO.out.alloc _) ⟨wr.heap.size, 0, none⟩ 1 1 [.int .u32 ((x : Nat) : Int)] rfl rfl (fun j u hj => by match j, hj with | 0, hj => simp at hj; subst hj; simp [Addr.add, go_sem]) (fun u hu => by simp at hu; subst hu; rfl) (by unfold maxLen; omega) (by omega) (by simp; omega) ?_; intro v' w2 hown2 hgrow2 _; obtain ⟨R1, R2, R3, R4⟩ := madeRel.step HR.out hk HTW.out hown2 hgrow2; have HR1 := Lib.hid R1; obtain ⟨A2, c2, rfl⟩ := own_shape hown2; clear hown2 hgrow2 R1)
          exact ⟨⟨k + 1, _, by go_num, HR1.out⟩, by simp [intOf]; omega⟩
      · obtain rfl : k = m := by omega
        have hge : ¬ 2 * k < L := by have := hW.out; omega
        have HFin := Lib.hid hfin.out
        rw [hfin.out] at r5
        have h5 : wr.ownsRow (w1.heap.size + 1) 111 1 v dW.length (cells .u32 dW) := by rw [hlenW.out]; exact r5
        obtain ⟨A2, c2, rfl, q1, q2, q3, q4⟩ := own_shows h5
        rw [hlenW.out] at q2
        have HQ := Lib.hid q1
        have HF := Lib.hid q4
        rw [hlenW.out] at r3
        have HLW := Lib.hid hlenW.out
        clear hstep htl hpast htwo hfin hdg r6 r5 h5 hlenW q1 q4
        go_wp2_with fail
        refine bodyPost_ret (v := .agg #[.bool nb, .slice A2 k c2]) (by simp [results, Try.results110, go_sem, hres1, hres2, hnb]) rfl ?_
        refine ⟨A2, c2, by rw [hnb]; rfl, ?_, q2, q3, HF.out.mono (by omega), ?_⟩
        · exact (HQ.out.setCell HF.out (by simp; omega) _).setCell HF.out (by simp; omega) _
        · exact ((HB1.out.trans (HBr.out.mono (by omega))).setCell (Nat.le_refl _) _).setCell (Nat.le_refl _) _
  · go_enter Try.func110, Try.ntmps110
    go_wp2_with fail
    refine (HT.out _ (HS.out.alloc _)).mono ?_
    rintro e w1 ⟨A1, c1, rfl, s1, s2, s3, s4, hb1⟩
    rw [World.size_alloc] at hb1
    obtain ⟨k1, k2, k3⟩ := slot_keep hb1
    have HB1 := Lib.hid (below_slot hb1)
    have S1 := Lib.hid s1
    unfold maxLen at s3
    clear s1 s4 hb1 HT HS
    go_wp2_with fail
    obtain ⟨nb, hnb⟩ : ∃ nb, nb = decide (0 < L) := ⟨_, rfl⟩
    go_loopw [6, 7] (fun s6 _ wr => ∃ k v, s6 = .int .i64 (2 * k : Nat) ∧ madeRel w1 nb m dW k v wr) (fun s _ _ => m + 1 - ((intOf s).toNat / 2))
    case atStart => exact ⟨0, _, rfl, by rw [hnb]; exact madeRel.start _ _ _ _⟩
    case round =>
      obtain ⟨k, v, rfl, hR⟩ := hrel
      have HR := Lib.hid hR
      obtain ⟨r1, r2, r3, r4, r5, r6, r7⟩ := hR
      have HO := Lib.hid r5
      have hres1 : wr.cell? ⟨w.heap.size, 0, none⟩ = some (.bool false) := (r6.cell (by simpa using k3)).trans (k1 0)
      have hres2 : wr.cell? ⟨w.heap.size, 1, none⟩ = some (.slice none 0 0) := (r6.cell (by simpa using k3)).trans (k1 1)
      have hres3 : wr.frozen? ⟨w.heap.size, 0, none⟩ = false := (r6.frozen (by simpa using k3)).trans (k2 0)
      have hres4 : wr.frozen? ⟨w.heap.size, 1, none⟩ = false := (r6.frozen (by simpa using k3)).trans (k2 1)
      have HBr := Lib.hid r6
      by_cases hk : k < m
      · have hkL : 2 * k < L := by have := hW.out; omega
        obtain ⟨b, o, rfl, hb, hcell⟩ := S1.out.below HBr.out (by have := hlenH.out; omega)
        have hx := hcell (2 * k) (by have := hlenH.out; omega)
        have hxl := hdg.out (2 * k)
        have hTW := hstep.out k hk
        rw [htwo.out] at hTW
        have hlk := htl.out k r1
        by_cases hk2 : 2 * k + 1 < L
        · have hy := hcell (2 * k + 1) (by have := hlenH.out; omega)
          have hyl := hdg.out (2 * k + 1)
          generalize dH.getD (2 * k) 0 = x at *
          generalize dH.getD (2 * k + 1) 0 = y at *
          have HTW := Lib.hid (show dW.take (k + 1) = dW.take k ++ [x + y * 65536] by rw [hTW, Nat.mul_comm HB]; rfl)
          clear hTW hlk hstep htl hpast htwo hfin hdg hcell r6 r5
          unfold HB at hxl hyl
          go_wp2_with (at_builtin; refine wpList_append_own _ rfl (.tmp 43) (.tmp 45) 49 rfl (w1.heap.size + 1) 111 i0 (.int .u32 0) 1 4 Try.underlying49 HI.out HZ0.out HZ1.out HZ2.out rfl (by decide) v k (cells .u32 (dW.take k)) rfl (HO.out.alloc _) ⟨wr.heap.size, 0, none⟩ 1 1 [.int .u32 ((x + y * 65536 : Nat) : Int)] rfl rfl (fun j u hj => by match j, hj with | 0, hj => simp at hj; subst hj; simp [Addr.add, go_sem]) (fun u hu => by simp at hu; subst hu; rfl) (by unfold maxLen; omega) (by omega) (by simp; omega) ?_; intro v' w2 hown2 hgrow2 _; obtain ⟨R1, R2, R3, R4⟩ := madeRel.step HR.out hk HTW.out hown2 hgrow2; have HR1 := Lib.hid R1; obtain ⟨A2, c2, rfl⟩ := own_shape hown2; clear hown2 hgrow2 R1)
          exact ⟨⟨k + 1, _, by go_num, HR1.out⟩, by simp [intOf]; omega⟩
        · have HTW := Lib.hid (show dW.take (k + 1) = dW.take k ++ [dH.getD (2 * k) 0] by rw [hTW, hpast.out (2 * k + 1) (by omega)]; rfl)
          generalize dH.getD (2 * k) 0 = x at *
          clear hTW hlk hstep htl hpast htwo hfin hdg hcell r6 r5
          unfold HB at hxl
          go_wp2_with (at_builtin; refine wpList_append_own _ rfl (.tmp 43) (.tmp 45) 49 rfl (w1.heap.size + 1) 111 i0 (.int .u32 0) 1 4 Try.underlying49 HI.out HZ0.out HZ1.out HZ2.out rfl (by decide) v k (cells .u32 (dW.take k)) rfl (HO.out.alloc _) ⟨wr.heap.size, 0, none⟩ 1 1 [.int .u32 ((x : Nat) : Int)] rfl rfl (fun j u hj => by match j, hj with | 0, hj => simp at hj; subst hj; simp [Addr.add, go_sem]) (fun u hu => by simp at hu; subst hu; rfl) (by unfold maxLen; omega) (by omega) (by simp; omega) ?_; intro v' w2 hown2 hgrow2 _; obtain ⟨R1, R2, R3, R4⟩ := madeRel.step HR.out hk HTW.out hown2 hgrow2; have HR1 := Lib.hid R1; obtain ⟨A2, c2, rfl⟩ := own_shape hown2; clear hown2 hgrow2 R1)
          exact ⟨⟨k + 1, _, by go_num, HR1.out⟩, by simp [intOf]; omega⟩
      · obtain rfl : k = m := by omega
        have hge : ¬ 2 * k < L := by have := hW.out; omega
        have HFin := Lib.hid hfin.out
        rw [hfin.out] at r5
        have h5 : wr.ownsRow (w1.heap.size + 1) 111 1 v dW.length (cells .u32 dW) := by rw [hlenW.out]; exact r5
        obtain ⟨A2, c2, rfl, q1, q2, q3, q4⟩ := own_shows h5
        rw [hlenW.out] at q2
        have HQ := Lib.hid q1
        have HF := Lib.hid q4
        rw [hlenW.out] at r3
        have HLW := Lib.hid hlenW.out
        clear hstep htl hpast htwo hfin hdg r6 r5 h5 hlenW q1 q4
        go_wp2_with fail
        refine bodyPost_ret (v := .agg #[.bool nb, .slice A2 k c2]) (by simp [results, Try.results110, go_sem, hres1, hres2, hnb]) rfl ?_
        refine ⟨A2, c2, by rw [hnb]; rfl, ?_, q2, q3, HF.out.mono (by omega), ?_⟩
        · exact (HQ.out.setCell HF.out (by simp; omega) _).setCell HF.out (by simp; omega) _
        · exact ((HB1.out.trans (HBr.out.mono (by omega))).setCell (Nat.le_refl _) _).setCell (Nat.le_refl _) _
end Go.Proofs.Ytmlkiddkgikdhaa
