/- Words: divide by one word; DivMod out of divide. -/
import Derived.Test.YtmlkiddkgikdhaaWord7
namespace Go.Proofs.Ytmlkiddkgikdhaa
open Go.RowKit FF

/-- what divide leaves -/
def DivPost (w : World) (a b : Nat) (e : Ending) (w' : World) : Prop :=
  ∃ A2 c2 A3 c3, e = .returned (.tuple #[.slice A2 (wl (a / b)) c2, .slice A3 (wl (a % b)) c3]) ∧ wl (a / b) ≤ c2 ∧ c2 ≤ maxLen ∧ wl (a % b) ≤ c3 ∧ c3 ≤ maxLen ∧
    Shows .u32 w' A2 (digs WB (a / b)) ∧ Shows .u32 w' A3 (digs WB (a % b)) ∧ Below w.heap.size w w'

theorem one_word {b : Nat} (h : wl b = 1) : 0 < b ∧ b < 4294967296 ∧ digs WB b = [b] := by
  have h0 : b ≠ 0 := by rintro rfl; simp [wl, digs, digF] at h
  have h1 := lt_pow_digs WB2 b
  have h2 : (digs WB b).length = 1 := h
  rw [h2, Nat.pow_one] at h1
  have h3 := digs_pos WB2 h0
  rw [Nat.mod_eq_of_lt h1, Nat.div_eq_of_lt h1, digs_zero] at h3
  exact ⟨by omega, h1, h3⟩

theorem divide_less (A A' : Option Addr) (a b c c' : Nat) (w : World) (ha : Shows .u32 w A (digs WB a)) (hb : Shows .u32 w A' (digs WB b)) (hal : wl a ≤ 1000000) (hca : wl a ≤ c) (hc : c ≤ maxLen) (hlt : a < b) :
    Calls Try.prog 118 #[.slice A (wl a) c, .slice A' (wl b) c'] w (DivPost w a b) := by
  have HC := Lib.hid (cmpN_lt hlt ▸ compare_any A A' a b c c' w ha hb hal)
  have HA := Lib.hid ha
  have e1 := Lib.hid (Nat.div_eq_of_lt hlt)
  have e2 := Lib.hid (Nat.mod_eq_of_lt hlt)
  clear ha hb hlt
  go_enter Try.func118, Try.ntmps118
  go_wp2_with fail
  refine HC.out.mono ?_
  rintro e w' ⟨rfl, n1, rfl⟩
  clear HC
  go_wp2_with fail
  go_ret2
  refine ⟨none, 0, A, c, ?_, ?_, by simp [maxLen], ?_, hc, ?_, ?_, below_drewN (Below.refl _ _) _⟩
  · rw [e1.out, e2.out]; rfl
  · rw [e1.out]; exact Nat.le_refl _
  · rw [e2.out]; exact hca
  · rw [e1.out]; exact Shows.nil
  · rw [e2.out]; exact HA.out

set_option maxHeartbeats 1000000 in
theorem divide_one (A A' : Option Addr) (a b c c' : Nat) (w : World) (ha : Shows .u32 w A (digs WB a)) (hb : Shows .u32 w A' (digs WB b)) (hal : wl a ≤ 1000000) (hb1 : wl b = 1) (hle : b ≤ a) :
    Calls Try.prog 118 #[.slice A (wl a) c, .slice A' (wl b) c'] w (DivPost w a b) := by
  unfold DivPost
  obtain ⟨b0, b1, b2⟩ := one_word hb1
  have hcmp : ((cmpN a b) < 0) = False := by
    unfold cmpN; rw [if_neg (by omega)]; split <;> simp
  have hcmp2 : ¬ cmpN a b < 0 := by rw [hcmp]; exact id
  have HC := Lib.hid (compare_any A A' a b c c' w ha hb hal)
  have HS := Lib.hid (fun (w' : World) (h : Shows .u32 w' A (digs WB a)) => by
    have := short_any A (digs WB a) b c w' h (dig_digs' WB2 a) hal b0 b1
    rw [val_digs' WB2] at this; exact this)
  have HO := Lib.hid (fun w' => of_any (a % b) w' (Nat.lt_of_lt_of_le (Nat.mod_lt _ b0) (by omega)))
  have hml : a % b < 4294967296 := Nat.lt_trans (Nat.mod_lt _ b0) b1
  have HA := Lib.hid ha
  obtain ⟨bb, oo, rfl, hbb, hcell⟩ := hb (by rw [b2]; simp)
  have hx := hcell 0 (by rw [b2]; simp)
  rw [b2] at hx
  simp only [Nat.add_zero, List.getD_cons_zero] at hx
  rw [hb1] at HC ⊢
  clear ha hb hcell hb1 b2 hcmp hle
  generalize a % b = r at *
  generalize hq : a / b = q at *
  have HQ := Lib.hid hq; clear hq
  generalize cmpN a b = cm at *
  go_enter Try.func118, Try.ntmps118
  go_wp2_with fail
  refine HC.out.mono ?_
  rintro e w' ⟨rfl, n1, rfl⟩
  clear HC
  go_wp2_with fail
  refine (HS.out _ (HA.out.drewN _)).mono ?_
  rintro e w2 ⟨A2, rfl, hs2, hf2, hbl2⟩
  have HS2 := Lib.hid hs2; have HB2 := Lib.hid hbl2; clear hs2 hf2 hbl2
  go_wp2_with fail
  refine (HO.out _).mono ?_
  rintro e w3 ⟨A3, rfl, hs3, hf3, hbl3⟩
  have HS3 := Lib.hid hs3; have HB3 := Lib.hid hbl3; clear hs3 hf3 hbl3
  go_wp2_with fail
  go_ret2
  have hz : w.heap.size ≤ w2.heap.size := HB2.out.size
  have hrl : wl r ≤ 2 := wl_u64 (by omega)
  have hql : wl q ≤ wl a := digs_mono WB2 (by rw [← HQ.out]; exact Nat.div_le_self _ _)
  exact ⟨A2, wl q, A3, wl r, rfl, Nat.le_refl _, by unfold maxLen; omega, Nat.le_refl _, by unfold maxLen; omega, HS2.out.below HB3.out, HS3.out, (below_drewN (Below.refl _ _) n1).trans (HB2.out.trans (HB3.out.mono hz))⟩

/-- divide, as far as it is known -/
def DivKnown (b : Nat) : Prop := ∀ (A A' : Option Addr) (a c c' : Nat) (w : World), Shows .u32 w A (digs WB a) → Shows .u32 w A' (digs WB b) → wl a ≤ 1000000 → wl a ≤ c → c ≤ maxLen →
  Calls Try.prog 118 #[.slice A (wl a) c, .slice A' (wl b) c'] w (DivPost w a b)
theorem divKnown_one {b : Nat} (h : wl b = 1) : DivKnown b := by
  intro A A' a c c' w ha hb hal hca hc
  by_cases hlt : a < b
  · exact divide_less A A' a b c c' w ha hb hal hca hc hlt
  · exact divide_one A A' a b c c' w ha hb hal h (by omega)


/-- four variables that the call laid keep their cells while callees lay new blocks -/
theorem four_keep {w W : World} {c0 c1 c2 c3 : Array Value} {T : TypeId} (hb : Below (w.heap.size + 1 + 1 + 1 + 1) ((((w.alloc (.cells c0 T)).alloc (.cells c1 T)).alloc (.cells c2 T)).alloc (.cells c3 T)) W) :
    (∀ i, W.cell? ⟨w.heap.size, i, none⟩ = c0[i]?) ∧ (∀ i, W.cell? ⟨w.heap.size + 1, i, none⟩ = c1[i]?) ∧ (∀ i, W.cell? ⟨w.heap.size + 1 + 1, i, none⟩ = c2[i]?) ∧ (∀ i, W.cell? ⟨w.heap.size + 1 + 1 + 1, i, none⟩ = c3[i]?) ∧
    (∀ i, W.frozen? ⟨w.heap.size + 1 + 1, i, none⟩ = false) ∧ (∀ i, W.frozen? ⟨w.heap.size + 1 + 1 + 1, i, none⟩ = false) ∧ w.heap.size + 1 + 1 + 1 < W.heap.size := by
  refine ⟨fun i => ?_, fun i => ?_, fun i => ?_, fun i => ?_, fun i => ?_, fun i => ?_, ?_⟩
  · rw [hb.cell (p := ⟨w.heap.size, i, none⟩) (by simp; omega)]; simp [go_sem]
  · rw [hb.cell (p := ⟨w.heap.size + 1, i, none⟩) (by simp)]; simp [go_sem]
  · rw [hb.cell (p := ⟨w.heap.size + 1 + 1, i, none⟩) (by simp)]; simp [go_sem]
  · rw [hb.cell (p := ⟨w.heap.size + 1 + 1 + 1, i, none⟩) (by simp)]; simp [go_sem]
  · rw [hb.frozen (p := ⟨w.heap.size + 1 + 1, i, none⟩) (by simp)]; simp [go_sem]
  · rw [hb.frozen (p := ⟨w.heap.size + 1 + 1 + 1, i, none⟩) (by simp)]; simp [go_sem]
  · have := hb.size; simp at this; omega
theorem below_four {w W : World} {c0 c1 c2 c3 : Array Value} {T : TypeId} (hb : Below (w.heap.size + 1 + 1 + 1 + 1) ((((w.alloc (.cells c0 T)).alloc (.cells c1 T)).alloc (.cells c2 T)).alloc (.cells c3 T)) W) : Below w.heap.size w W := by
  refine Below.trans ?_ (hb.mono (by omega))
  exact ((((Below.refl _ _).alloc (Nat.le_refl _) _).alloc (by simp) _).alloc (by simp; omega) _).alloc (by simp; omega) _

set_option maxHeartbeats 1000000 in
/-- DivMod by zero -/
theorem DivMod_zero (bx by' : Bool) (A A' : Option Addr) (xs ys : List Nat) (c c' : Nat) (w : World) (hy : Shows .u32 w A' ys) (dy : Dig WB ys) (hcy : ys.length ≤ c') (hcy2 : c' ≤ maxLen) (h0 : val WB ys = 0) :
    Calls Try.prog 47 #[.agg #[.bool bx, .slice A xs.length c], .agg #[.bool by', .slice A' ys.length c']] w fun e w' =>
      e = .returned (.tuple #[.agg #[.bool false, .slice none 0 0], .agg #[.bool false, .slice none 0 0], .int .i64 10]) ∧ Below w.heap.size w w' := by
  have HS := Lib.hid (fun w' (h : Shows .u32 w' A' ys) => h0 ▸ size_any by' A' ys c' w' h dy hcy hcy2)
  have HY := Lib.hid hy
  clear hy dy hcy hcy2 h0
  go_enter Try.func47, Try.ntmps47
  go_wp2_with fail
  refine (HS.out _ ((((HY.out.alloc _).alloc _).alloc _).alloc _)).mono ?_
  rintro e W1 ⟨rfl, hb1⟩
  simp only [World.size_alloc] at hb1
  obtain ⟨k0, k1, k2, k3, f2, f3, hz⟩ := four_keep hb1
  have HB := Lib.hid (below_four hb1)
  clear hb1
  go_wp2_with fail
  refine bodyPost_ret (v := .tuple #[.agg #[.bool false, .slice none 0 0], .agg #[.bool false, .slice none 0 0], .int .i64 10]) (by simp [results, Try.results47, go_sem, k2, k3]) rfl ?_
  exact ⟨rfl, ((((HB.out.setCell (p := ⟨w.heap.size + 1 + 1, 0, none⟩) (by simp; omega) _).setCell (p := ⟨w.heap.size + 1 + 1, 1, none⟩) (by simp; omega) _).setCell (p := ⟨w.heap.size + 1 + 1 + 1, 0, none⟩) (by simp; omega) _).setCell (p := ⟨w.heap.size + 1 + 1 + 1, 1, none⟩) (by simp; omega) _)⟩
end Go.Proofs.Ytmlkiddkgikdhaa
