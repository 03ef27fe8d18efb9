/- The law AlgebraTexts answers true at all elements and texts. -/
import Derived.Test.YtimdkjbmeogpoaaGreatDoorTPps
import Derived.Test.YtimdkjbmeogpoaaGreatDoorTRpz
import Derived.Test.YtimdkjbmeogpoaaGreatDoorTAw30
namespace Go.Proofs.YtimdkjbmeogpoaaGreatDoor
open Go.RowKit FF
def Tx (s : List UInt8) (q : Qt) : Prop := qB q = true ∧ nrm q = q ∧ fmtN q = s
theorem qB_d {q : Qt} (h : qB q = true) : q.d ≠ 0 := by have := (qB_iff.1 h).2.2.2.2; omega
theorem Tx.ofC {s : List UInt8} (h : parC s) : Tx s (candR' s) := by
  obtain ⟨h1, h2, h3⟩ := h
  exact ⟨h1, h2, by unfold fmtQ at h3; rw [h2] at h3; exact h3⟩
theorem Tx.ofP {s : List UInt8} (h : parP s) : Tx s (nrm (candQ s)) := ⟨qB_nrm h.1, nrm_nrm (qB_d h.1), h.2⟩
theorem Tx.c {s : List UInt8} {q : Qt} (h : Tx s q) : parC s ∧ candR' s = q := by
  obtain ⟨h1, h2, h3⟩ := h
  have e : candR' s = q := by rw [← h3]; exact candR_fmt h1
  exact ⟨by unfold parC; rw [e]; exact ⟨h1, h2, by unfold fmtQ; rw [h2]; exact h3⟩, e⟩
theorem Tx.p {s : List UInt8} {q : Qt} (h : Tx s q) : parP s ∧ nrm (candQ s) = q := by
  obtain ⟨h1, h2, h3⟩ := h
  have e : candQ s = q := by rw [← h3]; exact candQ_fmt h1
  exact ⟨by unfold parP; rw [e]; exact ⟨h1, by unfold fmtQ; rw [h2]; exact h3⟩, by rw [e]; exact h2⟩
theorem par_iff {s : List UInt8} : parC s ↔ parP s := ⟨fun h => (Tx.ofC h).p.1, fun h => (Tx.ofP h).c.1⟩
theorem Tx.fmt {q : Qt} (h : qB q = true) : Tx (fmtQ q) (nrm q) := ⟨qB_nrm h, nrm_nrm (qB_d h), rfl⟩
theorem fmtQ_len {q : Qt} (h : qB q = true) : (fmtQ q).length ≤ 100 := fmtN_len (qB_nrm h)
def ParR (s : List UInt8) (q : Qt) (E : Int) : Prop := ∀ w, Calls Tryz.prog 19 #[.string ⟨s.toArray⟩] w fun e w' => e = .returned (.tuple #[qv q, .int .i64 E]) ∧ Below w.heap.size w w'
def ParQ (s : List UInt8) (q : Qt) (E : Int) : Prop := ∀ w, Ev w → Calls Tryz.prog 17 #[.string ⟨s.toArray⟩] w fun e w' => e = .returned (.tuple #[qv q, .int .i64 E]) ∧ Below w.heap.size w w'
set_option maxHeartbeats 4000000 in
set_option maxRecDepth 100000 in
theorem Parse_long (s : List UInt8) (w : World) (h : 200 < s.length) :
    Calls Tryz.prog 17 #[.string ⟨s.toArray⟩] w fun e w' => e = .returned (.tuple #[qv Qt.zero, .int .i64 8]) ∧ Below w.heap.size w w' := by
  have d1 : (200 : Int) < (s.length : Int) := by omega
  go_enter Tryz.func17, Tryz.ntmps17
  go_wp2_with fail
  have hB := (Below.refl w.heap.size w).alloc (Nat.le_refl _) (.cells #[.int .i64 0, .int .i64 0, .int .i64 0, .int .i64 0, .int .i64 0] 35)
  refine bodyPost_ret (v := .tuple #[.agg #[.int .i64 0, .int .i64 0, .int .i64 0, .int .i64 0, .int .i64 0], .int .i64 8]) (by simp [results, Tryz.results17, go_sem]) rfl ?_
  exact ⟨rfl, hB⟩
theorem parse_both (s : List UInt8) : ∃ q E, ParR s q E ∧ ParQ s q E := by
  by_cases hl : 200 < s.length
  · exact ⟨Qt.zero, 8, fun w => rParse_long s w hl, fun w _ => Parse_long s w hl⟩
  obtain ⟨c0, c1, c2, c3, c4, hc⟩ : ∃ c0 c1 c2 c3 c4, candR' s = ⟨c0, c1, c2, c3, c4⟩ := ⟨_, _, _, _, _, rfl⟩
  obtain ⟨d0, d1, d2, d3, d4, hd⟩ : ∃ c0 c1 c2 c3 c4, candQ s = ⟨c0, c1, c2, c3, c4⟩ := ⟨_, _, _, _, _, rfl⟩
  by_cases hp : parC s
  · refine ⟨candR' s, 0, fun w => (rParse_walk s w (by omega) c0 c1 c2 c3 c4 hc).mono ?_, fun w hE => (Parse_walk s w (by omega) hE d0 d1 d2 d3 d4 hd).mono ?_⟩
    · rintro e w' ⟨⟨q, E, rfl, h⟩, hb⟩
      rcases h with ⟨-, rfl, rfl⟩ | ⟨h, -⟩
      · exact ⟨rfl, hb⟩
      · exact absurd hp h
    · rintro e w' ⟨⟨q, E, rfl, h⟩, hb⟩
      rcases h with ⟨h, rfl, rfl⟩ | ⟨h, -⟩
      · rw [(Tx.ofC hp).p.2]; exact ⟨rfl, hb⟩
      · exact absurd (par_iff.1 hp) h
  · refine ⟨Qt.zero, 7, fun w => (rParse_walk s w (by omega) c0 c1 c2 c3 c4 hc).mono ?_, fun w hE => (Parse_walk s w (by omega) hE d0 d1 d2 d3 d4 hd).mono ?_⟩
    · rintro e w' ⟨⟨q, E, rfl, h⟩, hb⟩
      rcases h with ⟨h, -⟩ | ⟨-, rfl, rfl⟩
      · exact absurd h hp
      · exact ⟨rfl, hb⟩
    · rintro e w' ⟨⟨q, E, rfl, h⟩, hb⟩
      rcases h with ⟨h, -⟩ | ⟨-, rfl, rfl⟩
      · exact absurd (par_iff.2 h) hp
      · exact ⟨rfl, hb⟩
theorem parse_text {q : Qt} (h : qB q = true) : ParQ (fmtQ q) (nrm q) 0 := by
  have ht := (Tx.fmt h).p
  have hl := fmtQ_len h
  obtain ⟨d0, d1, d2, d3, d4, hd⟩ : ∃ c0 c1 c2 c3 c4, candQ (fmtQ q) = ⟨c0, c1, c2, c3, c4⟩ := ⟨_, _, _, _, _, rfl⟩
  refine fun w hE => (Parse_walk (fmtQ q) w (by omega) hE d0 d1 d2 d3 d4 hd).mono ?_
  rintro e w' ⟨⟨p, E, rfl, g⟩, hb⟩
  rcases g with ⟨-, rfl, rfl⟩ | ⟨g, -⟩
  · rw [ht.2]; exact ⟨rfl, hb⟩
  · exact absurd ht.1 g
theorem same_refl (p0 p1 p2 p3 p4 e : Int) (w : World) :
    Calls Tryz.prog 20 #[.agg #[.int .i64 p0, .int .i64 p1, .int .i64 p2, .int .i64 p3, .int .i64 p4], .int .i64 e, .agg #[.int .i64 p0, .int .i64 p1, .int .i64 p2, .int .i64 p3, .int .i64 p4], .int .i64 e] w fun r w' => r = .returned (.bool true) ∧ Below w.heap.size w w' := by
  go_enter Tryz.func20, Tryz.ntmps20
  go_wp2_with fail
  go_ret
  exact ⟨rfl, below_2 _ _⟩
set_option maxHeartbeats 4000000 in
set_option maxRecDepth 100000 in
theorem AlgebraTexts_law (p0 p1 p2 p3 p4 : Int) (s : List UInt8) (w : World) (hE : Ev w) :
    Calls Tryz.prog 5 #[.agg #[.int .i64 p0, .int .i64 p1, .int .i64 p2, .int .i64 p3, .int .i64 p4], .string ⟨s.toArray⟩] w fun e w' => e = .returned (.bool true) ∧ Below w.heap.size w w' := by
  have HA := Lib.hid awake3_any
  have HW := Lib.hid (show ∀ W, Below w.heap.size w W → Ev W from fun W h => hE.at h)
  obtain ⟨rq, RE, hr1, hr2⟩ := parse_both s
  obtain ⟨r0, r1, r2, r3, r4⟩ := rq
  have HPr := Lib.hid hr1; have HPs := Lib.hid hr2
  unfold ParR qv at HPr; unfold ParQ qv at HPs
  have HSm := Lib.hid (fun w => same_refl r0 r1 r2 r3 r4 RE w)
  clear hr1 hr2 hE
  by_cases h3 : 300 < s.length
  · have d1 : (300 : Int) < (s.length : Int) := by omega
    clear h3
    go_enter Tryz.func5, Tryz.ntmps5
    go_upto_region 1 with fail
    obtain ⟨W0, hW0⟩ : ∃ W0 : World, W0 = (w.alloc (.cells #[.int .i64 p0, .int .i64 p1, .int .i64 p2, .int .i64 p3, .int .i64 p4] 35)) := ⟨_, rfl⟩
    rw [← hW0]
    have HB0 := Lib.hid (show Bx w [(w.heap.size, #[.int .i64 p0, .int .i64 p1, .int .i64 p2, .int .i64 p3, .int .i64 p4])] W0 by rw [hW0]; simpa using ((Bx.nil (Below.refl w.heap.size w)).new #[.int .i64 p0, .int .i64 p1, .int .i64 p2, .int .i64 p3, .int .i64 p4] 35))
    clear hW0
    go_wp2_with fail
    refine (HA.out _).mono ?_
    rintro e1 w1 ⟨rfl, hbb⟩
    have HB1 := Lib.hid (HB0.out.keep hbb)
    clear hbb HB0
    go_wp2_with fail
    go_ret
    exact ⟨rfl, HB1.out.below⟩
  have d1 : ¬ (300 : Int) < (s.length : Int) := by omega
  clear h3
  have hF := fun W (h : Ev W) => qFormat_any ⟨p0, p1, p2, p3, p4⟩ W h.tab
  have hC := fun W => rCheckQuat_any ⟨p0, p1, p2, p3, p4⟩ W
  by_cases hq : qB ⟨p0, p1, p2, p3, p4⟩ = true
  · have hT := parse_text hq
    have hRF := fun W => rFormat_el ⟨p0, p1, p2, p3, p4⟩ W hq
    have hRN := fun W => rNormal_any ⟨p0, p1, p2, p3, p4⟩ W (fitBound_of hq) (qB_d hq)
    have hfe : fmtV ⟨p0, p1, p2, p3, p4⟩ = fmtQ ⟨p0, p1, p2, p3, p4⟩ := if_pos hq
    rw [qE_zero.2 hq, hfe] at hF
    rw [qE_zero.2 hq] at hC
    unfold ParQ at hT
    obtain ⟨T, hTe⟩ : ∃ T, fmtQ ⟨p0, p1, p2, p3, p4⟩ = T := ⟨_, rfl⟩
    obtain ⟨n0, n1, n2, n3, n4, hnn⟩ : ∃ n0 n1 n2 n3 n4, nrm ⟨p0, p1, p2, p3, p4⟩ = ⟨n0, n1, n2, n3, n4⟩ := ⟨_, _, _, _, _, rfl⟩
    rw [hTe] at hF hT hRF
    rw [hnn] at hT hRN
    unfold qv at hF hC hT hRF hRN
    have HF := Lib.hid hF; have HC := Lib.hid hC; have HT := Lib.hid hT; have HRF := Lib.hid hRF; have HRN := Lib.hid hRN
    have HNe := Lib.hid (show (n0 == n0 && (n1 == n1 && (n2 == n2 && (n3 == n3 && n4 == n4)))) = !false by simp)
    clear hF hC hT hRF hRN hfe hTe hnn hq
    go_enter Tryz.func5, Tryz.ntmps5
    go_upto_region 1 with fail
    obtain ⟨W0, hW0⟩ : ∃ W0 : World, W0 = (w.alloc (.cells #[.int .i64 p0, .int .i64 p1, .int .i64 p2, .int .i64 p3, .int .i64 p4] 35)) := ⟨_, rfl⟩
    rw [← hW0]
    have HB0 := Lib.hid (show Bx w [(w.heap.size, #[.int .i64 p0, .int .i64 p1, .int .i64 p2, .int .i64 p3, .int .i64 p4])] W0 by rw [hW0]; simpa using ((Bx.nil (Below.refl w.heap.size w)).new #[.int .i64 p0, .int .i64 p1, .int .i64 p2, .int .i64 p3, .int .i64 p4] 35))
    clear hW0
    go_wp2_with fail
    refine (HA.out _).mono ?_
    rintro e1 w1 ⟨rfl, hbb⟩
    have HB1 := Lib.hid (HB0.out.keep hbb)
    clear hbb HB0
    obtain ⟨c0_0, c0_1, c0_2, c0_3, c0_4⟩ := HB1.out.five (List.mem_cons_self ..)
    go_wp2_with fail
    refine (HF.out _ (HW.out _ HB1.out.below)).mono ?_
    rintro e2 w2 ⟨rfl, hbb⟩
    have HB2 := Lib.hid (HB1.out.keep hbb)
    clear c0_0 c0_1 c0_2 c0_3 c0_4
    clear hbb HB1
    obtain ⟨c0_0, c0_1, c0_2, c0_3, c0_4⟩ := HB2.out.five (List.mem_cons_self ..)
    go_wp2_with fail
    refine (HC.out _).mono ?_
    rintro e3 w3 ⟨rfl, hbb⟩
    have HB3 := Lib.hid (HB2.out.keep hbb)
    clear c0_0 c0_1 c0_2 c0_3 c0_4
    clear hbb HB2
    go_wp2_with fail
    refine (HT.out _ (HW.out _ HB3.out.below)).mono ?_
    rintro e4 w4 ⟨rfl, hbb⟩
    have HB4 := Lib.hid (HB3.out.keep hbb)
    clear hbb HB3
    go_upto_region 11 with fail
    obtain ⟨V1, hV1⟩ : ∃ V1 : World, V1 = w4.alloc (.cells #[.int .i64 n0, .int .i64 n1, .int .i64 n2, .int .i64 n3, .int .i64 n4] 35) := ⟨_, rfl⟩
    rw [← hV1]
    have HV1 := Lib.hid (show Bx w [(w4.heap.size, #[.int .i64 n0, .int .i64 n1, .int .i64 n2, .int .i64 n3, .int .i64 n4]), (w.heap.size, #[.int .i64 p0, .int .i64 p1, .int .i64 p2, .int .i64 p3, .int .i64 p4])] V1 from hV1 ▸ HB4.out.new _ _)
    have hlt1 := HB4.out.lt (List.mem_cons_self ..)
    clear hV1 HB4
    generalize w4.heap.size = B1 at *
    refine wp_region_val [(0, 40, VC (.int .i64 0)), (1, 41, VC (.bool false)), (2, 42, VC (.bool false)), (3, 43, VC (.string ⟨T.toArray⟩)), (4, 44, VC (.agg #[.int .i64 p0, .int .i64 p1, .int .i64 p2, .int .i64 p3, .int .i64 p4])), (5, 45, VC (.string ⟨T.toArray⟩)), (6, 46, VC (.bool false)), (7, 47, VC (.bool false)), (8, 48, VC (.bool false)), (9, 49, VC (.int .i64 0)), (10, 50, VC (.bool false)), (11, 51, VC (.bool false)), (12, 52, VC (.bool false)), (13, 53, VC (.agg #[.int .i64 n0, .int .i64 n1, .int .i64 n2, .int .i64 n3, .int .i64 n4])), (14, 54, VC (.agg #[.int .i64 p0, .int .i64 p1, .int .i64 p2, .int .i64 p3, .int .i64 p4])), (15, 55, VC (.agg #[.int .i64 n0, .int .i64 n1, .int .i64 n2, .int .i64 n3, .int .i64 n4])), (16, 56, VC (.bool false)), (17, 57, VC (.bool false))] (fun W => Bx w [(B1, #[.int .i64 n0, .int .i64 n1, .int .i64 n2, .int .i64 n3, .int .i64 n4]), (w.heap.size, #[.int .i64 p0, .int .i64 p1, .int .i64 p2, .int .i64 p3, .int .i64 p4])] W) [40, 41, 42, 43, 44, 45, 46, 47, 48, 49, 50, 51, 52, 53, 54, 55, 56, 57] (by kernel_rfl) (by kernel_rfl) (by kernel_rfl) ⟨Keeps.vc _, Keeps.vc _, Keeps.vc _, Keeps.vc _, Keeps.vc _, Keeps.vc _, Keeps.vc _, Keeps.vc _, Keeps.vc _, Keeps.vc _, Keeps.vc _, Keeps.vc _, Keeps.vc _, Keeps.vc _, Keeps.vc _, Keeps.vc _, Keeps.vc _, Keeps.vc _, trivial⟩ (fun _ _ _ h hb => h.keep hb) HV1.out (forall_ops ⟨?_, ?_, ?_, ?_, ?_, ?_, ?_, ?_, ?_, ?_, ?_, ?_, ?_, ?_, ?_, ?_, ?_, ?_, trivial⟩) ?_
    · exact .of rfl rfl fun _ _ _ _ _ _ => .move rfl (fr_out (v := .int .i64 0) (by kernel_rfl) (by kernel_rfl)) rfl
    · exact .of rfl rfl fun _ _ _ _ hV _ => .binOp (r := .int .i64 0) rfl ((fr_in (by kernel_rfl)).trans (hget hV 0 rfl (by kernel_rfl))) rfl (by simp [go_sem, eqGuard]) rfl
    · exact .of rfl rfl fun _ _ _ _ hV _ => .move rfl ((fr_in (by kernel_rfl)).trans (hget hV 1 rfl (by kernel_rfl))) rfl
    · exact .on (b := false) rfl (by kernel_rfl) rfl rfl fun _ _ _ _ _ _ => .move rfl (fr_out (v := .string ⟨T.toArray⟩) (by kernel_rfl) (by kernel_rfl)) rfl
    · exact .on (b := false) rfl (by kernel_rfl) rfl rfl fun _ _ _ hE _ _ => .loadAll (g := w.heap.size) (vs := #[.int .i64 p0, .int .i64 p1, .int .i64 p2, .int .i64 p3, .int .i64 p4]) rfl (fr_out (v := .pointer (some ⟨w.heap.size, 0, none⟩)) (by kernel_rfl) (by kernel_rfl)) (hE.own _ (List.mem_cons_of_mem _ (List.mem_cons_self ..))).2 rfl Tryz.underlying35 rfl (by kernel_rfl) rfl
    · exact .on (b := false) rfl (by kernel_rfl) rfl rfl fun _ W _ _ hV _ => .call Tryz.func18 (by kernel_rfl) rfl rfl rfl (map_one ((fr_in (by kernel_rfl)).trans (hget hV 4 rfl (by kernel_rfl)))) (pw (HRF.out W))
    · exact .on (b := false) rfl (by kernel_rfl) rfl rfl fun _ _ _ _ hV _ => .binOp rfl ((fr_in (by kernel_rfl)).trans (hget hV 3 rfl (by kernel_rfl))) ((fr_in (by kernel_rfl)).trans (hget hV 5 rfl (by kernel_rfl))) (by simp [go_sem, eqGuard]) rfl
    · exact .of rfl rfl fun _ _ _ _ hV _ => .pick (b := false) rfl ((fr_in (by kernel_rfl)).trans (hget hV 2 rfl (by kernel_rfl))) ((fr_in (by kernel_rfl)).trans (hget hV 6 rfl (by kernel_rfl))) rfl
    · exact .of rfl rfl fun _ _ _ _ hV _ => .move rfl ((fr_in (by kernel_rfl)).trans (hget hV 7 rfl (by kernel_rfl))) rfl
    · exact .on (b := false) rfl (by kernel_rfl) rfl rfl fun _ _ _ _ _ _ => .move rfl (fr_out (v := .int .i64 0) (by kernel_rfl) (by kernel_rfl)) rfl
    · exact .on (b := false) rfl (by kernel_rfl) rfl rfl fun _ _ _ _ hV _ => .binOp (r := .int .i64 0) rfl ((fr_in (by kernel_rfl)).trans (hget hV 9 rfl (by kernel_rfl))) rfl (by simp [go_sem, eqGuard]) rfl
    · exact .of rfl rfl fun _ _ _ _ hV _ => .pick (b := false) rfl ((fr_in (by kernel_rfl)).trans (hget hV 8 rfl (by kernel_rfl))) ((fr_in (by kernel_rfl)).trans (hget hV 10 rfl (by kernel_rfl))) rfl
    · exact .of rfl rfl fun _ _ _ _ hV _ => .move rfl ((fr_in (by kernel_rfl)).trans (hget hV 11 rfl (by kernel_rfl))) rfl
    · exact .on (b := false) rfl (by kernel_rfl) rfl rfl fun _ _ _ hE _ _ => .loadAll (g := B1) (vs := #[.int .i64 n0, .int .i64 n1, .int .i64 n2, .int .i64 n3, .int .i64 n4]) rfl (fr_out (v := .pointer (some ⟨B1, 0, none⟩)) (by kernel_rfl) (by kernel_rfl)) (hE.own _ (List.mem_cons_self ..)).2 rfl Tryz.underlying35 rfl (by kernel_rfl) rfl
    · exact .on (b := false) rfl (by kernel_rfl) rfl rfl fun _ _ _ hE _ _ => .loadAll (g := w.heap.size) (vs := #[.int .i64 p0, .int .i64 p1, .int .i64 p2, .int .i64 p3, .int .i64 p4]) rfl (fr_out (v := .pointer (some ⟨w.heap.size, 0, none⟩)) (by kernel_rfl) (by kernel_rfl)) (hE.own _ (List.mem_cons_of_mem _ (List.mem_cons_self ..))).2 rfl Tryz.underlying35 rfl (by kernel_rfl) rfl
    · exact .on (b := false) rfl (by kernel_rfl) rfl rfl fun _ W _ _ hV _ => .call Tryz.func14 (by kernel_rfl) rfl rfl rfl (map_one ((fr_in (by kernel_rfl)).trans (hget hV 14 rfl (by kernel_rfl)))) (pw (HRN.out W))
    · exact .on (b := false) rfl (by kernel_rfl) rfl rfl fun _ _ _ _ hV _ => .binOp rfl ((fr_in (by kernel_rfl)).trans (hget hV 13 rfl (by kernel_rfl))) ((fr_in (by kernel_rfl)).trans (hget hV 15 rfl (by kernel_rfl))) (neq5_run HNe.out _ _ _) rfl
    · exact .of rfl rfl fun _ _ _ _ hV _ => .pick (b := false) rfl ((fr_in (by kernel_rfl)).trans (hget hV 12 rfl (by kernel_rfl))) ((fr_in (by kernel_rfl)).trans (hget hV 16 rfl (by kernel_rfl))) rfl
    intro y W8 _ hE2 hV
    have y57 := hend hV 17 rfl
    have HB8 := Lib.hid hE2
    generalize hact : fr _ _ y = act
    simp only [fr, putAll, List.foldl_cons, List.foldl_nil, List.setIfInBounds_toArray, List.set_cons_zero, List.set_cons_succ] at hact
    rw [show y 57 = _ from y57] at hact
    subst hact
    clear hE2 hV y57 HV1
    go_upto_region 13 with fail
    go_wp2_with fail
    refine (HPs.out _ (HW.out _ HB8.out.below)).mono ?_
    rintro e5 w5 ⟨rfl, hbb⟩
    have HB5 := Lib.hid (HB8.out.keep hbb)
    clear hbb HB8
    go_upto_region 14 with fail
    obtain ⟨V2, hV2⟩ : ∃ V2 : World, V2 = w5.alloc (.cells #[.int .i64 r0, .int .i64 r1, .int .i64 r2, .int .i64 r3, .int .i64 r4] 35) := ⟨_, rfl⟩
    rw [← hV2]
    have HV2 := Lib.hid (show Bx w [(w5.heap.size, #[.int .i64 r0, .int .i64 r1, .int .i64 r2, .int .i64 r3, .int .i64 r4]), (B1, #[.int .i64 n0, .int .i64 n1, .int .i64 n2, .int .i64 n3, .int .i64 n4]), (w.heap.size, #[.int .i64 p0, .int .i64 p1, .int .i64 p2, .int .i64 p3, .int .i64 p4])] V2 from hV2 ▸ HB5.out.new _ _)
    have hlt2 := HB5.out.lt (List.mem_cons_self ..)
    clear hV2 HB5
    generalize w5.heap.size = B2 at *
    go_wp2_with fail
    refine (HPr.out _).mono ?_
    rintro e6 w6 ⟨rfl, hbb⟩
    have HB6 := Lib.hid (HV2.out.keep hbb)
    clear hbb HV2
    go_upto_region 15 with fail
    obtain ⟨V3, hV3⟩ : ∃ V3 : World, V3 = w6.alloc (.cells #[.int .i64 r0, .int .i64 r1, .int .i64 r2, .int .i64 r3, .int .i64 r4] 35) := ⟨_, rfl⟩
    rw [← hV3]
    have HV3 := Lib.hid (show Bx w [(w6.heap.size, #[.int .i64 r0, .int .i64 r1, .int .i64 r2, .int .i64 r3, .int .i64 r4]), (B2, #[.int .i64 r0, .int .i64 r1, .int .i64 r2, .int .i64 r3, .int .i64 r4]), (B1, #[.int .i64 n0, .int .i64 n1, .int .i64 n2, .int .i64 n3, .int .i64 n4]), (w.heap.size, #[.int .i64 p0, .int .i64 p1, .int .i64 p2, .int .i64 p3, .int .i64 p4])] V3 from hV3 ▸ HB6.out.new _ _)
    have hlt3 := HB6.out.lt (List.mem_cons_self ..)
    clear hV3 HB6
    generalize w6.heap.size = B3 at *
    obtain ⟨c0_0, c0_1, c0_2, c0_3, c0_4⟩ := HV3.out.five (List.mem_cons_self ..)
    obtain ⟨c1_0, c1_1, c1_2, c1_3, c1_4⟩ := HV3.out.five (List.mem_cons_of_mem _ (List.mem_cons_self ..))
    go_wp2_with fail
    refine (HSm.out _).mono ?_
    rintro e7 w7 ⟨rfl, hbb⟩
    have HB7 := Lib.hid (HV3.out.keep hbb)
    clear c0_0 c0_1 c0_2 c0_3 c0_4 c1_0 c1_1 c1_2 c1_3 c1_4
    clear hbb HV3
    go_wp2_with fail
    go_ret
    exact ⟨rfl, HB7.out.below⟩
  · have hq3 : qE ⟨p0, p1, p2, p3, p4⟩ = 3 := by unfold qE; rw [if_neg hq]
    have hfe : fmtV ⟨p0, p1, p2, p3, p4⟩ = [] := if_neg hq
    rw [hq3, hfe] at hF
    rw [hq3] at hC
    unfold qv at hF hC
    have HF := Lib.hid hF; have HC := Lib.hid hC
    clear hF hC hfe hq3 hq
    go_enter Tryz.func5, Tryz.ntmps5
    go_upto_region 1 with fail
    obtain ⟨W0, hW0⟩ : ∃ W0 : World, W0 = (w.alloc (.cells #[.int .i64 p0, .int .i64 p1, .int .i64 p2, .int .i64 p3, .int .i64 p4] 35)) := ⟨_, rfl⟩
    rw [← hW0]
    have HB0 := Lib.hid (show Bx w [(w.heap.size, #[.int .i64 p0, .int .i64 p1, .int .i64 p2, .int .i64 p3, .int .i64 p4])] W0 by rw [hW0]; simpa using ((Bx.nil (Below.refl w.heap.size w)).new #[.int .i64 p0, .int .i64 p1, .int .i64 p2, .int .i64 p3, .int .i64 p4] 35))
    clear hW0
    go_wp2_with fail
    refine (HA.out _).mono ?_
    rintro e1 w1 ⟨rfl, hbb⟩
    have HB1 := Lib.hid (HB0.out.keep hbb)
    clear hbb HB0
    obtain ⟨c0_0, c0_1, c0_2, c0_3, c0_4⟩ := HB1.out.five (List.mem_cons_self ..)
    go_wp2_with fail
    refine (HF.out _ (HW.out _ HB1.out.below)).mono ?_
    rintro e2 w2 ⟨rfl, hbb⟩
    have HB2 := Lib.hid (HB1.out.keep hbb)
    clear c0_0 c0_1 c0_2 c0_3 c0_4
    clear hbb HB1
    obtain ⟨c0_0, c0_1, c0_2, c0_3, c0_4⟩ := HB2.out.five (List.mem_cons_self ..)
    go_wp2_with fail
    refine (HC.out _).mono ?_
    rintro e3 w3 ⟨rfl, hbb⟩
    have HB3 := Lib.hid (HB2.out.keep hbb)
    clear c0_0 c0_1 c0_2 c0_3 c0_4
    clear hbb HB2
    go_upto_region 13 with fail
    go_wp2_with fail
    refine (HPs.out _ (HW.out _ HB3.out.below)).mono ?_
    rintro e4 w4 ⟨rfl, hbb⟩
    have HB4 := Lib.hid (HB3.out.keep hbb)
    clear hbb HB3
    go_upto_region 14 with fail
    obtain ⟨V1, hV1⟩ : ∃ V1 : World, V1 = w4.alloc (.cells #[.int .i64 r0, .int .i64 r1, .int .i64 r2, .int .i64 r3, .int .i64 r4] 35) := ⟨_, rfl⟩
    rw [← hV1]
    have HV1 := Lib.hid (show Bx w [(w4.heap.size, #[.int .i64 r0, .int .i64 r1, .int .i64 r2, .int .i64 r3, .int .i64 r4]), (w.heap.size, #[.int .i64 p0, .int .i64 p1, .int .i64 p2, .int .i64 p3, .int .i64 p4])] V1 from hV1 ▸ HB4.out.new _ _)
    have hlt1 := HB4.out.lt (List.mem_cons_self ..)
    clear hV1 HB4
    generalize w4.heap.size = B1 at *
    go_wp2_with fail
    refine (HPr.out _).mono ?_
    rintro e5 w5 ⟨rfl, hbb⟩
    have HB5 := Lib.hid (HV1.out.keep hbb)
    clear hbb HV1
    go_upto_region 15 with fail
    obtain ⟨V2, hV2⟩ : ∃ V2 : World, V2 = w5.alloc (.cells #[.int .i64 r0, .int .i64 r1, .int .i64 r2, .int .i64 r3, .int .i64 r4] 35) := ⟨_, rfl⟩
    rw [← hV2]
    have HV2 := Lib.hid (show Bx w [(w5.heap.size, #[.int .i64 r0, .int .i64 r1, .int .i64 r2, .int .i64 r3, .int .i64 r4]), (B1, #[.int .i64 r0, .int .i64 r1, .int .i64 r2, .int .i64 r3, .int .i64 r4]), (w.heap.size, #[.int .i64 p0, .int .i64 p1, .int .i64 p2, .int .i64 p3, .int .i64 p4])] V2 from hV2 ▸ HB5.out.new _ _)
    have hlt2 := HB5.out.lt (List.mem_cons_self ..)
    clear hV2 HB5
    generalize w5.heap.size = B2 at *
    obtain ⟨c0_0, c0_1, c0_2, c0_3, c0_4⟩ := HV2.out.five (List.mem_cons_self ..)
    obtain ⟨c1_0, c1_1, c1_2, c1_3, c1_4⟩ := HV2.out.five (List.mem_cons_of_mem _ (List.mem_cons_self ..))
    go_wp2_with fail
    refine (HSm.out _).mono ?_
    rintro e6 w6 ⟨rfl, hbb⟩
    have HB6 := Lib.hid (HV2.out.keep hbb)
    clear c0_0 c0_1 c0_2 c0_3 c0_4 c1_0 c1_1 c1_2 c1_3 c1_4
    clear hbb HV2
    go_wp2_with fail
    go_ret
    exact ⟨rfl, HB6.out.below⟩
end Go.Proofs.YtimdkjbmeogpoaaGreatDoor
