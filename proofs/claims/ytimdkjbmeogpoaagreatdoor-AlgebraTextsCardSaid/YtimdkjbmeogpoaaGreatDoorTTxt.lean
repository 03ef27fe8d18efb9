/- Texts of elements: what the program writes. -/
import Derived.Test.YtimdkjbmeogpoaaGreatDoorTAw30
import Derived.Test.YtimdkjbmeogpoaaGreatDoorTTxq
import Derived.Maps.AppendAt
import Derived.Lib.Repeat
import Derived.Sort.Grow
import Derived.Deep.Cut
import Derived.Lib.AppendIntMem
import Derived.Lib.Join
namespace Go.Proofs.YtimdkjbmeogpoaaGreatDoor
open Go.RowKit FF
def Ptab (w : World) : Prop := Lib.TabBelow Tryz.prog w.heap.size w "internal/strconv.uint64pow10" .u64 Lib.pow10Tab
theorem Ptab.at {w W : World} (h : Ptab w) (hb : Below w.heap.size w W) : Ptab W := fun w' h' => h.on hb w' (h'.mono hb.size)
theorem Bl.keep {B b : Nat} {l : List UInt8} {w w' : World} (h : Bl B b l w) (hb : Below w.heap.size w w') : Bl B b l w' := by
  have key : ∀ p, Lib.BuilderAt 135 5 B b p (Lib.byteCells l) w → Lib.BuilderAt 135 5 B b p (Lib.byteCells l) w' := by
    rintro p ⟨h1, v, h2, h3, h4⟩
    refine ⟨h1, v, by rw [hb.block _ (Array.getElem?_eq_some_iff.1 h2).1]; exact h2, ⟨h3.1, ?_⟩, h4⟩
    rcases h3.2 with h0 | ⟨g, cap, cur, k1, k2, k3, k4⟩
    · exact .inl h0
    · exact .inr ⟨g, cap, cur, k1, k2, by rw [hb.block _ (Array.getElem?_eq_some_iff.1 k3).1]; exact k3, k4⟩
  exact ⟨h.1.elim (fun x => .inl (key _ x)) (fun x => .inr (key _ x)), Nat.le_trans h.2 hb.size⟩
theorem itoa_any {W : World} (m : Nat) (h : Ptab W) (hm : m ≤ 1000000000) : Calls Tryz.prog 50 #[.int .i64 (m : Int)] W fun e w' => e = .returned (.string ⟨(Lib.decDigits m).toArray⟩) ∧ Below W.heap.size W w' :=
  (Tryz.strconv_Itoa (m : Int) (by omega) (by omega) W h.here).mono fun e w' h => by
    obtain ⟨rfl, k, os, rfl⟩ := h
    exact ⟨by rw [Lib.itoa_nonneg], ⟨rfl, rfl, rfl, by simp [Sort.grow], fun j hj => by
      show (W.heap ++ os)[j]? = W.heap[j]?
      rw [Array.getElem?_append_left hj]⟩⟩
theorem abs_keep (n : Int) (w : World) (h1 : -9223372036854775807 ≤ n) (h2 : n ≤ 9223372036854775807) :
    Calls Tryz.prog 81 #[.int .i64 n] w fun e w' => e = .returned (.int .i64 (n.natAbs : Int)) ∧ Below w.heap.size w w' :=
  (qabs_any n w h1 h2).mono fun _ _ ⟨he, m, hw⟩ => ⟨he, hw ▸ below_drewN (Below.refl _ _) m⟩
def tx (cf : Nat → Int) : Nat → List UInt8
  | 0 => []
  | k + 1 => trm (tx cf k) (cf k) k
def cf4 (a b c d : Int) (k : Nat) : Int := match k with | 0 => a | 1 => b | 2 => c | _ => d
theorem tx_len (cf : Nat → Int) (h : ∀ k, -1000000 ≤ cf k ∧ cf k ≤ 1000000) : ∀ k, k ≤ 4 → (tx cf k).length ≤ 11 * k
  | 0, _ => by simp [tx]
  | k + 1, hk => by
    have ih := tx_len cf h k (by omega)
    unfold tx trm
    split
    · omega
    · rename_i h0
      have hb := bodyT_len (n := cf k) (i := k) ⟨h0, h k, by simp only; omega⟩
      have : (sepT (cf k)).length = 3 := by unfold sepT; split <;> rfl
      split
      · split <;> simp <;> omega
      · simp; omega
theorem idx_c (a b c d : Int) (k : Nat) (hk : k < 4) (w : World) : (Instr.index 84 (.agg #[.int .i64 a, .int .i64 b, .int .i64 c, .int .i64 d]) (.int .i64 (k : Int))).run Tryz.prog w = .ok (.int .i64 (cf4 a b c d k)) w := by
  obtain rfl | rfl | rfl | rfl : k = 0 ∨ k = 1 ∨ k = 2 ∨ k = 3 := by omega
  · exact run_c0 _ _ _ _ w
  · exact run_c1 _ _ _ _ w
  · exact run_c2 _ _ _ _ w
  · exact run_c3 _ _ _ _ w
def lt8 (k : Nat) : UInt8 := match k with | 1 => 105 | 2 => 106 | _ => 107
theorem idx_k (k : Nat) (h0 : 0 < k) (hk : k < 4) (w : World) : (Instr.index 9 (.string ⟨#[63, 105, 106, 107]⟩) (.int .i64 (k : Int))).run Tryz.prog w = .ok (.int .u8 ((lt8 k).toNat : Int)) w := by
  obtain rfl | rfl | rfl : k = 1 ∨ k = 2 ∨ k = 3 := by omega
  · exact run_k1 w
  · exact run_k2 w
  · exact run_k3 w
theorem ltr_8 {k : Nat} (h0 : 0 < k) (hk : k < 4) : ltr k = [lt8 k] := by
  match k, h0, hk with
  | 1, _, _ => rfl
  | 2, _, _ => rfl
  | 3, _, _ => rfl
set_option maxHeartbeats 4000000 in
set_option maxRecDepth 100000 in
theorem text_cf (n0 n1 n2 n3 : Int) (tz : List UInt8) (w : World) (htab : Ptab w) (hcf : ∀ k, -1000000 ≤ cf4 n0 n1 n2 n3 k ∧ cf4 n0 n1 n2 n3 k ≤ 1000000) (hz : tz = if tx (cf4 n0 n1 n2 n3) 4 = [] then [48] else tx (cf4 n0 n1 n2 n3) 4) :
    Calls Tryz.prog 49 #[.agg #[.int .i64 n0, .int .i64 n1, .int .i64 n2, .int .i64 n3]] w fun e w' => e = .returned (.string ⟨tz.toArray⟩) ∧ Below w.heap.size w w' := by
  go_enter Tryz.func49, Tryz.ntmps49
  go_upto_region 2 with fail
  have hB := Bl.fresh (w.alloc (.cells #[.int .i64 n0, .int .i64 n1, .int .i64 n2, .int .i64 n3] 84)) (B := w.heap.size) (b := w.heap.size + 1) (by omega) (by simp) _ rfl
  have hW : Below w.heap.size w ((w.alloc (.cells #[.int .i64 n0, .int .i64 n1, .int .i64 n2, .int .i64 n3] 84)).alloc (.cells #[.pointer none, .slice none 0 0] 135)) := below_2 _ _
  have hC : Cells ((w.alloc (.cells #[.int .i64 n0, .int .i64 n1, .int .i64 n2, .int .i64 n3] 84)).alloc (.cells #[.pointer none, .slice none 0 0] 135)) w.heap.size #[.int .i64 n0, .int .i64 n1, .int .i64 n2, .int .i64 n3] := (Cells.new w _ _ rfl).keep ((Below.refl _ _).alloc (Nat.le_refl _) _)
  have HB := Lib.hid hB; have HW := Lib.hid hW; have HT := Lib.hid htab
  obtain ⟨z0, z1, z2, z3⟩ := hC.four
  clear hB hW hC htab
  generalize ((w.alloc (.cells #[.int .i64 n0, .int .i64 n1, .int .i64 n2, .int .i64 n3] 84)).alloc (.cells #[.pointer none, .slice none 0 0] 135)) = W at *
  have HCf := Lib.hid (fun (k : Nat) (hk : k < 4) => idx_c n0 n1 n2 n3 k hk)
  go_wp2_with fail
  clear z0 z1 z2 z3
  generalize cf4 n0 n1 n2 n3 = cf at *
  have HLn := Lib.hid (tx_len cf hcf); have HN := Lib.hid hcf; clear hcf
  go_loopw [7] (fun s7 wr => ∃ k : Nat, s7 = .int .i64 (k : Int) ∧ k ≤ 4 ∧ Bl w.heap.size (w.heap.size + 1) (tx cf k) wr ∧ Below w.heap.size w wr) (fun s _ => 4 - (intOf s).toNat)
  case atStart => exact ⟨0, rfl, by omega, HB.out, HW.out⟩
  case round =>
    clear HB HW
    obtain ⟨k, rfl, hk, hb, hw⟩ := hrel
    have HB := Lib.hid hb; have HW := Lib.hid hw; clear hb hw
    have hlen := HLn.out k hk
    by_cases hk4 : k < 4
    · have d1 : decide (k < 4) = true := decide_eq_true hk4
      have d2 : decide ((k : Int) < 4) = true := decide_eq_true (by omega)
      have hIx := HCf.out k hk4
      have HS := Lib.hid (show tx cf (k + 1) = trm (tx cf k) (cf k) k from rfl)
      obtain ⟨hn1, hn2⟩ := HN.out k
      clear HCf HLn HN
      generalize hR : tx cf (k + 1) = R at HS; generalize tx cf k = l at *; generalize cf k = n at *
      have HRr := Lib.hid hR; clear hR
      by_cases hn0 : n = 0
      · subst hn0
        have e0 : ((0 : Int) == 0) = true := rfl
        have HR9 := Lib.hid (show Bl w.heap.size (w.heap.size + 1) R wr by rw [HS.out]; exact HB.out)
        clear HB HS
        go_wp2_with fail
        exact ⟨⟨k + 1, by simp, by omega, by rw [HRr.out]; exact HR9.out, HW.out⟩, by simp only [intOf]; omega⟩
      have e0 : (n == 0) = false := beq_eq_false_iff_ne.2 hn0
      have HDL := Lib.hid (show (Lib.decDigits n.natAbs).length ≤ 7 from dec_len_le (by omega) (by omega))
      by_cases hl : l = []
      · have q1 : ((l.length : Int) == 0) = true := by rw [hl]; rfl
        have q2 : decide ((0 : Int) < (l.length : Int)) = false := decide_eq_false (by rw [hl]; simp)
        have q3 : (l.length == 0) = true := by rw [hl]; rfl
        have q4 : decide (0 < l.length) = false := decide_eq_false (by rw [hl]; simp)
        have HLl := Lib.hid hl; clear hl
        by_cases hng : n < 0
        · have s1 : decide (n < 0) = true := decide_eq_true hng
          have HNg := Lib.hid hng; clear hng
          go_wp2_with fail
          refine (HB.out.len rfl).mono ?_
          rintro _ wn ⟨rfl, rfl⟩
          go_wp2_with fail
          refine (HB.out.str ⟨#[45]⟩ (by show _ + 1 ≤ _; omega)).mono ?_
          rintro _ wn ⟨rfl, hb1, hbk⟩
          have HB1 := Lib.hid hb1; have HW1 := Lib.hid (HW.out.trans hbk)
          clear hb1 hbk HB HW; have HB := Lib.hid HB1.out; have HW := Lib.hid HW1.out; clear HB1 HW1
          by_cases hk0 : k = 0
          · have ek : ((k : Int) == 0) = true := by rw [hk0]; rfl
            have ek2 : (k == 0) = true := by rw [hk0]; rfl
            have g1 : decide (0 < k) = false := decide_eq_false (by omega)
            have g2 : decide ((0 : Int) < (k : Int)) = false := decide_eq_false (by omega)
            have HE := Lib.hid (show R = (l ++ [45]) ++ (Lib.decDigits n.natAbs) by rw [HS.out]; unfold trm; rw [if_neg hn0]; rw [if_pos HLl.out, if_pos HNg.out]; unfold bodyT; rw [if_pos (.inl hk0), hk0, show ltr 0 = [] from rfl]; simp)
            clear HS hk0
            go_wp2_with fail
            refine (abs_keep n _ (by omega) (by omega)).mono ?_
            rintro _ wn ⟨rfl, hbk⟩
            have HB1 := Lib.hid (HB.out.keep hbk); have HW1 := Lib.hid (HW.out.trans (hbk.mono HW.out.size))
            clear hbk HB HW; have HB := Lib.hid HB1.out; have HW := Lib.hid HW1.out; clear HB1 HW1
            go_wp2_with fail
            refine (itoa_any n.natAbs (HT.out.at HW.out) (by omega)).mono ?_
            rintro _ wn ⟨rfl, hbk⟩
            have HB1 := Lib.hid (HB.out.keep hbk); have HW1 := Lib.hid (HW.out.trans (hbk.mono HW.out.size))
            clear hbk HB HW; have HB := Lib.hid HB1.out; have HW := Lib.hid HW1.out; clear HB1 HW1
            go_wp2_with fail
            refine (HB.out.str _ (by have := HDL.out; show _ + (Lib.decDigits n.natAbs).length ≤ _; first | omega | (simp only [List.length_append]; first | omega | (simp only [List.length_cons, List.length_nil]; omega)))).mono ?_
            rintro _ wn ⟨rfl, hb1, hbk⟩
            have HB1 := Lib.hid hb1; have HW1 := Lib.hid (HW.out.trans hbk)
            clear hb1 hbk HB HW; have HB := Lib.hid HB1.out; have HW := Lib.hid HW1.out; clear HB1 HW1
            go_wp2_with fail
            have HR9 := Lib.hid (show Bl w.heap.size (w.heap.size + 1) R _ by rw [HE.out]; simpa using HB.out)
            exact ⟨⟨k + 1, by simp, by omega, by rw [HRr.out]; exact HR9.out, HW.out⟩, by simp only [intOf]; omega⟩
          · have ek : ((k : Int) == 0) = false := beq_eq_false_iff_ne.2 (by omega)
            have ek2 : (k == 0) = false := beq_eq_false_iff_ne.2 hk0
            have g1 : decide (0 < k) = true := decide_eq_true (by omega)
            have g2 : decide ((0 : Int) < (k : Int)) = true := decide_eq_true (by omega)
            have hIk := idx_k k (by omega) hk4
            by_cases ha : n.natAbs = 1
            · have ea : ((n.natAbs : Int) != 1) = false := by rw [ha]; rfl
              have HE := Lib.hid (show R = (l ++ [45]) ++ ([lt8 k]) by rw [HS.out]; unfold trm; rw [if_neg hn0]; rw [if_pos HLl.out, if_pos HNg.out]; unfold bodyT; rw [if_neg (by omega), ltr_8 (by omega) hk4]; simp)
              clear HS
              go_wp2_with fail
              refine (abs_keep n _ (by omega) (by omega)).mono ?_
              rintro _ wn ⟨rfl, hbk⟩
              have HB1 := Lib.hid (HB.out.keep hbk); have HW1 := Lib.hid (HW.out.trans (hbk.mono HW.out.size))
              clear hbk HB HW; have HB := Lib.hid HB1.out; have HW := Lib.hid HW1.out; clear HB1 HW1
              go_wp2_with fail
              refine (HB.out.byte (lt8 k) _ rfl (by have := HDL.out; first | omega | (simp only [List.length_append]; first | omega | (simp only [List.length_cons, List.length_nil]; omega)))).mono ?_
              rintro _ wn ⟨rfl, hb1, hbk⟩
              have HB1 := Lib.hid hb1; have HW1 := Lib.hid (HW.out.trans hbk)
              clear hb1 hbk HB HW; have HB := Lib.hid HB1.out; have HW := Lib.hid HW1.out; clear HB1 HW1
              go_wp2_with fail
              have HR9 := Lib.hid (show Bl w.heap.size (w.heap.size + 1) R _ by rw [HE.out]; simpa using HB.out)
              exact ⟨⟨k + 1, by simp, by omega, by rw [HRr.out]; exact HR9.out, HW.out⟩, by simp only [intOf]; omega⟩
            · have ea : ((n.natAbs : Int) != 1) = true := bne_iff_ne.2 (by omega)
              have HE := Lib.hid (show R = (l ++ [45]) ++ (Lib.decDigits n.natAbs ++ [lt8 k]) by rw [HS.out]; unfold trm; rw [if_neg hn0]; rw [if_pos HLl.out, if_pos HNg.out]; unfold bodyT; rw [if_pos (.inr (by omega)), ltr_8 (by omega) hk4]; simp)
              clear HS
              go_wp2_with fail
              refine (abs_keep n _ (by omega) (by omega)).mono ?_
              rintro _ wn ⟨rfl, hbk⟩
              have HB1 := Lib.hid (HB.out.keep hbk); have HW1 := Lib.hid (HW.out.trans (hbk.mono HW.out.size))
              clear hbk HB HW; have HB := Lib.hid HB1.out; have HW := Lib.hid HW1.out; clear HB1 HW1
              go_wp2_with fail
              refine (abs_keep n _ (by omega) (by omega)).mono ?_
              rintro _ wn ⟨rfl, hbk⟩
              have HB1 := Lib.hid (HB.out.keep hbk); have HW1 := Lib.hid (HW.out.trans (hbk.mono HW.out.size))
              clear hbk HB HW; have HB := Lib.hid HB1.out; have HW := Lib.hid HW1.out; clear HB1 HW1
              go_wp2_with fail
              refine (itoa_any n.natAbs (HT.out.at HW.out) (by omega)).mono ?_
              rintro _ wn ⟨rfl, hbk⟩
              have HB1 := Lib.hid (HB.out.keep hbk); have HW1 := Lib.hid (HW.out.trans (hbk.mono HW.out.size))
              clear hbk HB HW; have HB := Lib.hid HB1.out; have HW := Lib.hid HW1.out; clear HB1 HW1
              go_wp2_with fail
              refine (HB.out.str _ (by have := HDL.out; show _ + (Lib.decDigits n.natAbs).length ≤ _; first | omega | (simp only [List.length_append]; first | omega | (simp only [List.length_cons, List.length_nil]; omega)))).mono ?_
              rintro _ wn ⟨rfl, hb1, hbk⟩
              have HB1 := Lib.hid hb1; have HW1 := Lib.hid (HW.out.trans hbk)
              clear hb1 hbk HB HW; have HB := Lib.hid HB1.out; have HW := Lib.hid HW1.out; clear HB1 HW1
              go_wp2_with fail
              refine (HB.out.byte (lt8 k) _ rfl (by have := HDL.out; first | omega | (simp only [List.length_append]; first | omega | (simp only [List.length_cons, List.length_nil]; omega)))).mono ?_
              rintro _ wn ⟨rfl, hb1, hbk⟩
              have HB1 := Lib.hid hb1; have HW1 := Lib.hid (HW.out.trans hbk)
              clear hb1 hbk HB HW; have HB := Lib.hid HB1.out; have HW := Lib.hid HW1.out; clear HB1 HW1
              go_wp2_with fail
              have HR9 := Lib.hid (show Bl w.heap.size (w.heap.size + 1) R _ by rw [HE.out]; simpa using HB.out)
              exact ⟨⟨k + 1, by simp, by omega, by rw [HRr.out]; exact HR9.out, HW.out⟩, by simp only [intOf]; omega⟩
        · have s1 : decide (n < 0) = false := decide_eq_false hng
          have HNg := Lib.hid hng; clear hng
          go_wp2_with fail
          refine (HB.out.len rfl).mono ?_
          rintro _ wn ⟨rfl, rfl⟩
          go_wp2_with fail
          refine (HB.out.len rfl).mono ?_
          rintro _ wn ⟨rfl, rfl⟩
          go_wp2_with fail
          refine (HB.out.len rfl).mono ?_
          rintro _ wn ⟨rfl, rfl⟩
          by_cases hk0 : k = 0
          · have ek : ((k : Int) == 0) = true := by rw [hk0]; rfl
            have ek2 : (k == 0) = true := by rw [hk0]; rfl
            have g1 : decide (0 < k) = false := decide_eq_false (by omega)
            have g2 : decide ((0 : Int) < (k : Int)) = false := decide_eq_false (by omega)
            have HE := Lib.hid (show R = l ++ (Lib.decDigits n.natAbs) by rw [HS.out]; unfold trm; rw [if_neg hn0]; rw [if_pos HLl.out, if_neg (show ¬ n < 0 by have := HNg.out; omega)]; unfold bodyT; rw [if_pos (.inl hk0), hk0, show ltr 0 = [] from rfl]; simp)
            clear HS hk0
            go_wp2_with fail
            refine (abs_keep n _ (by omega) (by omega)).mono ?_
            rintro _ wn ⟨rfl, hbk⟩
            have HB1 := Lib.hid (HB.out.keep hbk); have HW1 := Lib.hid (HW.out.trans (hbk.mono HW.out.size))
            clear hbk HB HW; have HB := Lib.hid HB1.out; have HW := Lib.hid HW1.out; clear HB1 HW1
            go_wp2_with fail
            refine (itoa_any n.natAbs (HT.out.at HW.out) (by omega)).mono ?_
            rintro _ wn ⟨rfl, hbk⟩
            have HB1 := Lib.hid (HB.out.keep hbk); have HW1 := Lib.hid (HW.out.trans (hbk.mono HW.out.size))
            clear hbk HB HW; have HB := Lib.hid HB1.out; have HW := Lib.hid HW1.out; clear HB1 HW1
            go_wp2_with fail
            refine (HB.out.str _ (by have := HDL.out; show _ + (Lib.decDigits n.natAbs).length ≤ _; first | omega | (simp only [List.length_append]; first | omega | (simp only [List.length_cons, List.length_nil]; omega)))).mono ?_
            rintro _ wn ⟨rfl, hb1, hbk⟩
            have HB1 := Lib.hid hb1; have HW1 := Lib.hid (HW.out.trans hbk)
            clear hb1 hbk HB HW; have HB := Lib.hid HB1.out; have HW := Lib.hid HW1.out; clear HB1 HW1
            go_wp2_with fail
            have HR9 := Lib.hid (show Bl w.heap.size (w.heap.size + 1) R _ by rw [HE.out]; simpa using HB.out)
            exact ⟨⟨k + 1, by simp, by omega, by rw [HRr.out]; exact HR9.out, HW.out⟩, by simp only [intOf]; omega⟩
          · have ek : ((k : Int) == 0) = false := beq_eq_false_iff_ne.2 (by omega)
            have ek2 : (k == 0) = false := beq_eq_false_iff_ne.2 hk0
            have g1 : decide (0 < k) = true := decide_eq_true (by omega)
            have g2 : decide ((0 : Int) < (k : Int)) = true := decide_eq_true (by omega)
            have hIk := idx_k k (by omega) hk4
            by_cases ha : n.natAbs = 1
            · have ea : ((n.natAbs : Int) != 1) = false := by rw [ha]; rfl
              have HE := Lib.hid (show R = l ++ ([lt8 k]) by rw [HS.out]; unfold trm; rw [if_neg hn0]; rw [if_pos HLl.out, if_neg (show ¬ n < 0 by have := HNg.out; omega)]; unfold bodyT; rw [if_neg (by omega), ltr_8 (by omega) hk4]; simp)
              clear HS
              go_wp2_with fail
              refine (abs_keep n _ (by omega) (by omega)).mono ?_
              rintro _ wn ⟨rfl, hbk⟩
              have HB1 := Lib.hid (HB.out.keep hbk); have HW1 := Lib.hid (HW.out.trans (hbk.mono HW.out.size))
              clear hbk HB HW; have HB := Lib.hid HB1.out; have HW := Lib.hid HW1.out; clear HB1 HW1
              go_wp2_with fail
              refine (HB.out.byte (lt8 k) _ rfl (by have := HDL.out; first | omega | (simp only [List.length_append]; first | omega | (simp only [List.length_cons, List.length_nil]; omega)))).mono ?_
              rintro _ wn ⟨rfl, hb1, hbk⟩
              have HB1 := Lib.hid hb1; have HW1 := Lib.hid (HW.out.trans hbk)
              clear hb1 hbk HB HW; have HB := Lib.hid HB1.out; have HW := Lib.hid HW1.out; clear HB1 HW1
              go_wp2_with fail
              have HR9 := Lib.hid (show Bl w.heap.size (w.heap.size + 1) R _ by rw [HE.out]; simpa using HB.out)
              exact ⟨⟨k + 1, by simp, by omega, by rw [HRr.out]; exact HR9.out, HW.out⟩, by simp only [intOf]; omega⟩
            · have ea : ((n.natAbs : Int) != 1) = true := bne_iff_ne.2 (by omega)
              have HE := Lib.hid (show R = l ++ (Lib.decDigits n.natAbs ++ [lt8 k]) by rw [HS.out]; unfold trm; rw [if_neg hn0]; rw [if_pos HLl.out, if_neg (show ¬ n < 0 by have := HNg.out; omega)]; unfold bodyT; rw [if_pos (.inr (by omega)), ltr_8 (by omega) hk4]; simp)
              clear HS
              go_wp2_with fail
              refine (abs_keep n _ (by omega) (by omega)).mono ?_
              rintro _ wn ⟨rfl, hbk⟩
              have HB1 := Lib.hid (HB.out.keep hbk); have HW1 := Lib.hid (HW.out.trans (hbk.mono HW.out.size))
              clear hbk HB HW; have HB := Lib.hid HB1.out; have HW := Lib.hid HW1.out; clear HB1 HW1
              go_wp2_with fail
              refine (abs_keep n _ (by omega) (by omega)).mono ?_
              rintro _ wn ⟨rfl, hbk⟩
              have HB1 := Lib.hid (HB.out.keep hbk); have HW1 := Lib.hid (HW.out.trans (hbk.mono HW.out.size))
              clear hbk HB HW; have HB := Lib.hid HB1.out; have HW := Lib.hid HW1.out; clear HB1 HW1
              go_wp2_with fail
              refine (itoa_any n.natAbs (HT.out.at HW.out) (by omega)).mono ?_
              rintro _ wn ⟨rfl, hbk⟩
              have HB1 := Lib.hid (HB.out.keep hbk); have HW1 := Lib.hid (HW.out.trans (hbk.mono HW.out.size))
              clear hbk HB HW; have HB := Lib.hid HB1.out; have HW := Lib.hid HW1.out; clear HB1 HW1
              go_wp2_with fail
              refine (HB.out.str _ (by have := HDL.out; show _ + (Lib.decDigits n.natAbs).length ≤ _; first | omega | (simp only [List.length_append]; first | omega | (simp only [List.length_cons, List.length_nil]; omega)))).mono ?_
              rintro _ wn ⟨rfl, hb1, hbk⟩
              have HB1 := Lib.hid hb1; have HW1 := Lib.hid (HW.out.trans hbk)
              clear hb1 hbk HB HW; have HB := Lib.hid HB1.out; have HW := Lib.hid HW1.out; clear HB1 HW1
              go_wp2_with fail
              refine (HB.out.byte (lt8 k) _ rfl (by have := HDL.out; first | omega | (simp only [List.length_append]; first | omega | (simp only [List.length_cons, List.length_nil]; omega)))).mono ?_
              rintro _ wn ⟨rfl, hb1, hbk⟩
              have HB1 := Lib.hid hb1; have HW1 := Lib.hid (HW.out.trans hbk)
              clear hb1 hbk HB HW; have HB := Lib.hid HB1.out; have HW := Lib.hid HW1.out; clear HB1 HW1
              go_wp2_with fail
              have HR9 := Lib.hid (show Bl w.heap.size (w.heap.size + 1) R _ by rw [HE.out]; simpa using HB.out)
              exact ⟨⟨k + 1, by simp, by omega, by rw [HRr.out]; exact HR9.out, HW.out⟩, by simp only [intOf]; omega⟩
      · have hlp : 0 < l.length := List.length_pos_iff.2 hl
        have q1 : ((l.length : Int) == 0) = false := beq_eq_false_iff_ne.2 (by omega)
        have q2 : decide ((0 : Int) < (l.length : Int)) = true := decide_eq_true (by omega)
        have q3 : (l.length == 0) = false := beq_eq_false_iff_ne.2 (by omega)
        have q4 : decide (0 < l.length) = true := decide_eq_true hlp
        have HLl := Lib.hid hl; clear hl
        by_cases hng : n < 0
        · have s1 : decide (n < 0) = true := decide_eq_true hng
          have HNg := Lib.hid hng; clear hng
          go_wp2_with fail
          refine (HB.out.len rfl).mono ?_
          rintro _ wn ⟨rfl, rfl⟩
          go_wp2_with fail
          refine (HB.out.len rfl).mono ?_
          rintro _ wn ⟨rfl, rfl⟩
          go_wp2_with fail
          refine (HB.out.str ⟨#[32, 45, 32]⟩ (by show _ + 3 ≤ _; omega)).mono ?_
          rintro _ wn ⟨rfl, hb1, hbk⟩
          have HB1 := Lib.hid hb1; have HW1 := Lib.hid (HW.out.trans hbk)
          clear hb1 hbk HB HW; have HB := Lib.hid HB1.out; have HW := Lib.hid HW1.out; clear HB1 HW1
          by_cases hk0 : k = 0
          · have ek : ((k : Int) == 0) = true := by rw [hk0]; rfl
            have ek2 : (k == 0) = true := by rw [hk0]; rfl
            have g1 : decide (0 < k) = false := decide_eq_false (by omega)
            have g2 : decide ((0 : Int) < (k : Int)) = false := decide_eq_false (by omega)
            have HE := Lib.hid (show R = (l ++ [32, 45, 32]) ++ (Lib.decDigits n.natAbs) by rw [HS.out]; unfold trm; rw [if_neg hn0]; rw [if_neg HLl.out, show sepT n = [32, 45, 32] from if_pos HNg.out]; unfold bodyT; rw [if_pos (.inl hk0), hk0, show ltr 0 = [] from rfl]; simp)
            clear HS hk0
            go_wp2_with fail
            refine (abs_keep n _ (by omega) (by omega)).mono ?_
            rintro _ wn ⟨rfl, hbk⟩
            have HB1 := Lib.hid (HB.out.keep hbk); have HW1 := Lib.hid (HW.out.trans (hbk.mono HW.out.size))
            clear hbk HB HW; have HB := Lib.hid HB1.out; have HW := Lib.hid HW1.out; clear HB1 HW1
            go_wp2_with fail
            refine (itoa_any n.natAbs (HT.out.at HW.out) (by omega)).mono ?_
            rintro _ wn ⟨rfl, hbk⟩
            have HB1 := Lib.hid (HB.out.keep hbk); have HW1 := Lib.hid (HW.out.trans (hbk.mono HW.out.size))
            clear hbk HB HW; have HB := Lib.hid HB1.out; have HW := Lib.hid HW1.out; clear HB1 HW1
            go_wp2_with fail
            refine (HB.out.str _ (by have := HDL.out; show _ + (Lib.decDigits n.natAbs).length ≤ _; first | omega | (simp only [List.length_append]; first | omega | (simp only [List.length_cons, List.length_nil]; omega)))).mono ?_
            rintro _ wn ⟨rfl, hb1, hbk⟩
            have HB1 := Lib.hid hb1; have HW1 := Lib.hid (HW.out.trans hbk)
            clear hb1 hbk HB HW; have HB := Lib.hid HB1.out; have HW := Lib.hid HW1.out; clear HB1 HW1
            go_wp2_with fail
            have HR9 := Lib.hid (show Bl w.heap.size (w.heap.size + 1) R _ by rw [HE.out]; simpa using HB.out)
            exact ⟨⟨k + 1, by simp, by omega, by rw [HRr.out]; exact HR9.out, HW.out⟩, by simp only [intOf]; omega⟩
          · have ek : ((k : Int) == 0) = false := beq_eq_false_iff_ne.2 (by omega)
            have ek2 : (k == 0) = false := beq_eq_false_iff_ne.2 hk0
            have g1 : decide (0 < k) = true := decide_eq_true (by omega)
            have g2 : decide ((0 : Int) < (k : Int)) = true := decide_eq_true (by omega)
            have hIk := idx_k k (by omega) hk4
            by_cases ha : n.natAbs = 1
            · have ea : ((n.natAbs : Int) != 1) = false := by rw [ha]; rfl
              have HE := Lib.hid (show R = (l ++ [32, 45, 32]) ++ ([lt8 k]) by rw [HS.out]; unfold trm; rw [if_neg hn0]; rw [if_neg HLl.out, show sepT n = [32, 45, 32] from if_pos HNg.out]; unfold bodyT; rw [if_neg (by omega), ltr_8 (by omega) hk4]; simp)
              clear HS
              go_wp2_with fail
              refine (abs_keep n _ (by omega) (by omega)).mono ?_
              rintro _ wn ⟨rfl, hbk⟩
              have HB1 := Lib.hid (HB.out.keep hbk); have HW1 := Lib.hid (HW.out.trans (hbk.mono HW.out.size))
              clear hbk HB HW; have HB := Lib.hid HB1.out; have HW := Lib.hid HW1.out; clear HB1 HW1
              go_wp2_with fail
              refine (HB.out.byte (lt8 k) _ rfl (by have := HDL.out; first | omega | (simp only [List.length_append]; first | omega | (simp only [List.length_cons, List.length_nil]; omega)))).mono ?_
              rintro _ wn ⟨rfl, hb1, hbk⟩
              have HB1 := Lib.hid hb1; have HW1 := Lib.hid (HW.out.trans hbk)
              clear hb1 hbk HB HW; have HB := Lib.hid HB1.out; have HW := Lib.hid HW1.out; clear HB1 HW1
              go_wp2_with fail
              have HR9 := Lib.hid (show Bl w.heap.size (w.heap.size + 1) R _ by rw [HE.out]; simpa using HB.out)
              exact ⟨⟨k + 1, by simp, by omega, by rw [HRr.out]; exact HR9.out, HW.out⟩, by simp only [intOf]; omega⟩
            · have ea : ((n.natAbs : Int) != 1) = true := bne_iff_ne.2 (by omega)
              have HE := Lib.hid (show R = (l ++ [32, 45, 32]) ++ (Lib.decDigits n.natAbs ++ [lt8 k]) by rw [HS.out]; unfold trm; rw [if_neg hn0]; rw [if_neg HLl.out, show sepT n = [32, 45, 32] from if_pos HNg.out]; unfold bodyT; rw [if_pos (.inr (by omega)), ltr_8 (by omega) hk4]; simp)
              clear HS
              go_wp2_with fail
              refine (abs_keep n _ (by omega) (by omega)).mono ?_
              rintro _ wn ⟨rfl, hbk⟩
              have HB1 := Lib.hid (HB.out.keep hbk); have HW1 := Lib.hid (HW.out.trans (hbk.mono HW.out.size))
              clear hbk HB HW; have HB := Lib.hid HB1.out; have HW := Lib.hid HW1.out; clear HB1 HW1
              go_wp2_with fail
              refine (abs_keep n _ (by omega) (by omega)).mono ?_
              rintro _ wn ⟨rfl, hbk⟩
              have HB1 := Lib.hid (HB.out.keep hbk); have HW1 := Lib.hid (HW.out.trans (hbk.mono HW.out.size))
              clear hbk HB HW; have HB := Lib.hid HB1.out; have HW := Lib.hid HW1.out; clear HB1 HW1
              go_wp2_with fail
              refine (itoa_any n.natAbs (HT.out.at HW.out) (by omega)).mono ?_
              rintro _ wn ⟨rfl, hbk⟩
              have HB1 := Lib.hid (HB.out.keep hbk); have HW1 := Lib.hid (HW.out.trans (hbk.mono HW.out.size))
              clear hbk HB HW; have HB := Lib.hid HB1.out; have HW := Lib.hid HW1.out; clear HB1 HW1
              go_wp2_with fail
              refine (HB.out.str _ (by have := HDL.out; show _ + (Lib.decDigits n.natAbs).length ≤ _; first | omega | (simp only [List.length_append]; first | omega | (simp only [List.length_cons, List.length_nil]; omega)))).mono ?_
              rintro _ wn ⟨rfl, hb1, hbk⟩
              have HB1 := Lib.hid hb1; have HW1 := Lib.hid (HW.out.trans hbk)
              clear hb1 hbk HB HW; have HB := Lib.hid HB1.out; have HW := Lib.hid HW1.out; clear HB1 HW1
              go_wp2_with fail
              refine (HB.out.byte (lt8 k) _ rfl (by have := HDL.out; first | omega | (simp only [List.length_append]; first | omega | (simp only [List.length_cons, List.length_nil]; omega)))).mono ?_
              rintro _ wn ⟨rfl, hb1, hbk⟩
              have HB1 := Lib.hid hb1; have HW1 := Lib.hid (HW.out.trans hbk)
              clear hb1 hbk HB HW; have HB := Lib.hid HB1.out; have HW := Lib.hid HW1.out; clear HB1 HW1
              go_wp2_with fail
              have HR9 := Lib.hid (show Bl w.heap.size (w.heap.size + 1) R _ by rw [HE.out]; simpa using HB.out)
              exact ⟨⟨k + 1, by simp, by omega, by rw [HRr.out]; exact HR9.out, HW.out⟩, by simp only [intOf]; omega⟩
        · have s1 : decide (n < 0) = false := decide_eq_false hng
          have HNg := Lib.hid hng; clear hng
          go_wp2_with fail
          refine (HB.out.len rfl).mono ?_
          rintro _ wn ⟨rfl, rfl⟩
          go_wp2_with fail
          refine (HB.out.len rfl).mono ?_
          rintro _ wn ⟨rfl, rfl⟩
          go_wp2_with fail
          refine (HB.out.len rfl).mono ?_
          rintro _ wn ⟨rfl, rfl⟩
          go_wp2_with fail
          refine (HB.out.str ⟨#[32, 43, 32]⟩ (by show _ + 3 ≤ _; omega)).mono ?_
          rintro _ wn ⟨rfl, hb1, hbk⟩
          have HB1 := Lib.hid hb1; have HW1 := Lib.hid (HW.out.trans hbk)
          clear hb1 hbk HB HW; have HB := Lib.hid HB1.out; have HW := Lib.hid HW1.out; clear HB1 HW1
          by_cases hk0 : k = 0
          · have ek : ((k : Int) == 0) = true := by rw [hk0]; rfl
            have ek2 : (k == 0) = true := by rw [hk0]; rfl
            have g1 : decide (0 < k) = false := decide_eq_false (by omega)
            have g2 : decide ((0 : Int) < (k : Int)) = false := decide_eq_false (by omega)
            have HE := Lib.hid (show R = (l ++ [32, 43, 32]) ++ (Lib.decDigits n.natAbs) by rw [HS.out]; unfold trm; rw [if_neg hn0]; rw [if_neg HLl.out, show sepT n = [32, 43, 32] from if_neg (show ¬ n < 0 by have := HNg.out; omega)]; unfold bodyT; rw [if_pos (.inl hk0), hk0, show ltr 0 = [] from rfl]; simp)
            clear HS hk0
            go_wp2_with fail
            refine (abs_keep n _ (by omega) (by omega)).mono ?_
            rintro _ wn ⟨rfl, hbk⟩
            have HB1 := Lib.hid (HB.out.keep hbk); have HW1 := Lib.hid (HW.out.trans (hbk.mono HW.out.size))
            clear hbk HB HW; have HB := Lib.hid HB1.out; have HW := Lib.hid HW1.out; clear HB1 HW1
            go_wp2_with fail
            refine (itoa_any n.natAbs (HT.out.at HW.out) (by omega)).mono ?_
            rintro _ wn ⟨rfl, hbk⟩
            have HB1 := Lib.hid (HB.out.keep hbk); have HW1 := Lib.hid (HW.out.trans (hbk.mono HW.out.size))
            clear hbk HB HW; have HB := Lib.hid HB1.out; have HW := Lib.hid HW1.out; clear HB1 HW1
            go_wp2_with fail
            refine (HB.out.str _ (by have := HDL.out; show _ + (Lib.decDigits n.natAbs).length ≤ _; first | omega | (simp only [List.length_append]; first | omega | (simp only [List.length_cons, List.length_nil]; omega)))).mono ?_
            rintro _ wn ⟨rfl, hb1, hbk⟩
            have HB1 := Lib.hid hb1; have HW1 := Lib.hid (HW.out.trans hbk)
            clear hb1 hbk HB HW; have HB := Lib.hid HB1.out; have HW := Lib.hid HW1.out; clear HB1 HW1
            go_wp2_with fail
            have HR9 := Lib.hid (show Bl w.heap.size (w.heap.size + 1) R _ by rw [HE.out]; simpa using HB.out)
            exact ⟨⟨k + 1, by simp, by omega, by rw [HRr.out]; exact HR9.out, HW.out⟩, by simp only [intOf]; omega⟩
          · have ek : ((k : Int) == 0) = false := beq_eq_false_iff_ne.2 (by omega)
            have ek2 : (k == 0) = false := beq_eq_false_iff_ne.2 hk0
            have g1 : decide (0 < k) = true := decide_eq_true (by omega)
            have g2 : decide ((0 : Int) < (k : Int)) = true := decide_eq_true (by omega)
            have hIk := idx_k k (by omega) hk4
            by_cases ha : n.natAbs = 1
            · have ea : ((n.natAbs : Int) != 1) = false := by rw [ha]; rfl
              have HE := Lib.hid (show R = (l ++ [32, 43, 32]) ++ ([lt8 k]) by rw [HS.out]; unfold trm; rw [if_neg hn0]; rw [if_neg HLl.out, show sepT n = [32, 43, 32] from if_neg (show ¬ n < 0 by have := HNg.out; omega)]; unfold bodyT; rw [if_neg (by omega), ltr_8 (by omega) hk4]; simp)
              clear HS
              go_wp2_with fail
              refine (abs_keep n _ (by omega) (by omega)).mono ?_
              rintro _ wn ⟨rfl, hbk⟩
              have HB1 := Lib.hid (HB.out.keep hbk); have HW1 := Lib.hid (HW.out.trans (hbk.mono HW.out.size))
              clear hbk HB HW; have HB := Lib.hid HB1.out; have HW := Lib.hid HW1.out; clear HB1 HW1
              go_wp2_with fail
              refine (HB.out.byte (lt8 k) _ rfl (by have := HDL.out; first | omega | (simp only [List.length_append]; first | omega | (simp only [List.length_cons, List.length_nil]; omega)))).mono ?_
              rintro _ wn ⟨rfl, hb1, hbk⟩
              have HB1 := Lib.hid hb1; have HW1 := Lib.hid (HW.out.trans hbk)
              clear hb1 hbk HB HW; have HB := Lib.hid HB1.out; have HW := Lib.hid HW1.out; clear HB1 HW1
              go_wp2_with fail
              have HR9 := Lib.hid (show Bl w.heap.size (w.heap.size + 1) R _ by rw [HE.out]; simpa using HB.out)
              exact ⟨⟨k + 1, by simp, by omega, by rw [HRr.out]; exact HR9.out, HW.out⟩, by simp only [intOf]; omega⟩
            · have ea : ((n.natAbs : Int) != 1) = true := bne_iff_ne.2 (by omega)
              have HE := Lib.hid (show R = (l ++ [32, 43, 32]) ++ (Lib.decDigits n.natAbs ++ [lt8 k]) by rw [HS.out]; unfold trm; rw [if_neg hn0]; rw [if_neg HLl.out, show sepT n = [32, 43, 32] from if_neg (show ¬ n < 0 by have := HNg.out; omega)]; unfold bodyT; rw [if_pos (.inr (by omega)), ltr_8 (by omega) hk4]; simp)
              clear HS
              go_wp2_with fail
              refine (abs_keep n _ (by omega) (by omega)).mono ?_
              rintro _ wn ⟨rfl, hbk⟩
              have HB1 := Lib.hid (HB.out.keep hbk); have HW1 := Lib.hid (HW.out.trans (hbk.mono HW.out.size))
              clear hbk HB HW; have HB := Lib.hid HB1.out; have HW := Lib.hid HW1.out; clear HB1 HW1
              go_wp2_with fail
              refine (abs_keep n _ (by omega) (by omega)).mono ?_
              rintro _ wn ⟨rfl, hbk⟩
              have HB1 := Lib.hid (HB.out.keep hbk); have HW1 := Lib.hid (HW.out.trans (hbk.mono HW.out.size))
              clear hbk HB HW; have HB := Lib.hid HB1.out; have HW := Lib.hid HW1.out; clear HB1 HW1
              go_wp2_with fail
              refine (itoa_any n.natAbs (HT.out.at HW.out) (by omega)).mono ?_
              rintro _ wn ⟨rfl, hbk⟩
              have HB1 := Lib.hid (HB.out.keep hbk); have HW1 := Lib.hid (HW.out.trans (hbk.mono HW.out.size))
              clear hbk HB HW; have HB := Lib.hid HB1.out; have HW := Lib.hid HW1.out; clear HB1 HW1
              go_wp2_with fail
              refine (HB.out.str _ (by have := HDL.out; show _ + (Lib.decDigits n.natAbs).length ≤ _; first | omega | (simp only [List.length_append]; first | omega | (simp only [List.length_cons, List.length_nil]; omega)))).mono ?_
              rintro _ wn ⟨rfl, hb1, hbk⟩
              have HB1 := Lib.hid hb1; have HW1 := Lib.hid (HW.out.trans hbk)
              clear hb1 hbk HB HW; have HB := Lib.hid HB1.out; have HW := Lib.hid HW1.out; clear HB1 HW1
              go_wp2_with fail
              refine (HB.out.byte (lt8 k) _ rfl (by have := HDL.out; first | omega | (simp only [List.length_append]; first | omega | (simp only [List.length_cons, List.length_nil]; omega)))).mono ?_
              rintro _ wn ⟨rfl, hb1, hbk⟩
              have HB1 := Lib.hid hb1; have HW1 := Lib.hid (HW.out.trans hbk)
              clear hb1 hbk HB HW; have HB := Lib.hid HB1.out; have HW := Lib.hid HW1.out; clear HB1 HW1
              go_wp2_with fail
              have HR9 := Lib.hid (show Bl w.heap.size (w.heap.size + 1) R _ by rw [HE.out]; simpa using HB.out)
              exact ⟨⟨k + 1, by simp, by omega, by rw [HRr.out]; exact HR9.out, HW.out⟩, by simp only [intOf]; omega⟩
    · obtain rfl : k = 4 := by omega
      clear HCf HLn HN hk hk4
      have HE := Lib.hid (show tz = (if tx cf 4 = [] then [48] else tx cf 4) from hz); clear hz
      generalize tx cf 4 = l at *
      by_cases hl : l = []
      · subst hl
        go_wp2_with fail
        refine (HB.out.len rfl).mono ?_
        rintro _ wn ⟨rfl, rfl⟩
        go_wp2_with fail
        go_ret
        exact ⟨by rw [HE.out]; rfl, HW.out⟩
      · have hlp : 0 < l.length := List.length_pos_iff.2 hl
        have q1 : ((l.length : Int) == 0) = false := beq_eq_false_iff_ne.2 (by omega)
        have q3 : (l.length == 0) = false := beq_eq_false_iff_ne.2 (by omega)
        go_wp2_with fail
        refine (HB.out.len rfl).mono ?_
        rintro _ wn ⟨rfl, rfl⟩
        go_wp2_with fail
        refine HB.out.string.mono ?_
        rintro _ wn ⟨rfl, hbk⟩
        have HW1 := Lib.hid (HW.out.trans hbk); clear hbk
        go_wp2_with fail
        go_ret
        exact ⟨by rw [HE.out, if_neg hl]; rfl, HW1.out⟩
end Go.Proofs.YtimdkjbmeogpoaaGreatDoor
