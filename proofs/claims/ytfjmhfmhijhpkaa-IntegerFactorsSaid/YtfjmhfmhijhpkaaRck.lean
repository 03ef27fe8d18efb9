/- CheckPrime of the reference. -/
import Derived.Test.YtfjmhfmhijhpkaaCkp
import Derived.Deep.RegionHeld3
namespace Go.Proofs.Ytfjmhfmhijhpkaa
open Go.RowKit FF

theorem ShowsS.take {w : World} {A : Option Addr} {L : List Stpp} (h : ShowsS w A L) (k : Nat) : ShowsS w A (L.take k) := by
  intro h0
  rw [List.length_take] at h0
  obtain ⟨b, o, e, hlt, hc⟩ := h (by omega)
  refine ⟨b, o, e, hlt, fun i hi => ?_⟩
  rw [List.length_take] at hi
  have : (L.take k).getD i (0, 0, []) = L.getD i (0, 0, []) := by
    rw [List.getD_eq_getElem?_getD, List.getD_eq_getElem?_getD, List.getElem?_take, if_pos (by omega)]
  rw [this]
  exact hc i (by omega)
theorem CksPost.below {w : World} {S : List Int} {N R : Int} {qs : List Int} {e : Ending} {w' : World} (h : CksPost w S N R qs e w') : ∃ B : Bool, e = .returned (.bool B) ∧ (B = true ↔ stepOk S N R qs) ∧ Below w.heap.size w w' := h
theorem s3_keep {W w0 w1 : World} {a o : Nat} {v0 v1 v2 : Value} (ha : a < W.heap.size) (h : Below W.heap.size W w0 ∧ w0.cell? ⟨a, o, none⟩ = some v0 ∧ w0.cell? ⟨a, o + 1, none⟩ = some v1 ∧ w0.cell? ⟨a, o + 2, none⟩ = some v2) (b : Below w0.heap.size w0 w1) :
    Below W.heap.size W w1 ∧ w1.cell? ⟨a, o, none⟩ = some v0 ∧ w1.cell? ⟨a, o + 1, none⟩ = some v1 ∧ w1.cell? ⟨a, o + 2, none⟩ = some v2 := by
  obtain ⟨h1, h2, h3, h4⟩ := h
  have hl : a < w0.heap.size := Nat.lt_of_lt_of_le ha h1.size
  exact ⟨h1.trans (b.mono h1.size), by rw [b.cell (p := ⟨a, o, none⟩) hl]; exact h2, by rw [b.cell (p := ⟨a, o + 1, none⟩) hl]; exact h3, by rw [b.cell (p := ⟨a, o + 2, none⟩) hl]; exact h4⟩

set_option maxRecDepth 100000 in
set_option maxHeartbeats 4000000 in
theorem rCheckPrime_any (A : Option Addr) (L : List Stpp) (c : Nat) (n : Int) (w : World) (hs : ShowsS w A L) (hlc : L.length ≤ c) (_hc : c ≤ maxLen) (hI : StepsI L) :
    Calls Try.prog 25 #[.int .i64 n, .slice A L.length c] w (CkPost w n L) := by
  obtain ⟨l, hl'⟩ : ∃ l, L.length = l := ⟨_, rfl⟩
  have HL := Lib.hid hl'; have HS := Lib.hid hs; have HI := Lib.hid hI
  rw [hl'] at hlc ⊢
  clear hs hI hl'
  by_cases h64 : 64 < l
  · have HE := Lib.hid (show CkE n L 8 from .inl ⟨by rw [HL.out]; exact h64, rfl⟩)
    go_enter Try.func25, Try.ntmps25
    go_wp2_with fail
    go_ret
    exact ⟨8, rfl, HE.out, Below.refl _ _⟩
  · go_enter Try.func25, Try.ntmps25
    go_wp2_with fail
    go_loopw [5] (fun s5 wr => ∃ k : Nat, s5 = .int .i64 k ∧ k ≤ l ∧ goodTo L k ∧ Below w.heap.size w wr) (fun s _ => l - (intOf s).toNat)
    case atStart => exact ⟨0, rfl, Nat.zero_le _, (fun i hi => absurd hi (by omega)), Below.refl _ _⟩
    case round =>
      obtain ⟨k, rfl, hk, hg, hB⟩ := hrel
      have HGd := Lib.hid hg; have HB := Lib.hid hB
      clear hg hB
      by_cases h0 : k < l
      · obtain ⟨bb, o1, rfl, hb1, hcell⟩ := (HS.out.below HB.out) (by rw [HL.out]; omega)
        obtain ⟨A', c', y1, y2, y3, y4, y5, y6⟩ := hcell k (by rw [HL.out]; omega)
        obtain ⟨i1, i2, i3⟩ := HI.out k (by rw [HL.out]; omega)
        have HSt := Lib.hid ((HS.out.below HB.out).take k)
        clear hcell
        have HGs := Lib.hid (fun h : stepOk (nums (L.take k)) (L.getD k (0, 0, [])).1 (L.getD k (0, 0, [])).2.1 (L.getD k (0, 0, [])).2.2 => (show goodTo L (k + 1) from fun i hi => by
          rcases Nat.lt_or_ge i k with g | g
          · exact HGd.out i g
          · rw [show i = k by omega]; exact h))
        have HGn := Lib.hid (fun h : ¬ stepOk (nums (L.take k)) (L.getD k (0, 0, [])).1 (L.getD k (0, 0, [])).2.1 (L.getD k (0, 0, [])).2.2 => (show CkE n L 18 from .inr (.inr ⟨by rw [HL.out]; omega, fun hx => h (hx.1 k (by rw [HL.out]; exact h0)), rfl⟩)))
        have hP := good_prime k (by rw [HL.out]; omega) HGd.out
        have hTk : (L.take k).length = k := by rw [List.length_take, HL.out]; omega
        generalize (L.getD k (0, 0, [])).1 = N at *
        generalize (L.getD k (0, 0, [])).2.1 = R at *
        generalize (L.getD k (0, 0, [])).2.2 = qs at *
        have hC := fun w' (h : Below wr.heap.size wr w') => right_any A' (some ⟨bb, o1, none⟩) qs (L.take k) c' c N R w' (y4.below h) (Nat.le_trans y5 y6) (HSt.out.below h) (by rw [hTk]; unfold maxLen; omega) (fun x hx => ⟨(hP x hx).1, (hP x hx).2.2⟩) i1 i2 i3
        rw [hTk] at hC
        have HC := Lib.hid hC
        clear hP y4 i1 i2 i3 hC hTk
        generalize qs.length = lq at *
        have hk2 : (k : Int) ≤ (c : Int) := by omega
        have hk3 : (0 : Int) ≤ (k : Int) := by omega
        go_wp2_with fail
        go_region_held3 (fun w' => Below wr.heap.size wr w' ∧ w'.cell? ⟨bb, o1 + k * 3, none⟩ = some (.int .i64 N) ∧ w'.cell? ⟨bb, o1 + k * 3 + 1, none⟩ = some (.int .i64 R) ∧ w'.cell? ⟨bb, o1 + k * 3 + 2, none⟩ = some (.slice A' lq c'))
          (first
            | exact ⟨(Below.refl _ _).drew, y1, y2, y3⟩
            | (refine s3_keep hb1 (by assumption) ?_; first | assumption | exact (Below.refl _ _).alloc (Nat.le_refl _) _ | exact below_drewN (Below.refl _ _) _))
          (first
            | (go_at_call 65; (with_reducible refine (HC.out _ (And.left (by assumption))).mono ?_); rintro e w2 ⟨B, rfl, hBi, b2⟩))
        all_goals
          have HB2 := Lib.hid (HB.out.trans ((And.left (by assumption) : Below wr.heap.size wr w2).mono HB.out.size))
          have HBi := Lib.hid hBi
          clear hBi b2 HC y1 y2 y3 hk2 hk3
          cases B
          · have HE := Lib.hid (HGn.out (fun h => by have := HBi.out.2 h; cases this))
            clear HGn HGs HBi
            go_wp2_with fail
            go_ret
            exact ⟨18, rfl, HE.out, HB2.out⟩
          · have HG2 := Lib.hid (HGs.out (HBi.out.1 rfl))
            clear HGn HGs HBi
            go_wp2_with fail
            exact ⟨⟨k + 1, by go_num, by omega, HG2.out, HB2.out⟩, by simp [intOf]; omega⟩
      · obtain rfl : k = l := by omega
        have HG2 := Lib.hid (show goodTo L L.length by rw [HL.out]; exact HGd.out)
        by_cases hk0 : k = 0
        · have HE := Lib.hid (show CkE n L 18 from .inr (.inr ⟨by rw [HL.out]; omega, fun hx => by have := hx.2.1; rw [HL.out] at this; omega, rfl⟩))
          subst hk0
          clear HGd HG2
          go_wp2_with fail
          go_ret
          exact ⟨18, rfl, HE.out, HB.out⟩
        · obtain ⟨bb, o1, rfl, hb1, hcell⟩ := (HS.out.below HB.out) (by rw [HL.out]; omega)
          obtain ⟨A', c', y1, -, -, -, -, -⟩ := hcell (k - 1) (by rw [HL.out]; omega)
          have dk : (((k : Nat) : Int) == 0) = false := f_beq (by omega)
          have HLt := Lib.hid (show (L.getD (L.length - 1) (0, 0, [])).1 = (L.getD (k - 1) (0, 0, [])).1 by rw [HL.out])
          clear hcell HGd
          generalize (L.getD (k - 1) (0, 0, [])).1 = N at *
          by_cases hN : N = n
          · have HE := Lib.hid (show CkE n L 0 from .inr (.inl ⟨by rw [HL.out]; omega, ⟨HG2.out, by rw [HL.out]; omega, by rw [HLt.out]; exact hN⟩, rfl⟩))
            have dn : (N != n) = false := by rw [hN]; simp
            clear hN
            go_wp2_with fail
            go_ret
            exact ⟨0, rfl, HE.out, HB.out⟩
          · have HE := Lib.hid (show CkE n L 18 from .inr (.inr ⟨by rw [HL.out]; omega, fun hx => hN (by rw [← hx.2.2, HLt.out]), rfl⟩))
            have dn : (N != n) = true := bne_iff_ne.2 hN
            clear hN
            go_wp2_with fail
            go_ret
            exact ⟨18, rfl, HE.out, HB.out⟩
end Go.Proofs.Ytfjmhfmhijhpkaa
