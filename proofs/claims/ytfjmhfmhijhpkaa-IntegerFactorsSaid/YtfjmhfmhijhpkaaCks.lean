/- checkStep: whether a step of a proof that a number is prime is right. -/
import Derived.Test.YtfjmhfmhijhpkaaGen
import Derived.Test.YtfjmhfmhijhpkaaMps
import Derived.Test.YtfjmhfmhijhpkaaCrt0
import Derived.Test.YtfjmhfmhijhpkaaIntA
namespace Go.Proofs.Ytfjmhfmhijhpkaa
open Go.RowKit FF

/-- what is left of a number when these primes are taken out -/
def restL (m : Int) : List Int → Int
  | [] => m
  | q :: qs => restL (rest q m) qs
theorem restL_append (m : Int) (l k : List Int) : restL m (l ++ k) = restL (restL m l) k := by
  induction l generalizing m with
  | nil => rfl
  | cons q l ih => exact ih _
theorem restL_take (m : Int) {qs : List Int} {k : Nat} (h : k < qs.length) : restL m (qs.take (k + 1)) = rest (qs.getD k 0) (restL m (qs.take k)) := by
  rw [List.take_add_one, restL_append, List.getElem?_eq_getElem h, List.getD_eq_getElem?_getD, List.getElem?_eq_getElem h]
  rfl
theorem bne_zero {x : Int} (h : x = 0) : (x != 0) = false := by rw [h]; rfl
theorem bne_nonzero {x : Int} (h : x ≠ 0) : (x != 0) = true := bne_iff_ne.2 h
/-- the j-th prime of a step is known, greater than the one before, and divides -/
def okAt (S : List Int) (m : Int) (qs : List Int) (j : Nat) : Prop := qs.getD j 0 ∈ S ∧ (0 < j → qs.getD (j - 1) 0 < qs.getD j 0) ∧ m % qs.getD j 0 = 0
theorem okAt_step {S : List Int} {m : Int} {qs : List Int} {k : Nat} (h : ∀ j, j < k → okAt S m qs j) (hk : okAt S m qs k) : ∀ j, j < k + 1 → okAt S m qs j := fun j hj => by
  rcases Nat.lt_or_ge j k with g | g
  · exact h j g
  · rw [show j = k by omega]; exact hk
/-- the step is right, the known numbers being S -/
def stepOk (S : List Int) (N R : Int) (qs : List Int) : Prop :=
  (2 ≤ N ∧ N ≤ 1000000000 ∧ 1 ≤ R ∧ R ≤ N - 1) ∧ (∀ j, j < qs.length → okAt S (N - 1) qs j) ∧ restL (N - 1) qs = 1 ∧ R ^ (N - 1).toNat % N = 1 ∧ genB R N qs = true

/-- what checkStep leaves -/
def CksPost (w : World) (S : List Int) (N R : Int) (qs : List Int) (e : Ending) (w' : World) : Prop := ∃ B : Bool, e = .returned (.bool B) ∧ (B = true ↔ stepOk S N R qs) ∧ Below w.heap.size w w'
set_option maxRecDepth 100000 in
set_option maxHeartbeats 4000000 in
theorem checkStep_any (A : Option Addr) (qs : List Int) (c : Nat) (N R : Int) (S : List Int) (b n : Nat) (w : World) (hs : ShowsI w A qs) (hl : qs.length ≤ maxLen) (hS : SetOf w b n S) (hS2 : ∀ x ∈ S, 2 ≤ x ∧ x ≤ 1000000000)
    (_hN : I64 N) (hR : I64 R) (hq : ∀ j, j < qs.length → I64 (qs.getD j 0)) :
    Calls Try.prog 63 #[.agg #[.int .i64 N, .int .i64 R, .slice A qs.length c], .map (some b)] w (CksPost w S N R qs) := by
  have HL := Lib.hid (show qs.length = qs.length from rfl)
  by_cases h1 : N < 2
  · have HF := Lib.hid (show (false = true ↔ stepOk S N R qs) from ⟨(fun h => by cases h), (fun h => by have := h.1; omega)⟩)
    generalize qs.length = l at *
    go_enter Try.func63, Try.ntmps63
    go_wp2_with fail
    go_ret
    exact ⟨false, rfl, HF.out, (Below.refl _ _).alloc (Nat.le_refl _) _⟩
  by_cases h2 : 1000000000 < N
  · have HF := Lib.hid (show (false = true ↔ stepOk S N R qs) from ⟨(fun h => by cases h), (fun h => by have := h.1; omega)⟩)
    generalize qs.length = l at *
    go_enter Try.func63, Try.ntmps63
    go_wp2_with fail
    go_ret
    exact ⟨false, rfl, HF.out, (Below.refl _ _).alloc (Nat.le_refl _) _⟩
  by_cases h3 : R < 1
  · have HF := Lib.hid (show (false = true ↔ stepOk S N R qs) from ⟨(fun h => by cases h), (fun h => by have := h.1; omega)⟩)
    generalize qs.length = l at *
    go_enter Try.func63, Try.ntmps63
    go_wp2_with fail
    go_ret
    exact ⟨false, rfl, HF.out, (Below.refl _ _).alloc (Nat.le_refl _) _⟩
  by_cases h4 : N - 1 < R
  · have HF := Lib.hid (show (false = true ↔ stepOk S N R qs) from ⟨(fun h => by cases h), (fun h => by have := h.1; omega)⟩)
    generalize qs.length = l at *
    go_enter Try.func63, Try.ntmps63
    go_wp2_with fail
    go_ret
    exact ⟨false, rfl, HF.out, (Below.refl _ _).alloc (Nat.le_refl _) _⟩
  have HS0 := Lib.hid (hs.alloc (.cells #[.int .i64 N, .int .i64 R, .slice A qs.length c] 48))
  have HM0 := Lib.hid (hS.keep ((Below.refl w.heap.size w).alloc (Nat.le_refl _) (.cells #[.int .i64 N, .int .i64 R, .slice A qs.length c] 48)))
  have HQ := Lib.hid hq; have HS2 := Lib.hid hS2
  unfold maxLen at hl
  obtain ⟨l, hl'⟩ : ∃ l, qs.length = l := ⟨_, rfl⟩
  have HLn := Lib.hid hl'
  rw [hl'] at HS0 HM0 hl ⊢
  clear hs hS hS2 hq hl' HL
  go_enter Try.func63, Try.ntmps63
  go_wp2_with fail
  obtain ⟨W0, hW0⟩ : ∃ W0, w.alloc (.cells #[.int .i64 N, .int .i64 R, .slice A l c] 48) = W0 := ⟨_, rfl⟩
  have HB0 := Lib.hid (show Below w.heap.size w W0 by rw [← hW0]; exact (Below.refl _ _).alloc (Nat.le_refl _) _)
  have e0 : W0.cell? ⟨w.heap.size, 0, none⟩ = some (.int .i64 N) := by rw [← hW0]; simp [go_sem]
  have e1 : W0.cell? ⟨w.heap.size, 1, none⟩ = some (.int .i64 R) := by rw [← hW0]; simp [go_sem]
  have e2 : W0.cell? ⟨w.heap.size, 2, none⟩ = some (.slice A l c) := by rw [← hW0]; simp [go_sem]
  rw [hW0] at HM0 HS0 ⊢
  clear hW0
  have HV := Lib.hid (fun (r q : Int) (w : World) (h1 : 1 ≤ r) (h2' : r ≤ N - 1) (hq : 2 ≤ q) (hq2 : q ≤ 1000000000) => valuation_any r q w ⟨by omega, by omega⟩ (by omega) hq (by omega))
  have HP := Lib.hid (fun (w : World) => power_any R (N - 1) N w hR (by omega) ⟨by omega, by omega⟩ (by omega) h2)
  have HG := Lib.hid (fun (w : World) (h : ShowsI w A qs) hq1 => generates_any A qs c R N w h hR (by omega) h2 hq1 (by rw [HLn.out]; unfold maxLen; omega))
  rw [HLn.out] at HG
  go_loopw [5, 35] (fun s5 s35 wr => ∃ k : Nat, s35 = .int .i64 k ∧ k ≤ l ∧ (∀ j, j < k → okAt S (N - 1) qs j) ∧ s5 = .int .i64 (restL (N - 1) (qs.take k)) ∧ 1 ≤ restL (N - 1) (qs.take k) ∧ restL (N - 1) (qs.take k) ≤ N - 1 ∧ ∃ m, wr = W0.drewN m) (fun _ s _ => l - (intOf s).toNat)
  case atStart => exact ⟨0, rfl, Nat.zero_le _, (fun j hj => absurd hj (by omega)), rfl, by show 1 ≤ N - 1; omega, Int.le_refl _, 0, rfl⟩
  case round =>
    obtain ⟨k, rfl, hk, hd0, rfl, r1, r2, m, rfl⟩ := hrel
    have HD := Lib.hid hd0
    have HMk := Lib.hid (HM0.out.keep (below_drewN (Below.refl _ _) m))
    clear hd0
    by_cases h0 : k < l
    · obtain ⟨bb, o1, rfl, hb1, hcell⟩ := HS0.out (by rw [HLn.out]; omega)
      have x1 := hcell k (by rw [HLn.out]; omega)
      have hI := HQ.out k (by rw [HLn.out]; omega)
      have HTk := Lib.hid (restL_take (N - 1) (show k < qs.length by rw [HLn.out]; exact h0))
      obtain ⟨q, hqe⟩ : ∃ q, qs.getD k 0 = q := ⟨_, rfl⟩
      rw [hqe] at x1 hI HTk
      have HE := Lib.hid (show okAt S (N - 1) qs k ↔ q ∈ S ∧ (0 < k → qs.getD (k - 1) 0 < q) ∧ (N - 1) % q = 0 by unfold okAt; rw [hqe])
      obtain ⟨r, hr⟩ : ∃ r, restL (N - 1) (qs.take k) = r := ⟨_, rfl⟩
      rw [hr] at r1 r2 HTk ⊢
      clear hqe hr
      by_cases hm : q ∈ S
      · have hdm := decide_eq_true hm
        obtain ⟨q2, q3⟩ := HS2.out q hm
        by_cases hk0 : 0 < k
        · have x0 := hcell (k - 1) (by rw [HLn.out]; omega)
          obtain ⟨p, hp⟩ : ∃ p, qs.getD (k - 1) 0 = p := ⟨_, rfl⟩
          rw [hp] at x0 HE
          clear hp hcell
          have dk : decide ((0 : Int) < (k : Int)) = true := decide_eq_true (by omega)
          by_cases hpq : q ≤ p
          · have HF := Lib.hid (show (false = true ↔ stepOk S N R qs) from ⟨(fun h => by cases h), (fun h => by have := (HE.out.1 (h.2.1 k (by rw [HLn.out]; exact h0))).2.1 hk0; omega)⟩)
            clear HQ HV HG HP
            go_wp2_with (at_lookup; refine wpList_lookup_set _ rfl (.tmp 40) (.tmp 41) rfl b n S rfl HMk.out q rfl hI ?_)
            go_ret
            exact ⟨false, rfl, HF.out, below_drewN HB0.out _⟩
          · have hpq' : p < q := by omega
            by_cases hd : (N - 1) % q = 0
            · have HNx := Lib.hid (show ∀ j, j < k + 1 → okAt S (N - 1) qs j from okAt_step HD.out (by exact HE.out.2 ⟨hm, fun _ => hpq', hd⟩))
              have hd1 := bne_zero hd
              clear hd
              obtain ⟨t1, t2⟩ := rest_le (p := q) q2 r1
              have HVq := Lib.hid (HV.out r q (W0.drewN m) r1 r2 q2 q3)
              have HRt := Lib.hid (show restL (N - 1) (qs.take (k + 1)) = rest q r by rw [HTk.out])
              clear HQ HV HG HP HTk
              go_wp2_with (at_lookup; refine wpList_lookup_set _ rfl (.tmp 40) (.tmp 41) rfl b n S rfl HMk.out q rfl hI ?_)
              refine HVq.out.mono ?_
              rintro e w' ⟨rfl, n2, rfl⟩
              clear HVq
              go_wp2_with fail
              exact ⟨⟨k + 1, by go_num, by omega, HNx.out, by rw [HRt.out], by rw [HRt.out]; omega, by rw [HRt.out]; omega, _, rfl⟩, by simp [intOf]; omega⟩
            · have HF := Lib.hid (show (false = true ↔ stepOk S N R qs) from ⟨(fun h => by cases h), (fun h => absurd (HE.out.1 (h.2.1 k (by rw [HLn.out]; exact h0))).2.2 hd)⟩)
              have hd1 := bne_nonzero hd
              clear hd
              clear HQ HV HG HP
              go_wp2_with (at_lookup; refine wpList_lookup_set _ rfl (.tmp 40) (.tmp 41) rfl b n S rfl HMk.out q rfl hI ?_)
              go_ret
              exact ⟨false, rfl, HF.out, below_drewN HB0.out _⟩
        · obtain rfl : k = 0 := by omega
          rw [Nat.add_zero] at x1
          clear hcell
          by_cases hd : (N - 1) % q = 0
          · have HNx := Lib.hid (show ∀ j, j < 0 + 1 → okAt S (N - 1) qs j from okAt_step HD.out (by exact HE.out.2 ⟨hm, fun h => absurd h (by omega), hd⟩))
            have hd1 := bne_zero hd
            clear hd
            obtain ⟨t1, t2⟩ := rest_le (p := q) q2 r1
            have HVq := Lib.hid (HV.out r q (W0.drewN m) r1 r2 q2 q3)
            have HRt := Lib.hid (show restL (N - 1) (qs.take (0 + 1)) = rest q r by rw [HTk.out])
            clear HQ HV HG HP HTk
            go_wp2_with (at_lookup; refine wpList_lookup_set _ rfl (.tmp 40) (.tmp 41) rfl b n S rfl HMk.out q rfl hI ?_)
            refine HVq.out.mono ?_
            rintro e w' ⟨rfl, n2, rfl⟩
            clear HVq
            go_wp2_with fail
            exact ⟨⟨0 + 1, by go_num, by omega, HNx.out, by rw [HRt.out], by rw [HRt.out]; omega, by rw [HRt.out]; omega, _, rfl⟩, by simp [intOf]; omega⟩
          · have HF := Lib.hid (show (false = true ↔ stepOk S N R qs) from ⟨(fun h => by cases h), (fun h => absurd (HE.out.1 (h.2.1 0 (by rw [HLn.out]; exact h0))).2.2 hd)⟩)
            have hd1 := bne_nonzero hd
            clear hd
            clear HQ HV HG HP
            go_wp2_with (at_lookup; refine wpList_lookup_set _ rfl (.tmp 40) (.tmp 41) rfl b n S rfl HMk.out q rfl hI ?_)
            go_ret
            exact ⟨false, rfl, HF.out, below_drewN HB0.out _⟩
      · have hdm := decide_eq_false hm
        have HF := Lib.hid (show (false = true ↔ stepOk S N R qs) from ⟨(fun h => by cases h), (fun h => absurd (HE.out.1 (h.2.1 k (by rw [HLn.out]; exact h0))).1 hm)⟩)
        clear hcell
        clear HQ HV HG HP
        go_wp2_with (at_lookup; refine wpList_lookup_set _ rfl (.tmp 40) (.tmp 41) rfl b n S rfl HMk.out q rfl hI ?_)
        go_ret
        exact ⟨false, rfl, HF.out, below_drewN HB0.out _⟩
    · obtain rfl : k = l := by omega
      have HTl := Lib.hid (show qs.take k = qs by rw [← HLn.out, List.take_length])
      rw [HTl.out] at r1 r2 ⊢
      have HD2 := Lib.hid (show ∀ j, j < qs.length → okAt S (N - 1) qs j by rw [HLn.out]; exact HD.out)
      clear HD HMk HV
      obtain ⟨r, hr⟩ : ∃ r, restL (N - 1) qs = r := ⟨_, rfl⟩
      have HR1 := Lib.hid hr
      rw [hr] at r1 r2 ⊢
      clear hr
      by_cases hr1 : r = 1
      · have HP1 := Lib.hid (HP.out (W0.drewN m))
        obtain ⟨v, hv⟩ : ∃ v, R ^ (N - 1).toNat % N = v := ⟨_, rfl⟩
        have HV1 := Lib.hid hv
        rw [hv] at HP1
        clear hv HP
        have dr := t_beq hr1
        by_cases hv1 : v = 1
        · have dv := t_beq hv1
          have hq1 : ∀ i, i < qs.length → 1 ≤ qs.getD i 0 ∧ qs.getD i 0 ≤ 9223372036854775807 := fun i hi => by
            have := HS2.out _ (HD2.out i hi).1
            omega
          have HG1 := Lib.hid (fun m' => HG.out (W0.drewN m') (HS0.out.drewN m') (by rw [← HLn.out]; exact hq1))
          have HF := Lib.hid (fun B (hB : genB R N qs = B) => (show (B = true ↔ stepOk S N R qs) from ⟨(fun h => ⟨⟨h1, h2, h3, h4⟩, HD2.out, by rw [HR1.out]; exact hr1, by rw [HV1.out]; exact hv1, by rw [hB]; exact h⟩), (fun h => by rw [← hB]; exact h.2.2.2.2)⟩))
          obtain ⟨B, hB⟩ : ∃ B, genB R N qs = B := ⟨_, rfl⟩
          rw [hB] at HG1
          have HFB := Lib.hid (HF.out B hB)
          clear hB HF hr1 hv1 hq1 HG HTl
          go_wp2_with fail
          refine HP1.out.mono ?_
          rintro e w' ⟨rfl, n2, rfl⟩
          clear HP1
          go_wp2_with fail
          refine (HG1.out _).mono ?_
          rintro e w3 ⟨rfl, b3⟩
          have HB3 := Lib.hid ((below_drewN HB0.out (m + n2)).trans (b3.mono (below_drewN HB0.out (m + n2)).size))
          clear b3 HG1
          go_wp2_with fail
          go_ret
          exact ⟨B, rfl, HFB.out, HB3.out⟩
        · have dv := f_beq hv1
          have HF := Lib.hid (show (false = true ↔ stepOk S N R qs) from ⟨(fun h => by cases h), (fun h => absurd (by have := h.2.2.2.1; rw [HV1.out] at this; exact this) hv1)⟩)
          clear hr1 hv1 HG HTl
          go_wp2_with fail
          refine HP1.out.mono ?_
          rintro e w' ⟨rfl, n2, rfl⟩
          clear HP1
          go_wp2_with fail
          go_ret
          exact ⟨false, rfl, HF.out, below_drewN HB0.out _⟩
      · have dr := f_beq hr1
        have HF := Lib.hid (show (false = true ↔ stepOk S N R qs) from ⟨(fun h => by cases h), (fun h => absurd (by have := h.2.2.1; rw [HR1.out] at this; exact this) hr1)⟩)
        clear hr1 HG HTl HP
        go_wp2_with fail
        go_ret
        exact ⟨false, rfl, HF.out, below_drewN HB0.out _⟩
end Go.Proofs.Ytfjmhfmhijhpkaa
