/- CheckPrime of the program and of the reference. -/
import Derived.Test.YtfjmhfmhijhpkaaRgt
import Derived.Test.YtfjmhfmhijhpkaaCrt0
namespace Go.Proofs.Ytfjmhfmhijhpkaa
open Go.RowKit FF

theorem restL_pos {m : Int} {l : List Int} (hm : 1 ≤ m) (hl : ∀ x ∈ l, 2 ≤ x) : 1 ≤ restL m l := by
  induction l generalizing m with
  | nil => exact hm
  | cons x l ih => exact ih (rest_le (hl x (by simp)) hm).1 (fun y hy => hl y (by simp [hy]))
theorem stepOk_mem {S : List Int} {N R : Int} {qs : List Int} (h : stepOk S N R qs) {q : Int} (hq : q ∈ qs) : q ∈ S ∧ (N - 1) % q = 0 := by
  obtain ⟨j, hj, he⟩ := List.mem_iff_getElem.1 hq
  have h1 := h.2.1 j hj
  have : qs.getD j 0 = q := by rw [← he, List.getD_eq_getElem?_getD, List.getElem?_eq_getElem hj]; rfl
  rw [← this]
  exact ⟨h1.1, h1.2.2⟩
/-- a step that follows from primes tells a prime -/
theorem stepOk_prime {S : List Int} {N R : Int} {qs : List Int} (hS : ∀ x ∈ S, IsP x.toNat) (h : stepOk S N R qs) : IsP N.toNat := by
  have hmm := fun q (hq : q ∈ qs) => (stepOk_mem h hq).1
  obtain ⟨⟨h1, h2, h3, h4⟩, -, h6, h7, h8⟩ := h
  obtain ⟨n, rfl⟩ : ∃ n : Nat, N = (n : Int) := ⟨N.toNat, by omega⟩
  rw [Int.toNat_natCast]
  have hn1 : ((n : Int) - 1).toNat = n - 1 := by omega
  refine lucas (r := R) (by omega) ?_ (fun q hq hd hc => ?_)
  · refine Cg.of_emod ?_
    rw [← hn1, h7, one_mod h1]
  · have hqd : (q : Int) ∣ (n : Int) - 1 := by
      have := Int.natCast_dvd_natCast.2 hd
      rwa [show ((n - 1 : Nat) : Int) = (n : Int) - 1 by omega] at this
    have hqP : IsP (q : Int).toNat := by rwa [Int.toNat_natCast]
    have hmem : (q : Int) ∈ qs := by
      apply Classical.byContradiction
      intro hno
      have := (restL_dvd hqP qs ((n : Int) - 1) (by omega) (fun x hx => ⟨hS x (hmm x hx), fun e => hno (e ▸ hx)⟩)).2 hqd
      rw [h6] at this
      have := Int.le_of_dvd (by omega) this
      have := hq.1
      omega
    unfold genB at h8
    have := List.all_eq_true.1 h8 _ hmem
    rw [gen1_one h1] at this
    have hk : (((n : Int) - 1) / (q : Int)).toNat = (n - 1) / q := by
      rw [show (n : Int) - 1 = ((n - 1 : Nat) : Int) by omega, ← Int.natCast_ediv, Int.toNat_natCast]
    rw [hk] at this
    have e := hc.emod_eq
    rw [one_mod h1] at e
    rw [e] at this
    simp at this
theorem stepOk_congr {S S' : List Int} {N R : Int} {qs : List Int} (h : ∀ x, x ∈ S ↔ x ∈ S') : stepOk S N R qs ↔ stepOk S' N R qs := by
  unfold stepOk okAt
  simp only [h]
/-- the first k steps are right -/
def goodTo (L : List Stpp) (k : Nat) : Prop := ∀ i, i < k → stepOk (nums (L.take i)) (L.getD i (0, 0, [])).1 (L.getD i (0, 0, [])).2.1 (L.getD i (0, 0, [])).2.2
theorem nums_take_succ {L : List Stpp} {k : Nat} (h : k < L.length) : nums (L.take (k + 1)) = nums (L.take k) ++ [(L.getD k (0, 0, [])).1] := by
  unfold nums
  rw [List.take_add_one, List.map_append, List.getElem?_eq_getElem h, List.getD_eq_getElem?_getD, List.getElem?_eq_getElem h]; rfl
theorem good_prime {L : List Stpp} : ∀ k, k ≤ L.length → goodTo L k → ∀ x ∈ nums (L.take k), IsP x.toNat ∧ 2 ≤ x ∧ x ≤ 1000000000
  | 0, _, _ => by simp [nums]
  | k + 1, hk, h => by
    have ih := good_prime k (by omega) (fun i hi => h i (by omega))
    intro x hx
    rw [nums_take_succ (by omega)] at hx
    rcases List.mem_append.1 hx with hx | hx
    · exact ih x hx
    · rw [List.mem_singleton.1 hx]
      have h1 := h k (by omega)
      exact ⟨stepOk_prime (fun y hy => (ih y hy).1) h1, h1.1.1, h1.1.2.1⟩
/-- the error of a proof that n is prime -/
def CkE (n : Int) (L : List Stpp) (E : Int) : Prop :=
  (64 < L.length ∧ E = 8) ∨ (L.length ≤ 64 ∧ (goodTo L L.length ∧ 0 < L.length ∧ (L.getD (L.length - 1) (0, 0, [])).1 = n) ∧ E = 0) ∨ (L.length ≤ 64 ∧ ¬ (goodTo L L.length ∧ 0 < L.length ∧ (L.getD (L.length - 1) (0, 0, [])).1 = n) ∧ E = 18)
theorem CkE.unique {n : Int} {L : List Stpp} {E E' : Int} (h : CkE n L E) (h' : CkE n L E') : E = E' := by
  rcases h with ⟨a, rfl⟩ | ⟨a, b, rfl⟩ | ⟨a, b, rfl⟩ <;> rcases h' with ⟨a', rfl⟩ | ⟨a', b', rfl⟩ | ⟨a', b', rfl⟩ <;> first | rfl | omega | exact absurd b b' | exact absurd b' b
theorem CkE.prime {n : Int} {L : List Stpp} (h : CkE n L 0) : IsP n.toNat ∧ n ≤ 1000000000 := by
  rcases h with ⟨-, h⟩ | ⟨-, ⟨h1, h2, h3⟩, -⟩ | ⟨-, -, h⟩
  · cases h
  · have := good_prime L.length (Nat.le_refl _) h1 n (by
      rw [List.take_length, ← h3]
      unfold nums
      refine List.mem_map.2 ⟨L.getD (L.length - 1) (0, 0, []), ?_, rfl⟩
      rw [List.getD_eq_getElem?_getD, List.getElem?_eq_getElem (by omega)]
      exact List.getElem_mem _)
    exact ⟨this.1, this.2.2⟩
  · cases h
/-- what CheckPrime leaves -/
def CkPost (w : World) (n : Int) (L : List Stpp) (e : Ending) (w' : World) : Prop := ∃ E, e = .returned (.int .i64 E) ∧ CkE n L E ∧ Below w.heap.size w w'
/-- the numbers of the steps are machine integers -/
def StepsI (L : List Stpp) : Prop := ∀ i, i < L.length → I64 (L.getD i (0, 0, [])).1 ∧ I64 (L.getD i (0, 0, [])).2.1 ∧ ∀ j, j < (L.getD i (0, 0, [])).2.2.length → I64 ((L.getD i (0, 0, [])).2.2.getD j 0)

set_option maxRecDepth 100000 in
set_option maxHeartbeats 4000000 in
theorem CheckPrime_any (A : Option Addr) (L : List Stpp) (c : Nat) (n : Int) (w : World) (hs : ShowsS w A L) (hl : L.length ≤ maxLen) (hI : StepsI L) :
    Calls Try.prog 21 #[.int .i64 n, .slice A L.length c] w (CkPost w n L) := by
  obtain ⟨l, hl'⟩ : ∃ l, L.length = l := ⟨_, rfl⟩
  have HL := Lib.hid hl'; have HS := Lib.hid hs; have HI := Lib.hid hI
  unfold maxLen at hl
  have hlg := hl
  rw [hl'] at hl ⊢
  clear hs hI hl' hlg
  by_cases h64 : 64 < l
  · have HE := Lib.hid (show CkE n L 8 from .inl ⟨by rw [HL.out]; exact h64, rfl⟩)
    go_enter Try.func21, Try.ntmps21
    go_wp2_with fail
    go_ret
    exact ⟨8, rfl, HE.out, Below.refl _ _⟩
  · have hmm := @run_makeMap Try.prog
    go_enter Try.func21, Try.ntmps21
    go_wp2_with fail
    clear hmm
    go_loopw [14] (fun s14 wr => ∃ (k : Nat) (S : List Int), s14 = .int .i64 k ∧ k ≤ l ∧ goodTo L k ∧ (∀ x, x ∈ S ↔ x ∈ nums (L.take k)) ∧ SetOf wr w.heap.size k S ∧ Below w.heap.size w wr) (fun s _ => l - (intOf s).toNat)
    case atStart => exact ⟨0, [], rfl, Nat.zero_le _, (fun i hi => absurd hi (by omega)), (fun x => by simp [nums]), SetOf.made w, (Below.refl _ _).alloc (Nat.le_refl _) _⟩
    case round =>
      obtain ⟨k, S, rfl, hk, hg, hmem, hM, hB⟩ := hrel
      have HGd := Lib.hid hg; have HMe := Lib.hid hmem; have HM := Lib.hid hM; have HB := Lib.hid hB
      clear hg hmem hM hB
      by_cases h0 : k < l
      · obtain ⟨bb, o1, rfl, hb1, hcell⟩ := (HS.out.below HB.out) (by rw [HL.out]; omega)
        obtain ⟨A', c', y1, y2, y3, y4, y5, y6⟩ := hcell k (by rw [HL.out]; omega)
        obtain ⟨i1, i2, i3⟩ := HI.out k (by rw [HL.out]; omega)
        clear hcell
        have HT := Lib.hid (nums_take_succ (show k < L.length by rw [HL.out]; exact h0))
        have HGs := Lib.hid (fun h : stepOk (nums (L.take k)) (L.getD k (0, 0, [])).1 (L.getD k (0, 0, [])).2.1 (L.getD k (0, 0, [])).2.2 => (show goodTo L (k + 1) from fun i hi => by
          rcases Nat.lt_or_ge i k with g | g
          · exact HGd.out i g
          · rw [show i = k by omega]; exact h))
        have HGn := Lib.hid (fun h : ¬ stepOk (nums (L.take k)) (L.getD k (0, 0, [])).1 (L.getD k (0, 0, [])).2.1 (L.getD k (0, 0, [])).2.2 => (show CkE n L 18 from .inr (.inr ⟨by rw [HL.out]; omega, fun hx => h (hx.1 k (by rw [HL.out]; exact h0)), rfl⟩)))
        have hP := good_prime k (by rw [HL.out]; omega) HGd.out
        generalize (L.getD k (0, 0, [])).1 = N at *
        generalize (L.getD k (0, 0, [])).2.1 = R at *
        generalize (L.getD k (0, 0, [])).2.2 = qs at *
        have hC := checkStep_any A' qs c' N R S w.heap.size k (wr.alloc (.cells #[.int .i64 N, .int .i64 R, .slice A' qs.length c'] 48)) (y4.alloc _) (Nat.le_trans y5 y6) (HM.out.keep ((Below.refl _ _).alloc (Nat.le_refl _) _)) (fun x hx => (hP x ((HMe.out x).1 hx)).2) i1 i2 i3
        have HC := Lib.hid hC
        have hz := HM.out.lt
        clear hP y4 i2 i3 hC
        generalize qs.length = lq at *
        go_wp2_with fail
        refine HC.out.mono ?_
        rintro e w2 ⟨B, rfl, hBi, b2⟩
        have HBi := Lib.hid (hBi.trans (stepOk_congr HMe.out))
        have q0 : w2.cell? ⟨wr.heap.size, 0, none⟩ = some (.int .i64 N) := by rw [b2.cell (p := ⟨wr.heap.size, 0, none⟩) (by simp)]; simp [go_sem]
        have HM2 := Lib.hid (HM.out.keep (((Below.refl wr.heap.size wr).alloc (Nat.le_refl _) (.cells #[.int .i64 N, .int .i64 R, .slice A' lq c'] 48)).trans (b2.mono (by simp))))
        have HB2 := Lib.hid (HB.out.trans ((((Below.refl wr.heap.size wr).alloc (Nat.le_refl _) (.cells #[.int .i64 N, .int .i64 R, .slice A' lq c'] 48)).trans (b2.mono (by simp))).mono HB.out.size))
        clear hBi b2 HC HM HB y1 y2 y3
        cases B
        · have HE := Lib.hid (HGn.out (fun h => by have := HBi.out.2 h; cases this))
          clear HGn HGs HBi
          go_wp2_with fail
          go_ret
          exact ⟨18, rfl, HE.out, HB2.out⟩
        · have HG2 := Lib.hid (HGs.out (HBi.out.1 rfl))
          clear HGn HGs HBi
          go_wp2_with (at_mapUpdate; refine wpList_update_set _ rfl (.tmp 22) (.tmp 24) (.const (.bool true)) rfl w.heap.size k S rfl HM2.out (by unfold maxLen; omega) N rfl rfl i1 ?_; intro w3 hs3 hg3)
          refine ⟨⟨k + 1, N :: S, by go_num, by omega, HG2.out, fun x => ?_, hs3, HB2.out.grown hg3 HB2.out.size (fun j hj => by injection hj with hj; omega)⟩, by simp [intOf]; omega⟩
          rw [HT.out, List.mem_append, List.mem_cons, HMe.out x, List.mem_singleton]
          exact Or.comm
      · obtain rfl : k = l := by omega
        have HG2 := Lib.hid (show goodTo L L.length by rw [HL.out]; exact HGd.out)
        by_cases hk0 : k = 0
        · have HE := Lib.hid (show CkE n L 18 from .inr (.inr ⟨by rw [HL.out]; omega, fun hx => by have := hx.2.1; rw [HL.out] at this; omega, rfl⟩))
          subst hk0
          clear HGd HG2
          go_wp2_with fail
          go_ret
          exact ⟨18, rfl, HE.out, HB.out⟩
        · obtain ⟨bb, o1, rfl, hb1, hcell⟩ := (HS.out.below HB.out) (by rw [HL.out]; omega)
          obtain ⟨A', c', y1, -, -, -, -, -⟩ := hcell (k - 1) (by rw [HL.out]; omega)
          have dk : (((k : Nat) : Int) == 0) = false := f_beq (by omega)
          have HLt := Lib.hid (show (L.getD (L.length - 1) (0, 0, [])).1 = (L.getD (k - 1) (0, 0, [])).1 by rw [HL.out])
          clear hcell HGd
          generalize (L.getD (k - 1) (0, 0, [])).1 = N at *
          by_cases hN : N = n
          · have HE := Lib.hid (show CkE n L 0 from .inr (.inl ⟨by rw [HL.out]; omega, ⟨HG2.out, by rw [HL.out]; omega, by rw [HLt.out]; exact hN⟩, rfl⟩))
            have dn : (N != n) = false := by rw [hN]; simp
            clear hN
            go_wp2_with fail
            go_ret
            exact ⟨0, rfl, HE.out, HB.out⟩
          · have HE := Lib.hid (show CkE n L 18 from .inr (.inr ⟨by rw [HL.out]; omega, fun hx => hN (by rw [← hx.2.2, HLt.out]), rfl⟩))
            have dn : (N != n) = true := bne_iff_ne.2 hN
            clear hN
            go_wp2_with fail
            go_ret
            exact ⟨18, rfl, HE.out, HB.out⟩
end Go.Proofs.Ytfjmhfmhijhpkaa
