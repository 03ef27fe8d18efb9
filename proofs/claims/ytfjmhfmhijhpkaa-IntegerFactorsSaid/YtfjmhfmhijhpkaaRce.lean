/- The reference's Certify: the standard proof that a number is prime. -/
import Derived.Test.YtfjmhfmhijhpkaaRpr
import Derived.Test.YtfjmhfmhijhpkaaCer
import Derived.Test.YtfjmhfmhijhpkaaSym0
import Derived.Test.YtfjmhfmhijhpkaaRw0
import Derived.Test.YtfjmhfmhijhpkaaSel
import Derived.Test.YtfjmhfmhijhpkaaSto
import Derived.Deep.DeepCutAuto
namespace Go.Proofs.Ytfjmhfmhijhpkaa
open Go.RowKit FF

theorem info_step : (Try.prog.info? 48).map (fun i => (i.zero, i.size, i.bytes)) = some (some (.agg #[.int .i64 0, .int .i64 0, .slice none 0 0]), 3, 40) := by kernel_rfl
/-- the length of a slice -/
def lenV : Value → Nat
  | .slice _ n _ => n
  | _ => 0
/-- what Certify leaves -/
def CerPost (w : World) (n : Int) (e : Ending) (w' : World) : Prop :=
  (isPB n = false ∧ e = .returned (.tuple #[.slice none 0 0, .int .i64 11]) ∧ Below w.heap.size w w') ∨
  (isPB n = true ∧ ∃ ks : List Int, ks.Pairwise (· < ·) ∧ (∀ m, m ∈ ks ↔ FF.Reach n m) ∧ ∃ A c, e = .returned (.tuple #[.slice A ks.length c, .int .i64 0]) ∧ ShowsS w' A (ks.map stepOf) ∧ ks.length ≤ c ∧ c ≤ maxLen ∧ Below w.heap.size w w')
/-- the numbers that were gathered so far: of the first i the primes below them too -/
structure Gath (n : Int) (L : List Int) (i : Nat) : Prop where
  nd : L.Nodup
  reach : ∀ m ∈ L, FF.Reach n m
  pos : 0 < L.length
  head : L.getD 0 0 = n
  closed : ∀ j, j < i → ∀ q ∈ primesOf (L.getD j 0 - 1), q ∈ L
theorem Gath.start (n : Int) : Gath n [n] 0 := ⟨by simp, (fun m hm => by rw [List.mem_singleton.1 hm]; exact FF.Reach.base), by simp, rfl, (fun j hj => absurd hj (by omega))⟩
theorem Gath.add {n : Int} {L : List Int} {i : Nat} (h : Gath n L i) (hi : i ≤ L.length) {q : Int} (hq : FF.Reach n q) (hm : q ∉ L) : Gath n (L ++ [q]) i := by
  have hg : ∀ j, j < L.length → (L ++ [q]).getD j 0 = L.getD j 0 := fun j hj => by
    rw [List.getD_eq_getElem?_getD, List.getElem?_append_left hj, ← List.getD_eq_getElem?_getD]
  refine ⟨?_, ?_, ?_, ?_, ?_⟩
  · rw [List.nodup_append]
    exact ⟨h.nd, by simp, fun a ha b hb e => hm (by rw [← List.mem_singleton.1 hb, ← e]; exact ha)⟩
  · intro m hm'
    rcases List.mem_append.1 hm' with g | g
    · exact h.reach m g
    · rw [List.mem_singleton.1 g]; exact hq
  · simp
  · rw [hg 0 h.pos]; exact h.head
  · intro j hj r hr
    rw [hg j (by omega)] at hr
    exact List.mem_append_left _ (h.closed j hj r hr)
theorem Gath.next {n : Int} {L : List Int} {i : Nat} (h : Gath n L i) (hc : ∀ q ∈ primesOf (L.getD i 0 - 1), q ∈ L) : Gath n L (i + 1) :=
  ⟨h.nd, h.reach, h.pos, h.head, fun j hj => by
    rcases Nat.lt_or_ge j i with g | g
    · exact h.closed j g
    · rw [show j = i by omega]; exact hc⟩
theorem Gath.all {n : Int} {L : List Int} (h : Gath n L L.length) : ∀ m, m ∈ L ↔ FF.Reach n m := by
  intro m
  refine ⟨h.reach m, fun hm => ?_⟩
  induction hm with
  | base =>
    have := getD_mem h.pos
    rwa [h.head] at this
  | step hp hq ih =>
    obtain ⟨j, hj, he⟩ := mem_getD ih
    exact h.closed j hj _ (by rw [he]; exact hq)
set_option maxRecDepth 100000 in
set_option maxHeartbeats 40000000 in
theorem rCertify_any (n : Int) (w : World) :
    Calls Try.prog 20 #[.int .i64 n] w (CerPost w n) := by
  have hP := Lib.hid (fun w => rIsPrime_any n w)
  cases hb : isPB n
  · have HF := Lib.hid hb
    rw [hb] at hP
    go_enter Try.func20, Try.ntmps20
    go_wp2_with fail
    refine (hP.out _).mono ?_
    rintro e w' ⟨rfl, n1, rfl⟩
    go_wp2_with fail
    go_ret2
    exact .inl ⟨HF.out, rfl, below_drewN (Below.refl _ _) _⟩
  · have HF := Lib.hid hb
    rw [hb] at hP
    obtain ⟨hn, hn9⟩ := isPB_iff.1 hb
    have hn2 := hn.1
    have HNp := Lib.hid hn
    clear hb hn
    obtain ⟨i0, hi, hz0, hz1, hz2⟩ := info_parts info_int
    have HI := Lib.hid hi; have HZ0 := Lib.hid hz0; have HZ1 := Lib.hid hz1; have HZ2 := Lib.hid hz2
    clear hi hz0 hz1 hz2
    go_enter Try.func20, Try.ntmps20
    go_wp2_with fail
    refine (hP.out _).mono ?_
    rintro e w' ⟨rfl, n1, rfl⟩
    have HG0 := Lib.hid (show Got w 3 1 (.slice (some ⟨w.heap.size, 0, none⟩) 1 1) 1 [n] ((w.drewN n1).alloc (.cells #[.int .i64 n] 3)) from ⟨World.ownsRow_lit _ #[.int .i64 n] 1 (Nat.le_refl _) (by unfold maxLen; omega) rfl, (below_drewN (Below.refl _ _) n1).alloc (Nat.le_refl _) _⟩)
    go_wp2_with fail
    obtain ⟨W0, hW0⟩ : ∃ W0, (w.drewN n1).alloc (.cells #[.int .i64 n] 3) = W0 := ⟨_, rfl⟩
    rw [hW0] at HG0 ⊢
    clear hW0 hP
    go_loopw [4, 5, 6, 7, 8, 9] (fun s4 s5 _ _ _ _ wr => ∃ (i : Nat) (L : List Int), s5 = .int .i64 i ∧ i ≤ L.length ∧ Gath n L i ∧ Got w 3 1 s4 L.length L wr) (fun _ s5 _ _ _ _ _ => 32 - (intOf s5).toNat)
    case atStart => exact ⟨0, [n], rfl, Nat.zero_le _, Gath.start n, HG0.out⟩
    case round =>
      obtain ⟨i, L, rfl, hi, hga, hG⟩ := hrel
      have hlen : L.length ≤ 31 := reach_short HNp.out hn9 hga.nd hga.reach
      have HGa := Lib.hid hga
      have HG := Lib.hid hG
      obtain ⟨A, c, e4, hs, hc1, hc2, -⟩ := hG.shows
      clear hga hG HG0
      unfold maxLen at hc2
      obtain rfl := e4
      by_cases h0 : i < L.length
      · obtain ⟨b, o, rfl, hb1, hcell⟩ := hs (by omega)
        have x1 := hcell i h0
        obtain ⟨p, hp⟩ : ∃ p, L.getD i 0 = p := ⟨_, rfl⟩
        rw [hp] at x1
        have hpr := HGa.out.reach _ (getD_mem h0)
        rw [hp] at hpr
        obtain ⟨p1, p2, p3⟩ := hpr.prime HNp.out
        have HPp := Lib.hid p1
        have HRp := Lib.hid hpr
        have HPi := Lib.hid hp
        have HPr := Lib.hid (fun w => rPrimes_any (p - 1) w (by omega) (by omega))
        clear hcell hp p1 hpr hs
        go_wp2_with fail
        refine (HPr.out _).mono ?_
        rintro e w2 ⟨v, rfl, hPs⟩
        obtain ⟨l, hl⟩ : ∃ l, primesOf (p - 1) = l := ⟨_, rfl⟩
        have HLl := Lib.hid (fun t (ht : t < l.length) => (show FF.Reach n (l.getD t 0) ∧ l.getD t 0 ≤ p - 1 from
          ⟨HRp.out.step (by rw [hl]; exact getD_mem ht), (mem_of_primesOf HPp.out (by rw [hl]; exact getD_mem ht)).2.2.1⟩))
        have hll : l.length ≤ 31 := by
          rw [← hl]
          exact reach_short HNp.out hn9 (asc_nodup (primesOf_asc (by omega))) (fun m hm => HRp.out.step hm)
        have HLp := Lib.hid hl
        rw [hl] at hPs
        clear hl HPr
        have HR := Lib.hid hPs.row0
        have HG2 := Lib.hid (HG.out.keep hPs.2)
        obtain ⟨A2, c2, e2, -, hc3, hc4, -⟩ := hPs.shows
        obtain rfl := e2
        unfold maxLen at hc4
        clear hPs x1 hb1
        go_wp2_with fail
        go_loopw [4, 7, 8, 9] (fun s4 s7 _ _ wx => ∃ (k : Nat) (M : List Int), s7 = .int .i64 k ∧ k ≤ l.length ∧ i < M.length ∧ M.getD i 0 = p ∧ Gath n M i ∧ (∀ t, t < k → l.getD t 0 ∈ M) ∧ Got w 3 1 s4 M.length M wx ∧ Row0 wx 3 1 (.slice A2 l.length c2) l.length l) (fun _ s7 _ _ _ => l.length - (intOf s7).toNat)
        case atStart => exact ⟨0, L, rfl, Nat.zero_le _, h0, HPi.out, HGa.out, (fun t ht => absurd ht (by omega)), HG2.out, HR.out⟩
        case round =>
          clear HG HG2 HGa HR HPi
          obtain ⟨k, M, rfl, hk, hiM, hMi, hga, hin, hG, hR⟩ := hrel
          have hlen2 : M.length ≤ 31 := reach_short HNp.out hn9 hga.nd hga.reach
          have HGa := Lib.hid hga
          have HG := Lib.hid hG
          have HR := Lib.hid hR
          have HMi := Lib.hid hMi
          have HIn := Lib.hid hin
          obtain ⟨B, cB, e4, hsB, hcB1, hcB2, -⟩ := hG.shows
          obtain ⟨A3, c3, e5, hsA, -, -⟩ := hR.shows
          injection e5 with e5a e5b e5c
          obtain rfl := e5a
          obtain rfl := e4
          clear hga hin hG hR hMi e5b e5c
          unfold maxLen at hcB2
          by_cases hkl : k < l.length
          · obtain ⟨b1, o1, rfl, hb1, hcell⟩ := hsA (by omega)
            have x1 := hcell k hkl
            obtain ⟨b2, o2, rfl, hb2, hcell2⟩ := hsB (by omega)
            obtain ⟨hq1, hq2⟩ := HLl.out k hkl
            have HIs := Lib.hid (fun (M' : List Int) (h : ∀ t, t < k → l.getD t 0 ∈ M') (hq : l.getD k 0 ∈ M') => (show ∀ t, t < k + 1 → l.getD t 0 ∈ M' from fun t ht => by
              rcases Nat.lt_or_ge t k with g | g
              · exact h t g
              · rw [show t = k by omega]; exact hq))
            obtain ⟨q, hq⟩ : ∃ q, l.getD k 0 = q := ⟨_, rfl⟩
            rw [hq] at x1 hq1 hq2 HIs
            have HQr := Lib.hid hq1
            clear hcell hq hq1 hsA hsB
            have HC2 := Lib.hid hcell2
            clear hcell2
            go_wp2_with fail
            obtain ⟨W6, hW6⟩ : ∃ W6 : World, W6 = wr := ⟨_, rfl⟩
            subst hW6
            go_loopw [8, 9] (fun s8 s9 wy => ∃ (f : Bool) (t : Nat), s8 = .bool f ∧ s9 = .int .i64 t ∧ t ≤ M.length ∧ (f = true ↔ q ∈ M.take t) ∧ ∃ m, wy = W6.drewN m) (fun _ s _ => M.length - (intOf s).toNat)
            case atStart => exact ⟨false, 0, rfl, rfl, Nat.zero_le _, by simp, 0, rfl⟩
            case round =>
              obtain ⟨f, t, rfl, rfl, ht, hf, m, rfl⟩ := hrel
              have HFt := Lib.hid hf
              clear hf
              by_cases h0t : t < M.length
              · have y1 := HC2.out t h0t
                have HTt := Lib.hid (mem_take_step q h0t)
                obtain ⟨z, hz0⟩ : ∃ z, M.getD t 0 = z := ⟨_, rfl⟩
                rw [hz0] at y1 HTt
                clear hz0
                cases f
                · by_cases hz : z = q
                  · have HN := Lib.hid (show (true = true ↔ q ∈ M.take (t + 1)) from ⟨fun _ => HTt.out.2 (.inr hz), fun _ => rfl⟩)
                    have dz := t_beq hz
                    clear hz HTt HFt
                    go_wp2_with fail
                    go_quiet (fail)
                    go_wp2_with fail
                    exact ⟨⟨true, t + 1, rfl, by go_num, by omega, by simpa using HN.out, _, rfl⟩, by simp [intOf]; omega⟩
                  · have HN := Lib.hid (show (false = true ↔ q ∈ M.take (t + 1)) from ⟨(fun h => by cases h), (fun h => by rcases HTt.out.1 h with g | g; exact HFt.out.2 g; exact absurd g hz)⟩)
                    have dz := f_beq hz
                    clear hz HTt HFt
                    go_wp2_with fail
                    go_quiet (fail)
                    go_wp2_with fail
                    exact ⟨⟨false, t + 1, rfl, by go_num, by omega, HN.out, _, rfl⟩, by simp [intOf]; omega⟩
                · have HN := Lib.hid (show (true = true ↔ q ∈ M.take (t + 1)) from ⟨fun _ => HTt.out.2 (.inl (HFt.out.1 rfl)), fun _ => rfl⟩)
                  clear HTt HFt
                  go_wp2_with fail
                  go_quiet (fail)
                  go_wp2_with fail
                  exact ⟨⟨true, t + 1, rfl, by go_num, by omega, by simpa using HN.out, _, rfl⟩, by simp [intOf]; omega⟩
              · have hte : t = M.length := by omega
                have HFn := Lib.hid (show (f = true ↔ q ∈ M) by have h := HFt.out; rwa [hte, List.take_length] at h)
                clear HFt
                clear HC2
                cases f
                · have hqM : q ∉ M := fun h => by have := HFn.out.2 h; cases this
                  have HGn := Lib.hid (HGa.out.add (by omega) HQr.out hqM)
                  have hne : l.getD 0 0 ≠ M.getD 0 0 := by
                    have h1 := (HLl.out 0 (by omega)).2
                    have h2 := HGa.out.head
                    omega
                  have HNe := Lib.hid hne
                  have HMn := Lib.hid (show (M ++ [q]).getD i 0 = p by
                    have := HMi.out
                    rw [List.getD_eq_getElem?_getD, List.getElem?_append_left hiM, ← List.getD_eq_getElem?_getD]; exact this)
                  have HIn2 := Lib.hid (HIs.out (M ++ [q]) (fun t ht => List.mem_append_left _ (HIn.out t ht)) (List.mem_append_right _ (by simp)))
                  clear hqM hne HFn HIs HIn HMi
                  go_wp2_with (at_builtin; refine wpList_append_got2 rfl (.tmp 58) (.tmp 63) 46 rfl 3 i0 _ 1 8 Try.underlying46 HI.out HZ0.out HZ1.out HZ2.out rfl (by decide) _ M.length M rfl (HG.out.drewN m) _ _ [q] rfl rfl 1 rfl (by omega) (by unfold maxLen; omega) ?_; intro v' w3 hg2 hg3; have HG2 := Lib.hid hg2; have HG3 := Lib.hid hg3; clear hg2 hg3)
                  have HRn := (HR.out.keep ((below_drewN (Below.refl _ _) m).alloc (Nat.le_refl _) _)).beside2 ((HG.out.drewN m).alloc _).row0 (by omega) (by omega) HNe.out HG3.out
                  exact ⟨⟨k + 1, M ++ [q], by go_num, by omega, by rw [List.length_append]; omega, HMn.out, HGn.out, HIn2.out, by rw [List.length_append]; exact HG2.out, HRn⟩, by simp [intOf]; omega⟩
                · have HIn2 := Lib.hid (HIs.out M HIn.out (HFn.out.1 rfl))
                  clear HFn HIs HIn
                  go_wp2_with fail
                  exact ⟨⟨k + 1, M, by go_num, by omega, hiM, HMi.out, HGa.out, HIn2.out, HG.out.drewN m, HR.out.keep (below_drewN (Below.refl _ _) m)⟩, by simp [intOf]; omega⟩
          · have hke : k = l.length := by omega
            have HNx := Lib.hid (HGa.out.next (fun r hr => by
              rw [HMi.out, HLp.out] at hr
              obtain ⟨t, t1, t2⟩ := mem_getD hr
              rw [← t2]
              exact HIn.out t (by omega)))
            clear HIn HGa
            go_wp2_with fail
            exact ⟨⟨i + 1, M, by go_num, by omega, HNx.out, HG.out⟩, by simp [intOf]; omega⟩
      · have hie : i = L.length := by omega
        have hall : ∀ m, m ∈ L ↔ FF.Reach n m := Gath.all (by rw [← hie]; exact HGa.out)
        obtain ⟨ks, k1, k2, k3⟩ := sorted_exists L HGa.out.nd
        have HK1 := Lib.hid k1
        have HK2 := Lib.hid k2
        have HK3 := Lib.hid (show ∀ m, m ∈ ks ↔ FF.Reach n m from fun m => (k2 m).trans (hall m))
        have HK3l := Lib.hid k3
        have HL2 := Lib.hid (show ∀ m ∈ L, 2 ≤ m from fun m hm => ((hall m).1 hm).prime HNp.out |>.2.1)
        obtain ⟨j0, hj, hj0, hj1, hj2⟩ := info_parts info_step
        have HJ := Lib.hid hj; have HJ0 := Lib.hid hj0; have HJ1 := Lib.hid hj1; have HJ2 := Lib.hid hj2
        clear hj hj0 hj1 hj2 hall k1 k2 k3 HGa hie
        obtain ⟨W1, hW1⟩ : ∃ W1 : World, W1 = wr := ⟨_, rfl⟩
        subst hW1
        clear hs
        go_wp2_with fail
        go_loopw [10, 11, 12, 13, 14] (fun s10 _ _ _ _ wx => ∃ (t : Nat) (rs : List Refs), t ≤ L.length ∧ rs.length = t ∧ rs.map (fun x => x.1) = (ks.take t).map stepOf ∧ Got w 3 1 (.slice A L.length c) L.length L wx ∧ GotS w s10 rs wx) (fun s10 _ _ _ _ _ => L.length - lenV s10)
        case atStart => exact ⟨0, [], Nat.zero_le _, rfl, rfl, HG.out, GotS.start HG.out.2⟩
        case round =>
          obtain ⟨t, rs, ht, hrt, hrs, hG2, hGS⟩ := hrel
          have HG2 := Lib.hid hG2
          have HGS := Lib.hid hGS
          have HRs := Lib.hid hrs
          obtain ⟨A3, c3, e3, hS3, hc5, hc6⟩ := hGS.shows
          subst hrt
          obtain rfl := e3
          clear hG2 hGS hrs
          unfold maxLen at hc6
          by_cases htl : rs.length < L.length
          · have htk : rs.length < ks.length := by rw [HK3l.out]; exact htl
            obtain ⟨W7, hW7⟩ : ∃ W7 : World, W7 = wr := ⟨_, rfl⟩
            subst hW7
            have HS3 := Lib.hid hS3
            clear hS3
            go_upto_if 72 with (fail)
            go_cut [12] (fun s12 wx => s12 = .int .i64 (lastOf ks rs.length) ∧ W7 = wx)
            case first =>
              by_cases ht0 : 0 < rs.length
              · have HLa := Lib.hid (show lastOf ks rs.length = ks.getD (rs.length - 1) 0 by unfold lastOf; rw [if_neg (by omega)])
                obtain ⟨b3, o3, rfl, hb3, hcell3⟩ := HS3.out (by rw [List.length_map]; exact ht0)
                obtain ⟨-, -, y1, -⟩ := hcell3 (rs.length - 1) (by rw [List.length_map]; omega)
                rw [HRs.out, map_getD (by rw [List.length_take]; omega)] at y1
                have HLa2 := Lib.hid (show (stepOf ((List.take rs.length ks).getD (rs.length - 1) 0)).1 = lastOf ks rs.length by
                  rw [HLa.out]
                  show (List.take rs.length ks).getD (rs.length - 1) 0 = _
                  rw [List.getD_eq_getElem?_getD, List.getElem?_take_of_lt (by omega), ← List.getD_eq_getElem?_getD])
                rw [HLa2.out] at y1
                obtain ⟨last, hlast⟩ : ∃ last, lastOf ks rs.length = last := ⟨_, rfl⟩
                rw [hlast] at y1
                have HLt := Lib.hid hlast
                clear hcell3 HLa HLa2 hlast HS3
                have d0 : decide ((0 : Int) < ((rs.length : Nat) : Int)) = true := decide_eq_true (by omega)
                go_wp2_with fail
                go_meet
                exact ⟨by rw [HLt.out], rfl⟩
              · have HLa := Lib.hid (show lastOf ks rs.length = 0 by unfold lastOf; rw [if_pos (by omega)])
                have d0 : decide ((0 : Int) < ((rs.length : Nat) : Int)) = false := decide_eq_false (by omega)
                go_wp2_with fail
                go_meet
                exact ⟨by rw [HLa.out], rfl⟩
            case rest =>
              obtain ⟨rfl, rfl⟩ := hcut
              obtain ⟨last, hlast⟩ : ∃ last, lastOf ks rs.length = last := ⟨_, rfl⟩
              have HLt := Lib.hid hlast
              rw [hlast]
              clear hlast HS3
              obtain ⟨bL, oL, hAL, hbL, hcL⟩ := (show ShowsI W7 A L from (by
                obtain ⟨A9, c9, e9, s9, -⟩ := HG2.out.shows
                injection e9 with e9
                rw [e9]; exact s9)) (by omega)
              obtain rfl := hAL
              have HCL := Lib.hid hcL
              clear hcL
              go_wp2_with fail
              go_loopw [11, 13] (fun s11 s13 wy => ∃ (v : Int) (j : Nat), s11 = .int .i64 v ∧ s13 = .int .i64 j ∧ j ≤ L.length ∧ Sel L last v j ∧ ∃ m, wy = W7.drewN m) (fun _ s _ => L.length - (intOf s).toNat)
              case atStart => exact ⟨0, 0, rfl, rfl, Nat.zero_le _, Sel.start _ _, 0, rfl⟩
              case round =>
                obtain ⟨v, j, rfl, rfl, hjl, hsel, m, rfl⟩ := hrel
                have HSel := Lib.hid hsel
                clear hsel
                by_cases hj : j < L.length
                · have z1 := HCL.out j hj
                  have hpk := Lib.hid (fun h1 h2 => HSel.out.pick hj HL2.out h1 h2)
                  have hsk := Lib.hid (fun h1 => HSel.out.skip (i := j) h1)
                  obtain ⟨q, hq⟩ : ∃ q, L.getD j 0 = q := ⟨_, rfl⟩
                  rw [hq] at z1 hpk hsk
                  clear hq HSel
                  by_cases g1 : last < q
                  · have d1 : decide (last < q) = true := decide_eq_true g1
                    by_cases g2 : v = 0
                    · have HN := Lib.hid (hpk.out g1 (.inl g2))
                      have d2 := t_beq g2
                      clear g2 hpk hsk g1
                      go_wp2_with fail
                      exact ⟨⟨q, j + 1, rfl, by go_num, by omega, HN.out, _, rfl⟩, by simp [intOf]; omega⟩
                    · by_cases g3 : q < v
                      · have HN := Lib.hid (hpk.out g1 (.inr g3))
                        have d2 := f_beq g2
                        have d3 : decide (q < v) = true := decide_eq_true g3
                        clear g2 hpk hsk g1 g3
                        go_wp2_with fail
                        exact ⟨⟨q, j + 1, rfl, by go_num, by omega, HN.out, _, rfl⟩, by simp [intOf]; omega⟩
                      · have HN := Lib.hid (hsk.out (.inr ⟨g2, by omega⟩))
                        have d2 := f_beq g2
                        have d3 : decide (q < v) = false := decide_eq_false g3
                        clear g2 hpk hsk g1 g3
                        go_wp2_with fail
                        exact ⟨⟨v, j + 1, rfl, by go_num, by omega, HN.out, _, rfl⟩, by simp [intOf]; omega⟩
                  · have HN := Lib.hid (hsk.out (.inl (by omega)))
                    have d1 : decide (last < q) = false := decide_eq_false g1
                    clear g1 hpk hsk
                    go_wp2_with fail
                    exact ⟨⟨v, j + 1, rfl, by go_num, by omega, HN.out, _, rfl⟩, by simp [intOf]; omega⟩
                · have hje : j = L.length := by omega
                  have HV := Lib.hid (Sel.done HK1.out HK2.out HL2.out htk (v := v) (by rw [HLt.out, ← hje]; exact HSel.out))
                  obtain ⟨p1, p2, p3⟩ := ((HK3.out _).1 (getD_mem htk)).prime HNp.out
                  rw [← HV.out] at p1 p2 p3
                  have HPp := Lib.hid p1
                  have HPr := Lib.hid (fun w => rPrimes_any (v - 1) w (by omega) (by omega))
                  have hll : (primesOf (v - 1)).length ≤ 30 := by rw [primesOf_len]; exact facs_len (by omega) (by omega)
                  clear p1 HSel hje
                  go_wp2_with fail
                  refine (HPr.out _).mono ?_
                  rintro e w2 ⟨v2, rfl, hPs⟩
                  have HRow := Lib.hid hPs.row0
                  have HG3 := Lib.hid ((HG2.out.drewN m).keep hPs.2)
                  have HGS3 := Lib.hid ((HGS.out.drewN m).keep hPs.2)
                  obtain ⟨A5, c5, e5, hS5, hc7, hc8, -⟩ := hPs.shows
                  obtain rfl := e5
                  unfold maxLen at hc8
                  have HS5 := Lib.hid hS5
                  clear hPs hS5 HPr HG2 HGS
                  go_wp2_with fail
                  obtain ⟨r1, r2, r3, r4⟩ := rootOf_spec HPp.out
                  have HR3 := Lib.hid r3
                  have HR4 := Lib.hid r4
                  have HFe := Lib.hid (fun r (h1 : 1 ≤ r) (h2 : r < v) => fermat_mod HPp.out h1 h2)
                  have HPm := Lib.hid (fun r w (hs : ShowsI w A5 (primesOf (v - 1))) hr => rPrimitive_any A5 (primesOf (v - 1)) c5 r v w hs hr p2 (by omega) (fun i hi => (by have := mem_of_primesOf HPp.out (getD_mem hi); omega)) (by unfold maxLen; omega))
                  clear r3 r4
                  have hb0 : Below w2.heap.size w2 (w2.alloc (.cells #[.int .i64 v, .int .i64 1, .slice A5 (primesOf (v - 1)).length c5] 48)) := (Below.refl _ _).alloc (Nat.le_refl _) _
                  generalize hl5 : primesOf (v - 1) = l5 at *
                  have HL5 := Lib.hid hl5
                  clear hl5
                  obtain ⟨W8, hW8⟩ : ∃ W8, w2.alloc (.cells #[.int .i64 v, .int .i64 1, .slice A5 l5.length c5] 48) = W8 := ⟨_, rfl⟩
                  have hc3 : C3 W8 w2.heap.size (.int .i64 v) (.int .i64 1) (.slice A5 l5.length c5) := hW8 ▸ C3.new w2 _ _ _ _
                  rw [hW8] at hb0 ⊢
                  clear hW8
                  go_loopw [] (fun wy => ∃ r : Int, 1 ≤ r ∧ r ≤ rootOf v ∧ C3 wy w2.heap.size (.int .i64 v) (.int .i64 r) (.slice A5 l5.length c5) ∧ Below w2.heap.size w2 wy) (fun wy => (rootOf v).toNat - midIn wy w2.heap.size)
                  case atStart => exact ⟨1, by omega, r1, hc3, hb0⟩
                  case round =>
                    obtain ⟨r, q1, q2, hc4, hby⟩ := hrel
                    have HBy := Lib.hid hby
                    have HC4 := Lib.hid hc4
                    obtain ⟨y0, y1, y2, y3, y4⟩ := hc4
                    have yf := y4 1
                    have HMr := Lib.hid HC4.out.midIn
                    have HPq := Lib.hid (HPm.out r wr (HS5.out.below hby) ⟨by omega, by omega⟩)
                    rw [show (r ^ (v - 1).toNat % v == 1) = true from t_beq (HFe.out r q1 (by omega)), Bool.true_and] at HPq
                    have HBb := Lib.hid (HR4.out r q1)
                    clear hby y4 hc3 hb0
                    cases hg : genB r v l5
                    · have hlt : r < rootOf v := by
                        rcases Int.lt_or_le r (rootOf v) with g | g
                        · exact g
                        · rw [show r = rootOf v by omega, HR3.out] at hg; cases hg
                      rw [hg] at HPq
                      clear hg HBb
                      go_wp2_with fail
                      refine HPq.out.mono ?_
                      rintro e w' ⟨rfl, n3, rfl⟩
                      have HC5 := Lib.hid ((HC4.out.drewN n3).mid (.int .i64 (r + 1)))
                      have HB9 := Lib.hid ((below_drewN HBy.out n3).setCell (p := ⟨w2.heap.size, 1, none⟩) (Nat.le_refl _) (.int .i64 (r + 1)))
                      clear HPq HBy
                      go_wp2_with fail
                      exact ⟨⟨r + 1, by omega, by omega, HC5.out, HB9.out⟩, by rw [HC5.out.midIn, HMr.out]; omega⟩
                    · have her : r = rootOf v := by
                        rcases Int.lt_or_le r (rootOf v) with g | g
                        · rw [HBb.out g] at hg; cases hg
                        · omega
                      have HEr := Lib.hid her
                      rw [hg] at HPq
                      clear hg HBb her
                      go_wp2_with fail
                      refine HPq.out.mono ?_
                      rintro e w' ⟨rfl, n3, rfl⟩
                      have HG4 := Lib.hid (HG3.out.keep (below_drewN HBy.out n3))
                      have HGS4 := Lib.hid (HGS3.out.keep (below_drewN HBy.out n3))
                      have HR5 := Lib.hid (HRow.out.keep (below_drewN HBy.out n3))
                      have HSt := Lib.hid (show stepOf v = (v, r, l5) by unfold stepOf; rw [HEr.out, HL5.out])
                      clear HPq HBy
                      go_wp2_with (at_builtin; refine wpList_append_gotS rfl (.tmp 125) (.tmp 127) 45 rfl j0 _ 40 Try.underlying45 HJ.out HJ0.out HJ1.out HJ2.out (by decide) _ rs rfl HGS4.out _ _ ((v, r, l5), A5, c5) rfl 1 HR5.out rfl (by omega) (by unfold maxLen; omega) ?_; intro v' w3 hg2 hg3; have HG6 := Lib.hid hg2; have HG7 := Lib.hid hg3; clear hg2 hg3)
                      have hal : Below (wr.drewN n3).heap.size (wr.drewN n3) ((wr.drewN n3).alloc (.cells #[.int .i64 v, .int .i64 r, .slice A5 l5.length c5] 48)) := (Below.refl _ _).alloc (Nat.le_refl _) _
                      refine ⟨⟨rs.length + 1, rs ++ [((v, r, l5), A5, c5)], by omega, by simp, ?_, (HG4.out.keep hal).besideT (HGS4.out.keep hal).1 (by decide) HG7.out HG6.out.2.1, HG6.out⟩, ?_⟩
                      · have he : ks[rs.length] = v := by
                          have := HV.out
                          rw [List.getD_eq_getElem?_getD, List.getElem?_eq_getElem htk] at this
                          exact this.symm
                        rw [List.map_append, HRs.out, List.take_succ_eq_append_getElem htk, List.map_append, he, List.map_cons, List.map_nil, List.map_cons, List.map_nil, HSt.out]
                      · obtain ⟨A9, c9, e9, -⟩ := HG6.out.shows
                        rw [e9]
                        show L.length - (rs ++ [((v, r, l5), A5, c5)]).length < L.length - rs.length
                        rw [List.length_append]
                        simp only [List.length_cons, List.length_nil]
                        omega
          · have hte : rs.length = L.length := by omega
            have HFin := Lib.hid (show rs.map (fun x => x.1) = ks.map stepOf by
              have := HRs.out
              rwa [hte, ← HK3l.out, List.take_length] at this)
            clear HRs
            go_wp2_with fail
            go_ret2
            have e : ks.length = rs.length := by rw [HK3l.out, hte]
            exact .inr ⟨HF.out, ks, HK1.out, HK3.out, A3, c3, by rw [e]; rfl, by rw [← HFin.out]; exact hS3, by rw [e]; exact hc5, by unfold maxLen; omega, HG2.out.2⟩
end Go.Proofs.Ytfjmhfmhijhpkaa
