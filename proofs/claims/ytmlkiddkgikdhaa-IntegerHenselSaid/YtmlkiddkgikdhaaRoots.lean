/- Roots of the program, for all numbers. -/
import Derived.Test.YtmlkiddkgikdhaaUnits
import Derived.Test.YtmlkiddkgikdhaaPp
import Derived.Test.YtmlkiddkgikdhaaFac
import Derived.Test.YtmlkiddkgikdhaaLst
import Derived.Deep.DeepCutAuto
namespace Go.Proofs.Ytmlkiddkgikdhaa
open Go.RowKit FF

/-- the error of Roots -/
def rootsE (a p k : Int) : Int := if ppE p k = 0 then (if 1000 < (rootsL a (ppV p k)).length then 8 else 0) else ppE p k
/-- the roots, or none -/
def rootsR (a p k : Int) : List Int := if rootsE a p k = 0 then rootsL a (ppV p k) else []
/-- what Roots hands back -/
def RootsPost (a p k : Int) (w : World) (e : Ending) (w' : World) : Prop := ∃ (A : Option Addr) (c : Nat), e = .returned (.tuple #[.slice A (rootsR a p k).length c, .int .i64 (rootsE a p k)]) ∧
  ShowsI w' A (rootsR a p k) ∧ (rootsR a p k).length ≤ c ∧ c ≤ maxLen ∧ Below w.heap.size w w'
theorem RootsPost.none {a p k : Int} {w w' : World} {E : Int} (hE : rootsE a p k = E) (hR : rootsR a p k = []) (hb : Below w.heap.size w w') : RootsPost a p k w (.returned (.tuple #[.slice none 0 0, .int .i64 E])) w' :=
  ⟨Option.none, 0, by rw [hE, hR]; rfl, by rw [hR]; exact ShowsI.nil, by rw [hR]; exact Nat.le_refl _, by simp [maxLen], hb⟩
theorem pp_good {p k : Int} (h : ppE p k = 0) : ∃ P K : Nat, p = P ∧ k = K ∧ IsP P ∧ 1 ≤ K ∧ ppV p k = (P : Int) ^ K ∧ (P : Int) ^ K ≤ 1000000000 ∧ P ≤ 1000000000 := by
  have hV : ppV p k = p ^ k.toNat := if_pos h
  unfold ppE at h
  by_cases c1 : isPB p = false
  · rw [if_pos c1] at h; exact absurd h (by omega)
  rw [if_neg c1] at h
  by_cases c2 : k < 1
  · rw [if_pos c2] at h; exact absurd h (by omega)
  rw [if_neg c2] at h
  by_cases c3 : 1000000000 < p ^ k.toNat
  · rw [if_pos c3] at h; exact absurd h (by omega)
  have hp : isPB p = true := by cases hx : isPB p; exact absurd hx c1; rfl
  obtain ⟨h1, h2⟩ := isPB_iff.1 hp
  have := h1.1
  refine ⟨p.toNat, k.toNat, by omega, by omega, h1, by omega, ?_, ?_, by omega⟩
  · rw [hV, show ((p.toNat : Nat) : Int) = p by omega]
  · rw [show ((p.toNat : Nat) : Int) = p by omega]; omega
theorem pp_mk {P K : Nat} (hp : IsP P) (hk : 1 ≤ K) (h : (P : Int) ^ K ≤ 1000000000) : ppE (P : Int) (K : Int) = 0 ∧ ppV (P : Int) (K : Int) = (P : Int) ^ K := by
  have hP : (P : Int) ≤ 1000000000 := by
    have := pow_le_q (p := P) (i := 1) (k := K) hp.pos hk
    rw [Int.pow_succ, Int.pow_zero, Int.one_mul] at this
    omega
  have e : ppE (P : Int) (K : Int) = 0 := by
    unfold ppE
    rw [if_neg (by rw [isPB_iff.2 ⟨by rw [Int.toNat_natCast]; exact hp, hP⟩]; simp), if_neg (by omega), if_neg (by rw [Int.toNat_natCast]; omega)]
  exact ⟨e, by unfold ppV; rw [if_pos e, Int.toNat_natCast]⟩
theorem shows_bound {W : World} {A : Option Addr} {B : List Int} {n i : Nat} (h : ShowsI W A B) (hn : B.length = n) (hi : i < n) : ∃ b o, A = some ⟨b, o, none⟩ ∧ W.cell? ⟨b, o + i, none⟩ = some (.int .i64 (B.getD i 0)) ∧ B.getD i 0 ∈ B ∧ b < W.heap.size := by
  obtain ⟨b, o, e, hb, hc⟩ := h (by omega)
  refine ⟨b, o, e, hc i (by omega), ?_, hb⟩
  rw [List.getD_eq_getElem?_getD, List.getElem?_eq_getElem (by omega)]; exact List.getElem_mem _

theorem Roots_small {a p k : Int} {w : World} (hk : I64 k) (hE : ppE p k ≠ 0) : Calls Try.prog 22 #[.int .i64 a, .int .i64 p, .int .i64 k] w (RootsPost a p k w) := by
  have hP := Lib.hid (fun w => primePower_any p k w hk)
  have E1 := Lib.hid (show rootsE a p k = ppE p k from if_neg hE)
  have R1 := Lib.hid (show rootsR a p k = [] from if_neg (by rw [E1.out]; exact hE))
  have d := bne_iff_ne.2 hE
  clear hE
  generalize ppE p k = E at *
  generalize ppV p k = V at *
  go_enter Try.func22, Try.ntmps22
  go_wp2_with fail
  refine (hP.out _).mono ?_
  rintro e w' ⟨rfl, n1, rfl⟩
  go_wp2_with fail
  go_ret2
  exact RootsPost.none E1.out R1.out (below_drewN (Below.refl _ _) _)

theorem plan_bound {M : Nat} {D q : Int} (hM : 1 ≤ M) (hD : 1 ≤ D) (h : (M : Int) * D = q) (hq : q ≤ 1000000000) : (M : Int) ≤ 1000000000 ∧ D ≤ 1000000000 := by
  have h1 := Int.mul_le_mul_of_nonneg_left hD (show (0 : Int) ≤ M by omega)
  have h2 := Int.mul_le_mul_of_nonneg_right (show (1 : Int) ≤ M by omega) (show (0 : Int) ≤ D by omega)
  omega
/-- what the first half of Roots leaves to the second -/
def PlanRel (P K : Nat) (b q : Int) (S : Nat) (B : List Int) : Prop := ∃ (T D : Int) (M : Nat), RootsPlan b q B T D M ∧ (P : Int) ^ S = T ∧ S ≤ K ∧ ((b = 0 ∧ D = T) ∨ (b ≠ 0 ∧ q / T = D)) ∧ q / D = M
theorem PlanRel.zero {P K : Nat} (hp : IsP P) (hk : 1 ≤ K) : PlanRel P K 0 ((P : Int) ^ K) ((K + 1) / 2) [0] := by
  refine ⟨_, _, _, plan_zero hp hk, rfl, by omega, .inl ⟨rfl, rfl⟩, ?_⟩
  rw [div_pow hp (by omega)]; push_cast; rfl
theorem PlanRel.unit {P K : Nat} (hp : IsP P) {b : Int} (hb : b ≠ 0) {s : Nat} (hv : vp P b = 2 * s) (hk : 2 * s < K) (hq : (P : Int) ^ K ≤ 1000000000) {B : List Int} (hB : IsRoots B (rest P b) ((P : Int) ^ (K - 2 * s))) (hl : B.length ≤ 4) :
    PlanRel P K b ((P : Int) ^ K) s B := by
  have hp2 := hp.1
  have he := eq_pow_rest (p := (P : Int)) (by omega) hb
  rw [hv] at he
  have h := plan_unit hp hk hB hl hq
  rw [← he] at h
  refine ⟨_, _, _, h, rfl, by omega, .inr ⟨hb, div_pow hp (by omega)⟩, ?_⟩
  rw [div_pow hp (by omega), show K - (K - s) = s by omega]; push_cast; rfl
theorem vp_bound {P K : Nat} (hp : IsP P) {b : Int} (h0 : 0 < b) (hlt : b < (P : Int) ^ K) : vp P b < K := by
  have hp2 := hp.1
  have he := eq_pow_rest (p := (P : Int)) (by omega) (show b ≠ 0 by omega)
  have hr := rest_pos (p := (P : Int)) (n := b) (by omega) h0
  rcases Nat.lt_or_ge (vp P b) K with g | g
  · exact g
  · exfalso
    have h1 := pow_le_q (p := P) (i := K) (k := vp P b) hp.pos g
    have h2 := Int.mul_le_mul_of_nonneg_left (show (1 : Int) ≤ rest P b by omega) (show (0 : Int) ≤ (P : Int) ^ vp P b by have := ppos hp (vp P b); omega)
    omega

set_option maxHeartbeats 8000000 in
set_option maxRecDepth 100000 in
theorem Roots_big (a : Int) (P K : Nat) (q : Int) (w : World) (ha : I64 a) (hp : IsP P) (hk : 1 ≤ K) (hq : (P : Int) ^ K = q) (hq9 : q ≤ 1000000000) (hK : K ≤ 40) :
    Calls Try.prog 22 #[.int .i64 a, .int .i64 (P : Int), .int .i64 (K : Int)] w (RootsPost a P K w) := by
  obtain ⟨i0, hi, hz0, hz1, hz2⟩ := info_parts info_int
  have HI := Lib.hid hi; have HZ0 := Lib.hid hz0; have HZ1 := Lib.hid hz1; have HZ2 := Lib.hid hz2
  clear hi hz0 hz1 hz2
  obtain ⟨eE, eV⟩ := pp_mk hp hk (by rw [hq]; exact hq9)
  rw [hq] at eV
  have q1 : 1 ≤ q := by rw [← hq]; exact ppos hp K
  have hPp := Lib.hid (fun w => eV ▸ eE ▸ primePower_any (P : Int) (K : Int) w ⟨by omega, by omega⟩)
  have hPp2 := Lib.hid (fun (j : Nat) (w : World) (hj : 1 ≤ j) (hjk : j ≤ K) => by
    obtain ⟨e1, e2⟩ := pp_mk hp hj (by have := pow_le_q (p := P) (i := j) (k := K) hp.pos hjk; omega)
    have := primePower_any (P : Int) (j : Int) w ⟨by omega, by omega⟩
    rw [e1, e2] at this
    exact this)
  have HE0 := Lib.hid eE; have HVq := Lib.hid eV
  have hMd := Lib.hid (fun (b m : Int) (w : World) (h1 : I64 b) (h2 : 1 ≤ m) (h3 : m ≤ 1000000000) => mod_any b m w h1 (by omega) ⟨by omega, by omega⟩)
  have hA := Lib.hid (fun w => hMd.out a q w ha q1 hq9)
  have b0 := Int.emod_nonneg a (b := q) (by omega)
  have b1 := Int.emod_lt_of_pos a (b := q) (by omega)
  have HCg := Lib.hid (show rootsL a q = rootsL (a % q) q from rootsL_congr (by rw [Int.emod_emod]))
  have HPos := Lib.hid (fun (i S : Nat) (hS : S ≤ K) (hi : i < S) => (show 0 ≤ (P : Int) ^ i * P ∧ (P : Int) ^ i * P ≤ 1000000000 ∧ (P : Int) ^ i * P = (P : Int) ^ (i + 1) by
    have h0 : (P : Int) ^ i * P = (P : Int) ^ (i + 1) := (Int.pow_succ ..).symm
    rw [h0]
    have h1 := ppos hp (i + 1)
    have h2 := pow_le_q (p := P) (i := i + 1) (k := K) hp.pos (by omega)
    exact ⟨by omega, by omega, rfl⟩))
  have hPl : (P : Int) ≤ 1000000000 := by
    have := pow_le_q (p := P) (i := 1) (k := K) hp.pos hk
    rw [Int.pow_succ, Int.pow_zero, Int.one_mul, hq] at this
    omega
  have hP2 : 2 ≤ P := hp.1
  have HQ := Lib.hid hq; have HP := Lib.hid hp
  generalize a % q = b at *
  have hV := Lib.hid (fun (w : World) (h0 : b ≠ 0) => valuation_any b (P : Int) w ⟨by omega, by omega⟩ h0 (by omega) (by omega))
  clear hp hq eE eV ha
  go_enter Try.func22, Try.ntmps22
  go_wp2_with fail
  refine (hPp.out _).mono ?_
  rintro e w' ⟨rfl, n1, rfl⟩
  go_wp2_with fail
  refine (hA.out _).mono ?_
  rintro e w' ⟨rfl, n2, rfl⟩
  go_upto_if 40 with (fail)
  go_cut [10, 11] (fun s10 s11 wx => ∃ (S nB : Nat) (A : Option Addr) (cB : Nat) (B : List Int), s10 = .int .i64 S ∧ s11 = .slice A nB cB ∧ PlanRel P K b q S B ∧ B.length = nB ∧ ShowsI wx A B ∧ Below w.heap.size w wx)
  case first =>
    by_cases hb : b = 0
    · have HPl := Lib.hid (show PlanRel P K b q ((K + 1) / 2) [0] from by rw [hb, ← HQ.out]; exact PlanRel.zero HP.out hk)
      have hd : (b != 0) = false := by rw [hb]; rfl
      clear hb
      go_wp2_with fail
      go_meet
      exact ⟨(K + 1) / 2, 1, some ⟨w.heap.size, 0, none⟩, 1, [0], by go_num, rfl, HPl.out, rfl, ShowsI.new (w := w.drewN (n1 + n2)) (fun i hi => by match i, hi with | 0, _ => rfl), (below_drewN (Below.refl _ _) _).alloc (Nat.le_refl _) _⟩
    · have hd := bne_iff_ne.2 hb
      have hb0 : 0 < b := by omega
      have hvK := vp_bound HP.out hb0 (by rw [HQ.out]; exact b1)
      have he := Lib.hid (eq_pow_rest (p := (P : Int)) (by omega) hb)
      have hu := Lib.hid (not_dvd_rest (p := (P : Int)) (by omega) hb)
      obtain ⟨u1, u2⟩ := rest_le (p := (P : Int)) (n := b) (by omega) (by omega)
      have hUn := Lib.hid (fun (s : Nat) (w : World) (h : s < K) => units_any (rest P b) P (K - s) ((P : Int) ^ (K - s)) w u1 (by omega) HP.out (by omega) rfl (by have := pow_le_q (p := P) (i := K - s) (k := K) HP.out.pos (by omega); rw [HQ.out] at this; omega) hu.out)
      have HPU := Lib.hid (fun (s : Nat) (B : List Int) (hv : vp P b = 2 * s) (hs : 2 * s < K) hB hl => HQ.out ▸ PlanRel.unit HP.out hb (B := B) hv hs (by rw [HQ.out]; exact hq9) hB hl)
      have HV := Lib.hid (fun w => hV.out w hb)
      clear hb hV
      by_cases hodd : vp (P : Int) b % 2 = 1
      · have hno : rootsL b q = [] := by
          rw [List.eq_nil_iff_forall_not_mem]
          intro x hx
          obtain ⟨_, _, hx3⟩ := mem_rootsL.1 hx
          have h1 : vp (P : Int) b = 2 * (vp (P : Int) b / 2) + 1 := by omega
          rw [← HQ.out] at hx3
          refine no_root_odd HP.out (s := vp (P : Int) b / 2) (k := K) (u := rest P b) (by omega) hu.out (x := x) ?_
          rw [← h1, ← he.out]; exact hx3
        have E1 := Lib.hid (show rootsE a P K = 0 by unfold rootsE; rw [if_pos HE0.out, if_neg (by rw [HVq.out, HCg.out, hno]; decide)])
        have R1 := Lib.hid (show rootsR a P K = [] by unfold rootsR; rw [if_pos E1.out, HVq.out, HCg.out, hno])
        have hd2 : ((vp (P : Int) b : Int) % 2 == 1) = true := t_beq (by omega)
        clear hno hodd
        generalize vp (P : Int) b = v at *
        go_wp2_with fail
        refine (HV.out _).mono ?_
        rintro e w' ⟨rfl, n3, rfl⟩
        go_wp2_with fail
        go_ret2
        exact RootsPost.none E1.out R1.out (below_drewN ((below_drewN (Below.refl _ _) _).alloc (Nat.le_refl _) _) _)
      · obtain ⟨s, hs⟩ : ∃ s, vp (P : Int) b = 2 * s := ⟨vp (P : Int) b / 2, by omega⟩
        have hd2 : ((vp (P : Int) b : Int) % 2 == 1) = false := f_beq (by omega)
        have HS := Lib.hid hs
        have hKv : (K : Int) - (vp (P : Int) b : Int) = ((K - vp (P : Int) b : Nat) : Int) := by omega
        clear hodd hs
        generalize vp (P : Int) b = v at *
        generalize rest (P : Int) b = u at *
        go_wp2_with fail
        refine (HV.out _).mono ?_
        rintro e w' ⟨rfl, n3, rfl⟩
        go_wp2_with fail
        refine (hPp2.out (K - v) _ (by omega) (by omega)).mono ?_
        rintro e w' ⟨rfl, n4, rfl⟩
        go_wp2_with fail
        refine (hUn.out v _ (by omega)).mono ?_
        rintro e w5 ⟨B, A, c, hB, hl, rfl, hs5, hc1, hc2, hb5⟩
        have HB := Lib.hid hB; have HS5 := Lib.hid hs5
        have HB5 := Lib.hid (((below_drewN (Below.refl w.heap.size w) (n1 + n2)).alloc (Nat.le_refl _) (.cells #[.int .i64 0] 3)).trans ((below_drewN (Below.refl _ _) (n3 + n4)).trans (hb5.mono (by simp))))
        clear hB hs5 hb5
        go_wp2_with fail
        go_meet
        have hv2 := HS.out
        exact ⟨s, B.length, A, c, B, by go_num, rfl, HPU.out s B hv2 (by omega) (by rw [← hv2]; exact HB.out) hl, rfl, HS5.out, HB5.out⟩
  case rest =>
    obtain ⟨S, nB, A, cB, B, rfl, rfl, hPR, hnB0, hs5, hb5⟩ := hcut
    obtain ⟨T, D, M, hPl0, hTT0, hSK, hbb, hMM0⟩ := hPR
    have HPl := Lib.hid hPl0; have HTT := Lib.hid hTT0; have HMM := Lib.hid hMM0; have hnB := Lib.hid hnB0
    have HS5 := Lib.hid hs5; have HB5 := Lib.hid hb5; have HBB := Lib.hid hbb
    have HT := Lib.hid (fun i hi => HPos.out i S hSK hi)
    clear hPl0 hTT0 hMM0 hnB0 hs5 hb5 hbb hPp hPp2 hA hV HPos
    go_wp2_with fail
    go_loop [16, 68] (fun s16 s68 => ∃ i : Nat, s68 = .int .i64 i ∧ i ≤ S ∧ s16 = .int .i64 ((P : Int) ^ i)) (fun _ s68 => S - (intOf s68).toNat)
    case atStart => exact ⟨0, rfl, Nat.zero_le _, by simp⟩
    case round =>
      obtain ⟨i, rfl, hi, rfl⟩ := hrel
      by_cases hlt : i < S
      · obtain ⟨g1, g2, g3⟩ := HT.out i hlt
        have G3 := Lib.hid g3; clear g3
        go_wp2_with fail
        exact ⟨⟨i + 1, by go_num, by omega, by rw [← G3.out]⟩, by simp [intOf]; omega⟩
      · obtain rfl : i = S := by omega
        rw [HTT.out]
        have T1 := HPl.out.T1; have D1 := HPl.out.D1; have M1 := HPl.out.M1
        obtain ⟨m1, m2⟩ := plan_bound HPl.out.M1 HPl.out.D1 HPl.out.MD hq9
        have T9 : T ≤ 1000000000 := by
          have := pow_le_q (p := P) (i := i) (k := K) HP.out.pos hSK
          rw [HTT.out, HQ.out] at this; omega
        have hb4 := HPl.out.len
        rw [hnB.out] at hb4
        have hcnt := Lib.hid HPl.out.count
        have HBd := Lib.hid HPl.out.bnd
        have hMD := Lib.hid HPl.out.MD
        have hcm : (0 : Int) ≤ nB * M ∧ (nB : Int) * M ≤ 4000000000 := by
          have h1 := Int.mul_le_mul (show (nB : Int) ≤ 4 by omega) (show (M : Int) ≤ 1000000000 by omega) (by omega) (by omega)
          have h2 := Int.mul_nonneg (show (0 : Int) ≤ nB by omega) (show (0 : Int) ≤ M by omega)
          omega
        obtain ⟨c1, c2⟩ := hcm
        have hcN := Lib.hid (show ((nB * M : Nat) : Int) = (nB : Int) * M by push_cast; rfl)
        rcases HBB.out with ⟨hb0, hDT⟩ | ⟨hb0, hDT⟩
        · subst hDT
          subst hb0
          have hmm := HMM.out
          by_cases hbig : 1000 < (nB : Int) * M
          · have E1 := Lib.hid (show rootsE a P K = 8 by unfold rootsE; rw [if_pos HE0.out, if_pos (by rw [HVq.out, HCg.out, hcnt.out, hnB.out]; have := hcN.out; omega)])
            have R1 := Lib.hid (show rootsR a P K = [] from if_neg (by rw [E1.out]; decide))
            go_wp2_with fail
            go_ret2
            exact RootsPost.none E1.out R1.out HB5.out
          · have E1 := Lib.hid (show rootsE a P K = 0 by unfold rootsE; rw [if_pos HE0.out, if_neg (by rw [HVq.out, HCg.out, hcnt.out, hnB.out]; have := hcN.out; omega)])
            have R1 := Lib.hid (show rootsR a P K = rootsL 0 q by unfold rootsR; rw [if_pos E1.out, HVq.out, HCg.out])
            have hnM : nB * M ≤ 1000 := by have := hcN.out; omega
            clear hcnt
            go_wp2_with fail
            obtain ⟨W0, hW0⟩ : ∃ W0 : World, W0 = wc := ⟨_, rfl⟩
            subst hW0
            have HS0 := HS5; have HB0 := HB5
            go_loopw [19, 90] (fun s19 s90 wr => ∃ (i : Nat) (v : Value), s90 = .int .i64 i ∧ i ≤ nB ∧ v = s19 ∧ Got W0 3 1 v (i * M) (outL (B.take i) D D M) wr) (fun _ s90 _ => nB - (intOf s90).toNat)
            case atStart => exact ⟨0, _, rfl, Nat.zero_le _, rfl, by rw [Nat.zero_mul]; exact Got.start (Below.refl _ _)⟩
            case round =>
              obtain ⟨i, v, rfl, hi, rfl, hG⟩ := hrel
              have HG := Lib.hid hG; clear hG
              by_cases hlt : i < nB
              · obtain ⟨bk, o, rfl, hcell, hmem, hbk⟩ := shows_bound HS0.out hnB.out hlt
                obtain ⟨y0, y1⟩ := HBd.out _ hmem
                have hc2 := (HG.out.below.cell (p := ⟨bk, o + i, none⟩) hbk).trans hcell
                have HO := Lib.hid (outL_take (B := B) (step := D) (stride := D) (most := M) (i := i) (by rw [hnB.out]; exact hlt))
                have hiM : i * M + M ≤ 1000 := by
                  have := Nat.mul_le_mul_right M (show i + 1 ≤ nB by omega)
                  rw [Nat.add_mul, Nat.one_mul] at this
                  omega
                skip
                clear hmem hcell
                generalize B.getD i 0 = y at *
                generalize outL (B.take i) D D M = L1 at *
                go_wp2_with fail
                go_loopw [19, 22, 95] (fun s19 _ s95 wr => ∃ (j : Nat) (v : Value), s95 = .int .i64 j ∧ j ≤ M ∧ v = s19 ∧ Got W0 3 1 v (i * M + j) (L1 ++ rowL y D D j) wr) (fun _ _ s95 _ => M - (intOf s95).toNat)
                case atStart => exact ⟨0, _, rfl, Nat.zero_le _, rfl, by show Got _ _ _ _ _ (L1 ++ []) _; rw [List.append_nil]; exact HG.out⟩
                case round =>
                  obtain ⟨j, v, rfl, hj, rfl, hG⟩ := hrel
                  have HG2 := Lib.hid hG; clear hG
                  by_cases hjl : j < M
                  · have hjD : 0 ≤ (j : Int) * D ∧ (j : Int) * D ≤ 1000000000 := by
                      have h1 := Int.mul_nonneg (show (0 : Int) ≤ j by omega) (show (0 : Int) ≤ D by omega)
                      have h2 := Int.mul_le_mul_of_nonneg_right (show (j : Int) ≤ M by omega) (show (0 : Int) ≤ D by omega)
                      have h3 := hMD.out
                      omega
                    obtain ⟨j1, j2⟩ := hjD
                    have e1 := Int.emod_nonneg (y * D) (b := D) (by omega)
                    have e2 := Int.emod_lt_of_pos (y * D) (b := D) (by omega)
                    have HRS := Lib.hid (show rowL y D D (j + 1) = rowL y D D j ++ [(j : Int) * D] by rw [rowL_succ]; simp)
                    have hjM : i * M + j + 1 ≤ 1000 := by omega
                    clear HG
                    go_wp2_with fail
                    refine (hMd.out _ _ _ ⟨by omega, by omega⟩ (by omega) (by omega)).mono ?_
                    rintro e w' ⟨rfl, n9, rfl⟩
                    have HG3 := Lib.hid (HG2.out.drewN n9)
                    clear HG2
                    go_wp2_with (at_builtin; refine wpList_append_got rfl (.tmp 98) (.tmp 108) 30 rfl 3 i0 _ 1 8 Try.underlying30 HI.out HZ0.out HZ1.out HZ2.out rfl (by decide) _ (i * M + j) _ rfl HG3.out _ _ [(j : Int) * D] rfl rfl 1 rfl (by omega) (by unfold maxLen; omega) ?_; intro v' w2 hg2; have HG4 := Lib.hid hg2; clear hg2)
                    exact ⟨⟨j + 1, v', by go_num, by omega, rfl, by rw [HRS.out, ← List.append_assoc]; exact HG4.out⟩, by simp [intOf]; omega⟩
                  · obtain rfl : j = M := by omega
                    have HG3 := Lib.hid (show Got W0 3 1 v ((i + 1) * j) (outL (B.take (i + 1)) D D j) wr by rw [HO.out, Nat.add_mul, Nat.one_mul]; exact HG2.out)
                    clear HG2 HG HO
                    go_wp2_with fail
                    exact ⟨⟨i + 1, v, by go_num, by omega, rfl, HG3.out⟩, by simp [intOf]; omega⟩
              · obtain rfl : i = nB := by omega
                have hall : B.take i = B := List.take_of_length_le (by rw [hnB.out]; exact Nat.le_refl _)
                have HG2 := Lib.hid (show Got W0 3 1 v (i * M) (outL B D D M) wr from hall ▸ HG.out)
                clear hall HG
                have hlen := HG2.out.len
                rw [Nat.mul_one] at hlen
                have HSo := Lib.hid (Sort_own v (outL B D D M) wr (by rw [hlen]; exact HG2.out.1) (by omega))
                have hsrt : sortI (outL B D D M) = rootsL 0 q := HPl.out.srt
                rw [hsrt, hlen] at HSo
                have hll : (rootsL 0 q).length = i * M := by rw [← hsrt, sortI_length, hlen]
                have HLL := Lib.hid hll
                clear hsrt hlen hll
                go_wp2_with fail
                refine HSo.out.mono ?_
                rintro e w5 ⟨rfl, hown5, hg5⟩
                have B5 := Lib.hid (Below.grown HG2.out.below hg5 HG2.out.below.size HG2.out.row_ge)
                rw [← HLL.out] at hown5
                obtain ⟨A5, c5, hv, s5, hc5, hc6, _⟩ := own_showsI hown5
                have HS6 := Lib.hid s5
                clear hown5 hg5 s5 HSo HG2
                subst hv
                go_wp2_with fail
                go_ret2
                exact ⟨A5, c5, by rw [R1.out, E1.out]; rfl, by rw [R1.out]; exact HS6.out, by rw [R1.out]; exact hc5, hc6, HB0.out.trans (B5.out.mono HB0.out.size)⟩
        · have dbb := f_beq hb0
          have hdd := hDT
          have hmm := HMM.out
          clear hb0
          by_cases hbig : 1000 < (nB : Int) * M
          · have E1 := Lib.hid (show rootsE a P K = 8 by unfold rootsE; rw [if_pos HE0.out, if_pos (by rw [HVq.out, HCg.out, hcnt.out, hnB.out]; have := hcN.out; omega)])
            have R1 := Lib.hid (show rootsR a P K = [] from if_neg (by rw [E1.out]; decide))
            go_wp2_with fail
            go_ret2
            exact RootsPost.none E1.out R1.out HB5.out
          · have E1 := Lib.hid (show rootsE a P K = 0 by unfold rootsE; rw [if_pos HE0.out, if_neg (by rw [HVq.out, HCg.out, hcnt.out, hnB.out]; have := hcN.out; omega)])
            have R1 := Lib.hid (show rootsR a P K = rootsL b q by unfold rootsR; rw [if_pos E1.out, HVq.out, HCg.out])
            have hnM : nB * M ≤ 1000 := by have := hcN.out; omega
            clear hcnt
            go_wp2_with fail
            obtain ⟨W0, hW0⟩ : ∃ W0 : World, W0 = wc := ⟨_, rfl⟩
            subst hW0
            have HS0 := HS5; have HB0 := HB5
            go_loopw [19, 90] (fun s19 s90 wr => ∃ (i : Nat) (v : Value), s90 = .int .i64 i ∧ i ≤ nB ∧ v = s19 ∧ Got W0 3 1 v (i * M) (outL (B.take i) T D M) wr) (fun _ s90 _ => nB - (intOf s90).toNat)
            case atStart => exact ⟨0, _, rfl, Nat.zero_le _, rfl, by rw [Nat.zero_mul]; exact Got.start (Below.refl _ _)⟩
            case round =>
              obtain ⟨i, v, rfl, hi, rfl, hG⟩ := hrel
              have HG := Lib.hid hG; clear hG
              by_cases hlt : i < nB
              · obtain ⟨bk, o, rfl, hcell, hmem, hbk⟩ := shows_bound HS0.out hnB.out hlt
                obtain ⟨y0, y1⟩ := HBd.out _ hmem
                have hc2 := (HG.out.below.cell (p := ⟨bk, o + i, none⟩) hbk).trans hcell
                have HO := Lib.hid (outL_take (B := B) (step := T) (stride := D) (most := M) (i := i) (by rw [hnB.out]; exact hlt))
                have hiM : i * M + M ≤ 1000 := by
                  have := Nat.mul_le_mul_right M (show i + 1 ≤ nB by omega)
                  rw [Nat.add_mul, Nat.one_mul] at this
                  omega
                skip
                clear hmem hcell
                generalize B.getD i 0 = y at *
                generalize outL (B.take i) T D M = L1 at *
                go_wp2_with fail
                go_loopw [19, 22, 95] (fun s19 _ s95 wr => ∃ (j : Nat) (v : Value), s95 = .int .i64 j ∧ j ≤ M ∧ v = s19 ∧ Got W0 3 1 v (i * M + j) (L1 ++ rowL y T D j) wr) (fun _ _ s95 _ => M - (intOf s95).toNat)
                case atStart => exact ⟨0, _, rfl, Nat.zero_le _, rfl, by show Got _ _ _ _ _ (L1 ++ []) _; rw [List.append_nil]; exact HG.out⟩
                case round =>
                  obtain ⟨j, v, rfl, hj, rfl, hG⟩ := hrel
                  have HG2 := Lib.hid hG; clear hG
                  by_cases hjl : j < M
                  · have hjD : 0 ≤ (j : Int) * D ∧ (j : Int) * D ≤ 1000000000 := by
                      have h1 := Int.mul_nonneg (show (0 : Int) ≤ j by omega) (show (0 : Int) ≤ D by omega)
                      have h2 := Int.mul_le_mul_of_nonneg_right (show (j : Int) ≤ M by omega) (show (0 : Int) ≤ D by omega)
                      have h3 := hMD.out
                      omega
                    obtain ⟨j1, j2⟩ := hjD
                    have e1 := Int.emod_nonneg (y * T) (b := D) (by omega)
                    have e2 := Int.emod_lt_of_pos (y * T) (b := D) (by omega)
                    have HRS := Lib.hid (rowL_succ y T D j)
                    have hjM : i * M + j + 1 ≤ 1000 := by omega
                    clear HG
                    go_wp2_with fail
                    refine (hMd.out _ _ _ ⟨by omega, by omega⟩ (by omega) (by omega)).mono ?_
                    rintro e w' ⟨rfl, n9, rfl⟩
                    have HG3 := Lib.hid (HG2.out.drewN n9)
                    clear HG2
                    go_wp2_with (at_builtin; refine wpList_append_got rfl (.tmp 98) (.tmp 108) 30 rfl 3 i0 _ 1 8 Try.underlying30 HI.out HZ0.out HZ1.out HZ2.out rfl (by decide) _ (i * M + j) _ rfl HG3.out _ _ [y * T % D + j * D] rfl rfl 1 rfl (by omega) (by unfold maxLen; omega) ?_; intro v' w2 hg2; have HG4 := Lib.hid hg2; clear hg2)
                    exact ⟨⟨j + 1, v', by go_num, by omega, rfl, by rw [HRS.out, ← List.append_assoc]; exact HG4.out⟩, by simp [intOf]; omega⟩
                  · obtain rfl : j = M := by omega
                    have HG3 := Lib.hid (show Got W0 3 1 v ((i + 1) * j) (outL (B.take (i + 1)) T D j) wr by rw [HO.out, Nat.add_mul, Nat.one_mul]; exact HG2.out)
                    clear HG2 HG HO
                    go_wp2_with fail
                    exact ⟨⟨i + 1, v, by go_num, by omega, rfl, HG3.out⟩, by simp [intOf]; omega⟩
              · obtain rfl : i = nB := by omega
                have hall : B.take i = B := List.take_of_length_le (by rw [hnB.out]; exact Nat.le_refl _)
                have HG2 := Lib.hid (show Got W0 3 1 v (i * M) (outL B T D M) wr from hall ▸ HG.out)
                clear hall HG
                have hlen := HG2.out.len
                rw [Nat.mul_one] at hlen
                have HSo := Lib.hid (Sort_own v (outL B T D M) wr (by rw [hlen]; exact HG2.out.1) (by omega))
                have hsrt : sortI (outL B T D M) = rootsL b q := HPl.out.srt
                rw [hsrt, hlen] at HSo
                have hll : (rootsL b q).length = i * M := by rw [← hsrt, sortI_length, hlen]
                have HLL := Lib.hid hll
                clear hsrt hlen hll
                go_wp2_with fail
                refine HSo.out.mono ?_
                rintro e w5 ⟨rfl, hown5, hg5⟩
                have B5 := Lib.hid (Below.grown HG2.out.below hg5 HG2.out.below.size HG2.out.row_ge)
                rw [← HLL.out] at hown5
                obtain ⟨A5, c5, hv, s5, hc5, hc6, _⟩ := own_showsI hown5
                have HS6 := Lib.hid s5
                clear hown5 hg5 s5 HSo HG2
                subst hv
                go_wp2_with fail
                go_ret2
                exact ⟨A5, c5, by rw [R1.out, E1.out]; rfl, by rw [R1.out]; exact HS6.out, by rw [R1.out]; exact hc5, hc6, HB0.out.trans (B5.out.mono HB0.out.size)⟩

theorem Roots_any (a p k : Int) (w : World) (ha : I64 a) (hk : I64 k) : Calls Try.prog 22 #[.int .i64 a, .int .i64 p, .int .i64 k] w (RootsPost a p k w) := by
  by_cases h : ppE p k = 0
  · obtain ⟨P, K, rfl, rfl, h1, h2, h3, h4, h5⟩ := pp_good h
    refine Roots_big a P K _ w ha h1 h2 rfl h4 ?_
    rcases Nat.lt_or_ge 40 K with g | g
    · exfalso
      have e1 : 2 ^ K ≤ P ^ K := Nat.pow_le_pow_left h1.1 K
      have e2 : 2 ^ 40 ≤ 2 ^ K := Nat.pow_le_pow_right (by omega) (by omega)
      have e3 : 2 ^ 40 = 1099511627776 := by decide
      have e4 : ((P ^ K : Nat) : Int) ≤ 1000000000 := by rw [Int.natCast_pow]; exact h4
      omega
    · exact g
  · exact Roots_small hk h
end Go.Proofs.Ytmlkiddkgikdhaa
