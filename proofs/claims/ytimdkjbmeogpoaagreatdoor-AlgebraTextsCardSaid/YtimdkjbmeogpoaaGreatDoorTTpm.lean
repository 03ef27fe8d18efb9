/- Texts of elements: a term, as the program reads it. -/
import Derived.Test.YtimdkjbmeogpoaaGreatDoorTRtm
import Derived.Test.YtimdkjbmeogpoaaGreatDoorTShelf2
import Derived.Test.YtimdkjbmeogpoaaGreatDoorTTxf
import Derived.Lib.AtoiTie
import Derived.BigRegion
namespace Go.Proofs.YtimdkjbmeogpoaaGreatDoor
open Go.RowKit FF
theorem cell_lt {w : World} {p : Addr} {v : Value} (h : w.cell? p = some v) : p.block < w.heap.size := by
  apply Classical.byContradiction
  intro hn
  have : w.heap[p.block]? = none := Array.getElem?_eq_none (by omega)
  simp only [World.cell?, this] at h
  cases h
structure Ev (w : World) : Prop where
  tab : Ptab w
  ml : ∃ m, w.cell? ⟨0, 0, none⟩ = some (.int .i64 m)
  es : ∃ ev, w.cell? ⟨1, 0, none⟩ = some ev ∧ (ev = .nilIface ∨ ∃ te pe, ev = .iface te pe)
  er : ∃ ev, w.cell? ⟨2, 0, none⟩ = some ev ∧ (ev = .nilIface ∨ ∃ te pe, ev = .iface te pe)
theorem Ev.at {w W : World} (h : Ev w) (hb : Below w.heap.size w W) : Ev W := by
  refine ⟨fun w' h' => h.tab.at hb w' (by simpa using h'), ?_, ?_, ?_⟩
  · obtain ⟨m, hm⟩ := h.ml; exact ⟨m, (hb.cell (cell_lt hm)).trans hm⟩
  · obtain ⟨m, hm, h2⟩ := h.es; exact ⟨m, (hb.cell (cell_lt hm)).trans hm, h2⟩
  · obtain ⟨m, hm, h2⟩ := h.er; exact ⟨m, (hb.cell (cell_lt hm)).trans hm, h2⟩
def AtoiPost (l : List UInt8) (w : World) (e : Ending) (w' : World) : Prop :=
  ∃ (n : Int) (x : Value), e = .returned (.tuple #[.int .i64 n, x]) ∧ (l.length ≤ 18 → n = (Lib.atoi l).getD 0) ∧ Below w.heap.size w w'
theorem atoi_any (l : List UInt8) (w : World) (hE : Ev w) (hl : l.length ≤ 400) : Calls Tryz.prog 53 #[.string ⟨l.toArray⟩] w (AtoiPost l w) := by
  have hs : (⟨l.toArray⟩ : ByteArray).size = l.length := by show l.toArray.size = _; simp
  have hd : (⟨l.toArray⟩ : ByteArray).data.toList = l := by simp
  have key : l.length ≤ 18 → Lib.atoiAll l = Lib.NumEnd.ofOption (Lib.atoi l) := Lib.atoiAll_short l
  cases h : Lib.atoiAll l with
  | ok v =>
    refine (Tryz.strconv_Atoi_ok ⟨l.toArray⟩ (by omega) v (by rw [hd]; exact h) w).mono ?_
    rintro e w' ⟨rfl, hw⟩
    refine ⟨v, .nilIface, rfl, fun h18 => ?_, ?_⟩
    · have := key h18
      rw [h] at this
      cases ha : Lib.atoi l with
      | none => rw [ha] at this; cases this
      | some n => rw [ha] at this; injection this
    · rcases hw with rfl | ⟨t, rfl⟩
      · exact Below.refl _ _
      · exact Lib.bytesWorld_below _ _ _
  | «syntax» =>
    obtain ⟨ev, h1, h2⟩ := hE.es
    refine (Tryz.strconv_Atoi_syntax ⟨l.toArray⟩ (by omega) (by rw [hd]; exact h) ev w h1 h2).mono ?_
    rintro e w' ⟨N, rfl, -, -, hb⟩
    refine ⟨0, _, rfl, fun h18 => ?_, hb⟩
    have := key h18
    rw [h] at this
    cases ha : Lib.atoi l with
    | none => rfl
    | some n => rw [ha] at this; cases this
  | range =>
    obtain ⟨ev, h1, h2⟩ := hE.er
    refine (Tryz.strconv_Atoi_range ⟨l.toArray⟩ (by omega) (by rw [hd]; exact h) ev w h1 h2).mono ?_
    rintro e w' ⟨N, rfl, -, -, hb⟩
    refine ⟨_, _, rfl, fun h18 => ?_, hb⟩
    have := key h18
    rw [h] at this
    cases ha : Lib.atoi l with
    | none => rw [ha] at this; cases this
    | some n => rw [ha] at this; cases this
theorem decFrom_lt : ∀ (l : List UInt8) (acc n : Nat), Lib.decFrom acc l = some n → n < (acc + 1) * 10 ^ l.length
  | [], acc, n, h => by
    simp only [Lib.decFrom, Option.some.injEq] at h
    subst h; simp
  | b :: r, acc, n, h => by
    simp only [Lib.decFrom] at h
    cases hd : Lib.digitVal b with
    | none => rw [hd] at h; cases h
    | some d =>
      rw [hd] at h
      have h9 : d ≤ 9 := by
        unfold Lib.digitVal at hd
        split at hd
        · injection hd with hd; omega
        · cases hd
      have := decFrom_lt r _ n h
      rw [List.length_cons, Nat.pow_succ]
      have h2 : (acc * 10 + d + 1) * 10 ^ r.length ≤ ((acc + 1) * 10) * 10 ^ r.length := Nat.mul_le_mul_right _ (by omega)
      have h3 : ((acc + 1) * 10) * 10 ^ r.length = (acc + 1) * (10 ^ r.length * 10) := by rw [Nat.mul_assoc, Nat.mul_comm 10]
      omega
theorem decNat_lt {l : List UInt8} {n : Nat} (h : Lib.decNat l = some n) (hl : l.length ≤ 7) : n < 10000000 := by
  unfold Lib.decNat at h
  split at h
  · cases h
  · have := decFrom_lt l 0 n h
    have h2 : 10 ^ l.length ≤ 10 ^ 7 := Nat.pow_le_pow_right (by decide) hl
    omega
theorem opt_bnd {o : Option Nat} (h : ∀ n, o = some n → n < 10000000) : (-10000000 ≤ (o.map fun (m : Nat) => -(m : Int)).getD 0 ∧ (o.map fun (m : Nat) => -(m : Int)).getD 0 ≤ 10000000) ∧ (-10000000 ≤ (o.map fun (m : Nat) => (m : Int)).getD 0 ∧ (o.map fun (m : Nat) => (m : Int)).getD 0 ≤ 10000000) := by
  cases o with
  | none => simp
  | some n => have := h n rfl; simp; omega
theorem atoi_bnd {l : List UInt8} (hl : l.length ≤ 7) : -10000000 ≤ (Lib.atoi l).getD 0 ∧ (Lib.atoi l).getD 0 ≤ 10000000 := by
  cases l with
  | nil => simp [Lib.atoi]
  | cons b r =>
    have hr : r.length ≤ 7 := by simp at hl; omega
    simp only [Lib.atoi]
    split
    · exact (opt_bnd fun n h => decNat_lt h hr).1
    · split
      · exact (opt_bnd fun n h => decNat_lt h hr).2
      · exact (opt_bnd fun n h => decNat_lt h hl).2
theorem numP_bnd {t : List UInt8} (hl : t.length ≤ 7) : -10000000 ≤ numP t ∧ numP t ≤ 10000000 := by
  unfold numP
  split
  · omega
  · exact atoi_bnd hl
theorem plcP_snoc (r : List UInt8) (c : UInt8) : plcP (r ++ [c]) = if c = 105 then (1, r) else if c = 106 then (2, r) else if c = 107 then (3, r) else (0, r ++ [c]) := by
  unfold plcP; simp
def setC (c0 c1 c2 c3 : Int) (k : Nat) (n : Int) : Array Value := match k with | 0 => #[.int .i64 n, .int .i64 c1, .int .i64 c2, .int .i64 c3] | 1 => #[.int .i64 c0, .int .i64 n, .int .i64 c2, .int .i64 c3] | 2 => #[.int .i64 c0, .int .i64 c1, .int .i64 n, .int .i64 c3] | _ => #[.int .i64 c0, .int .i64 c1, .int .i64 c2, .int .i64 n]
def TermPost (b : Nat) (c0 c1 c2 c3 : Int) (s : List UInt8) (sg : Int) (w : World) (w' : World) : Prop :=
  Cells w' b (if (plcP s).2.length ≤ 7 then setC c0 c1 c2 c3 (plcP s).1 (sg * numP (plcP s).2) else #[.int .i64 c0, .int .i64 c1, .int .i64 c2, .int .i64 c3]) ∧ Below b w w' ∧ w.heap.size ≤ w'.heap.size
set_option maxHeartbeats 4000000 in
set_option maxRecDepth 100000 in
theorem term_any (b : Nat) (c0 c1 c2 c3 : Int) (s : List UInt8) (sg : Int) (w : World) (hC : Cells w b #[.int .i64 c0, .int .i64 c1, .int .i64 c2, .int .i64 c3]) (hE : Ev w) (hl : s.length ≤ 400) (hsg : sg = 1 ∨ sg = -1) :
    Calls Tryz.prog 55 #[.pointer (some ⟨b, 0, none⟩), .string ⟨s.toArray⟩, .int .i64 sg] w fun e w' => e = .returned (.tuple #[]) ∧ TermPost b c0 c1 c2 c3 s sg w w' := by
  have HS := Lib.hid hsg; have HL := Lib.hid hl
  have hws : wrap64 sg = sg := by rcases hsg with rfl | rfl <;> (unfold wrap64; omega)
  have HC := Lib.hid hC; have HE := Lib.hid hE
  clear hE hl hsg
  rcases List.eq_nil_or_concat s with hs | ⟨r, c, hs⟩
  · subst hs
    have HP := Lib.hid (show plcP [] = (0, []) from rfl)
    obtain ⟨s, hs⟩ : ∃ s : List UInt8, s = [] := ⟨_, rfl⟩
    rw [← hs] at HP ⊢
    have e0 : s.isEmpty = true := by rw [hs]; rfl
    have e1 : s.length = 0 := by rw [hs]; rfl
    have HP2 := Lib.hid (show plcP s = (0, []) from by rw [HP.out, hs])
    clear hs HP
    have HP := Lib.hid HP2.out; clear HP2
    go_enter Tryz.func55, Tryz.ntmps55
    have hbw := HC.out.1
    have HT := Lib.hid (show TermPost b c0 c1 c2 c3 s sg w (w.setCell ⟨b, 0, none⟩ (.int .i64 sg)) from by
      unfold TermPost; rw [HP.out]
      refine ⟨?_, (Only.setCell w b 0 _).below (Below.mono (Below.refl w.heap.size w) (Nat.le_of_lt hbw)) (Nat.le_refl _), by rw [(Only.setCell w b 0 _).size]; exact Below.size (Below.refl w.heap.size w)⟩
      have := HC.out.setL 0 (.int .i64 sg) (by simp) (vs' := setC c0 c1 c2 c3 0 sg) rfl
      simpa [numP] using this)
    obtain ⟨x0, x1, x2, x3⟩ := HC.out.four
    obtain ⟨f0, f1, f2, f3, -⟩ := HC.out.fr
    go_wp2_with fail
    go_end0
    exact ⟨rfl, HT.out⟩
  · obtain rfl : s = r ++ [c] := by simpa using hs
    clear hs
    have hPs := plcP_snoc r c
    have HI := Lib.hid (fun w => Tryz.strings_IndexByte ⟨#[105, 106, 107]⟩ (c.toNat : Int) w)
    have hcc : (c.toNat : Int).toNat.toUInt8 = c := by simp
    rw [hcc] at HI
    obtain ⟨s, hs⟩ : ∃ s, s = r ++ [c] := ⟨_, rfl⟩
    rw [← hs] at hPs ⊢
    have HPs := Lib.hid hPs; clear hPs
    have hsl : s.length = r.length + 1 := by rw [hs]; simp
    have hex : (⟨s.toArray⟩ : ByteArray).extract 0 r.length = ⟨r.toArray⟩ := by
      have := extract_str s 0 r.length
      rw [Nat.zero_add] at this
      rw [this, hs]; simp
    have e0 : s.isEmpty = false := by rw [hs]; simp
    have HSn := Lib.hid (show s ≠ [] from by rw [hs]; simp)
    have HLr := Lib.hid (show r.length ≤ 400 from by have := HL.out; simp at this; omega)
    have HL2 := Lib.hid (show s.length ≤ 400 from by rw [hs]; exact HL.out)
    have e1 : (s.length : Int) = (r.length : Int) + 1 := by omega
    have e2 : r.length < s.length := by omega
    have hgc2 := byte_at (l := s) (j := r.length) (c := c) e2 (by rw [hs]; simp)
    have b3 : (r.length : Int) ≤ 400 := by have := HLr.out; omega
    clear hs hcc hsl HL
    by_cases h105 : c = 105
    · subst h105
      have HP := Lib.hid (show plcP s = (1, r) from HPs.out)
      have hI := HI.out
      rw [show Lib.indexByte [105, 106, 107] 105 = 0 from by decide] at hI
      have HI := Lib.hid hI; clear hI
      by_cases hr : r = []
      · have er : r.isEmpty = true := by rw [hr]; rfl
        have er3 : (r.length : Int) ≤ 7 := by rw [hr]; decide
        have HP2 := Lib.hid (show plcP s = (1, []) from by rw [HP.out, hr])
        clear hr HP; have HP := Lib.hid HP2.out; clear HP2
        go_enter Tryz.func55, Tryz.ntmps55
        go_wp2_with fail
        refine (HI.out _).mono ?_
        rintro _ w1 ⟨rfl, hw⟩
        rw [hw]; clear hw w1
        go_wp2_with fail
        go_region
        have hbd := (Below.refl w.heap.size w).drew
        have HC3 := Lib.hid (HC.out.keep hbd)
        have HB3 := Lib.hid hbd; clear hbd
        generalize w.drew = w3 at *
        have hbw := HC.out.1
        have HT := Lib.hid (show TermPost b c0 c1 c2 c3 s sg w (w3.setCell ⟨b, 1, none⟩ (.int .i64 sg)) from by
          unfold TermPost; rw [HP.out]
          refine ⟨?_, (Only.setCell w3 b 1 _).below (Below.mono HB3.out (Nat.le_of_lt hbw)) (Nat.le_refl _), by rw [(Only.setCell w3 b 1 _).size]; exact Below.size HB3.out⟩
          have := HC3.out.setL 1 (.int .i64 sg) (by simp) (vs' := setC c0 c1 c2 c3 1 sg) rfl
          simpa [numP] using this)
        obtain ⟨x0, x1, x2, x3⟩ := HC3.out.four
        obtain ⟨f0, f1, f2, f3, -⟩ := HC3.out.fr
        go_wp2_with fail
        go_end0
        exact ⟨rfl, HT.out⟩
      · have er : r.isEmpty = false := by simpa using hr
        have HNe := Lib.hid hr; clear hr
        have HA := Lib.hid (fun w' (h : Below w.heap.size w w') => atoi_any r w' (HE.out.at h) HLr.out)
        go_enter Tryz.func55, Tryz.ntmps55
        go_wp2_with fail
        refine (HI.out _).mono ?_
        rintro _ w1 ⟨rfl, hw⟩
        rw [hw]; clear hw w1
        go_wp2_with fail
        go_region
        have hbd := (Below.refl w.heap.size w).drew
        have HC3 := Lib.hid (HC.out.keep hbd)
        have HB3 := Lib.hid hbd; clear hbd
        generalize w.drew = w3 at *
        go_wp2_with fail
        refine (HA.out _ HB3.out).mono ?_
        rintro _ w2 ⟨n, x, rfl, hn, hb⟩
        have hC2 := HC3.out.keep hb
        have HC2 := Lib.hid hC2
        obtain ⟨x0, x1, x2, x3⟩ := hC2.four
        obtain ⟨f0, f1, f2, f3, -⟩ := hC2.fr
        clear hC2
        have hbw := HC.out.1
        have HB := Lib.hid (Below.trans HB3.out (hb.mono (Below.size HB3.out)))
        clear hb
        by_cases h7 : (r).length ≤ 7
        · have hn7 := hn (by omega)
          have hnb : n = numP (r) := by rw [hn7]; unfold numP; rw [if_neg HNe.out]
          have hnn := numP_bnd h7
          rw [← hnb] at hnn
          have hsb := sg_bnd HS.out hnn
          obtain ⟨u, hu⟩ : ∃ u, u = sg * n := ⟨_, rfl⟩
          rw [← hu] at hsb
          have hw3 : wrap64 (sg * n) = u := by rw [← hu]; unfold wrap64; omega
          have HT := Lib.hid (show TermPost b c0 c1 c2 c3 s sg w (w2.setCell ⟨b, 1, none⟩ (.int .i64 u)) from by
            unfold TermPost; rw [HP.out]
            refine ⟨?_, (Only.setCell w2 b 1 _).below (HB.out.mono (Nat.le_of_lt hbw)) (Nat.le_refl _), by rw [(Only.setCell w2 b 1 _).size]; exact HB.out.size⟩
            have := HC2.out.setL 1 (.int .i64 u) (by simp) (vs' := setC c0 c1 c2 c3 1 u) rfl
            rw [if_pos h7, ← hnb, ← hu]; exact this)
          have e7 : ((r).length : Int) ≤ 7 := by omega
          clear hn hn7 hnb hnn hsb hu h7
          go_wp2_with fail
          go_end0
          exact ⟨rfl, HT.out⟩
        · have HT := Lib.hid (show TermPost b c0 c1 c2 c3 s sg w w2 from by
            unfold TermPost; rw [HP.out]
            rw [if_neg h7]
            exact ⟨HC2.out, HB.out.mono (Nat.le_of_lt hbw), HB.out.size⟩)
          have e7 : ¬ ((r).length : Int) ≤ 7 := by omega
          clear hn h7
          go_wp2_with fail
          go_end0
          exact ⟨rfl, HT.out⟩
    by_cases h106 : c = 106
    · subst h106
      have HP := Lib.hid (show plcP s = (2, r) from HPs.out)
      have hI := HI.out
      rw [show Lib.indexByte [105, 106, 107] 106 = 1 from by decide] at hI
      have HI := Lib.hid hI; clear hI
      by_cases hr : r = []
      · have er : r.isEmpty = true := by rw [hr]; rfl
        have er3 : (r.length : Int) ≤ 7 := by rw [hr]; decide
        have HP2 := Lib.hid (show plcP s = (2, []) from by rw [HP.out, hr])
        clear hr HP; have HP := Lib.hid HP2.out; clear HP2
        go_enter Tryz.func55, Tryz.ntmps55
        go_wp2_with fail
        refine (HI.out _).mono ?_
        rintro _ w1 ⟨rfl, hw⟩
        rw [hw]; clear hw w1
        go_wp2_with fail
        go_region
        have hbd := (Below.refl w.heap.size w).drew
        have HC3 := Lib.hid (HC.out.keep hbd)
        have HB3 := Lib.hid hbd; clear hbd
        generalize w.drew = w3 at *
        have hbw := HC.out.1
        have HT := Lib.hid (show TermPost b c0 c1 c2 c3 s sg w (w3.setCell ⟨b, 2, none⟩ (.int .i64 sg)) from by
          unfold TermPost; rw [HP.out]
          refine ⟨?_, (Only.setCell w3 b 2 _).below (Below.mono HB3.out (Nat.le_of_lt hbw)) (Nat.le_refl _), by rw [(Only.setCell w3 b 2 _).size]; exact Below.size HB3.out⟩
          have := HC3.out.setL 2 (.int .i64 sg) (by simp) (vs' := setC c0 c1 c2 c3 2 sg) rfl
          simpa [numP] using this)
        obtain ⟨x0, x1, x2, x3⟩ := HC3.out.four
        obtain ⟨f0, f1, f2, f3, -⟩ := HC3.out.fr
        go_wp2_with fail
        go_end0
        exact ⟨rfl, HT.out⟩
      · have er : r.isEmpty = false := by simpa using hr
        have HNe := Lib.hid hr; clear hr
        have HA := Lib.hid (fun w' (h : Below w.heap.size w w') => atoi_any r w' (HE.out.at h) HLr.out)
        go_enter Tryz.func55, Tryz.ntmps55
        go_wp2_with fail
        refine (HI.out _).mono ?_
        rintro _ w1 ⟨rfl, hw⟩
        rw [hw]; clear hw w1
        go_wp2_with fail
        go_region
        have hbd := (Below.refl w.heap.size w).drew
        have HC3 := Lib.hid (HC.out.keep hbd)
        have HB3 := Lib.hid hbd; clear hbd
        generalize w.drew = w3 at *
        go_wp2_with fail
        refine (HA.out _ HB3.out).mono ?_
        rintro _ w2 ⟨n, x, rfl, hn, hb⟩
        have hC2 := HC3.out.keep hb
        have HC2 := Lib.hid hC2
        obtain ⟨x0, x1, x2, x3⟩ := hC2.four
        obtain ⟨f0, f1, f2, f3, -⟩ := hC2.fr
        clear hC2
        have hbw := HC.out.1
        have HB := Lib.hid (Below.trans HB3.out (hb.mono (Below.size HB3.out)))
        clear hb
        by_cases h7 : (r).length ≤ 7
        · have hn7 := hn (by omega)
          have hnb : n = numP (r) := by rw [hn7]; unfold numP; rw [if_neg HNe.out]
          have hnn := numP_bnd h7
          rw [← hnb] at hnn
          have hsb := sg_bnd HS.out hnn
          obtain ⟨u, hu⟩ : ∃ u, u = sg * n := ⟨_, rfl⟩
          rw [← hu] at hsb
          have hw3 : wrap64 (sg * n) = u := by rw [← hu]; unfold wrap64; omega
          have HT := Lib.hid (show TermPost b c0 c1 c2 c3 s sg w (w2.setCell ⟨b, 2, none⟩ (.int .i64 u)) from by
            unfold TermPost; rw [HP.out]
            refine ⟨?_, (Only.setCell w2 b 2 _).below (HB.out.mono (Nat.le_of_lt hbw)) (Nat.le_refl _), by rw [(Only.setCell w2 b 2 _).size]; exact HB.out.size⟩
            have := HC2.out.setL 2 (.int .i64 u) (by simp) (vs' := setC c0 c1 c2 c3 2 u) rfl
            rw [if_pos h7, ← hnb, ← hu]; exact this)
          have e7 : ((r).length : Int) ≤ 7 := by omega
          clear hn hn7 hnb hnn hsb hu h7
          go_wp2_with fail
          go_end0
          exact ⟨rfl, HT.out⟩
        · have HT := Lib.hid (show TermPost b c0 c1 c2 c3 s sg w w2 from by
            unfold TermPost; rw [HP.out]
            rw [if_neg h7]
            exact ⟨HC2.out, HB.out.mono (Nat.le_of_lt hbw), HB.out.size⟩)
          have e7 : ¬ ((r).length : Int) ≤ 7 := by omega
          clear hn h7
          go_wp2_with fail
          go_end0
          exact ⟨rfl, HT.out⟩
    by_cases h107 : c = 107
    · subst h107
      have HP := Lib.hid (show plcP s = (3, r) from HPs.out)
      have hI := HI.out
      rw [show Lib.indexByte [105, 106, 107] 107 = 2 from by decide] at hI
      have HI := Lib.hid hI; clear hI
      by_cases hr : r = []
      · have er : r.isEmpty = true := by rw [hr]; rfl
        have er3 : (r.length : Int) ≤ 7 := by rw [hr]; decide
        have HP2 := Lib.hid (show plcP s = (3, []) from by rw [HP.out, hr])
        clear hr HP; have HP := Lib.hid HP2.out; clear HP2
        go_enter Tryz.func55, Tryz.ntmps55
        go_wp2_with fail
        refine (HI.out _).mono ?_
        rintro _ w1 ⟨rfl, hw⟩
        rw [hw]; clear hw w1
        go_wp2_with fail
        go_region
        have hbd := (Below.refl w.heap.size w).drew
        have HC3 := Lib.hid (HC.out.keep hbd)
        have HB3 := Lib.hid hbd; clear hbd
        generalize w.drew = w3 at *
        have hbw := HC.out.1
        have HT := Lib.hid (show TermPost b c0 c1 c2 c3 s sg w (w3.setCell ⟨b, 3, none⟩ (.int .i64 sg)) from by
          unfold TermPost; rw [HP.out]
          refine ⟨?_, (Only.setCell w3 b 3 _).below (Below.mono HB3.out (Nat.le_of_lt hbw)) (Nat.le_refl _), by rw [(Only.setCell w3 b 3 _).size]; exact Below.size HB3.out⟩
          have := HC3.out.setL 3 (.int .i64 sg) (by simp) (vs' := setC c0 c1 c2 c3 3 sg) rfl
          simpa [numP] using this)
        obtain ⟨x0, x1, x2, x3⟩ := HC3.out.four
        obtain ⟨f0, f1, f2, f3, -⟩ := HC3.out.fr
        go_wp2_with fail
        go_end0
        exact ⟨rfl, HT.out⟩
      · have er : r.isEmpty = false := by simpa using hr
        have HNe := Lib.hid hr; clear hr
        have HA := Lib.hid (fun w' (h : Below w.heap.size w w') => atoi_any r w' (HE.out.at h) HLr.out)
        go_enter Tryz.func55, Tryz.ntmps55
        go_wp2_with fail
        refine (HI.out _).mono ?_
        rintro _ w1 ⟨rfl, hw⟩
        rw [hw]; clear hw w1
        go_wp2_with fail
        go_region
        have hbd := (Below.refl w.heap.size w).drew
        have HC3 := Lib.hid (HC.out.keep hbd)
        have HB3 := Lib.hid hbd; clear hbd
        generalize w.drew = w3 at *
        go_wp2_with fail
        refine (HA.out _ HB3.out).mono ?_
        rintro _ w2 ⟨n, x, rfl, hn, hb⟩
        have hC2 := HC3.out.keep hb
        have HC2 := Lib.hid hC2
        obtain ⟨x0, x1, x2, x3⟩ := hC2.four
        obtain ⟨f0, f1, f2, f3, -⟩ := hC2.fr
        clear hC2
        have hbw := HC.out.1
        have HB := Lib.hid (Below.trans HB3.out (hb.mono (Below.size HB3.out)))
        clear hb
        by_cases h7 : (r).length ≤ 7
        · have hn7 := hn (by omega)
          have hnb : n = numP (r) := by rw [hn7]; unfold numP; rw [if_neg HNe.out]
          have hnn := numP_bnd h7
          rw [← hnb] at hnn
          have hsb := sg_bnd HS.out hnn
          obtain ⟨u, hu⟩ : ∃ u, u = sg * n := ⟨_, rfl⟩
          rw [← hu] at hsb
          have hw3 : wrap64 (sg * n) = u := by rw [← hu]; unfold wrap64; omega
          have HT := Lib.hid (show TermPost b c0 c1 c2 c3 s sg w (w2.setCell ⟨b, 3, none⟩ (.int .i64 u)) from by
            unfold TermPost; rw [HP.out]
            refine ⟨?_, (Only.setCell w2 b 3 _).below (HB.out.mono (Nat.le_of_lt hbw)) (Nat.le_refl _), by rw [(Only.setCell w2 b 3 _).size]; exact HB.out.size⟩
            have := HC2.out.setL 3 (.int .i64 u) (by simp) (vs' := setC c0 c1 c2 c3 3 u) rfl
            rw [if_pos h7, ← hnb, ← hu]; exact this)
          have e7 : ((r).length : Int) ≤ 7 := by omega
          clear hn hn7 hnb hnn hsb hu h7
          go_wp2_with fail
          go_end0
          exact ⟨rfl, HT.out⟩
        · have HT := Lib.hid (show TermPost b c0 c1 c2 c3 s sg w w2 from by
            unfold TermPost; rw [HP.out]
            rw [if_neg h7]
            exact ⟨HC2.out, HB.out.mono (Nat.le_of_lt hbw), HB.out.size⟩)
          have e7 : ¬ ((r).length : Int) ≤ 7 := by omega
          clear hn h7
          go_wp2_with fail
          go_end0
          exact ⟨rfl, HT.out⟩
    have HP := Lib.hid (show plcP s = (0, s) from by have := HPs.out; rw [if_neg h105, if_neg h106, if_neg h107] at this; exact this)
    have hI := HI.out
    rw [show (ByteArray.mk #[105, 106, 107]).data.toList = [105, 106, 107] from rfl, show Lib.indexByte [105, 106, 107] c = -1 from by simp [Lib.indexByte, Ne.symm h105, Ne.symm h106, Ne.symm h107]] at hI
    have HI := Lib.hid hI; clear hI
    have HNe := Lib.hid HSn.out
    have HA := Lib.hid (fun w' (h : Below w.heap.size w w') => atoi_any s w' (HE.out.at h) HL2.out)
    clear h105 h106 h107
    go_enter Tryz.func55, Tryz.ntmps55
    go_wp2_with fail
    refine (HI.out _).mono ?_
    rintro _ w1 ⟨rfl, hw⟩
    rw [hw]; clear hw w1
    go_wp2_with fail
    refine (HA.out _ (Below.refl w.heap.size w)).mono ?_
    rintro _ w2 ⟨n, x, rfl, hn, hb⟩
    have hC2 := HC.out.keep hb
    have HC2 := Lib.hid hC2
    obtain ⟨x0, x1, x2, x3⟩ := hC2.four
    obtain ⟨f0, f1, f2, f3, -⟩ := hC2.fr
    clear hC2
    have hbw := HC.out.1
    have HB := Lib.hid (Below.trans (Below.refl w.heap.size w) (hb.mono (Below.size (Below.refl w.heap.size w))))
    clear hb
    by_cases h7 : (s).length ≤ 7
    · have hn7 := hn (by omega)
      have hnb : n = numP (s) := by rw [hn7]; unfold numP; rw [if_neg HNe.out]
      have hnn := numP_bnd h7
      rw [← hnb] at hnn
      have hsb := sg_bnd HS.out hnn
      obtain ⟨u, hu⟩ : ∃ u, u = sg * n := ⟨_, rfl⟩
      rw [← hu] at hsb
      have hw3 : wrap64 (sg * n) = u := by rw [← hu]; unfold wrap64; omega
      have HT := Lib.hid (show TermPost b c0 c1 c2 c3 s sg w (w2.setCell ⟨b, 0, none⟩ (.int .i64 u)) from by
        unfold TermPost; rw [HP.out]
        refine ⟨?_, (Only.setCell w2 b 0 _).below (HB.out.mono (Nat.le_of_lt hbw)) (Nat.le_refl _), by rw [(Only.setCell w2 b 0 _).size]; exact HB.out.size⟩
        have := HC2.out.setL 0 (.int .i64 u) (by simp) (vs' := setC c0 c1 c2 c3 0 u) rfl
        rw [if_pos h7, ← hnb, ← hu]; exact this)
      have e7 : ((s).length : Int) ≤ 7 := by omega
      clear hn hn7 hnb hnn hsb hu h7
      go_wp2_with fail
      go_end0
      exact ⟨rfl, HT.out⟩
    · have HT := Lib.hid (show TermPost b c0 c1 c2 c3 s sg w w2 from by
        unfold TermPost; rw [HP.out]
        rw [if_neg h7]
        exact ⟨HC2.out, HB.out.mono (Nat.le_of_lt hbw), HB.out.size⟩)
      have e7 : ¬ ((s).length : Int) ≤ 7 := by omega
      clear hn h7
      go_wp2_with fail
      go_end0
      exact ⟨rfl, HT.out⟩
end Go.Proofs.YtimdkjbmeogpoaaGreatDoor
