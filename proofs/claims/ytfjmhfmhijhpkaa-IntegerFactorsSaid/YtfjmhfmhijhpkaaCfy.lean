/- Certify of the program. -/
import Derived.Test.YtfjmhfmhijhpkaaCfp
import Derived.Test.YtfjmhfmhijhpkaaKsi
import Derived.Test.YtfjmhfmhijhpkaaIntF
import Derived.Deep.LoopGhost
namespace Go.Proofs.Ytfjmhfmhijhpkaa
open Go.RowKit FF

/-- what the call answers, with what it owns -/
def CerOwn (w : World) (n : Int) (e : Ending) (w' : World) : Prop :=
  (isPB n = false ∧ e = .returned (.tuple #[.slice none 0 0, .int .i64 11]) ∧ Below w.heap.size w w') ∨
  (isPB n = true ∧ ∃ ks : List Int, ks.Pairwise (· < ·) ∧ (∀ m, m ∈ ks ↔ FF.Reach n m) ∧ ∃ v os, e = .returned (.tuple #[v, .int .i64 0]) ∧ os.map (fun x => x.1) = ks.map stepOf ∧ GotS w v os w')
theorem GotS.up {W w wr : World} {v : Value} {os : List Refs} (h : GotS W v os wr) (hb : Below w.heap.size w W) : GotS w v os wr := by
  refine ⟨⟨h.1.1, ?_⟩, hb.trans (h.2.1.mono hb.size), h.2.2⟩
  rcases h.1.2 with h0 | ⟨g, cap, cur, h1, h2, h3⟩
  · exact .inl h0
  · exact .inr ⟨g, cap, cur, h1, Nat.le_trans hb.size h2, h3⟩

set_option maxRecDepth 100000 in
set_option maxHeartbeats 40000000 in
theorem Certify_own (n : Int) (w : World) :
    Calls Try.prog 19 #[.int .i64 n] w (CerOwn w n) := by
  have hP := Lib.hid (fun w => isPrime_any n w)
  cases hb : isPB n
  · have HF := Lib.hid hb
    rw [hb] at hP
    go_enter Try.func19, Try.ntmps19
    go_wp2_with fail
    refine (hP.out _).mono ?_
    rintro e w' ⟨rfl, n1, rfl⟩
    go_wp2_with fail
    go_ret2
    exact .inl ⟨HF.out, rfl, below_drewN (Below.refl _ _) _⟩
  · have HF := Lib.hid hb
    rw [hb] at hP
    obtain ⟨hn, hn9⟩ := isPB_iff.1 hb
    have hn2 := hn.1
    have HNp := Lib.hid hn
    clear hb hn
    obtain ⟨i0, hi, hz0, hz1, hz2⟩ := info_parts info_int
    have HI := Lib.hid hi; have HZ0 := Lib.hid hz0; have HZ1 := Lib.hid hz1; have HZ2 := Lib.hid hz2
    clear hi hz0 hz1 hz2
    have hmm := @run_makeMap Try.prog
    go_enter Try.func19, Try.ntmps19
    go_wp2_with fail
    refine (hP.out _).mono ?_
    rintro e w' ⟨rfl, n1, rfl⟩
    have HM0 := Lib.hid (show MapS ((w.drewN n1).alloc (.map #[] 0)) w.heap.size 0 [] from MapS.made (w.drewN n1))
    have HB0 := Lib.hid ((below_drewN (Below.refl w.heap.size w) n1).alloc (Nat.le_refl _) (.map #[] 0))
    clear hP
    go_upto_region 4 with fail
    clear hmm
    obtain ⟨W0, hW0⟩ : ∃ W0, (w.drewN n1).alloc (.map #[] 0) = W0 := ⟨_, rfl⟩
    have hs0 : w.heap.size < W0.heap.size := by rw [← hW0]; simp
    have hm0 := HM0.out
    have hb0 := HB0.out
    rw [hW0] at hm0 hb0 ⊢
    have HM1 := Lib.hid (hm0.keep ((Below.refl _ _).alloc (Nat.le_refl _) (.cells #[.int .i64 n] 3)))
    have HB1 := Lib.hid (hb0.alloc (Nat.le_of_lt hs0) (.cells #[.int .i64 n] 3))
    have HQ1 := Lib.hid (Que.new w.heap.size W0 n 3 (Nat.le_of_lt hs0))
    clear hW0 hm0 hb0 HM0 HB0
    go_wp2_with fail
    obtain ⟨W1, hW1⟩ : ∃ W1, W0.alloc (.cells #[.int .i64 n] 3) = W1 := ⟨_, rfl⟩
    rw [hW1] at HM1 HB1 HQ1 ⊢
    clear hW1
    obtain ⟨b0, hb0⟩ : ∃ b0, w.heap.size = b0 := ⟨_, rfl⟩
    obtain ⟨g0, hg0⟩ : ∃ g0, W0.heap.size = g0 := ⟨_, rfl⟩
    have HEb := Lib.hid hb0
    rw [hb0] at hs0 HM1 HQ1 ⊢
    rw [hg0] at hs0 HQ1 ⊢
    clear hb0 hg0
    go_loopg [5, 6, 7, 8, 9, 11] 1241 (fun gk s5 _ _ _ _ _ wr => ∃ (g : Nat) (xs : List Int) (rs : List Refs), Que b0 g s5 xs wr ∧ MapS wr b0 rs.length rs ∧ CInv n xs rs ∧ RowsOk wr g rs ∧ b0 < g ∧ Below w.heap.size w wr ∧ 40 * (31 - rs.length) + xs.length ≤ gk ∧ gk ≤ 1241)
    case atStart => exact ⟨g0, [n], [], HQ1.out, HM1.out, CInv.start n, (fun x hx => by cases hx), hs0, HB1.out, by simp, Nat.le_refl _⟩
    case round =>
      clear HM1 HB1 HQ1 hs0
      obtain ⟨g, xs, rs, hq, hm, hc, hr, hbg, hB, hk, hk9⟩ := hrel
      have HQ := Lib.hid hq; have HM := Lib.hid hm; have HC := Lib.hid hc; have HR := Lib.hid hr; have HB := Lib.hid hB
      have hlen : rs.length ≤ 31 := by
        have := reach_short HNp.out hn9 hm.nodup hc.reach
        unfold keysOf at this
        rwa [List.length_map] at this
      obtain ⟨off, cap, e5, -, -, hcl, hcm, hcells, -⟩ := hq
      obtain rfl := e5
      unfold maxLen at hcm
      clear hm hc hr hB
      cases xs with
      | nil =>
        have HDn := Lib.hid HC.out.done
        have hrl : rs.length ≤ 1000 := by omega
        obtain ⟨j0, hj, hj0, hj1, hj2⟩ := info_parts info_step
        have HJ := Lib.hid hj; have HJ0 := Lib.hid hj0; have HJ1 := Lib.hid hj1; have HJ2 := Lib.hid hj2
        clear hj hj0 hj1 hj2 hcells
        go_wp2_with fail
        refine (keys_call _ _).mono ?_
        rintro e w4 ⟨rfl, rfl⟩
        have hal : Below wr.heap.size wr (wr.alloc (.cells #[.map (some b0)] 110)) := (Below.refl _ _).alloc (Nat.le_refl _) _
        have HS := Lib.hid (sorted_keys (wr.alloc (.cells #[.map (some b0)] 110)) wr.heap.size b0 rs.length rs (by simp [go_sem]) (by simp) (HM.out.keep hal) hrl)
        go_wp2_with fail
        refine HS.out.mono ?_
        rintro e W5 ⟨kv, ks, rfl, k1, k2, k3, hG⟩
        have hB5 : Below wr.heap.size wr W5 := hal.trans (hG.2.mono hal.size)
        have HM5 := Lib.hid (HM.out.keep hB5)
        have HR5 := Lib.hid (HR.out.keep hB5)
        have HB5 := Lib.hid (HB.out.trans (hB5.mono HB.out.size))
        have HK1 := Lib.hid k1; have HK2 := Lib.hid k2
        obtain ⟨Ak, ck, rfl, hsk, hk1, hk2, -⟩ := hG.shows
        have HSk := Lib.hid hsk
        unfold maxLen at hk2
        have hkl : ks.length ≤ 31 := by omega
        clear k1 k2 hG hsk hB5 hal HS HM HR HB HQ
        go_wp2_with fail
        obtain ⟨W6, hW6⟩ : ∃ W6 : World, W6 = wr := ⟨_, rfl⟩
        subst hW6
        go_loopw [12, 14, 76] (fun s12 _ s76 wx => ∃ (t : Nat) (os : List Refs), s76 = .int .i64 t ∧ t ≤ ks.length ∧ os.length = t ∧ os.map (fun x => x.1) = (ks.take t).map stepOf ∧ GotS W5 s12 os wx) (fun _ _ s76 _ => ks.length - (intOf s76).toNat)
        case atStart => exact ⟨0, [], rfl, Nat.zero_le _, rfl, by rw [List.take_zero]; rfl, GotS.start (Below.refl _ _)⟩
        case round =>
          obtain ⟨t, os, rfl, ht, hot, hos, hgs⟩ := hrel
          have HGS := Lib.hid hgs
          have HOs := Lib.hid hos; have HOt := Lib.hid hot
          obtain ⟨Ao, co, rfl, hso, ho1, ho2⟩ := hgs.shows
          have HSo := Lib.hid hso
          unfold maxLen at ho2
          clear hgs hos hso
          by_cases htl : t < ks.length
          · obtain ⟨bk, ok, rfl, hbk, hcell⟩ := HSk.out (by omega)
            have x0 := (HGS.out.2.1.cell (p := ⟨bk, ok + t, none⟩) hbk).trans (hcell t htl)
            have hmem := (HK2.out _).1 (getD_mem htl)
            obtain ⟨q, hq⟩ : ∃ q, ks.getD t 0 = q := ⟨_, rfl⟩
            rw [hq] at x0 hmem
            have HQt := Lib.hid hq
            obtain ⟨y, hy, hyq⟩ := List.mem_map.1 hmem
            have hst := (HC.out.steps y hy).1
            have hrw := ((HR5.out y hy).1).keep HGS.out.2.1
            have hpr := ((HDn.out q).1 hmem).prime HNp.out
            have hqi : I64 q := ⟨by omega, by omega⟩
            rw [hyq] at hst
            obtain ⟨⟨yn, yr, yl⟩, yA, yc⟩ := y
            obtain rfl : yn = q := hyq
            have HY := Lib.hid hy; have HSt := Lib.hid hst; have HRw := Lib.hid hrw
            have HM6 := Lib.hid (HM5.out.keep HGS.out.2.1)
            clear hcell hq hmem hy hst hrw hpr
            subst hot
            go_wp2_with (first
              | (at_lookup; refine wpList_lookup_step _ rfl (.tmp 81) (.tmp 82) rfl b0 rs.length rs rfl HM6.out ((yn, yr, yl), yA, yc) HY.out rfl hqi ?_; unfold stepV; dsimp only)
              | (at_builtin; refine wpList_append_gotS rfl (.tmp 80) (.tmp 84) 45 rfl j0 _ 40 Try.underlying45 HJ.out HJ0.out HJ1.out HJ2.out (by decide) _ os rfl HGS.out _ _ ((yn, yr, yl), yA, yc) rfl 1 HRw.out rfl (by omega) (by unfold maxLen; omega) ?_; intro v' w3 hg2 hg3; have HG6 := Lib.hid hg2; clear hg2 hg3))
            refine ⟨⟨os.length + 1, os ++ [((yn, yr, yl), yA, yc)], by first | rfl | go_num, by omega, by simp, ?_, HG6.out⟩, by simp [intOf]; omega⟩
            have he : ks[os.length] = yn := by
              have := HQt.out
              rwa [List.getD_eq_getElem?_getD, List.getElem?_eq_getElem htl] at this
            rw [List.map_append, HOs.out, List.take_succ_eq_append_getElem htl, List.map_append, he, List.map_cons, List.map_nil, List.map_cons, List.map_nil, ← HSt.out]
          · have hte : t = ks.length := by omega
            have HFin := Lib.hid (show os.map (fun x => x.1) = ks.map stepOf by have := HOs.out; rwa [hte, List.take_length] at this)
            have e : ks.length = os.length := by rw [HOt.out, hte]
            have HE := Lib.hid e
            clear e hot
            go_wp2_with fail
            go_ret2
            have e := HE.out
            exact .inr ⟨HF.out, ks, HK1.out, fun m => (HK2.out m).trans (HDn.out m), _, os, rfl, HFin.out, HGS.out.up HB5.out⟩
      | cons p xs =>
        have x0 := hcells 0 (by simp)
        rw [Nat.add_zero] at x0
        simp only [List.getD_cons_zero] at x0
        clear hcells
        have hpr := HC.out.todo p (by simp)
        obtain ⟨p1, p2, p3⟩ := hpr.prime HNp.out
        have HPp := Lib.hid p1
        have hpi : I64 p := ⟨by omega, by omega⟩
        clear p1 hpr
        rw [List.length_cons] at hcl hk ⊢
        have hd : decide ((0 : Int) < ((xs.length + 1 : Nat) : Int)) = true := decide_eq_true (by omega)
        by_cases hmem : p ∈ keysOf rs
        · have HMp := Lib.hid hmem
          have hd2 : decide (p ∈ keysOf rs) = true := decide_eq_true hmem
          clear hmem
          by_cases hc1 : cap = 1
          · subst hc1
            obtain rfl : xs = [] := List.eq_nil_of_length_eq_zero (by omega)
            go_wp2_with (at_lookup; refine wpList_lookup_stepok _ rfl (.tmp 30) (.tmp 31) rfl b0 rs.length rs rfl HM.out p rfl hpi ?_; intro u v A l c; rw [hd2])
            have hal : Below wr.heap.size wr (wr.alloc (.cells #[.int .i64 u, .int .i64 v, .slice A l c] 48)) := (Below.refl _ _).alloc (Nat.le_refl _) _
            go_roundg (gk - 1)
            case measure => omega
            case rel => exact ⟨g, _, rs, (HQ.out.tail off (.inl ⟨rfl, rfl⟩)).keep hal, HM.out.keep hal, HC.out.skip HMp.out, HR.out.keep hal, hbg, HB.out.trans (hal.mono HB.out.size), by omega, by omega⟩
          · have hc2 : 1 < cap := by omega
            go_wp2_with (at_lookup; refine wpList_lookup_stepok _ rfl (.tmp 30) (.tmp 31) rfl b0 rs.length rs rfl HM.out p rfl hpi ?_; intro u v A l c; rw [hd2])
            have hal : Below wr.heap.size wr (wr.alloc (.cells #[.int .i64 u, .int .i64 v, .slice A l c] 48)) := (Below.refl _ _).alloc (Nat.le_refl _) _
            go_roundg (gk - 1)
            case measure => omega
            case rel => exact ⟨g, _, rs, (HQ.out.tail (off + 1) (.inr rfl)).keep hal, HM.out.keep hal, HC.out.skip HMp.out, HR.out.keep hal, hbg, HB.out.trans (hal.mono HB.out.size), by omega, by omega⟩
        · have HMp := Lib.hid hmem
          have hd2 : decide (p ∈ keysOf rs) = false := decide_eq_false hmem
          have hlen2 : rs.length + 1 ≤ 31 := by
            have := reach_short HNp.out hn9 (CInv.nodup_take (y := (stepOf p, none, 0)) HM.out.nodup hmem rfl) (HC.out.take (stepOf p, none, 0) rfl).reach
            rw [keysOf_snoc, List.length_append] at this
            unfold keysOf at this
            rw [List.length_map] at this
            exact this
          have HFa := Lib.hid (fun w => factors_any (p - 1) w (by omega) (by omega))
          clear hmem
          go_upto_region 11 with (at_lookup; refine wpList_lookup_stepok _ rfl (.tmp 30) (.tmp 31) rfl b0 rs.length rs rfl HM.out p rfl hpi ?_; intro u v A l c; rw [hd2])
          obtain ⟨V2, hV2⟩ : ∃ V2, (wr.alloc (.cells #[.int .i64 u, .int .i64 v, .slice A l c] 48)).alloc (.cells #[.int .i64 p, .int .i64 1, .slice none 0 0] 48) = V2 := ⟨_, rfl⟩
          have hb2 : Below wr.heap.size wr V2 := hV2 ▸ ((Below.refl _ _).alloc (Nat.le_refl _) _).alloc (by simp) _
          have hc2 : C3 V2 (wr.heap.size + 1) (.int .i64 p) (.int .i64 1) (.slice none 0 0) := by
            have := C3.new (wr.alloc (.cells #[.int .i64 u, .int .i64 v, .slice A l c] 48)) (.int .i64 p) (.int .i64 1) (.slice none 0 0) 48
            rw [hV2] at this; simpa using this
          rw [hV2]
          clear hV2
          obtain ⟨B9, hB9⟩ : ∃ B9, wr.heap.size + 1 = B9 := ⟨_, rfl⟩
          have h9 : wr.heap.size < B9 := by omega
          have hbg9 : b0 < B9 := by have := HM.out.lt; omega
          rw [hB9] at hc2 ⊢
          clear hB9
          have HC2 := Lib.hid hc2; have HB2 := Lib.hid hb2
          clear hc2 hb2
          go_wp2_with fail
          refine (HFa.out _).mono ?_
          rintro e V3 ⟨fv, rfl, hG⟩
          have HB3 := Lib.hid (HB2.out.trans (hG.2.mono HB2.out.size))
          have HC3 := Lib.hid (HC2.out.keep hG.2)
          have HGe := Lib.hid hG.row_ge
          have h92 : B9 < V2.heap.size := HC2.out.1
          obtain ⟨Af, cf, rfl, hsf, hf1, hf2, -⟩ := hG.shows
          have HSf := Lib.hid hsf
          have h93 : V2.heap.size ≤ V3.heap.size := hG.2.size
          have h95 : b0 < wr.heap.size := HM.out.lt
          unfold maxLen at hf2
          have HLp := Lib.hid (show primesOf (p - 1) = (facs (p - 1)).map fun x => x.1 from rfl)
          have hll : (facs (p - 1)).length ≤ 30 := facs_len (by omega) (by omega)
          clear hG hsf HFa HB2 HC2
          generalize facs (p - 1) = l at *
          go_wp2_with fail
          obtain ⟨W8, hW8⟩ : ∃ W8 : World, W8 = wr := ⟨_, rfl⟩
          subst hW8
          go_loopw [11, 42] (fun _ s42 wx => ∃ (i : Nat) (v : Value), s42 = .int .i64 i ∧ i ≤ l.length ∧ C3 wx B9 (.int .i64 p) (.int .i64 1) v ∧ Row1 V3.heap.size v i ((l.take i).map (fun x => x.1)) wx ∧ V3.grownBy wx (some B9)) (fun _ s42 _ => l.length - (intOf s42).toNat)
          case atStart => exact ⟨0, .slice none 0 0, rfl, Nat.zero_le _, HC3.out, by rw [List.take_zero]; exact ⟨by simp [cellsI], .inl ⟨rfl, rfl⟩⟩, ⟨rfl, rfl, rfl, Nat.le_refl _, fun _ _ _ => rfl⟩⟩
          case round =>
            obtain ⟨i, v2, rfl, hi, hc3, hr1, hgr⟩ := hrel
            have HC4 := Lib.hid hc3; have HR4 := Lib.hid hr1; have HG4 := Lib.hid hgr
            clear hr1 hgr HC3
            by_cases hil : i < l.length
            · obtain ⟨bf, of, rfl, hbf, hcell⟩ := HSf.out (by rw [flatP_len]; omega)
              have hge := HGe.out bf rfl
              have hkeep : ∀ o, wr.cell? ⟨bf, o, none⟩ = V3.cell? ⟨bf, o, none⟩ := fun o => World.cell?_of_block (a := ⟨bf, o, none⟩) (HG4.out.block bf hbf (fun e => by injection e with e; omega))
              have q0 := (hkeep _).trans (hcell (2 * i) (by rw [flatP_len]; omega))
              have q1 := (hkeep _).trans (hcell (2 * i + 1) (by rw [flatP_len]; omega))
              rw [(flatP_get hil).1, Nat.mul_comm 2 i] at q0
              rw [(flatP_get hil).2, Nat.mul_comm 2 i, ← Nat.add_assoc] at q1
              have HN := Lib.hid (map_take_step hil)
              obtain ⟨pr, hpr⟩ : ∃ pr, (l.getD i (0, 0)).1 = pr := ⟨_, rfl⟩
              obtain ⟨ex, hex⟩ : ∃ ex : Int, ((l.getD i (0, 0)).2 : Int) = ex := ⟨_, rfl⟩
              rw [hpr] at q0 HN
              rw [hex] at q1
              obtain ⟨y0, y1, y2, y3, y4⟩ := hc3
              have yf := y4 2
              have hbf4 : bf < wr.heap.size := by have := HG4.out.size; omega
              clear hcell hkeep hpr hex y4
              go_upto_region 14 with fail
              obtain ⟨W5, hW5⟩ : ∃ W5, wr.alloc (.cells #[.int .i64 pr, .int .i64 ex] 90) = W5 := ⟨_, rfl⟩
              have hal : wr.grownBy W5 none := hW5 ▸ World.grownBy_alloc wr _ _
              have z0 : W5.cell? ⟨wr.heap.size, 0, none⟩ = some (.int .i64 pr) := by rw [← hW5]; simp [go_sem]
              have hs5 : wr.heap.size < W5.heap.size := by rw [← hW5]; simp
              rw [hW5]
              clear hW5
              have HC5 := Lib.hid (HC4.out.grown hal (by simp))
              have HR5 := Lib.hid (HR4.out.kept hal (fun k hk => by cases hk))
              have HG5 := Lib.hid (HG4.out.andThen hal (fun k hk => by cases hk))
              obtain ⟨z1, z2, z3, z4, z5⟩ := HC5.out
              clear q0 q1 y0 y1 y2 y3 yf z5
              have hV3 : V3.heap.size ≤ W5.heap.size := HG5.out.size
              go_wp2_with (at_builtin; refine wpList_append_row1 rfl (.tmp 47) (.tmp 50) 46 rfl i0 _ Try.underlying46 HI.out HZ0.out HZ1.out HZ2.out rfl V3.heap.size v2 i _ rfl HR5.out hV3 _ pr 1 rfl (by omega) ?_; intro v' w' hr6 hg6; obtain ⟨A6, c6, e6, -⟩ := hr6.row0.shows; obtain rfl := e6; have HR6 := Lib.hid hr6; have HG6 := Lib.hid hg6; have HC6 := Lib.hid (HC5.out.grown hg6 (fun e => by have := HR5.out.ge B9 e.symm; omega)); obtain ⟨x0, x1, x2, x3, x4⟩ := HC6.out; have xf := x4 2; clear hr6 hg6 x4)
              have hgs := grownBy_setCell w' B9 2 (.slice A6 (i + 1) c6)
              refine ⟨⟨i + 1, .slice A6 (i + 1) c6, by first | rfl | go_num, by omega, HC6.out.third _, ?_, ?_⟩, by simp [intOf]; omega⟩
              · rw [HN.out]
                exact HR6.out.kept hgs (fun k hk => by injection hk; omega)
              · exact (HG5.out.andThen HG6.out (fun k hk => .inl (HR5.out.ge k hk))).andThen hgs (fun k hk => .inr hk)
            · have hie : i = l.length := by omega
              have HR5 := Lib.hid (show Row1 V3.heap.size v2 (primesOf (p - 1)).length (primesOf (p - 1)) wr by
                have := HR4.out
                rw [hie, List.take_length] at this
                rw [HLp.out, List.length_map]; exact this)
              have hll5 : (primesOf (p - 1)).length ≤ 30 := by rw [HLp.out, List.length_map]; exact hll
              have HB5 := Lib.hid (HB3.out.grown HG4.out HB3.out.size (fun k hk => by injection hk; omega))
              obtain ⟨A5, c5, rfl, -, hc7, hc8⟩ := HR5.out.row0.shows
              unfold maxLen at hc8
              obtain ⟨r1, r2, r3, r4⟩ := rootOf_spec HPp.out
              have HRt3 := Lib.hid r3
              have HRt4 := Lib.hid r4
              have HGn := Lib.hid (fun r w (hs : ShowsI w A5 (primesOf (p - 1))) hr => generates_any A5 (primesOf (p - 1)) c5 r p w hs hr (by omega) (by omega) (fun i hi => (by have := mem_of_primesOf HPp.out (getD_mem hi); omega)) (by unfold maxLen; omega))
              have h9V : B9 < V3.heap.size := by omega
              clear hie HR4 HG4 r3 r4 hc3
              generalize hl5 : primesOf (p - 1) = l5 at *
              have HL5 := Lib.hid hl5
              clear hl5
              go_wp2_with fail
              obtain ⟨W9, hW9⟩ : ∃ W9 : World, W9 = wr := ⟨_, rfl⟩
              subst hW9
              go_loopw [] (fun wy => ∃ r : Int, 1 ≤ r ∧ r ≤ rootOf p ∧ C3 wy B9 (.int .i64 p) (.int .i64 r) (.slice A5 l5.length c5) ∧ W9.grownBy wy (some B9)) (fun wy => (rootOf p).toNat - midIn wy B9)
              case atStart => exact ⟨1, by omega, r1, HC4.out, ⟨rfl, rfl, rfl, Nat.le_refl _, fun _ _ _ => rfl⟩⟩
              case round =>
                obtain ⟨r, q1, q2, hc4, hgr⟩ := hrel
                have HG6 := Lib.hid hgr
                have HC6 := Lib.hid hc4
                obtain ⟨y0, y1, y2, y3, -⟩ := hc4
                have HMr := Lib.hid HC6.out.midIn
                have HR6 := Lib.hid (HR5.out.kept hgr (fun k hk => by injection hk; omega))
                have hsr : ShowsI wr A5 l5 := by
                  obtain ⟨A9, c9, e9, s9, -⟩ := HR6.out.row0.shows
                  injection e9 with e9
                  rw [e9]; exact s9
                have HPq := Lib.hid (HGn.out r wr hsr ⟨by omega, by omega⟩)
                have HBb := Lib.hid (HRt4.out r q1)
                clear hgr hsr
                cases hg : genB r p l5
                · have hlt : r < rootOf p := by
                    rcases Int.lt_or_le r (rootOf p) with g | g
                    · exact g
                    · rw [show r = rootOf p by omega, HRt3.out] at hg; cases hg
                  rw [hg] at HPq
                  clear hg HBb
                  go_wp2_with fail
                  refine HPq.out.mono ?_
                  rintro e w5 ⟨rfl, hb5⟩
                  have HC7 := Lib.hid (HC6.out.keep hb5)
                  obtain ⟨x0, x1, x2, x3, x4⟩ := HC7.out
                  have xf := x4 1
                  have HC8 := Lib.hid (HC7.out.mid (.int .i64 (r + 1)))
                  have HG8 := Lib.hid ((HG6.out.andThen (grown_of_below hb5 none) (fun k hk => by cases hk)).andThen (grownBy_setCell w5 B9 1 (.int .i64 (r + 1))) (fun k hk => .inr hk))
                  clear HPq hb5 x4 y0 y1 y2 y3
                  go_wp2_with fail
                  exact ⟨⟨r + 1, by omega, by omega, HC8.out, HG8.out⟩, by rw [HC8.out.midIn, HMr.out]; omega⟩
                · have her : r = rootOf p := by
                    rcases Int.lt_or_le r (rootOf p) with g | g
                    · rw [HBb.out g] at hg; cases hg
                    · omega
                  have HEr := Lib.hid her
                  rw [hg] at HPq
                  clear hg HBb her
                  go_wp2_with fail
                  refine HPq.out.mono ?_
                  rintro e w5 ⟨rfl, hb5⟩
                  have HC7 := Lib.hid (HC6.out.keep hb5)
                  have HR7 := Lib.hid (HR6.out.kept (grown_of_below hb5 none) (fun k hk => by cases hk))
                  have HB7 := Lib.hid ((HB5.out.grown HG6.out HB5.out.size (fun k hk => by injection hk; omega)).trans (hb5.mono (Nat.le_trans HB5.out.size HG6.out.size)))
                  have HM7 := Lib.hid (HM.out.keep HB7.out)
                  have HSt := Lib.hid (show ((p, r, l5) : Stpp) = stepOf p by unfold stepOf; rw [HEr.out, HL5.out])
                  obtain ⟨x0, x1, x2, x3, -⟩ := HC7.out
                  clear HPq hb5 y0 y1 y2 y3
                  go_upto_region 19 with (at_mapUpdate; refine wpList_update_step _ rfl (.tmp 65) (.tmp 66) (.tmp 67) rfl b0 rs.length rs rfl HM7.out (by unfold maxLen; omega) ((p, r, l5), A5, c5) HMp.out rfl rfl hpi ?_; intro w6 hm6 hg6; have HM8 := Lib.hid hm6; have HG8 := Lib.hid hg6; have HC8 := Lib.hid (HC7.out.grown hg6 (fun e => by injection e; omega)); clear hm6 hg6)
                  obtain ⟨y0, y1, y2, y3, -⟩ := HC8.out
                  have hgw : g < W8.heap.size := HQ.out.lt
                  have hQ8 : Que b0 g (.slice (some ⟨g, off, none⟩) (xs.length + 1) cap) (p :: xs) w6 := (HQ.out.keep HB7.out).of_block HG8.out.size (HG8.out.block g (HQ.out.keep HB7.out).lt (fun e => by injection e; omega))
                  have hR8 : Row0 w6 3 1 (.slice A5 l5.length c5) l5.length l5 := HR7.out.row0.kept HG8.out (fun k hk e => HR7.out.row0.ne_map HM7.out k hk (by injection e))
                  have hRo := ((HR.out.keep HB7.out).map HM7.out HG8.out).snoc (y := ((p, r, l5), A5, c5)) hR8 (fun k hk => by have := HR7.out.ge k hk; have := HB3.out.size; omega)
                  have hb6 : b0 < w6.heap.size := HM8.out.lt
                  have hb66 : b0 ≤ w6.heap.size := Nat.le_of_lt hb6
                  have HQ8 := Lib.hid hQ8; have HR8 := Lib.hid hR8; have HRo := Lib.hid hRo
                  have HB8 := Lib.hid ((HB.out.trans (HB7.out.mono HB.out.size)).grown HG8.out (Nat.le_trans HB.out.size HB7.out.size) (fun k hk => by injection hk; have := HEb.out; omega))
                  clear hQ8 hR8 hRo x0 x1 x2 x3
                  go_wp2_with (at_builtin; refine wpList_append_que _ rfl (.tmp 68) (.tmp 70) 46 rfl i0 _ Try.underlying46 HI.out HZ0.out HZ1.out HZ2.out rfl _ rfl HQ8.out hb66 (.slice A5 l5.length c5) rfl HR8.out (by rw [List.length_cons]; omega) ?_; intro v7 w7 g7 hq7 hg7 hor; obtain ⟨off7, cap7, e7, f1, f2, f3, f4, f5, f6⟩ := hq7; obtain rfl := e7; have HQ9 := Lib.hid (show Que b0 g7 (.slice (some ⟨g7, off7, none⟩) (p :: xs ++ l5).length cap7) (p :: xs ++ l5) w7 from ⟨off7, cap7, rfl, f1, f2, f3, f4, f5, f6⟩); have HG9 := Lib.hid hg7; have HOr := Lib.hid hor; unfold maxLen at f4; clear hg7 hor f5 f6)
                  all_goals
                    have HT := fun o2 ho => (show Que b0 g7 (.slice (some ⟨g7, off7, none⟩) (p :: (xs ++ l5)).length cap7) (p :: (xs ++ l5)) w7 from HQ9.out).tail o2 ho
                    have hw6 : b0 ≤ w6.heap.size := hb66
                    go_roundg (gk - 1)
                    case measure => omega
                    case rel =>
                      refine ⟨g7, xs ++ l5, rs ++ [((p, r, l5), A5, c5)], ?_, ?_, ?_, HRo.out.que HG9.out HOr.out, ?_, ?_, ?_, by omega⟩
                      · first
                        | (have h1 := HT (off7 + 1) (.inr rfl); rw [List.length_append] at h1; exact h1)
                        | (have h1 := HT off7 (.inl ⟨by assumption, rfl⟩); rw [List.length_append, show cap7 - 1 = 0 by omega] at h1; exact h1)
                      · rw [List.length_append]; exact HM8.out.kept HG9.out (fun e => by injection e; omega)
                      · have h1 := HC.out.take ((p, r, l5), A5, c5) HSt.out
                        rwa [HL5.out] at h1
                      · rcases HOr.out with e | e <;> omega
                      · exact HB8.out.grown HG9.out HB8.out.size (fun k hk => by injection hk; have := HEb.out; omega)
                      · rw [List.length_append, List.length_append, List.length_cons, List.length_nil]; omega
theorem Certify_any (n : Int) (w : World) : Calls Try.prog 19 #[.int .i64 n] w (CerPost w n) := by
  refine (Certify_own n w).mono ?_
  rintro e w' (h | ⟨h1, ks, h2, h3, v, os, rfl, h5, h6⟩)
  · exact .inl h
  · obtain ⟨A, c, rfl, hs, hc, hm⟩ := h6.shows
    have hl : os.length = ks.length := by have := congrArg List.length h5; rwa [List.length_map, List.length_map] at this
    rw [h5] at hs
    exact .inr ⟨h1, ks, h2, h3, A, c, by rw [hl], hs, by rw [← hl]; exact hc, hm, h6.2.1⟩
end Go.Proofs.Ytfjmhfmhijhpkaa
