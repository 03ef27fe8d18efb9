/- The reference's digits: division. -/
import Derived.Test.YtfjmhfmhijhpkaaGreatDoorRti
namespace Go.Proofs.YtfjmhfmhijhpkaaGreatDoor
open Go.RowKit FF

def rowMH (k : Nat) (qs : List Nat) : Nat → Value := fun j => .int .i64 (if j < k then 0 else qs.getD (j - k) 0 : Nat)
theorem rowMH_start (n : Nat) (i : Nat) (h : i < n) : Value.int .i64 0 = rowMH n [] i := by simp [rowMH, h]
theorem rowMH_cons {w : World} {G T n k : Nat} {qs : List Nat} {d : Nat} (h : w.rowIs G T n (rowMH (k + 1) qs)) : (w.setCell ⟨G, k, none⟩ (.int .i64 (d : Nat))).rowIs G T n (rowMH k (d :: qs)) := by
  refine (h.set k (.int .i64 (d : Nat))).congr fun i _ => ?_
  unfold rowMH
  by_cases h1 : i = k
  · subst h1; simp
  · rw [if_neg h1]
    by_cases h2 : i < k
    · rw [if_pos h2, if_pos (by omega)]
    · rw [if_neg h2, if_neg (by omega)]
      obtain ⟨m, hm⟩ : ∃ m, i - k = m + 1 := ⟨i - k - 1, by omega⟩
      rw [hm, show i - (k + 1) = m by omega]; simp
theorem rowMH_shows {w : World} {G T n : Nat} {qs : List Nat} (h : w.rowIs G T n (rowMH 0 qs)) (hl : qs.length = n) : Shows .i64 w (some ⟨G, 0, none⟩) qs := by
  intro _
  refine ⟨G, 0, rfl, h.lt, fun i hi => ?_⟩
  rw [Nat.zero_add, h.cell (by omega)]
  unfold rowMH
  rw [if_neg (by omega), Nat.sub_zero]

/-- what the reference's divide leaves -/
def RDivPost (w : World) (a b : Nat) (e : Ending) (w' : World) : Prop :=
  ∃ A2 c2 A3 c3, e = .returned (.tuple #[.slice A2 (hl (a / b)) c2, .slice A3 (hl (a % b)) c3]) ∧ hl (a / b) ≤ c2 ∧ c2 ≤ maxLen ∧ hl (a % b) ≤ c3 ∧ c3 ≤ maxLen ∧
    Shows .i64 w' A2 (digs HB (a / b)) ∧ Shows .i64 w' A3 (digs HB (a % b)) ∧ Below w.heap.size w w'

/-- append onto a row of the call's own of what a slice shows, empty or not -/
theorem wpList_append_shows {P : Program} (w : World) {ops : Array Oper} {rest : List Oper} {o : Oper} {a : Act} {Q : Exit → Act → World → Prop} (hgd : o.guard = none) (s x : Operand) (t : TypeId)
    (ho : o.op = .call { callee := .builtin .append, args := #[s, x], argTypes := #[t, t] })
    (base : Nat) (e : TypeId) (i : TypeInfo) (z : Value) (bytes : Nat) (ht : P.underlying t = some (.slice e)) (hi : P.info? e = some i) (hz : i.zero = some z)
    (hsize : i.size = 1) (hby : i.bytes = bytes) (hzs : z.cells.size = 1)
    (B : Option Addr) (n cap : Nat) (xs : List Value) (hs : a.eval s = .slice B n cap) (hn : n ≤ cap) (hown : w.ownsRow base e 1 (.slice B n cap) n xs)
    (k : IntKind) (A : Option Addr) (m c : Nat) (ds : List Nat) (hx : a.eval x = .slice A m c) (hm : ds.length = m) (hsh : Shows k w A ds)
    (h63 : n + m ≤ maxLen) (hbytes : (n + m) * bytes ≤ 140737488355328) (hbase : base ≤ w.heap.size)
    (h : ∀ v' w', w'.ownsRow base e 1 v' (n + m) (xs ++ cells k ds) → w.grownBy w' (Value.slice B n cap).ownBlock → wpList P ops Q rest (a.put o.dst v') w') : wpList P ops Q (o :: rest) a w := by
  by_cases h0 : m = 0
  · subst h0
    obtain rfl : ds = [] := List.eq_nil_of_length_eq_zero hm
    refine wpList_append_nothing w hgd s x t ho e i ht hi B A n cap c hs hx hn (h _ w ?_ (World.grownBy.refl w _))
    simpa [cells] using hown
  · obtain ⟨b, o', rfl, hb, hc⟩ := hsh (by omega)
    refine wpList_append_own w hgd s x t ho base e i z 1 bytes ht hi hz hsize hby hzs (by decide) _ n xs hs hown ⟨b, o', none⟩ m c (cells k ds) hx (by rw [cells_length, hm, Nat.mul_one]) (cells_of_shows (fun _ => ⟨b, o', rfl, hb, hc⟩)) (cells_one _ _) h63 hbytes hbase ?_
    intro v' w' h1 h2 _
    exact h v' w' h1 h2
theorem dig_cons {B x : Nat} {xs : List Nat} (hx : x < B) (h : Dig B xs) : Dig B (x :: xs) := by
  intro y hy
  rcases List.mem_cons.1 hy with rfl | hy
  · exact hx
  · exact h y hy
theorem hl_le {a b : Nat} (h : a ≤ b) : hl a ≤ hl b := digs_mono HB2 h

set_option maxRecDepth 100000 in
set_option maxHeartbeats 4000000 in
theorem rDivide_any (A A' : Option Addr) (a b c c' : Nat) (w : World) (ha : Shows .i64 w A (digs HB a)) (hb : Shows .i64 w A' (digs HB b)) (hal : hl a ≤ 900000) (hbl : hl b ≤ 900000) (hb0 : 0 < b) :
    Calls Tryz.prog 93 #[.slice A (hl a) c, .slice A' (hl b) c'] w (RDivPost w a b) := by
  obtain ⟨i0, hi, hz0, hz1, hz2⟩ := info_parts info_int
  have HI := Lib.hid hi; have HZ0 := Lib.hid hz0; have HZ1 := Lib.hid hz1; have HZ2 := Lib.hid hz2
  clear hi hz0 hz1 hz2
  unfold RDivPost
  obtain ⟨n, hn⟩ : ∃ n, hl a = n := ⟨_, rfl⟩
  have hmk := int_make n (by omega)
  have HA := Lib.hid ha; have HB' := Lib.hid hb
  have Hn := Lib.hid (show (digs HB a).length = n from hn)
  have HB0 := Lib.hid hb0
  have bx : Hid (∀ i, (digs HB a).getD i 0 < 65536) := Lib.hid (fun i => (dig_digs' HB2 a).getD (show 0 < HB by decide) i)
  have st := Lib.hid (show val HB ((digs HB a).drop n) = b * val HB [] + 0 by rw [← hn, show hl a = (digs HB a).length from rfl, List.drop_length]; simp [val])
  rw [hn]
  rw [hn] at hal
  clear ha hb hn hb0
  go_enter Tryz.func93, Tryz.ntmps93
  go_wp2
  clear hmk
  go_loopw [7, 8] (fun s7 s8 wr => ∃ (k R : Nat) (qs : List Nat) (A3 : Option Addr) (c3 : Nat), s7 = .slice A3 (hl R) c3 ∧ s8 = .int .i64 ((k : Int) - 1) ∧ k ≤ n ∧ R < b ∧ qs.length + k = n ∧ Dig HB qs ∧ val HB ((digs HB a).drop k) = b * val HB qs + R ∧
    hl R ≤ c3 ∧ c3 ≤ maxLen ∧ Shows .i64 wr A3 (digs HB R) ∧ Fresh (w.heap.size + 1) A3 ∧ wr.rowIs w.heap.size 3 n (rowMH k qs) ∧ Below w.heap.size w wr) (fun _ s _ => (intOf s + 1).toNat)
  case atStart => exact ⟨n, 0, [], none, 0, rfl, by go_num, Nat.le_refl _, HB0.out, by simp, fun x hx => absurd hx (by simp), st.out, Nat.zero_le _, by simp [maxLen], Shows.nil, Fresh.none, (World.rowIs_made w _ n _).congr (fun i hi => rowMH_start n i hi), (Below.refl _ _).alloc (Nat.le_refl _) _⟩
  case round =>
    clear st
    obtain ⟨k, R, qs, A3, c3, rfl, rfl, hk, hRb, hql, hqd, hv, hc3, hc3m, hS, hF, hr, hB⟩ := hrel
    by_cases h0 : 0 < k
    · obtain ⟨i, rfl⟩ : ∃ i, k = i + 1 := ⟨k - 1, by omega⟩
      rw [show ((i + 1 : Nat) : Int) - 1 = (i : Int) by omega]
      obtain ⟨b1, o1, rfl, hb1, hc1⟩ := HA.out.below hB (by rw [Hn.out]; omega)
      have hx1 := hc1 i (by rw [Hn.out]; omega)
      have bxi := bx.out i
      have hstep := Lib.hid (fun x hx => short_step (B := HB) (i := i) (x := x) (by rw [Hn.out]; omega) hx hv)
      obtain ⟨x, hxi⟩ : ∃ x, (digs HB a).getD i 0 = x := ⟨_, rfl⟩
      have hst := Lib.hid (hstep.out x hxi)
      rw [hxi] at bxi hx1
      have hUb : R * HB + x < HB * b := by
        have : (R + 1) * HB ≤ b * HB := Nat.mul_le_mul_right _ hRb
        rw [Nat.mul_comm HB b]
        have : HB = 65536 := rfl
        rw [Nat.succ_mul] at *
        omega
      have hdl : (R * HB + x) / b < HB := Nat.div_lt_of_lt_mul (by rw [Nat.mul_comm b HB]; exact hUb)
      have hul : hl (R * HB + x) ≤ 900001 := by
        have h1 : hl (R * HB + x) ≤ hl b + 1 := by
          refine digs_length_le HB2 ?_
          have h2 := lt_pow_digs HB2 b
          change b < HB ^ hl b at h2
          rw [Nat.pow_succ, Nat.mul_comm (HB ^ hl b)]
          exact Nat.lt_of_lt_of_le hUb (by rw [Nat.mul_comm HB b, Nat.mul_comm HB]; exact Nat.mul_le_mul_right _ (Nat.le_of_lt h2))
        omega
      have hval : val HB (x :: digs HB R) = R * HB + x := by simp only [val]; rw [val_digs' HB2, Nat.mul_comm]; omega
      have hdd := dig_cons (show x < HB from bxi) (dig_digs' HB2 R)
      have HTr := Lib.hid (fun (W : World) (G cc : Nat) (h : Shows .i64 W (some ⟨G, 0, none⟩) (x :: digs HB R)) (h1 : hl R + 1 ≤ cc) (h2 : cc ≤ maxLen) (h3 : hl R ≤ 900000) => by
        have := rTrim_any (some ⟨G, 0, none⟩) (x :: digs HB R) cc W h hdd (show hl R + 1 ≤ cc from h1) h2 (show hl R + 1 ≤ 3000000 by omega)
        rw [hval] at this; exact this)
      change Hid (∀ (W : World) (G cc : Nat), _ → _ → _ → _ → Calls _ _ #[.slice (some ⟨G, 0, none⟩) (hl R + 1) cc] W _) at HTr
      have hRl : hl R ≤ 900000 := Nat.le_trans (hl_le (Nat.le_of_lt hRb)) hbl
      have HS := Lib.hid hS; have HF := Lib.hid hF; have HR := Lib.hid hr; have HB2' := Lib.hid hB; have HQD := Lib.hid hqd; have HQL := Lib.hid hql; have HUB := Lib.hid hUb
      have hwz := hB.size
      have hwz1 := hr.lt
      clear hv hS hF hr hB hqd hql hc1 bx hstep hval hdd hxi hUb
      generalize hU : R * HB + x = U at *
      clear hU
      go_wp2_with (at_builtin; refine wpList_append_shows _ rfl (.tmp 26) (.tmp 27) 76 rfl (w.heap.size + 1) 3 i0 (.int .i64 0) 8 Tryz.underlying76 HI.out HZ0.out HZ1.out HZ2.out rfl (some ⟨wr.heap.size, 0, none⟩) 1 1 [.int .i64 (x : Int)] rfl (Nat.le_refl _) (World.ownsRow_lit _ #[.int .i64 (x : Int)] 1 (by omega) (by unfold maxLen; omega) rfl) .i64 A3 (hl R) c3 (digs HB R) rfl rfl (HS.out.alloc _) (by unfold maxLen; omega) (by omega) (by simp; omega) ?_; intro v1 w1 hown1 hgrow1)
      have hg1 : (wr.alloc (.cells #[.int .i64 (x : Int)] 3)).grownBy w1 (some wr.heap.size) := hgrow1
      have ho1 : w1.ownsRow (w.heap.size + 1) 3 1 v1 (x :: digs HB R).length (cells .i64 (x :: digs HB R)) := by
        rw [List.length_cons, Nat.add_comm (digs HB R).length 1]; exact hown1
      obtain ⟨A4, c4, rfl, s1, s2, s3, s4⟩ := own_shows ho1
      rw [List.length_cons] at s2
      have hAsome : ∃ G, A4 = some ⟨G, 0, none⟩ := by
        rcases ho1.2 with ⟨e, -⟩ | ⟨g, cap, cur, e, -⟩
        · cases e
        · injection e with e; exact ⟨g, e⟩
      obtain ⟨G4, rfl⟩ := hAsome
      have hT := HTr.out w1 G4 c4 s1 s2 s3 hRl
      have HT := Lib.hid hT
      have HR1 := Lib.hid ((HR.out.alloc (.cells #[.int .i64 (x : Int)] 3)).of_block (hg1.block w.heap.size (by simp; omega) (by simp; omega)))
      have HB1 := Lib.hid ((HB2'.out.alloc (by omega) (.cells #[.int .i64 (x : Int)] 3)).grown hg1 (by simp; omega) (fun k hk => by injection hk with hk; omega))
      have hz1 : wr.heap.size < w1.heap.size := by have := hg1.size; simp at this; omega
      rw [List.length_cons]
      clear hown1 hgrow1 hg1 ho1 s1 s2 s3 s4 hT HTr HR HB2'
      change Calls _ _ #[.slice (some ⟨G4, 0, none⟩) (hl R + 1) c4] w1 _
      refine HT.out.mono ?_
      rintro e w2 ⟨A5, c5, rfl, p1, p2, p3, p4, p5⟩
      have S5 := Lib.hid p1; have F5 := Lib.hid (p4.mono (show w.heap.size + 1 ≤ w1.heap.size by omega))
      have HR2 := Lib.hid (HR1.out.of_block (p5.block w.heap.size (by omega)))
      have HW2 := Lib.hid (HB1.out.trans (p5.mono (by omega)))
      have hz2 : w.heap.size < w2.heap.size := by have := p5.size; omega
      clear p1 p4 p5 HT HR1 HB1 HS HF hz1
      have hU1 : U / b ≤ 65535 := by have : HB = 65536 := rfl; omega
      have HTm := Lib.hid (fun (d : Nat) (W : World) (G : Nat) (hd : d < HB) (h : Shows .i64 W A' (digs HB b)) (h' : Shows .i64 W (some ⟨G, 0, none⟩) [d]) => by
        have := rTimes_any A' (some ⟨G, 0, none⟩) (digs HB b) [d] c' 1 W h h' (dig_digs' HB2 b) (fun y hy => by rw [List.mem_singleton.1 hy]; exact hd) (show hl b ≤ 1000000 by omega) (by simp)
        rw [val_digs' HB2, show val HB [d] = d by simp [val]] at this
        exact this)
      change Hid (∀ (d : Nat) (W : World) (G : Nat), _ → _ → _ → Calls _ _ #[.slice A' (hl b) c', .slice (some ⟨G, 0, none⟩) 1 1] W _) at HTm
      unfold HalfPost at HTm
      have HLs := Lib.hid (fun (A6 : Option Addr) (v c6 : Nat) (W : World) (h : Shows .i64 W A5 (digs HB U)) (h' : Shows .i64 W A6 (digs HB v)) => rLess_any A5 A6 U v c5 c6 W h h' (by omega))
      have hstF := Lib.hid (fun (d : Nat) (hd : U / b = d) => (show val HB ((digs HB a).drop i) = b * val HB (d :: qs) + U % b by rw [← hd]; exact hst.out))
      clear bxi hst
      go_wp2_with fail
      go_loopw [9, 10] (fun s9 s10 wr2 => ∃ lo hi : Nat, s9 = .int .i64 lo ∧ s10 = .int .i64 hi ∧ lo ≤ U / b ∧ U / b ≤ hi ∧ hi ≤ 65535 ∧ Below w2.heap.size w2 wr2) (fun s9 s10 _ => (intOf s10).toNat - (intOf s9).toNat)
      case atStart => exact ⟨0, 65535, rfl, rfl, Nat.zero_le _, hU1, Nat.le_refl _, Below.refl _ _⟩
      case round =>
        obtain ⟨lo, hh, rfl, rfl, hlo, hhi, hhm, hB5⟩ := hrel
        have HB5 := Lib.hid hB5
        clear hB5
        by_cases hlt : lo < hh
        · obtain ⟨m, hm⟩ : ∃ m, (lo + hh + 1) / 2 = m := ⟨_, rfl⟩
          have hmc : ((lo : Int) + hh + 1) / 2 = (m : Int) := by omega
          have hm1 : lo < m ∧ m ≤ hh := by omega
          obtain ⟨hm1, hm2⟩ := hm1
          have hlt' : (lo : Int) < hh := by omega
          clear hm
          have hzr := HB5.out.size
          have hmH : m < HB := by have : HB = 65536 := rfl; omega
          have hs1 : Shows .i64 (wr.alloc (.cells #[.int .i64 (m : Int)] 3)) (some ⟨wr.heap.size, 0, none⟩) [m] :=
            Shows.new (fun i hi => by
              match i, hi with
              | 0, _ => rfl)
          have hbW := (HB'.out.below HW2.out).below HB5.out
          have hC := HTm.out m _ wr.heap.size hmH (hbW.alloc (.cells #[.int .i64 (m : Int)] 3)) hs1
          have HC := Lib.hid hC
          have HUW := Lib.hid ((S5.out.below HB5.out).alloc (.cells #[.int .i64 (m : Int)] 3))
          clear hC hs1 hbW HTm
          go_wp2_with fail
          refine HC.out.mono ?_
          rintro e w3 ⟨A6, c6, rfl, t1, t2, t3, t4, t5⟩
          have hL := HLs.out A6 (b * m) c6 w3 (HUW.out.below t5) t1
          have HL := Lib.hid hL
          have hB3 := Lib.hid ((HB5.out.alloc hzr _).trans (t5.mono (by simp; omega)))
          clear hL t1 t4 t5 HC HUW HB5 HLs
          by_cases hcmp : U < b * m
          · rw [decide_eq_true hcmp] at HL
            have hbin := bin_less hcmp
            clear hcmp
            have hm0 : (1 : Int) ≤ m := by omega
            go_wp2_with fail
            refine HL.out.mono ?_
            rintro e w4 ⟨rfl, n4, rfl⟩
            go_wp2_with fail
            have e10 : (m : Int) - 1 = ((m - 1 : Nat) : Int) := by omega
            rw [e10]
            exact ⟨⟨lo, m - 1, rfl, rfl, hlo, by omega, by omega, below_drewN hB3.out _⟩, by simp [intOf]; omega⟩
          · rw [decide_eq_false hcmp] at HL
            have hbin := bin_ge HB0.out hcmp
            clear hcmp
            go_wp2_with fail
            refine HL.out.mono ?_
            rintro e w4 ⟨rfl, n4, rfl⟩
            go_wp2_with fail
            exact ⟨⟨m, hh, rfl, rfl, hbin, hhi, hhm, below_drewN hB3.out _⟩, by simp [intOf]; omega⟩
        · obtain rfl : lo = hh := by omega
          have hd : U / b = lo := by omega
          have hdH : lo < HB := by have : HB = 65536 := rfl; omega
          have HQ5 := HR2.out.of_block (HB5.out.block w.heap.size (by omega))
          have hcq := HQ5.cell (show i < n by omega)
          have hfq := HQ5.frozen i
          have hzr := HB5.out.size
          have W5 := HW2.out.trans (HB5.out.mono (by omega))
          have S6 := Lib.hid ((S5.out.below HB5.out).setCell F5.out (p := ⟨w.heap.size, i, none⟩) (Nat.lt_succ_self _) (.int .i64 (lo : Int)))
          have HQ6 := Lib.hid (rowMH_cons (d := lo) HQ5)
          have W6 := Lib.hid (W5.setCell (p := ⟨w.heap.size, i, none⟩) (Nat.le_refl _) (.int .i64 (lo : Int)))
          have HST := Lib.hid (hstF.out lo hd)
          clear HQ5 W5 S5 F5 HR2 HLs hlo hhi hhm hlt HB5
          have hmin := Lib.hid (fun (A7 : Option Addr) (c7 : Nat) (W : World) (h : Shows .i64 W A5 (digs HB U)) (h' : Shows .i64 W A7 (digs HB (b * lo))) => by
            have := rMinus_any A5 A7 (digs HB U) (digs HB (b * lo)) c5 c7 W h h' (dig_digs' HB2 _) (dig_digs' HB2 _) (show hl U ≤ 2000000 by omega) (hl_le (show b * lo ≤ U by rw [← hd]; exact Nat.mul_div_le U b)) (by rw [val_digs' HB2, val_digs' HB2, ← hd]; exact Nat.mul_div_le U b)
            rw [val_digs' HB2, val_digs' HB2, show U - b * lo = U % b by rw [← hd]; have := Nat.div_add_mod U b; omega] at this
            exact this)
          change Hid (∀ (A7 : Option Addr) (c7 : Nat) (W : World), _ → _ → Calls _ _ #[.slice A5 (hl U) c5, .slice A7 (hl (b * lo)) c7] W _) at hmin
          unfold HalfPost at hmin
          obtain ⟨Wq, hWq⟩ : ∃ Wq : World, Wq = wr.setCell ⟨w.heap.size, i, none⟩ (.int .i64 (lo : Int)) := ⟨_, rfl⟩
          have hs1 : Shows .i64 ((wr.setCell ⟨w.heap.size, i, none⟩ (.int .i64 (lo : Int))).alloc (.cells #[.int .i64 (lo : Int)] 3)) (some ⟨(wr.setCell ⟨w.heap.size, i, none⟩ (.int .i64 (lo : Int))).heap.size, 0, none⟩) [lo] :=
            Shows.new (fun i hi => by
              match i, hi with
              | 0, _ => rfl)
          rw [World.size_setCell] at hs1
          have hC := HTm.out lo _ wr.heap.size hdH ((HB'.out.below W6.out).alloc (.cells #[.int .i64 (lo : Int)] 3)) hs1
          have HC := Lib.hid hC
          have hzW := W6.out.size
          rw [World.size_setCell] at hzW
          clear hs1 hC HTm hWq
          go_wp2_with fail
          refine HC.out.mono ?_
          rintro e w3 ⟨A7, c7, rfl, t1, t2, t3, t4, t5⟩
          have t5' : Below wr.heap.size (wr.setCell ⟨w.heap.size, i, none⟩ (.int .i64 (lo : Int))) w3 :=
            ((Below.refl _ _).alloc (by simp) _).trans (t5.mono (by simp))
          have h3 := hmin.out A7 c7 w3 (S6.out.below (by rw [World.size_setCell]; exact t5')) t1
          have H3 := Lib.hid h3
          have Q3 := Lib.hid (HQ6.out.of_block (t5'.block w.heap.size (by omega)))
          have W3 := Lib.hid (W6.out.trans (t5'.mono hzW))
          have z3 : wr.heap.size ≤ w3.heap.size := by have := t5'.size; rw [World.size_setCell] at this; exact this
          have hMd := Lib.hid (Nat.mod_lt U HB0.out)
          clear h3 t1 t4 t5 t5' hmin S6 HQ6 W6 HC
          go_wp2_with fail
          refine H3.out.mono ?_
          rintro e w4 ⟨A8, c8, rfl, u1', u2', u3', u4', u5'⟩
          have U1 := Lib.hid u1'; have U4 := Lib.hid (u4'.mono (show w.heap.size + 1 ≤ w3.heap.size by omega))
          have Q4 := Lib.hid (Q3.out.of_block (u5'.block w.heap.size (by omega)))
          have W4 := Lib.hid (W3.out.trans (u5'.mono (by omega)))
          clear u1' u4' u5' H3 Q3 W3
          go_wp2_with fail
          refine ⟨⟨i, U % b, lo :: qs, A8, c8, rfl, rfl, by omega, hMd.out, by have := HQL.out; simp only [List.length_cons]; omega, dig_cons hdH HQD.out, HST.out, u2', u3', U1.out, U4.out, Q4.out, W4.out⟩, by simp [intOf]⟩
    · obtain rfl : k = 0 := by omega
      rw [List.drop_zero, val_digs' HB2] at hv
      have hql' : qs.length = n := by omega
      have sh := rowMH_shows hr hql'
      have hT := rTrim_any (some ⟨w.heap.size, 0, none⟩) qs n wr sh hqd (by omega) (by unfold maxLen; omega) (by omega)
      have v1 : val HB qs = a / b := by rw [hv, Nat.mul_add_div HB0.out, Nat.div_eq_of_lt hRb, Nat.add_zero]
      have v2 : R = a % b := by rw [hv, Nat.mul_add_mod, Nat.mod_eq_of_lt hRb]
      rw [hql', v1] at hT
      have HT := Lib.hid hT
      have HS := Lib.hid hS; have W1 := Lib.hid hB; have V2 := Lib.hid v2
      have hwz := hB.size
      clear hT v1 v2 hv hS hF hr hB hqd hql hql' sh bx
      go_wp2_with fail
      refine HT.out.mono ?_
      rintro e w2 ⟨A4, c4, rfl, p1, p2, p3, p4, p5⟩
      have P1 := Lib.hid p1; have P5 := Lib.hid p5
      have HS2 := Lib.hid (HS.out.below p5)
      clear p1 p4 p5 HT
      go_wp2_with fail
      go_ret2
      rw [← V2.out]
      exact ⟨A4, c4, A3, c3, rfl, p2, p3, hc3, hc3m, P1.out, HS2.out, W1.out.trans (P5.out.mono hwz)⟩
end Go.Proofs.YtfjmhfmhijhpkaaGreatDoor
