/- An integer read from a text, by the program. An integer read from a text, by the reference. The law IntegerTexts answers true at all integers and texts. -/
import Derived.Test.YtfjmhfmhijhpkaaGreatDoorFmt0
import Derived.Test.YtfjmhfmhijhpkaaGreatDoorTim
import Derived.Test.YtfjmhfmhijhpkaaGreatDoorRpg
import Derived.Test.YtfjmhfmhijhpkaaGreatDoorQo0
import Derived.Test.YtfjmhfmhijhpkaaGreatDoorRti
import Derived.Test.YtfjmhfmhijhpkaaGreatDoorROf
import Derived.Test.YtfjmhfmhijhpkaaGreatDoorAwk
import Derived.Test.YtfjmhfmhijhpkaaGreatDoorSho0
namespace Go.Proofs.YtfjmhfmhijhpkaaGreatDoor
open Go.RowKit FF

def prsE (l : List UInt8) : Int := if 400 < l.length then 8 else if Lib.itoa (candP l) = l then 0 else 7
def prsV (l : List UInt8) : Int := if 400 < l.length then 0 else if Lib.itoa (candP l) = l then candP l else 0
/-- what Parse leaves: the number and the error -/
def PrsPost (w : World) (z e : Int) (r : Ending) (w' : World) : Prop :=
  ∃ A c, r = .returned (.tuple #[.agg #[.bool (decide (z < 0)), .slice A (wl z.natAbs) c], .int .i64 e]) ∧ Shows .u32 w' A (digs WB z.natAbs) ∧ wl z.natAbs ≤ c ∧ c ≤ maxLen ∧ Below w.heap.size w w'
theorem PrsPost.zero {w w' : World} {e : Int} {r : Ending} (hr : r = .returned (.tuple #[.agg #[.bool false, .slice none 0 0], .int .i64 e])) (hb : Below w.heap.size w w') : PrsPost w 0 e r w' :=
  ⟨none, 0, hr, fun h => absurd h (by decide), Nat.le_refl _, by unfold maxLen; omega, hb⟩
theorem cut_len (l : List UInt8) : (cutS l).length ≤ l.length := by
  cases l with
  | nil => simp [cutS]
  | cons c r => simp only [cutS]; split <;> simp
theorem trim_minus (l : List UInt8) : Lib.trimPrefix l [45] = cutS l ∧ Lib.hasPrefix l [45] = negS l := by
  cases l with
  | nil => decide
  | cons c r =>
    by_cases h : c = 45
    · subst h; simp [Lib.trimPrefix, Lib.hasPrefix, cutS, negS]
    · have h2 : ¬ 45 = c := fun e => h e.symm
      simp [Lib.trimPrefix, Lib.hasPrefix, cutS, negS, h, h2, List.isPrefixOf]
theorem prs_bad {l : List UInt8} (hl : ¬ 400 < l.length) {k : Nat} {c : UInt8} (hk : (cutS l)[k]? = some c) (hc : isDig c = false) : prsE l = 7 ∧ prsV l = 0 := by
  have h : Lib.itoa (candP l) ≠ l := fun h => by
    have := itoa_digits h c (List.mem_of_getElem? hk)
    rw [hc] at this; cases this
  unfold prsE prsV
  rw [if_neg hl, if_neg hl, if_neg h, if_neg h]; exact ⟨rfl, rfl⟩
theorem decVal_take {l : List UInt8} {k : Nat} {c : UInt8} (h : l[k]? = some c) : decVal (l.take (k + 1)) = 10 * decVal (l.take k) + (c.toNat - 48) := by
  rw [List.take_add_one, h]; exact decVal_snoc _ c
theorem decVal_lt (l : List UInt8) (h : ∀ c ∈ l, isDig c = true) : ∀ k, decVal (l.take k) < 10 ^ k := by
  intro k
  induction k with
  | zero => simp [decVal]
  | succ k ih =>
    rw [Nat.pow_succ]
    cases hk : l[k]? with
    | none =>
      rw [List.take_of_length_le (by have := List.getElem?_eq_none_iff.1 hk; omega)]
      rw [List.take_of_length_le (by have := List.getElem?_eq_none_iff.1 hk; omega)] at ih
      omega
    | some c =>
      have h2 := h c (List.mem_of_getElem? hk)
      unfold isDig at h2
      simp at h2
      rw [decVal_take hk]
      omega
/-- words of a slice that shows a number -/
def SW (n : Nat) : Value → World → Prop := fun v W => ∃ A, v = .slice A (wl n) (wl n) ∧ Shows .u32 W A (digs WB n)
theorem Keeps.sw (n : Nat) : Keeps (SW n) := fun _ _ _ ⟨A, h1, h2⟩ hb => ⟨A, h1, h2.below hb⟩
/-- a new slice of one number -/
def TenW : Value → World → Prop := fun v W => ∃ A, v = .slice A 1 1 ∧ Shows .u32 W A [10]
theorem Keeps.tenW : Keeps TenW := fun _ _ _ ⟨A, h1, h2⟩ hb => ⟨A, h1, h2.below hb⟩
theorem ten_word (W : World) : TenW (.slice (some ⟨W.heap.size, 0, none⟩) 1 1) (W.alloc (.cells #[.int .u32 10] 134)) := ⟨_, rfl, fun _ => ⟨W.heap.size, 0, rfl, by simp, fun i hi => by
  have : i = 0 := by simpa using hi
  subst this
  simp [go_sem]⟩⟩
theorem Yl.lit {P : Program} {a : Act} {W : World} {o : Oper} {q : Value → World → Prop} {T e : TypeId} {x : Operand} {u : Value} (ho : o.op = .buildSlice T 1 #[(0, x)]) (hx : a.eval x = u)
    (h : ∀ W : World, (Instr.buildSlice T 1 #[(0, u)]).run P W = .ok (.slice (some ⟨W.heap.size, 0, none⟩) 1 1) (W.alloc (.cells #[u] e))) (hq : q (.slice (some ⟨W.heap.size, 0, none⟩) 1 1) (W.alloc (.cells #[u] e))) : Yl P o a W q := by
  refine ⟨fun K Q' hK => ?_⟩
  unfold Oper.wp
  have : (execOp a.eval o).run P W = .ok (.value (.slice (some ⟨W.heap.size, 0, none⟩) 1 1)) (W.alloc (.cells #[u] e)) := by
    simp [execOp, ho, hx, h]
  rw [this]
  exact hK _ _ ((Below.refl _ _).alloc (Nat.le_refl _) _) hq
theorem c_times {v : Nat} {A : Option Addr} {z : Value} {W0 : World} (hA : Shows .u32 W0 A (digs WB v)) (hz : TenW z W0) (hv : wl v ≤ 1000) (W : World) (hW : W0 = W) : Calls Tryz.prog 80 #[.slice A (wl v) (wl v), z] W (PostW (SW (v * 10)) W) := by
  subst hW
  obtain ⟨A', rfl, hA'⟩ := hz
  have h := times_any A A' (digs WB v) [10] (wl v) 1 W0 hA hA' (dig_digs' WB2 _) (fun y hy => by rw [List.mem_singleton.1 hy]; decide) (by show wl v ≤ _; omega) (by simp)
  rw [val_digs' WB2, show val WB [10] = 10 from rfl] at h
  exact h.mono fun e w' ⟨A2, h1, h2, _, h4⟩ => ⟨_, h1, ⟨A2, rfl, h2⟩, h4⟩
theorem c_of {d : Nat} (W : World) (hd : d < 10) : Calls Tryz.prog 81 #[.int .u64 d] W (PostW (SW d) W) :=
  (of_any d W (by omega)).mono fun e w' ⟨A2, h1, h2, _, h4⟩ => ⟨_, h1, ⟨A2, rfl, h2⟩, h4⟩
theorem c_plus {m n : Nat} {x y : Value} {W : World} (hx : SW m x W) (hy : SW n y W) (hm : wl m ≤ 10000) (hn : wl n ≤ 10000) : Calls Tryz.prog 79 #[x, y] W (PostW (SW (m + n)) W) := by
  obtain ⟨A, rfl, hA⟩ := hx
  obtain ⟨A', rfl, hA'⟩ := hy
  have h := plus_any A A' (digs WB m) (digs WB n) (wl m) (wl n) W hA hA' (dig_digs' WB2 _) (dig_digs' WB2 _) (by show wl m ≤ _; omega) (by show wl n ≤ _; omega)
  rw [val_digs' WB2, val_digs' WB2] at h
  exact h.mono fun e w' ⟨A2, h1, h2, _, h4⟩ => ⟨_, h1, ⟨A2, rfl, h2⟩, h4⟩
theorem w_dig {n : Nat} (h1 : 48 ≤ n) (h2 : n ≤ 57) : IntKind.u8.wrap ((n : Int) - 48) = ((n - 48 : Nat) : Int) ∧ IntKind.u64.wrap ((n - 48 : Nat) : Int) = ((n - 48 : Nat) : Int) := by
  rcases (show n = 48 ∨ n = 49 ∨ n = 50 ∨ n = 51 ∨ n = 52 ∨ n = 53 ∨ n = 54 ∨ n = 55 ∨ n = 56 ∨ n = 57 by omega) with rfl | rfl | rfl | rfl | rfl | rfl | rfl | rfl | rfl | rfl <;> decide
theorem shows_only {k : IntKind} {w w' : World} {A : Option Addr} {xs : List Nat} {g : Nat} (h : Shows k w A xs) (ho : Only g w w') (hne : ∀ a, A = some a → a.block ≠ g) : Shows k w' A xs := fun hp => by
  obtain ⟨b, o, rfl, hb, hc⟩ := h hp
  refine ⟨b, o, rfl, by rw [ho.size]; exact hb, fun i hi => ?_⟩
  rw [← hc i hi]
  simp only [World.cell?, ho.block b (hne _ rfl)]
/-- what holds at the head of Parse's loop -/
def PrsRel (L : List UInt8) (W0 : World) (B0 : Nat) (s20 s6 : Value) (wr : World) : Prop :=
  ∃ k : Nat, s20 = .int .i64 k ∧ k ≤ L.length ∧ SW (decVal (L.take k)) s6 wr ∧ (∀ c ∈ L.take k, isDig c = true) ∧ Below B0 W0 wr

set_option maxRecDepth 100000 in
set_option maxHeartbeats 4000000 in
theorem Parse_any (l : List UInt8) (w : World) (hl : l.length ≤ 500) (htab : Lib.TabBelow Tryz.prog w.heap.size w "internal/strconv.uint64pow10" .u64 Lib.pow10Tab) :
    Calls Tryz.prog 25 #[.string ⟨l.toArray⟩] w (PrsPost w (prsV l) (prsE l)) := by
  have HL := Lib.hid hl
  have HT := Lib.hid htab
  have hC := fun W => Tryz.strings_CutPrefix ⟨l.toArray⟩ ⟨#[45]⟩ W
  have e0 : (⟨l.toArray⟩ : ByteArray).data.toList = l := rfl
  rw [e0, show (⟨#[45]⟩ : ByteArray).data.toList = [45] from rfl, (trim_minus l).1, (trim_minus l).2] at hC
  have HC := Lib.hid hC
  clear hC e0 htab hl
  go_enter Tryz.func25, Tryz.ntmps25
  go_upto_region 1 with fail
  obtain ⟨W0, hW0⟩ : ∃ W0 : World, W0 = w.alloc (.cells #[.bool false, .slice none 0 0] 55) := ⟨_, rfl⟩
  rw [← hW0]
  have HB0 := Lib.hid (show Bx w [(w.heap.size, #[.bool false, .slice none 0 0])] W0 by rw [hW0]; simpa using ((Bx.nil (Below.refl w.heap.size w)).new #[.bool false, .slice none 0 0] 55))
  clear hW0
  by_cases h4 : 400 < l.length
  · have d1 : decide ((400 : Int) < (l.length : Int)) = true := decide_eq_true (by omega)
    have d2 : (400 : Int) < (l.length : Int) := by omega
    have HE := Lib.hid (show prsE l = 8 ∧ prsV l = 0 by unfold prsE prsV; rw [if_pos h4, if_pos h4]; exact ⟨rfl, rfl⟩)
    obtain ⟨c0, c1⟩ := HB0.out.two (List.mem_cons_self ..)
    have f0 := (HB0.out.own _ (List.mem_cons_self ..)).2.2.2 0; have f1 := (HB0.out.own _ (List.mem_cons_self ..)).2.2.2 1
    go_wp2_with fail
    have hcs := (HB0.out.own _ (List.mem_cons_self ..)).2.put2 (.bool false) (.slice none 0 0)
    obtain ⟨q0, q1⟩ := hcs.two
    refine bodyPost_ret (v := .tuple #[.agg #[.bool false, .slice none 0 0], .int .i64 8]) (by simp [results, Tryz.results25, go_sem, q0, q1]) rfl ?_
    rw [HE.out.1, HE.out.2]
    exact PrsPost.zero rfl ((Only.put2 ..).below HB0.out.below (Nat.le_refl _))
  · have d1 : ¬ (400 : Int) < (l.length : Int) := by omega
    have HN4 := Lib.hid h4
    clear h4
    go_wp2_with fail
    refine (HC.out _).mono ?_
    rintro e w1 ⟨rfl, rfl⟩
    clear HC
    have hdl := cut_len l
    generalize hL : cutS l = L at *
    have HLE := Lib.hid hL
    clear hL
    go_wp2_with fail
    go_loopw [20, 6] (fun s20 s6 wr => PrsRel L w1 w1.heap.size s20 s6 wr) (fun s20 _ _ => L.length - (intOf s20).toNat)
    case atStart => exact ⟨0, rfl, Nat.zero_le _, ⟨none, rfl, fun h => absurd h (by simp [decVal, digs_zero])⟩, fun c hc => by simp at hc, Below.refl _ _⟩
    case round =>
      obtain ⟨k, rfl, hk, ⟨A, rfl, hA⟩, hdg, hB⟩ := hrel
      have HA := Lib.hid hA; have HD := Lib.hid hdg; have HB := Lib.hid hB
      clear hA hdg hB
      by_cases hkl : k < L.length
      · obtain ⟨c, hc⟩ : ∃ c, L[k]? = some c := ⟨_, List.getElem?_eq_getElem hkl⟩
        have HCk := Lib.hid hc
        have hgk : (⟨L.toArray⟩ : ByteArray)[k]'(by show k < L.toArray.size; simpa using hkl) = c := by
          rw [List.getElem?_eq_getElem hkl] at hc
          injection hc
        have hcl := c.toNat_lt
        have HBr := Lib.hid (HB0.out.keep HB.out)
        clear hc
        by_cases h1 : c.toNat < 48
        · have d2 : (c.toNat : Int) < 48 := by omega
          have HX := Lib.hid (prs_bad HN4.out (HLE.out.symm ▸ HCk.out) (show isDig c = false by unfold isDig; simp; omega))
          obtain ⟨c0, c1⟩ := HBr.out.two (List.mem_cons_self ..)
          have f0 := (HBr.out.own _ (List.mem_cons_self ..)).2.2.2 0; have f1 := (HBr.out.own _ (List.mem_cons_self ..)).2.2.2 1
          go_wp2_with fail
          have hcs := (HBr.out.own _ (List.mem_cons_self ..)).2.put2 (.bool false) (.slice none 0 0)
          obtain ⟨q0, q1⟩ := hcs.two
          refine bodyPost_ret (v := .tuple #[.agg #[.bool false, .slice none 0 0], .int .i64 7]) (by simp [results, Tryz.results25, go_sem, q0, q1]) rfl ?_
          rw [HX.out.1, HX.out.2]
          exact PrsPost.zero rfl ((Only.put2 ..).below HBr.out.below (Nat.le_refl _))
        by_cases h2 : 57 < c.toNat
        · have d2 : ¬ (c.toNat : Int) < 48 := by omega
          have d3 : (57 : Int) < (c.toNat : Int) := by omega
          have HX := Lib.hid (prs_bad HN4.out (HLE.out.symm ▸ HCk.out) (show isDig c = false by unfold isDig; simp; omega))
          obtain ⟨c0, c1⟩ := HBr.out.two (List.mem_cons_self ..)
          have f0 := (HBr.out.own _ (List.mem_cons_self ..)).2.2.2 0; have f1 := (HBr.out.own _ (List.mem_cons_self ..)).2.2.2 1
          go_wp2_with fail
          have hcs := (HBr.out.own _ (List.mem_cons_self ..)).2.put2 (.bool false) (.slice none 0 0)
          obtain ⟨q0, q1⟩ := hcs.two
          refine bodyPost_ret (v := .tuple #[.agg #[.bool false, .slice none 0 0], .int .i64 7]) (by simp [results, Tryz.results25, go_sem, q0, q1]) rfl ?_
          rw [HX.out.1, HX.out.2]
          exact PrsPost.zero rfl ((Only.put2 ..).below HBr.out.below (Nat.le_refl _))
        have d2 : ¬ (c.toNat : Int) < 48 := by omega
        have d3 : ¬ (57 : Int) < (c.toNat : Int) := by omega
        clear HBr
        obtain ⟨v, hv⟩ : ∃ v, v = decVal (L.take k) := ⟨_, rfl⟩
        rw [← hv] at HA
        have hvk : v < 10 ^ k := by have := decVal_lt (L.take k) HD.out k; rw [List.take_take, Nat.min_self, ← hv] at this; exact this
        have HVl := Lib.hid (show wl v ≤ 1000 by have := digs_length_le WB2 (Nat.lt_of_lt_of_le hvk (Nat.pow_le_pow_left (show 10 ≤ WB by decide) k)); show (digs WB v).length ≤ _; omega)
        have HVm := Lib.hid (show wl (v * 10) ≤ 10000 by have := digs_length_le WB2 (Nat.lt_of_lt_of_le (show v * 10 < 10 ^ (k + 1) by rw [Nat.pow_succ]; omega) (Nat.pow_le_pow_left (show 10 ≤ WB by decide) (k + 1))); show (digs WB (v * 10)).length ≤ _; omega)
        have HVd := Lib.hid (show wl (c.toNat - 48) ≤ 10000 by have := digs_length_le (k := 1) WB2 (show c.toNat - 48 < WB ^ 1 by rw [Nat.pow_one]; show _ < 4294967296; omega); show (digs WB (c.toNat - 48)).length ≤ _; omega)
        have HVn := Lib.hid (show decVal (L.take (k + 1)) = v * 10 + (c.toNat - 48) by rw [hv, decVal_take HCk.out, Nat.mul_comm])
        have HDn := Lib.hid (show ∀ c ∈ L.take (k + 1), isDig c = true by
          rw [List.take_add_one, HCk.out]
          intro x hx
          rcases List.mem_append.1 hx with hx | hx
          · exact HD.out x hx
          · have : x = c := by simpa using hx
            rw [this]; unfold isDig; simp; omega)
        rw [← hv]
        have HV := Lib.hid hv
        have hd48 : 48 ≤ c.toNat := by omega
        have hd57 : c.toNat ≤ 57 := by omega
        clear hv HD hvk
        go_upto_region 10 with fail
        refine wp_region_val [(0, 34, VC (.slice A (wl v) (wl v))), (1, 35, TenW), (2, 36, SW (v * 10)), (3, 37, VC (.string ⟨L.toArray⟩)), (4, 38, VC (.int .i64 k)), (5, 39, VC (.int .u8 c.toNat)), (6, 40, VC (.int .u8 (c.toNat - 48 : Nat))), (7, 41, VC (.int .u64 (c.toNat - 48 : Nat))), (8, 42, SW (c.toNat - 48)), (9, 43, SW (v * 10 + (c.toNat - 48))), (10, 6, SW (v * 10 + (c.toNat - 48)))] (fun _ => True) [34, 35, 36, 37, 38, 39, 40, 41, 42, 43, 6] (by kernel_rfl) (by kernel_rfl) (by kernel_rfl) ⟨Keeps.vc _, Keeps.tenW, Keeps.sw _, Keeps.vc _, Keeps.vc _, Keeps.vc _, Keeps.vc _, Keeps.vc _, Keeps.sw _, Keeps.sw _, Keeps.sw _, trivial⟩ (fun _ _ _ _ _ => trivial) trivial (forall_ops ⟨?_, ?_, ?_, ?_, ?_, ?_, ?_, ?_, ?_, ?_, ?_, trivial⟩) ?_
        · exact .of rfl rfl fun _ _ _ _ _ hU => .move rfl (fr_old (by kernel_rfl) (hU 6 (by kernel_rfl)) (by kernel_rfl)) rfl
        · exact .of rfl rfl fun _ W _ _ _ _ => .lit rfl rfl (fun W => (by kernel_rfl)) (ten_word W)
        · exact .of rfl rfl fun _ W hB _ hV _ => .call Tryz.func80 (by kernel_rfl) rfl rfl rfl (map_two ((fr_in (by kernel_rfl)).trans (hget hV 0 rfl (by kernel_rfl))) (fr_in (by kernel_rfl))) (c_times (HA.out.below hB) (hget hV 1 rfl (by kernel_rfl)) HVl.out W rfl)
        · exact .of rfl rfl fun _ _ _ _ _ _ => .move rfl (fr_out (v := .string ⟨L.toArray⟩) (by kernel_rfl) (by kernel_rfl)) rfl
        · exact .of rfl rfl fun _ _ _ _ _ _ => .move rfl (fr_out (v := .int .i64 k) (by kernel_rfl) (by kernel_rfl)) rfl
        · exact .of rfl rfl fun _ _ _ _ hV _ => .index (p := .string ⟨L.toArray⟩) (k := .int .i64 k) rfl ((fr_in (by kernel_rfl)).trans (hget hV 3 rfl (by kernel_rfl))) ((fr_in (by kernel_rfl)).trans (hget hV 4 rfl (by kernel_rfl))) (by simp [go_sem, hgk, hkl]) rfl
        · exact .of rfl rfl fun _ _ _ _ hV _ => .binOp (p := .int .u8 c.toNat) (r := .int .u8 48) rfl ((fr_in (by kernel_rfl)).trans (hget hV 5 rfl (by kernel_rfl))) rfl (by simp [go_sem, eqGuard]; exact (w_dig hd48 hd57).1) rfl
        · exact .of rfl rfl fun _ _ _ _ hV _ => .convert (p := .int .u8 (c.toNat - 48 : Nat)) rfl ((fr_in (by kernel_rfl)).trans (hget hV 6 rfl (by kernel_rfl))) (by simp [go_sem]; exact (w_dig hd48 hd57).2) rfl
        · exact .of rfl rfl fun _ W _ _ hV _ => .call Tryz.func81 (by kernel_rfl) rfl rfl rfl (map_one ((fr_in (by kernel_rfl)).trans (hget hV 7 rfl (by kernel_rfl)))) (c_of W (by omega))
        · exact .of rfl rfl fun _ _ _ _ hV _ => .call Tryz.func79 (by kernel_rfl) rfl rfl rfl (map_two (fr_in (by kernel_rfl)) (fr_in (by kernel_rfl))) (c_plus (hget hV 2 rfl (by kernel_rfl)) (hget hV 8 rfl (by kernel_rfl)) HVm.out HVd.out)
        · exact .of rfl rfl fun _ _ _ _ hV _ => .assign rfl (fr_in (by kernel_rfl)) (hget hV 9 rfl (by kernel_rfl))
        intro y W hB hE hV
        obtain ⟨A6, e6, h6⟩ := hend hV 10 rfl
        simp only [fr, putAll, List.foldl_cons, List.foldl_nil, List.setIfInBounds_toArray, List.set_cons_zero, List.set_cons_succ]
        simp only [e6]
        have H6 := Lib.hid h6; have HBW := Lib.hid hB
        clear hB hE hV h6 e6
        go_wp2_with fail
        refine ⟨⟨k + 1, rfl, hkl, ?_, HDn.out, HB.out.trans (HBW.out.mono HB.out.size)⟩, by simp [intOf]; omega⟩
        rw [HVn.out]
        exact ⟨A6, rfl, H6.out⟩
      · have hkn : k = L.length := by omega
        have hlt : ¬ (k : Int) < (L.length : Int) := by omega
        have HD2 := Lib.hid (show ∀ c ∈ L, isDig c = true by have := HD.out; rwa [hkn, List.take_length] at this)
        obtain ⟨v, hv⟩ : ∃ v, v = decVal (L.take k) := ⟨_, rfl⟩
        have HV := Lib.hid (show v = decVal L by rw [hv, hkn, List.take_length])
        rw [← hv] at HA
        have hvk : v < 10 ^ k := by have := decVal_lt L HD2.out k; rw [← hv] at this; exact this
        have hwl : wl v ≤ 400 := by have := digs_length_le WB2 (Nat.lt_of_lt_of_le hvk (Nat.pow_le_pow_left (show 10 ≤ WB by decide) k)); show (digs WB v).length ≤ _; omega
        rw [← hv]
        clear hv HD hvk hkn hkl
        have hm := fun W (h : Shows .u32 W A (digs WB v)) => made_any (negS l) A (digs WB v) (wl v) W h (dig_digs' WB2 _) (Nat.le_refl _) (by show wl v ≤ _; exact Nat.le_trans hwl (by decide)) (by rw [val_digs' WB2]; omega)
        rw [val_digs' WB2] at hm
        have HM := Lib.hid (show ∀ W, Shows .u32 W A (digs WB v) → Calls Tryz.prog 82 #[.bool (negS l), .slice A (wl v) (wl v)] W _ from hm)
        clear hm
        go_wp2_with fail
        refine (HM.out wr HA.out).mono ?_
        rintro e w2 ⟨A2, c2, rfl, hs2, q1, q2, hf2, hb2⟩
        have HFr := Lib.hid (show ∀ a, A2 = some a → a.block ≠ w.heap.size from fun a ha => by
          have h1 := hf2 a ha
          have h2 := (HB0.out.own _ (List.mem_cons_self ..)).2.1
          have h3 := HB.out.size
          simp only at h2
          omega)
        clear hf2
        have HZ := Lib.hid (show candP l = zOf (negS l) v by unfold candP; rw [HLE.out, HV.out])
        have hB2 := Lib.hid (HB.out.trans (hb2.mono HB.out.size))
        obtain ⟨z, hz⟩ : ∃ z, z = candP l := ⟨_, rfl⟩
        have hzs : (negS l && decide (v ≠ 0)) = decide (z < 0) ∧ v = z.natAbs := by
          rw [hz, HZ.out]; unfold zOf
          cases negS l
          · simp
          · by_cases h0 : v = 0
            · simp [h0]
            · simp [h0]; omega
        obtain ⟨hz1, rfl⟩ := hzs
        rw [hz1]
        have hAI : AI w2 (decide (z < 0)) A2 (wl z.natAbs) c2 z := AI.of_post hs2 q1 q2
        have HAI := Lib.hid hAI
        have HS2 := Lib.hid hs2
        have QQ := Lib.hid (And.intro q1 q2)
        clear q1 q2
        have HZc := Lib.hid hz
        clear hb2 hs2 hAI hz1 hz
        go_upto_region 13 with fail
        obtain ⟨W3, hW3⟩ : ∃ W3 : World, W3 = w2.alloc (.cells #[.bool (decide (z < 0)), .slice A2 (wl z.natAbs) c2] 55) := ⟨_, rfl⟩
        rw [← hW3]
        have hBx2 := HB0.out.keep hB2.out
        have HB3 := Lib.hid (show Bx w [(w2.heap.size, #[.bool (decide (z < 0)), .slice A2 (wl z.natAbs) c2]), (w.heap.size, #[.bool false, .slice none 0 0])] W3 from hW3 ▸ hBx2.new _ _)
        have hb3 : Below w2.heap.size w2 W3 := hW3 ▸ (Below.refl _ _).alloc (Nat.le_refl _) _
        have HS3 := Lib.hid (HS2.out.below hb3)
        have HT3 := Lib.hid (HT.out.on HB3.out.below)
        have HF := Lib.hid (Format_any _ _ _ _ z W3 (HAI.out.keep hb3) (by omega) (fun w' h => HT3.out w' (h.mono HB3.out.below.size)))
        have hne : w.heap.size ≠ w2.heap.size := by have := (hBx2.own _ (List.mem_cons_self ..)).2.1; simp at this; omega
        clear hBx2 hb3 hW3 HB0 hB2 HB HAI HS2
        obtain ⟨c0, c1⟩ := HB3.out.two (List.mem_cons_self ..)
        generalize w2.heap.size = G at *
        by_cases hi : Lib.itoa z = l
        · have HX := Lib.hid (show prsE l = 0 ∧ prsV l = z by unfold prsE prsV; rw [if_neg HN4.out, if_neg HN4.out, ← HZc.out, if_pos hi, if_pos hi]; exact ⟨rfl, rfl⟩)
          have hbe : (Lib.itoa z == l) = true := by simpa using hi
          clear hi
          go_wp2_with fail
          refine HF.out.mono ?_
          rintro e w4 ⟨rfl, hb4⟩
          have HB4 := Lib.hid (HB3.out.keep hb4)
          have HS4 := Lib.hid (HS3.out.below hb4)
          clear c0 c1 hb4 HF HB3 HS3 HT3
          obtain ⟨c0, c1⟩ := HB4.out.two (List.mem_cons_self ..)
          obtain ⟨k0, k1⟩ := HB4.out.two (List.mem_cons_of_mem _ (List.mem_cons_self ..))
          have f0 := (HB4.out.own _ (List.mem_cons_of_mem _ (List.mem_cons_self ..))).2.2.2 0; have f1 := (HB4.out.own _ (List.mem_cons_of_mem _ (List.mem_cons_self ..))).2.2.2 1
          go_wp2_with fail
          have hcs := (HB4.out.own _ (List.mem_cons_of_mem _ (List.mem_cons_self ..))).2.put2 (.bool (decide (z < 0))) (.slice A2 (wl z.natAbs) c2)
          obtain ⟨q0, q1⟩ := hcs.two
          refine bodyPost_ret (v := .tuple #[.agg #[.bool (decide (z < 0)), .slice A2 (wl z.natAbs) c2], .int .i64 0]) (by simp [results, Tryz.results25, go_sem, q0, q1]) rfl ?_
          rw [HX.out.1, HX.out.2]
          exact ⟨A2, c2, rfl, shows_only HS4.out (Only.put2 ..) HFr.out, QQ.out.1, QQ.out.2, (Only.put2 ..).below HB4.out.below (Nat.le_refl _)⟩
        · have HX := Lib.hid (show prsE l = 7 ∧ prsV l = 0 by unfold prsE prsV; rw [if_neg HN4.out, if_neg HN4.out, ← HZc.out, if_neg hi, if_neg hi]; exact ⟨rfl, rfl⟩)
          have hbe : (Lib.itoa z == l) = false := by simpa using hi
          clear hi
          go_wp2_with fail
          refine HF.out.mono ?_
          rintro e w4 ⟨rfl, hb4⟩
          have HB4 := Lib.hid (HB3.out.keep hb4)
          have HS4 := Lib.hid (HS3.out.below hb4)
          clear c0 c1 hb4 HF HB3 HS3 HT3
          obtain ⟨c0, c1⟩ := HB4.out.two (List.mem_cons_self ..)
          obtain ⟨k0, k1⟩ := HB4.out.two (List.mem_cons_of_mem _ (List.mem_cons_self ..))
          have f0 := (HB4.out.own _ (List.mem_cons_of_mem _ (List.mem_cons_self ..))).2.2.2 0; have f1 := (HB4.out.own _ (List.mem_cons_of_mem _ (List.mem_cons_self ..))).2.2.2 1
          go_wp2_with fail
          have hcs := (HB4.out.own _ (List.mem_cons_of_mem _ (List.mem_cons_self ..))).2.put2 (.bool false) (.slice none 0 0)
          obtain ⟨q0, q1⟩ := hcs.two
          refine bodyPost_ret (v := .tuple #[.agg #[.bool false, .slice none 0 0], .int .i64 7]) (by simp [results, Tryz.results25, go_sem, q0, q1]) rfl ?_
          rw [HX.out.1, HX.out.2]
          exact PrsPost.zero rfl ((Only.put2 ..).below HB4.out.below (Nat.le_refl _))
end Go.Proofs.YtfjmhfmhijhpkaaGreatDoor
namespace Go.Proofs.YtfjmhfmhijhpkaaGreatDoor
open Go.RowKit FF

/-- a slice that shows a number to the reference's base -/
def HW (n : Nat) : Value → World → Prop := fun v W => ∃ A c, v = .slice A (hl n) c ∧ Shows .i64 W A (digs HB n) ∧ hl n ≤ c ∧ c ≤ maxLen
theorem Keeps.hw (n : Nat) : Keeps (HW n) := fun _ _ _ ⟨A, c, h1, h2, h3⟩ hb => ⟨A, c, h1, h2.below hb, h3⟩
def OneW (x : Nat) : Value → World → Prop := fun v W => ∃ A, v = .slice A 1 1 ∧ Shows .i64 W A [x]
theorem Keeps.oneW (x : Nat) : Keeps (OneW x) := fun _ _ _ ⟨A, h1, h2⟩ hb => ⟨A, h1, h2.below hb⟩
theorem lit_word (x : Nat) (W : World) : OneW x (.slice (some ⟨W.heap.size, 0, none⟩) 1 1) (W.alloc (.cells #[.int .i64 x] 3)) := ⟨_, rfl, shows_one W x⟩
theorem half_word {n : Nat} {w w' : World} {e : Ending} (h : HalfPost w n e w') : PostW (HW n) w e w' := by
  obtain ⟨A, c, rfl, h1, h2, h3, -, h5⟩ := h
  exact ⟨_, rfl, ⟨A, c, rfl, h1, h2, h3⟩, h5⟩
theorem d_times {v cc : Nat} {A : Option Addr} {z : Value} {W0 : World} (hA : Shows .i64 W0 A (digs HB v)) (hz : OneW 10 z W0) (hv : hl v ≤ 1000) (W : World) (hW : W0 = W) : Calls Tryz.prog 84 #[.slice A (hl v) cc, z] W (PostW (HW (v * 10)) W) := by
  subst hW
  obtain ⟨A', rfl, hA'⟩ := hz
  have h := rTimes_any A A' (digs HB v) [10] cc 1 W0 hA hA' (dig_digs' HB2 _) (fun y hy => by rw [List.mem_singleton.1 hy]; decide) (by show hl v ≤ _; omega) (by simp)
  rw [val_digs' HB2, show val HB [10] = 10 from rfl] at h
  exact h.mono fun e w' h => half_word h
theorem d_trim {d : Nat} {z : Value} {W : World} (hd : d < 10) (hz : OneW d z W) : Calls Tryz.prog 85 #[z] W (PostW (HW d) W) := by
  obtain ⟨A', rfl, hA'⟩ := hz
  have h := rTrim_any A' [d] 1 W hA' (fun y hy => by rw [List.mem_singleton.1 hy]; show _ < 65536; omega) (by simp) (by unfold maxLen; omega) (by simp)
  rw [show val HB [d] = d by simp [val]] at h
  exact h.mono fun e w' h => half_word h
theorem d_plus {m n : Nat} {x y : Value} {W : World} (hx : HW m x W) (hy : HW n y W) (hm : hl m ≤ 10000) (hn : hl n ≤ 10000) : Calls Tryz.prog 83 #[x, y] W (PostW (HW (m + n)) W) := by
  obtain ⟨A, c, rfl, hA, -⟩ := hx
  obtain ⟨A', c', rfl, hA', -⟩ := hy
  have h := rPlus_any A A' (digs HB m) (digs HB n) c c' W hA hA' (dig_digs' HB2 _) (dig_digs' HB2 _) (by show hl m ≤ _; omega) (by show hl n ≤ _; omega)
  rw [val_digs' HB2, val_digs' HB2] at h
  exact h.mono fun e w' h => half_word h
theorem w_i64 {n : Nat} (h2 : n ≤ 57) : IntKind.i64.wrap ((n - 48 : Nat) : Int) = ((n - 48 : Nat) : Int) := by rw [IntKind.wrap_i64]; omega
/-- what the reference has read of a part of the text -/
def rvT (t : List UInt8) : Nat := decVal (digFl (cutS t))
theorem rv_first (c : UInt8) (h : c = 45) : rvT [c] = 0 ∧ negS [c] = true := by subst h; decide
theorem rv_step {t : List UInt8} {c : UInt8} (h : ¬ (t = [] ∧ c = 45)) : negS (t ++ [c]) = negS t ∧ rvT (t ++ [c]) = if isDig c = true then 10 * rvT t + (c.toNat - 48) else rvT t := by
  cases t with
  | nil =>
    have hc : c ≠ 45 := fun e => h ⟨rfl, e⟩
    refine ⟨by simp [negS, hc], ?_⟩
    unfold rvT digFl
    by_cases hd : isDig c = true
    · simp [cutS, hc, hd, decVal]
    · simp [cutS, hc, hd, decVal]
  | cons x r =>
    refine ⟨by simp [negS], ?_⟩
    have e : cutS (x :: r ++ [c]) = cutS (x :: r) ++ [c] := by
      simp only [List.cons_append, cutS]
      split <;> simp
    unfold rvT digFl
    rw [e, List.filter_append]
    by_cases hd : isDig c = true
    · simp [hd, decVal_snoc]
    · simp [hd]
theorem rv_lt (l : List UInt8) : ∀ k, rvT (l.take k) < 10 ^ k := by
  intro k
  induction k with
  | zero => simp [rvT, cutS, digFl, decVal]
  | succ k ih =>
    rw [Nat.pow_succ]
    cases hk : l[k]? with
    | none =>
      rw [List.take_of_length_le (by have := List.getElem?_eq_none_iff.1 hk; omega)]
      rw [List.take_of_length_le (by have := List.getElem?_eq_none_iff.1 hk; omega)] at ih
      omega
    | some c =>
      rw [List.take_add_one, hk]
      show rvT (l.take k ++ [c]) < _
      by_cases hf : l.take k = [] ∧ c = 45
      · rw [hf.1, List.nil_append, (rv_first c hf.2).1]; omega
      · rw [(rv_step hf).2]
        split
        · rename_i hd
          unfold isDig at hd
          simp at hd
          omega
        · omega
/-- what holds at the head of the reference's loop -/
def RprRel (l : List UInt8) (W0 : World) (B0 : Nat) (s6 s4 s5 : Value) (wr : World) : Prop :=
  ∃ k : Nat, s6 = .int .i64 k ∧ k ≤ l.length ∧ HW (rvT (l.take k)) s4 wr ∧ s5 = .bool (negS (l.take k)) ∧ Below B0 W0 wr

set_option maxRecDepth 100000 in
set_option maxHeartbeats 4000000 in
theorem rParse_any (l : List UInt8) (w : World) (hl' : l.length ≤ 500) :
    Calls Tryz.prog 26 #[.string ⟨l.toArray⟩] w (PrsPost w (prsV l) (prsE l)) := by
  have HL := Lib.hid hl'
  clear hl'
  go_enter Tryz.func26, Tryz.ntmps26
  go_upto_region 1 with fail
  obtain ⟨W0, hW0⟩ : ∃ W0 : World, W0 = w.alloc (.cells #[.bool false, .slice none 0 0] 55) := ⟨_, rfl⟩
  rw [← hW0]
  have HB0 := Lib.hid (show Bx w [(w.heap.size, #[.bool false, .slice none 0 0])] W0 by rw [hW0]; simpa using ((Bx.nil (Below.refl w.heap.size w)).new #[.bool false, .slice none 0 0] 55))
  clear hW0
  by_cases h4 : 400 < l.length
  · have d1 : decide ((400 : Int) < (l.length : Int)) = true := decide_eq_true (by omega)
    have d2 : (400 : Int) < (l.length : Int) := by omega
    have HE := Lib.hid (show prsE l = 8 ∧ prsV l = 0 by unfold prsE prsV; rw [if_pos h4, if_pos h4]; exact ⟨rfl, rfl⟩)
    obtain ⟨c0, c1⟩ := HB0.out.two (List.mem_cons_self ..)
    have f0 := (HB0.out.own _ (List.mem_cons_self ..)).2.2.2 0; have f1 := (HB0.out.own _ (List.mem_cons_self ..)).2.2.2 1
    go_wp2_with fail
    have hcs := (HB0.out.own _ (List.mem_cons_self ..)).2.put2 (.bool false) (.slice none 0 0)
    obtain ⟨q0, q1⟩ := hcs.two
    refine bodyPost_ret (v := .tuple #[.agg #[.bool false, .slice none 0 0], .int .i64 8]) (by simp [results, Tryz.results26, go_sem, q0, q1]) rfl ?_
    rw [HE.out.1, HE.out.2]
    exact PrsPost.zero rfl ((Only.put2 ..).below HB0.out.below (Nat.le_refl _))
  · have d1 : ¬ (400 : Int) < (l.length : Int) := by omega
    have HN4 := Lib.hid h4
    clear h4
    go_wp2_with fail
    go_loopw [6, 4, 5] (fun s6 s4 s5 wr => RprRel l W0 W0.heap.size s6 s4 s5 wr) (fun s6 _ _ _ => l.length - (intOf s6).toNat)
    case atStart => exact ⟨0, rfl, Nat.zero_le _, ⟨none, 0, rfl, fun h => absurd h (by simp [rvT, cutS, digFl, decVal, digs_zero]), Nat.zero_le _, by unfold maxLen; omega⟩, rfl, Below.refl _ _⟩
    case round =>
      obtain ⟨k, rfl, hk, ⟨A, cc, rfl, hA, hcc⟩, rfl, hB⟩ := hrel
      have HA := Lib.hid hA; have HBw := Lib.hid hB; have HCC := Lib.hid hcc
      clear hA hB hcc
      by_cases hkl : k < l.length
      · obtain ⟨c, hc⟩ : ∃ c, l[k]? = some c := ⟨_, List.getElem?_eq_getElem hkl⟩
        have hgk : (⟨l.toArray⟩ : ByteArray)[k]'(by show k < l.toArray.size; simpa using hkl) = c := by
          rw [List.getElem?_eq_getElem hkl] at hc
          injection hc
        have htk : l.take (k + 1) = l.take k ++ [c] := by rw [List.take_add_one, hc]; rfl
        have hcl := c.toNat_lt
        obtain ⟨v, hv⟩ : ∃ v, v = rvT (l.take k) := ⟨_, rfl⟩
        obtain ⟨ng, hng⟩ : ∃ ng, ng = negS (l.take k) := ⟨_, rfl⟩
        have hvk : v < 10 ^ k := by rw [hv]; exact rv_lt l k
        rw [← hv] at HA
        rw [← hv] at HCC
        rw [← hv, ← hng]
        by_cases hf : k = 0 ∧ c = 45
        · have HN1 := Lib.hid (show negS (l.take (k + 1)) = true ∧ rvT (l.take (k + 1)) = v by
            rw [htk, hv, hf.1, List.take_zero, List.nil_append]
            exact ⟨(rv_first c hf.2).2, (rv_first c hf.2).1⟩)
          obtain ⟨rfl, hc45⟩ := hf
          have d2 : (c.toNat : Int) = 45 := by rw [hc45]; rfl
          clear hc hv hng hvk htk
          go_wp2_with fail
          exact ⟨⟨1, rfl, hkl, by rw [HN1.out.2]; exact ⟨A, cc, rfl, HA.out, HCC.out⟩, by rw [HN1.out.1], HBw.out⟩, by simp [intOf]; omega⟩
        have hst := rv_step (t := l.take k) (c := c) (fun e => hf ⟨by
          rcases Nat.eq_zero_or_pos k with h0 | h0
          · exact h0
          · exfalso
            have := congrArg List.length e.1
            rw [List.length_take, List.length_nil] at this
            omega, e.2⟩)
        rw [← htk, ← hv, ← hng] at hst
        have hkl4 : k < 400 := by omega
        have HVl := Lib.hid (show hl v ≤ 1000 by have := digs_length_le HB2 (Nat.lt_of_lt_of_le hvk (Nat.pow_le_pow_left (show 10 ≤ HB by decide) k)); show (digs HB v).length ≤ _; omega)
        have HVm := Lib.hid (show hl (v * 10) ≤ 10000 by have := digs_length_le HB2 (Nat.lt_of_lt_of_le (show v * 10 < 10 ^ (k + 1) by rw [Nat.pow_succ]; omega) (Nat.pow_le_pow_left (show 10 ≤ HB by decide) (k + 1))); show (digs HB (v * 10)).length ≤ _; omega)
        have hv0 : (if isDig c = true then v * 10 + (c.toNat - 48) else v) = (if isDig c = true then 10 * v + (c.toNat - 48) else v) := by rw [Nat.mul_comm]
        rw [← hv0] at hst
        clear hv0 hc hv hng hvk htk
        have HST := Lib.hid hst
        clear hst
        by_cases hk0 : k = 0
        · have d7 : ((k : Int) == 0) = true := by simpa using hk0
          have d6 : ((c.toNat : Int) == 45) = false := by
            have : c ≠ 45 := fun e => hf ⟨hk0, e⟩
            have : c.toNat ≠ 45 := fun e => this (UInt8.toNat_inj.1 e)
            simp; omega
          clear hk0 hf
          by_cases h1 : c.toNat < 48
          · have hnd : isDig c = false := by unfold isDig; simp; omega
            have HN1 := Lib.hid (show negS (l.take (k + 1)) = ng ∧ rvT (l.take (k + 1)) = v by rw [HST.out.1, HST.out.2, hnd]; exact ⟨rfl, rfl⟩)
            clear hnd
            have d4 : ¬ (48 : Int) ≤ (c.toNat : Int) := by omega
            go_wp2_with fail
            exact ⟨⟨k + 1, rfl, hkl, by rw [HN1.out.2]; exact ⟨A, cc, rfl, HA.out, HCC.out⟩, by rw [HN1.out.1], HBw.out⟩, by simp [intOf]; omega⟩
          have d4 : (48 : Int) ≤ (c.toNat : Int) := by omega
          by_cases h2 : 57 < c.toNat
          · have hnd : isDig c = false := by unfold isDig; simp; omega
            have HN1 := Lib.hid (show negS (l.take (k + 1)) = ng ∧ rvT (l.take (k + 1)) = v by rw [HST.out.1, HST.out.2, hnd]; exact ⟨rfl, rfl⟩)
            clear hnd
            have d5 : ¬ (c.toNat : Int) ≤ 57 := by omega
            go_wp2_with fail
            exact ⟨⟨k + 1, rfl, hkl, by rw [HN1.out.2]; exact ⟨A, cc, rfl, HA.out, HCC.out⟩, by rw [HN1.out.1], HBw.out⟩, by simp [intOf]; omega⟩
          have d5 : (c.toNat : Int) ≤ 57 := by omega
          have hnd : isDig c = true := by unfold isDig; simp; omega
          have HN1 := Lib.hid (show negS (l.take (k + 1)) = ng ∧ rvT (l.take (k + 1)) = v * 10 + (c.toNat - 48) by rw [HST.out.1, HST.out.2, if_pos hnd]; exact ⟨rfl, rfl⟩)
          have HVd := Lib.hid (show hl (c.toNat - 48) ≤ 10000 by have := digs_length_le (k := 1) HB2 (show c.toNat - 48 < HB ^ 1 by rw [Nat.pow_one]; show _ < 65536; omega); show (digs HB (c.toNat - 48)).length ≤ _; omega)
          have hd48 : 48 ≤ c.toNat := by omega
          have hd57 : c.toNat ≤ 57 := by omega
          clear hnd h1 h2
          go_upto_region 11 with fail
          refine wp_region_val [(0, 36, VC (.slice A (hl v) cc)), (1, 37, OneW 10), (2, 38, HW (v * 10)), (3, 39, VC (.string ⟨l.toArray⟩)), (4, 40, VC (.int .i64 k)), (5, 41, VC (.int .u8 c.toNat)), (6, 42, VC (.int .u8 (c.toNat - 48 : Nat))), (7, 43, VC (.int .i64 (c.toNat - 48 : Nat))), (8, 44, OneW (c.toNat - 48)), (9, 45, HW (c.toNat - 48)), (10, 46, HW (v * 10 + (c.toNat - 48))), (11, 4, HW (v * 10 + (c.toNat - 48)))] (fun _ => True) [36, 37, 38, 39, 40, 41, 42, 43, 44, 45, 46, 4] (by kernel_rfl) (by kernel_rfl) (by kernel_rfl) ⟨Keeps.vc _, Keeps.oneW _, Keeps.hw _, Keeps.vc _, Keeps.vc _, Keeps.vc _, Keeps.vc _, Keeps.vc _, Keeps.oneW _, Keeps.hw _, Keeps.hw _, Keeps.hw _, trivial⟩ (fun _ _ _ _ _ => trivial) trivial (forall_ops ⟨?_, ?_, ?_, ?_, ?_, ?_, ?_, ?_, ?_, ?_, ?_, ?_, trivial⟩) ?_
          · exact .of rfl rfl fun _ _ _ _ _ hU => .move rfl (fr_old (by kernel_rfl) (hU 4 (by kernel_rfl)) (by kernel_rfl)) rfl
          · exact .of rfl rfl fun _ W _ _ _ _ => .lit rfl rfl (fun W => (by kernel_rfl)) (lit_word 10 W)
          · exact .of rfl rfl fun _ W hB _ hV _ => .call Tryz.func84 (by kernel_rfl) rfl rfl rfl (map_two ((fr_in (by kernel_rfl)).trans (hget hV 0 rfl (by kernel_rfl))) (fr_in (by kernel_rfl))) (d_times (HA.out.below hB) (hget hV 1 rfl (by kernel_rfl)) HVl.out W rfl)
          · exact .of rfl rfl fun _ _ _ _ _ _ => .move rfl (fr_out (v := .string ⟨l.toArray⟩) (by kernel_rfl) (by kernel_rfl)) rfl
          · exact .of rfl rfl fun _ _ _ _ _ _ => .move rfl (fr_out (v := .int .i64 k) (by kernel_rfl) (by kernel_rfl)) rfl
          · exact .of rfl rfl fun _ _ _ _ hV _ => .index (p := .string ⟨l.toArray⟩) (k := .int .i64 k) rfl ((fr_in (by kernel_rfl)).trans (hget hV 3 rfl (by kernel_rfl))) ((fr_in (by kernel_rfl)).trans (hget hV 4 rfl (by kernel_rfl))) (by simp [go_sem, hgk, hkl]) rfl
          · exact .of rfl rfl fun _ _ _ _ hV _ => .binOp (p := .int .u8 c.toNat) (r := .int .u8 48) rfl ((fr_in (by kernel_rfl)).trans (hget hV 5 rfl (by kernel_rfl))) rfl (by simp [go_sem, eqGuard]; exact (w_dig hd48 hd57).1) rfl
          · exact .of rfl rfl fun _ _ _ _ hV _ => .convert (p := .int .u8 (c.toNat - 48 : Nat)) rfl ((fr_in (by kernel_rfl)).trans (hget hV 6 rfl (by kernel_rfl))) (by simp [go_sem]; exact w_i64 hd57) rfl
          · exact .of rfl rfl fun _ W _ _ hV _ => .lit rfl ((fr_in (by kernel_rfl)).trans (hget hV 7 rfl (by kernel_rfl))) (fun W => by simp [go_sem]) (lit_word (c.toNat - 48) W)
          · exact .of rfl rfl fun _ _ _ _ hV _ => .call Tryz.func85 (by kernel_rfl) rfl rfl rfl (map_one (fr_in (by kernel_rfl))) (d_trim (by omega) (hget hV 8 rfl (by kernel_rfl)))
          · exact .of rfl rfl fun _ _ _ _ hV _ => .call Tryz.func83 (by kernel_rfl) rfl rfl rfl (map_two (fr_in (by kernel_rfl)) (fr_in (by kernel_rfl))) (d_plus (hget hV 2 rfl (by kernel_rfl)) (hget hV 9 rfl (by kernel_rfl)) HVm.out HVd.out)
          · exact .of rfl rfl fun _ _ _ _ hV _ => .assign rfl (fr_in (by kernel_rfl)) (hget hV 10 rfl (by kernel_rfl))
          intro y W hB hE hV
          obtain ⟨A6, c6, e6, h6, h7⟩ := hend hV 11 rfl
          simp only [fr, putAll, List.foldl_cons, List.foldl_nil, List.setIfInBounds_toArray, List.set_cons_zero, List.set_cons_succ]
          simp only [e6]
          have H6 := Lib.hid (And.intro h6 h7); have HBW := Lib.hid hB
          clear hB hE hV h6 h7 e6
          go_wp2_with fail
          exact ⟨⟨k + 1, rfl, hkl, by rw [HN1.out.2]; exact ⟨A6, c6, rfl, H6.out⟩, by rw [HN1.out.1], HBw.out.trans (HBW.out.mono HBw.out.size)⟩, by simp [intOf]; omega⟩
        · have d7 : ((k : Int) == 0) = false := by simpa using hk0
          clear hk0 hf
          by_cases h1 : c.toNat < 48
          · have hnd : isDig c = false := by unfold isDig; simp; omega
            have HN1 := Lib.hid (show negS (l.take (k + 1)) = ng ∧ rvT (l.take (k + 1)) = v by rw [HST.out.1, HST.out.2, hnd]; exact ⟨rfl, rfl⟩)
            clear hnd
            have d4 : ¬ (48 : Int) ≤ (c.toNat : Int) := by omega
            go_wp2_with fail
            exact ⟨⟨k + 1, rfl, hkl, by rw [HN1.out.2]; exact ⟨A, cc, rfl, HA.out, HCC.out⟩, by rw [HN1.out.1], HBw.out⟩, by simp [intOf]; omega⟩
          have d4 : (48 : Int) ≤ (c.toNat : Int) := by omega
          by_cases h2 : 57 < c.toNat
          · have hnd : isDig c = false := by unfold isDig; simp; omega
            have HN1 := Lib.hid (show negS (l.take (k + 1)) = ng ∧ rvT (l.take (k + 1)) = v by rw [HST.out.1, HST.out.2, hnd]; exact ⟨rfl, rfl⟩)
            clear hnd
            have d5 : ¬ (c.toNat : Int) ≤ 57 := by omega
            go_wp2_with fail
            exact ⟨⟨k + 1, rfl, hkl, by rw [HN1.out.2]; exact ⟨A, cc, rfl, HA.out, HCC.out⟩, by rw [HN1.out.1], HBw.out⟩, by simp [intOf]; omega⟩
          have d5 : (c.toNat : Int) ≤ 57 := by omega
          have hnd : isDig c = true := by unfold isDig; simp; omega
          have HN1 := Lib.hid (show negS (l.take (k + 1)) = ng ∧ rvT (l.take (k + 1)) = v * 10 + (c.toNat - 48) by rw [HST.out.1, HST.out.2, if_pos hnd]; exact ⟨rfl, rfl⟩)
          have HVd := Lib.hid (show hl (c.toNat - 48) ≤ 10000 by have := digs_length_le (k := 1) HB2 (show c.toNat - 48 < HB ^ 1 by rw [Nat.pow_one]; show _ < 65536; omega); show (digs HB (c.toNat - 48)).length ≤ _; omega)
          have hd48 : 48 ≤ c.toNat := by omega
          have hd57 : c.toNat ≤ 57 := by omega
          clear hnd h1 h2
          go_upto_region 11 with fail
          refine wp_region_val [(0, 36, VC (.slice A (hl v) cc)), (1, 37, OneW 10), (2, 38, HW (v * 10)), (3, 39, VC (.string ⟨l.toArray⟩)), (4, 40, VC (.int .i64 k)), (5, 41, VC (.int .u8 c.toNat)), (6, 42, VC (.int .u8 (c.toNat - 48 : Nat))), (7, 43, VC (.int .i64 (c.toNat - 48 : Nat))), (8, 44, OneW (c.toNat - 48)), (9, 45, HW (c.toNat - 48)), (10, 46, HW (v * 10 + (c.toNat - 48))), (11, 4, HW (v * 10 + (c.toNat - 48)))] (fun _ => True) [36, 37, 38, 39, 40, 41, 42, 43, 44, 45, 46, 4] (by kernel_rfl) (by kernel_rfl) (by kernel_rfl) ⟨Keeps.vc _, Keeps.oneW _, Keeps.hw _, Keeps.vc _, Keeps.vc _, Keeps.vc _, Keeps.vc _, Keeps.vc _, Keeps.oneW _, Keeps.hw _, Keeps.hw _, Keeps.hw _, trivial⟩ (fun _ _ _ _ _ => trivial) trivial (forall_ops ⟨?_, ?_, ?_, ?_, ?_, ?_, ?_, ?_, ?_, ?_, ?_, ?_, trivial⟩) ?_
          · exact .of rfl rfl fun _ _ _ _ _ hU => .move rfl (fr_old (by kernel_rfl) (hU 4 (by kernel_rfl)) (by kernel_rfl)) rfl
          · exact .of rfl rfl fun _ W _ _ _ _ => .lit rfl rfl (fun W => (by kernel_rfl)) (lit_word 10 W)
          · exact .of rfl rfl fun _ W hB _ hV _ => .call Tryz.func84 (by kernel_rfl) rfl rfl rfl (map_two ((fr_in (by kernel_rfl)).trans (hget hV 0 rfl (by kernel_rfl))) (fr_in (by kernel_rfl))) (d_times (HA.out.below hB) (hget hV 1 rfl (by kernel_rfl)) HVl.out W rfl)
          · exact .of rfl rfl fun _ _ _ _ _ _ => .move rfl (fr_out (v := .string ⟨l.toArray⟩) (by kernel_rfl) (by kernel_rfl)) rfl
          · exact .of rfl rfl fun _ _ _ _ _ _ => .move rfl (fr_out (v := .int .i64 k) (by kernel_rfl) (by kernel_rfl)) rfl
          · exact .of rfl rfl fun _ _ _ _ hV _ => .index (p := .string ⟨l.toArray⟩) (k := .int .i64 k) rfl ((fr_in (by kernel_rfl)).trans (hget hV 3 rfl (by kernel_rfl))) ((fr_in (by kernel_rfl)).trans (hget hV 4 rfl (by kernel_rfl))) (by simp [go_sem, hgk, hkl]) rfl
          · exact .of rfl rfl fun _ _ _ _ hV _ => .binOp (p := .int .u8 c.toNat) (r := .int .u8 48) rfl ((fr_in (by kernel_rfl)).trans (hget hV 5 rfl (by kernel_rfl))) rfl (by simp [go_sem, eqGuard]; exact (w_dig hd48 hd57).1) rfl
          · exact .of rfl rfl fun _ _ _ _ hV _ => .convert (p := .int .u8 (c.toNat - 48 : Nat)) rfl ((fr_in (by kernel_rfl)).trans (hget hV 6 rfl (by kernel_rfl))) (by simp [go_sem]; exact w_i64 hd57) rfl
          · exact .of rfl rfl fun _ W _ _ hV _ => .lit rfl ((fr_in (by kernel_rfl)).trans (hget hV 7 rfl (by kernel_rfl))) (fun W => by simp [go_sem]) (lit_word (c.toNat - 48) W)
          · exact .of rfl rfl fun _ _ _ _ hV _ => .call Tryz.func85 (by kernel_rfl) rfl rfl rfl (map_one (fr_in (by kernel_rfl))) (d_trim (by omega) (hget hV 8 rfl (by kernel_rfl)))
          · exact .of rfl rfl fun _ _ _ _ hV _ => .call Tryz.func83 (by kernel_rfl) rfl rfl rfl (map_two (fr_in (by kernel_rfl)) (fr_in (by kernel_rfl))) (d_plus (hget hV 2 rfl (by kernel_rfl)) (hget hV 9 rfl (by kernel_rfl)) HVm.out HVd.out)
          · exact .of rfl rfl fun _ _ _ _ hV _ => .assign rfl (fr_in (by kernel_rfl)) (hget hV 10 rfl (by kernel_rfl))
          intro y W hB hE hV
          obtain ⟨A6, c6, e6, h6, h7⟩ := hend hV 11 rfl
          simp only [fr, putAll, List.foldl_cons, List.foldl_nil, List.setIfInBounds_toArray, List.set_cons_zero, List.set_cons_succ]
          simp only [e6]
          have H6 := Lib.hid (And.intro h6 h7); have HBW := Lib.hid hB
          clear hB hE hV h6 h7 e6
          go_wp2_with fail
          exact ⟨⟨k + 1, rfl, hkl, by rw [HN1.out.2]; exact ⟨A6, c6, rfl, H6.out⟩, by rw [HN1.out.1], HBw.out.trans (HBW.out.mono HBw.out.size)⟩, by simp [intOf]; omega⟩
      · have hkn : k = l.length := by omega
        have hlt : ¬ (k : Int) < (l.length : Int) := by omega
        have hke : l.take k = l := by rw [hkn, List.take_length]
        rw [hke] at HA
        rw [hke] at HCC
        rw [hke]
        obtain ⟨v, hv⟩ : ∃ v, v = rvT l := ⟨_, rfl⟩
        have HV := Lib.hid hv
        rw [← hv] at HA
        rw [← hv] at HCC
        have hvk : v < 10 ^ k := by have := rv_lt l k; rw [hke, ← hv] at this; exact this
        have hwl : wl v ≤ 400 := by have := digs_length_le WB2 (Nat.lt_of_lt_of_le hvk (Nat.pow_le_pow_left (show 10 ≤ WB by decide) k)); show (digs WB v).length ≤ _; omega
        have hhl : hl v ≤ 400 := by have := digs_length_le HB2 (Nat.lt_of_lt_of_le hvk (Nat.pow_le_pow_left (show 10 ≤ HB by decide) k)); show (digs HB v).length ≤ _; omega
        rw [← hv]
        clear hv hvk hkn hkl hke
        have hm := fun W (h : Shows .i64 W A (digs HB v)) => rMade_any (negS l) A (digs HB v) cc W h (dig_digs' HB2 _) HCC.out.1 HCC.out.2 (by show hl v ≤ _; omega)
        rw [val_digs' HB2] at hm
        have HM := Lib.hid (show ∀ W, Shows .i64 W A (digs HB v) → Calls Tryz.prog 86 #[.bool (negS l), .slice A (hl v) cc] W _ from hm)
        clear hm
        go_wp2_with fail
        refine (HM.out wr HA.out).mono ?_
        rintro e w2 ⟨A2, c2, rfl, hs2, q1, q2, hf2, hb2⟩
        have HFr := Lib.hid (show ∀ a, A2 = some a → a.block ≠ w.heap.size from fun a ha => by
          have h1 := hf2 a ha
          have h2 := (HB0.out.own _ (List.mem_cons_self ..)).2.1
          have h3 := HBw.out.size
          simp only at h2
          omega)
        clear hf2
        have HZ := Lib.hid (show candR l = zOf (negS l) v by rw [HV.out]; rfl)
        have hB2 := Lib.hid (HBw.out.trans (hb2.mono HBw.out.size))
        obtain ⟨z, hz⟩ : ∃ z, z = candR l := ⟨_, rfl⟩
        have hzs : (negS l && decide (v ≠ 0)) = decide (z < 0) ∧ v = z.natAbs := by
          rw [hz, HZ.out]; unfold zOf
          cases negS l
          · simp
          · by_cases h0 : v = 0
            · simp [h0]
            · simp [h0]; omega
        obtain ⟨hz1, rfl⟩ := hzs
        rw [hz1]
        have hAI : AI w2 (decide (z < 0)) A2 (wl z.natAbs) c2 z := AI.of_post hs2 q1 q2
        have HAI := Lib.hid hAI
        have HS2 := Lib.hid hs2
        have QQ := Lib.hid (And.intro q1 q2)
        have HZc := Lib.hid hz
        clear q1 q2 hb2 hs2 hAI hz1 hz
        go_upto_region 13 with fail
        obtain ⟨W3, hW3⟩ : ∃ W3 : World, W3 = w2.alloc (.cells #[.bool (decide (z < 0)), .slice A2 (wl z.natAbs) c2] 55) := ⟨_, rfl⟩
        rw [← hW3]
        have hBx2 := HB0.out.keep hB2.out
        have HB3 := Lib.hid (show Bx w [(w2.heap.size, #[.bool (decide (z < 0)), .slice A2 (wl z.natAbs) c2]), (w.heap.size, #[.bool false, .slice none 0 0])] W3 from hW3 ▸ hBx2.new _ _)
        have hb3 : Below w2.heap.size w2 W3 := hW3 ▸ (Below.refl _ _).alloc (Nat.le_refl _) _
        have HS3 := Lib.hid (HS2.out.below hb3)
        have HF := Lib.hid (rFormat_any _ _ _ _ z W3 (HAI.out.keep hb3) (by omega))
        have hne : w.heap.size ≠ w2.heap.size := by have := (hBx2.own _ (List.mem_cons_self ..)).2.1; simp at this; omega
        clear hBx2 hb3 hW3 HB0 hB2 HBw HAI HS2
        obtain ⟨c0, c1⟩ := HB3.out.two (List.mem_cons_self ..)
        generalize w2.heap.size = G at *
        by_cases hi : Lib.itoa z = l
        · have HX := Lib.hid (show prsE l = 0 ∧ prsV l = z by have hc := (prs_ref l).1 (HZc.out ▸ hi); unfold prsE prsV; rw [if_neg HN4.out, if_neg HN4.out, if_pos hc, if_pos hc]; exact ⟨rfl, by rw [HZc.out, prs_eq hc]⟩)
          have hbe : (Lib.itoa z == l) = true := by simpa using hi
          clear hi
          go_wp2_with fail
          refine HF.out.mono ?_
          rintro e w4 ⟨rfl, hb4⟩
          have HB4 := Lib.hid (HB3.out.keep hb4)
          have HS4 := Lib.hid (HS3.out.below hb4)
          clear c0 c1 hb4 HF HB3 HS3
          obtain ⟨c0, c1⟩ := HB4.out.two (List.mem_cons_self ..)
          obtain ⟨k0, k1⟩ := HB4.out.two (List.mem_cons_of_mem _ (List.mem_cons_self ..))
          have f0 := (HB4.out.own _ (List.mem_cons_of_mem _ (List.mem_cons_self ..))).2.2.2 0; have f1 := (HB4.out.own _ (List.mem_cons_of_mem _ (List.mem_cons_self ..))).2.2.2 1
          go_wp2_with fail
          have hcs := (HB4.out.own _ (List.mem_cons_of_mem _ (List.mem_cons_self ..))).2.put2 (.bool (decide (z < 0))) (.slice A2 (wl z.natAbs) c2)
          obtain ⟨q0, q1⟩ := hcs.two
          refine bodyPost_ret (v := .tuple #[.agg #[.bool (decide (z < 0)), .slice A2 (wl z.natAbs) c2], .int .i64 0]) (by simp [results, Tryz.results26, go_sem, q0, q1]) rfl ?_
          rw [HX.out.1, HX.out.2]
          exact ⟨A2, c2, rfl, shows_only HS4.out (Only.put2 ..) HFr.out, QQ.out.1, QQ.out.2, (Only.put2 ..).below HB4.out.below (Nat.le_refl _)⟩
        · have HX := Lib.hid (show prsE l = 7 ∧ prsV l = 0 by have hc : Lib.itoa (candP l) ≠ l := (fun e => hi (by rw [HZc.out]; exact (prs_ref l).2 e)); unfold prsE prsV; rw [if_neg HN4.out, if_neg HN4.out, if_neg hc, if_neg hc]; exact ⟨rfl, rfl⟩)
          have hbe : (Lib.itoa z == l) = false := by simpa using hi
          clear hi
          go_wp2_with fail
          refine HF.out.mono ?_
          rintro e w4 ⟨rfl, hb4⟩
          have HB4 := Lib.hid (HB3.out.keep hb4)
          have HS4 := Lib.hid (HS3.out.below hb4)
          clear c0 c1 hb4 HF HB3 HS3
          obtain ⟨c0, c1⟩ := HB4.out.two (List.mem_cons_self ..)
          obtain ⟨k0, k1⟩ := HB4.out.two (List.mem_cons_of_mem _ (List.mem_cons_self ..))
          have f0 := (HB4.out.own _ (List.mem_cons_of_mem _ (List.mem_cons_self ..))).2.2.2 0; have f1 := (HB4.out.own _ (List.mem_cons_of_mem _ (List.mem_cons_self ..))).2.2.2 1
          go_wp2_with fail
          have hcs := (HB4.out.own _ (List.mem_cons_of_mem _ (List.mem_cons_self ..))).2.put2 (.bool false) (.slice none 0 0)
          obtain ⟨q0, q1⟩ := hcs.two
          refine bodyPost_ret (v := .tuple #[.agg #[.bool false, .slice none 0 0], .int .i64 7]) (by simp [results, Tryz.results26, go_sem, q0, q1]) rfl ?_
          rw [HX.out.1, HX.out.2]
          exact PrsPost.zero rfl ((Only.put2 ..).below HB4.out.below (Nat.le_refl _))
end Go.Proofs.YtfjmhfmhijhpkaaGreatDoor
namespace Go.Proofs.YtfjmhfmhijhpkaaGreatDoor
open Go.RowKit FF

theorem ai_lt {w : World} {s : Bool} {A : Option Addr} {n c : Nat} {z : Int} (h : AI w s A n c z) : z.natAbs < WB ^ n := by
  obtain ⟨xs, e1, -, dx, -, -, e2, -⟩ := h
  rw [← e2, sval_natAbs, ← e1]
  exact val_lt dx
theorem itoa_bound {z : Int} (h : z.natAbs < WB ^ 6) : (Lib.itoa z).length ≤ 100 := by
  have h1 : z.natAbs < 10 ^ 60 := by
    exact Nat.lt_of_lt_of_le h (by decide)
  have := itoa_len (by omega) h1
  omega
/-- an integer in normal form -/
def ZW (z : Int) : Value → World → Prop := fun v W => ∃ A c, v = .agg #[.bool (decide (z < 0)), .slice A (wl z.natAbs) c] ∧ Shows .u32 W A (digs WB z.natAbs)
theorem Keeps.zw (z : Int) : Keeps (ZW z) := fun _ _ _ ⟨A, c, h1, h2⟩ hb => ⟨A, c, h1, h2.below hb⟩
theorem zw_of {w w' : World} {z : Int} {e : Ending} (h : IntPost w z e w') : PostW (ZW z) w e w' := by
  obtain ⟨A, c, rfl, h1, -, -, -, h5⟩ := h
  exact ⟨_, rfl, ⟨A, c, rfl, h1⟩, h5⟩
theorem pw {P : Program} {f : FuncId} {args : Array Value} {w : World} {v : Value} (h : Calls P f args w fun e w' => e = .returned v ∧ Below w.heap.size w w') : Calls P f args w (PostW (VC v) w) :=
  h.mono fun _ _ h => ⟨_, h.1, rfl, h.2⟩
theorem same_zw {z : Int} {A : Option Addr} {c : Nat} {W : World} {v : Value} (hx : Shows .u32 W A (digs WB z.natAbs)) (h1 : wl z.natAbs ≤ c) (h2 : c ≤ maxLen) (hv : ZW z v W) :
    Calls Tryz.prog 29 #[.agg #[.bool (decide (z < 0)), .slice A (wl z.natAbs) c], v] W (PostW (VC (.bool true)) W) := by
  obtain ⟨A', c', rfl, h⟩ := hv
  exact pw (Same_int z A A' c c' W hx h h1 h2)
theorem map_none (ρ : Operand → Value) : (#[] : Array Operand).map ρ = #[] := by simp
def TabAt (P : Program) (w : World) : Prop := Lib.TabBelow P w.heap.size w "internal/strconv.uint64pow10" .u64 Lib.pow10Tab
theorem TabAt.at {P : Program} {w W : World} (h : TabAt P w) (hb : Below w.heap.size w W) : Lib.TabBelow P W.heap.size W "internal/strconv.uint64pow10" .u64 Lib.pow10Tab := fun w' h' => h.on hb w' (h'.mono hb.size)

set_option maxRecDepth 100000 in
set_option maxHeartbeats 8000000 in
theorem IntegerTexts_law (s : Bool) (A : Option Addr) (xs : List Nat) (c : Nat) (l : List UInt8) (w : World) (hx : Shows .u32 w A xs) (dx : Dig WB xs) (hcx : xs.length ≤ c) (hcx2 : c ≤ maxLen) (htab : TabAt Tryz.prog w) :
    Calls Tryz.prog 6 #[.agg #[.bool s, .slice A xs.length c], .string ⟨l.toArray⟩] w fun e w' => e = .returned (.bool true) ∧ Below w.heap.size w w' := by
  have HA := Lib.hid awake_any
  have HTb := Lib.hid htab
  have aX := AI.mk (s := s) hx dx hcx hcx2
  clear hx dx htab
  unfold maxLen at hcx2
  obtain ⟨z, hz⟩ : ∃ z, sval s (val WB xs) = z := ⟨_, rfl⟩
  rw [hz] at aX
  clear hz
  generalize xs.length = n at *
  have HS := Lib.hid (fun (w' : World) (g c : Nat) h => short_law g [n] c w' (by simp) h)
  change Hid (∀ (w' : World) (g c : Nat), _ → Calls _ _ #[.slice (some ⟨g, 0, none⟩) 1 c] w' _) at HS
  have hcells : ∀ (W : World) (v0 : Value) (T : TypeId), ∀ i, i < [n].length → ∃ A0 c0, (W.alloc (.cells #[v0, .slice A n c] T)).cell? ⟨W.heap.size, i * 2 + 1, none⟩ = some (.slice A0 ([n].getD i 0) c0) ∧ [n].getD i 0 ≤ 9223372036854775807 := by
    intro W v0 T i hi
    match i, hi with
    | 0, _ => exact ⟨A, c, by rw [World.cell?_alloc_at _ _ _ _ rfl]; rfl, by show n ≤ _; omega⟩
  have hsz := hcells (w.alloc (.cells #[.bool s, .slice A n c] 55)) (.bool s) 55
  rw [World.size_alloc] at hsz
  have HSh := Lib.hid (HS.out _ _ 1 hsz)
  clear hcells hsz HS
  have HX := Lib.hid aX
  clear hcx hcx2
  by_cases hsh : shortB [n] = true
  · have hn6 : n ≤ 6 := shortB_get hsh (i := 0) (by simp)
    rw [hsh] at HSh
    clear hsh
    go_enter Tryz.func6, Tryz.ntmps6
    go_wp2_with fail
    refine HSh.out.mono ?_
    rintro e w' ⟨rfl, rfl⟩
    by_cases h1 : 100 < l.length
    · have d1 : (100 : Int) < (l.length : Int) := by omega
      by_cases h2 : l.length ≤ 400
      · have d2 : (l.length : Int) ≤ 400 := by omega
        go_wp2_with fail
        refine (HA.out _).mono ?_
        rintro e w2 ⟨rfl, hb⟩
        have HBw := Lib.hid (show Below w.heap.size w w2 from ((((Below.refl _ _).alloc (Nat.le_refl _) _).alloc (by simp) _)).trans (hb.mono (by simp; omega)))
        clear hb
        go_wp2_with fail
        go_ret
        exact ⟨rfl, HBw.out⟩
      · have d2 : ¬ (l.length : Int) ≤ 400 := by omega
        by_cases h3 : 500 < l.length
        · have d3 : (500 : Int) < (l.length : Int) := by omega
          go_wp2_with fail
          refine (HA.out _).mono ?_
          rintro e w2 ⟨rfl, hb⟩
          have HBw := Lib.hid (show Below w.heap.size w w2 from ((((Below.refl _ _).alloc (Nat.le_refl _) _).alloc (by simp) _)).trans (hb.mono (by simp; omega)))
          clear hb
          go_wp2_with fail
          go_ret
          exact ⟨rfl, HBw.out⟩
        · have d3 : ¬ (500 : Int) < (l.length : Int) := by omega
          have hl5 : l.length ≤ 500 := by omega
          have hbnd := Nat.lt_of_lt_of_le (ai_lt aX) (Nat.pow_le_pow_right (show 0 < WB by decide) hn6)
          have hF := itoa_bound hbnd
          have HP := Lib.hid (fun W hT => Parse_any l W hl5 hT)
          have HR := Lib.hid (fun W => rParse_any l W hl5)
          have HFm := Lib.hid (fun W h hT => Format_any s A n c z W h (by omega) hT)
          have HRf := Lib.hid (fun W h => rFormat_any s A n c z W h (by omega))
          have HNo := Lib.hid (fun W h => Normal_any s A n c z W h (by omega))
          have HPz := Lib.hid (show ∀ W, Lib.TabBelow Tryz.prog W.heap.size W "internal/strconv.uint64pow10" .u64 Lib.pow10Tab → Calls Tryz.prog 25 #[.string ⟨(Lib.itoa z).toArray⟩] W (PrsPost W z 0) from fun W hT => by
            have := Parse_any (Lib.itoa z) W (by omega) hT
            rwa [show prsV (Lib.itoa z) = z by unfold prsV; rw [if_neg (by omega), candP_itoa, if_pos rfl], show prsE (Lib.itoa z) = 0 by unfold prsE; rw [if_neg (by omega), candP_itoa, if_pos rfl]] at this)
          unfold PrsPost at HP HR HPz
          generalize prsV l = r at *
          generalize prsE l = E at *
          clear hbnd hF aX h1
          go_wp2_with fail
          obtain ⟨W1, hW1⟩ : ∃ W1 : World, W1 = ((w.alloc (.cells #[.bool s, .slice A n c] 55)).alloc (.cells #[.bool s, .slice A n c] 55)) := ⟨_, rfl⟩
          rw [← hW1]
          have HB1 := Lib.hid (show Bx w [(w.heap.size, #[.bool s, .slice A n c])] W1 from hW1 ▸ ((Bx.nil (Below.refl w.heap.size w)).new #[.bool s, .slice A n c] 55).keep ((Below.refl _ _).alloc (Nat.le_refl _) _))
          clear hW1
          refine (HP.out W1 (HTb.out.at HB1.out.below)).mono ?_
          rintro e w2 ⟨A2, c2, rfl, hs, p2, q2, hb⟩
          go_upto_region 4 with fail
          obtain ⟨V2, hV⟩ : ∃ V : World, V = w2.alloc (.cells #[.bool (decide (r < 0)), .slice A2 (wl r.natAbs) c2] 55) := ⟨_, rfl⟩
          rw [← hV]
          have hba : Below w2.heap.size w2 V2 := hV ▸ (Below.refl _ _).alloc (Nat.le_refl _) _
          have HB2 := Lib.hid (show Bx w [(w2.heap.size, #[.bool (decide (r < 0)), .slice A2 (wl r.natAbs) c2]), (w.heap.size, #[.bool s, .slice A n c])] V2 from hV ▸ (HB1.out.keep hb).new _ _)
          have HS2 := Lib.hid (hs.below hba)
          have HP2 := Lib.hid (And.intro p2 q2)
          clear hV hs hb hba HB1 p2 q2 
          generalize w2.heap.size = G2 at *
          go_wp2_with fail
          refine (HR.out V2).mono ?_
          rintro e w3 ⟨A3, c3, rfl, hs, p3, q3, hb⟩
          go_upto_region 5 with fail
          obtain ⟨V3, hV⟩ : ∃ V : World, V = w3.alloc (.cells #[.bool (decide (r < 0)), .slice A3 (wl r.natAbs) c3] 55) := ⟨_, rfl⟩
          rw [← hV]
          have hba : Below w3.heap.size w3 V3 := hV ▸ (Below.refl _ _).alloc (Nat.le_refl _) _
          have HB3 := Lib.hid (show Bx w [(w3.heap.size, #[.bool (decide (r < 0)), .slice A3 (wl r.natAbs) c3]), (G2, #[.bool (decide (r < 0)), .slice A2 (wl r.natAbs) c2]), (w.heap.size, #[.bool s, .slice A n c])] V3 from hV ▸ (HB2.out.keep hb).new _ _)
          have HS23 := Lib.hid ((HS2.out.below hb).below hba)
          have HS3 := Lib.hid (hs.below hba)
          have HP3 := Lib.hid (And.intro p3 q3)
          clear hV hs hb hba HB2 p3 q3 HS2
          generalize w3.heap.size = G3 at *
          obtain ⟨k0, k1⟩ := HB3.out.two (List.mem_cons_of_mem _ (List.mem_cons_of_mem _ (List.mem_cons_self ..)))
          go_wp2_with fail
          refine (HFm.out V3 (HX.out.keep HB3.out.below) (HTb.out.at HB3.out.below)).mono ?_
          rintro e w4 ⟨rfl, hb⟩
          have HB4 := Lib.hid (HB3.out.keep hb)
          have HS24 := Lib.hid (HS23.out.below hb); have HS34 := Lib.hid (HS3.out.below hb)
          clear hb k0 k1 HB3 HS23 HS3
          go_wp2_with fail
          refine (HPz.out w4 (HTb.out.at HB4.out.below)).mono ?_
          rintro e w5 ⟨A5, c5, rfl, hs, p5, q5, hb⟩
          go_upto_region 7 with fail
          obtain ⟨V5, hV⟩ : ∃ V : World, V = w5.alloc (.cells #[.bool (decide (z < 0)), .slice A5 (wl z.natAbs) c5] 55) := ⟨_, rfl⟩
          rw [← hV]
          have hba : Below w5.heap.size w5 V5 := hV ▸ (Below.refl _ _).alloc (Nat.le_refl _) _
          have HB5 := Lib.hid (show Bx w [(w5.heap.size, #[.bool (decide (z < 0)), .slice A5 (wl z.natAbs) c5]), (G3, #[.bool (decide (r < 0)), .slice A3 (wl r.natAbs) c3]), (G2, #[.bool (decide (r < 0)), .slice A2 (wl r.natAbs) c2]), (w.heap.size, #[.bool s, .slice A n c])] V5 from hV ▸ (HB4.out.keep hb).new _ _)
          have HS25 := Lib.hid ((HS24.out.below hb).below hba)
          have HS35 := Lib.hid ((HS34.out.below hb).below hba)
          have HS5 := Lib.hid (hs.below hba)
          have HP5 := Lib.hid (And.intro p5 q5)
          clear hV hs hb hba HB4 p5 q5 HS24 HS34
          generalize w5.heap.size = G5 at *
          refine wp_region_val [(0, 49, VC (.string ⟨(Lib.itoa z).toArray⟩)), (1, 50, VC (.agg #[.bool s, .slice A n c])), (2, 51, VC (.string ⟨(Lib.itoa z).toArray⟩)), (3, 52, VC (.bool true)), (4, 53, VC (.bool true)), (5, 54, VC (.agg #[.bool (decide (r < 0)), .slice A2 (wl r.natAbs) c2])), (6, 55, VC (.agg #[.bool (decide (r < 0)), .slice A3 (wl r.natAbs) c3])), (7, 56, VC (.bool true)), (8, 57, VC (.bool true)), (9, 58, VC (.bool true)), (10, 59, VC (.int .i64 E)), (11, 60, VC (.int .i64 E)), (12, 61, VC (.bool true)), (13, 62, VC (.bool true)), (14, 63, VC (.bool true)), (15, 64, VC (.int .i64 0)), (16, 65, VC (.bool true)), (17, 66, VC (.bool true)), (18, 67, VC (.bool true)), (19, 68, VC (.agg #[.bool (decide (z < 0)), .slice A5 (wl z.natAbs) c5])), (20, 69, VC (.agg #[.bool s, .slice A n c])), (21, 70, ZW z), (22, 71, VC (.bool true)), (23, 72, VC (.bool true)), (24, 73, VC (.bool true)), (25, 74, VC (.bool true)), (26, 75, VC (.bool true)), (27, 4, VC (.bool true))] (fun W => Bx w [(G5, #[.bool (decide (z < 0)), .slice A5 (wl z.natAbs) c5]), (G3, #[.bool (decide (r < 0)), .slice A3 (wl r.natAbs) c3]), (G2, #[.bool (decide (r < 0)), .slice A2 (wl r.natAbs) c2]), (w.heap.size, #[.bool s, .slice A n c])] W ∧ Below w.heap.size w W ∧ Shows .u32 W A2 (digs WB r.natAbs) ∧ Shows .u32 W A3 (digs WB r.natAbs) ∧ Shows .u32 W A5 (digs WB z.natAbs)) [49, 50, 51, 52, 53, 54, 55, 56, 57, 58, 59, 60, 61, 62, 63, 64, 65, 66, 67, 68, 69, 70, 71, 72, 73, 74, 75, 4] (by kernel_rfl) (by kernel_rfl) (by kernel_rfl) ⟨Keeps.vc _, Keeps.vc _, Keeps.vc _, Keeps.vc _, Keeps.vc _, Keeps.vc _, Keeps.vc _, Keeps.vc _, Keeps.vc _, Keeps.vc _, Keeps.vc _, Keeps.vc _, Keeps.vc _, Keeps.vc _, Keeps.vc _, Keeps.vc _, Keeps.vc _, Keeps.vc _, Keeps.vc _, Keeps.vc _, Keeps.vc _, Keeps.zw _, Keeps.vc _, Keeps.vc _, Keeps.vc _, Keeps.vc _, Keeps.vc _, Keeps.vc _, trivial⟩ (fun _ _ _ h hb => ⟨h.1.keep hb, h.2.1.trans (hb.mono h.2.1.size), h.2.2.1.below hb, h.2.2.2.1.below hb, h.2.2.2.2.below hb⟩) ⟨HB5.out, HB5.out.below, HS25.out, HS35.out, HS5.out⟩ (forall_ops ⟨?_, ?_, ?_, ?_, ?_, ?_, ?_, ?_, ?_, ?_, ?_, ?_, ?_, ?_, ?_, ?_, ?_, ?_, ?_, ?_, ?_, ?_, ?_, ?_, ?_, ?_, ?_, ?_, trivial⟩) ?_
          · exact .of rfl rfl fun _ _ _ _ _ _ => .move rfl (fr_out (v := .string ⟨(Lib.itoa z).toArray⟩) (by kernel_rfl) (by kernel_rfl)) rfl
          · exact .of rfl rfl fun _ _ _ hE _ _ => .loadAll (g := w.heap.size) (vs := #[.bool s, .slice A n c]) rfl (fr_out (v := .pointer (some ⟨w.heap.size, 0, none⟩)) (by kernel_rfl) (by kernel_rfl)) (hE.1.own _ (List.mem_cons_of_mem _ (List.mem_cons_of_mem _ (List.mem_cons_of_mem _ (List.mem_cons_self ..))))).2 rfl Tryz.underlying55 rfl (by kernel_rfl) rfl
          · exact .of rfl rfl fun _ W _ hE hV _ => .call Tryz.func28 (by kernel_rfl) rfl rfl rfl (map_one ((fr_in (by kernel_rfl)).trans (hget hV 1 rfl (by kernel_rfl)))) (pw ((HRf.out W (HX.out.keep (hE.2.1))).mono (fun _ _ h => h)))
          · exact .of rfl rfl fun _ _ _ _ hV _ => .binOp (p := .string ⟨(Lib.itoa z).toArray⟩) (r := .string ⟨(Lib.itoa z).toArray⟩) rfl ((fr_in (by kernel_rfl)).trans (hget hV 0 rfl (by kernel_rfl))) ((fr_in (by kernel_rfl)).trans (hget hV 2 rfl (by kernel_rfl))) (by simp [go_sem, eqGuard]) rfl
          · exact .of rfl rfl fun _ _ _ _ hV _ => .move rfl ((fr_in (by kernel_rfl)).trans (hget hV 3 rfl (by kernel_rfl))) rfl
          · exact .on (b := true) rfl (by kernel_rfl) rfl rfl fun _ _ _ hE _ _ => .loadAll (g := G2) (vs := #[.bool (decide (r < 0)), .slice A2 (wl r.natAbs) c2]) rfl (fr_out (v := .pointer (some ⟨G2, 0, none⟩)) (by kernel_rfl) (by kernel_rfl)) (hE.1.own _ (List.mem_cons_of_mem _ (List.mem_cons_of_mem _ (List.mem_cons_self ..)))).2 rfl Tryz.underlying55 rfl (by kernel_rfl) rfl
          · exact .on (b := true) rfl (by kernel_rfl) rfl rfl fun _ _ _ hE _ _ => .loadAll (g := G3) (vs := #[.bool (decide (r < 0)), .slice A3 (wl r.natAbs) c3]) rfl (fr_out (v := .pointer (some ⟨G3, 0, none⟩)) (by kernel_rfl) (by kernel_rfl)) (hE.1.own _ (List.mem_cons_of_mem _ (List.mem_cons_self ..))).2 rfl Tryz.underlying55 rfl (by kernel_rfl) rfl
          · exact .on (b := true) rfl (by kernel_rfl) rfl rfl fun _ W _ hE hV _ => .call Tryz.func29 (by kernel_rfl) rfl rfl rfl (map_two ((fr_in (by kernel_rfl)).trans (hget hV 5 rfl (by kernel_rfl))) ((fr_in (by kernel_rfl)).trans (hget hV 6 rfl (by kernel_rfl)))) (pw (Same_int r A2 A3 c2 c3 W hE.2.2.1 hE.2.2.2.1 HP2.out.1 HP2.out.2))
          · exact .of rfl rfl fun _ _ _ _ hV _ => .pick (b := true) rfl ((fr_in (by kernel_rfl)).trans (hget hV 4 rfl (by kernel_rfl))) ((fr_in (by kernel_rfl)).trans (hget hV 7 rfl (by kernel_rfl))) rfl
          · exact .of rfl rfl fun _ _ _ _ hV _ => .move rfl ((fr_in (by kernel_rfl)).trans (hget hV 8 rfl (by kernel_rfl))) rfl
          · exact .on (b := true) rfl (by kernel_rfl) rfl rfl fun _ _ _ _ _ _ => .move rfl (fr_out (v := .int .i64 E) (by kernel_rfl) (by kernel_rfl)) rfl
          · exact .on (b := true) rfl (by kernel_rfl) rfl rfl fun _ _ _ _ _ _ => .move rfl (fr_out (v := .int .i64 E) (by kernel_rfl) (by kernel_rfl)) rfl
          · exact .on (b := true) rfl (by kernel_rfl) rfl rfl fun _ _ _ _ hV _ => .binOp (p := .int .i64 E) (r := .int .i64 E) rfl ((fr_in (by kernel_rfl)).trans (hget hV 10 rfl (by kernel_rfl))) ((fr_in (by kernel_rfl)).trans (hget hV 11 rfl (by kernel_rfl))) (by simp [go_sem, eqGuard]) rfl
          · exact .of rfl rfl fun _ _ _ _ hV _ => .pick (b := true) rfl ((fr_in (by kernel_rfl)).trans (hget hV 9 rfl (by kernel_rfl))) ((fr_in (by kernel_rfl)).trans (hget hV 12 rfl (by kernel_rfl))) rfl
          · exact .of rfl rfl fun _ _ _ _ hV _ => .move rfl ((fr_in (by kernel_rfl)).trans (hget hV 13 rfl (by kernel_rfl))) rfl
          · exact .on (b := true) rfl (by kernel_rfl) rfl rfl fun _ _ _ _ _ _ => .move rfl (fr_out (v := .int .i64 0) (by kernel_rfl) (by kernel_rfl)) rfl
          · exact .on (b := true) rfl (by kernel_rfl) rfl rfl fun _ _ _ _ hV _ => .binOp (p := .int .i64 0) (r := .int .i64 0) rfl ((fr_in (by kernel_rfl)).trans (hget hV 15 rfl (by kernel_rfl))) rfl (by simp [go_sem, eqGuard]) rfl
          · exact .of rfl rfl fun _ _ _ _ hV _ => .pick (b := true) rfl ((fr_in (by kernel_rfl)).trans (hget hV 14 rfl (by kernel_rfl))) ((fr_in (by kernel_rfl)).trans (hget hV 16 rfl (by kernel_rfl))) rfl
          · exact .of rfl rfl fun _ _ _ _ hV _ => .move rfl ((fr_in (by kernel_rfl)).trans (hget hV 17 rfl (by kernel_rfl))) rfl
          · exact .on (b := true) rfl (by kernel_rfl) rfl rfl fun _ _ _ hE _ _ => .loadAll (g := G5) (vs := #[.bool (decide (z < 0)), .slice A5 (wl z.natAbs) c5]) rfl (fr_out (v := .pointer (some ⟨G5, 0, none⟩)) (by kernel_rfl) (by kernel_rfl)) (hE.1.own _ (List.mem_cons_self ..)).2 rfl Tryz.underlying55 rfl (by kernel_rfl) rfl
          · exact .on (b := true) rfl (by kernel_rfl) rfl rfl fun _ _ _ hE _ _ => .loadAll (g := w.heap.size) (vs := #[.bool s, .slice A n c]) rfl (fr_out (v := .pointer (some ⟨w.heap.size, 0, none⟩)) (by kernel_rfl) (by kernel_rfl)) (hE.1.own _ (List.mem_cons_of_mem _ (List.mem_cons_of_mem _ (List.mem_cons_of_mem _ (List.mem_cons_self ..))))).2 rfl Tryz.underlying55 rfl (by kernel_rfl) rfl
          · exact .on (b := true) rfl (by kernel_rfl) rfl rfl fun _ W _ hE hV _ => .call Tryz.func30 (by kernel_rfl) rfl rfl rfl (map_one ((fr_in (by kernel_rfl)).trans (hget hV 20 rfl (by kernel_rfl)))) ((HNo.out W (HX.out.keep hE.2.1)).mono (fun _ _ h => zw_of h))
          · exact .on (b := true) rfl (by kernel_rfl) rfl rfl fun _ _ _ hE hV _ => .call Tryz.func29 (by kernel_rfl) rfl rfl rfl (map_two ((fr_in (by kernel_rfl)).trans (hget hV 19 rfl (by kernel_rfl))) (fr_in (by kernel_rfl))) (same_zw hE.2.2.2.2 HP5.out.1 HP5.out.2 (hget hV 21 rfl (by kernel_rfl)))
          · exact .of rfl rfl fun _ _ _ _ hV _ => .pick (b := true) rfl ((fr_in (by kernel_rfl)).trans (hget hV 18 rfl (by kernel_rfl))) ((fr_in (by kernel_rfl)).trans (hget hV 22 rfl (by kernel_rfl))) rfl
          · exact .of rfl rfl fun _ _ _ _ hV _ => .move rfl ((fr_in (by kernel_rfl)).trans (hget hV 23 rfl (by kernel_rfl))) rfl
          · exact .on (b := true) rfl (by kernel_rfl) rfl rfl fun _ W _ _ _ _ => .call Tryz.func24 (by kernel_rfl) rfl rfl rfl (map_none _) (pw (HA.out W))
          · exact .of rfl rfl fun _ _ _ _ hV _ => .pick (b := true) rfl ((fr_in (by kernel_rfl)).trans (hget hV 24 rfl (by kernel_rfl))) ((fr_in (by kernel_rfl)).trans (hget hV 25 rfl (by kernel_rfl))) rfl
          · exact .of rfl rfl fun _ _ _ _ hV _ => .assign rfl ((fr_in (by kernel_rfl)).trans (hget hV 26 rfl (by kernel_rfl))) rfl
          intro y W _ hE hV
          have y4 : y 4 = .bool true := hend hV 27 rfl
          have HBW := Lib.hid hE.2.1
          simp only [fr, putAll, List.foldl_cons, List.foldl_nil, List.setIfInBounds_toArray, List.set_cons_zero, List.set_cons_succ]
          simp only [y4]
          clear hE hV y4
          go_wp2_with fail
          go_ret
          exact ⟨rfl, HBW.out⟩
    · have d1 : ¬ (100 : Int) < (l.length : Int) := by omega
      have d3 : ¬ (500 : Int) < (l.length : Int) := by omega
      have hl5 : l.length ≤ 500 := by omega
      have hbnd := Nat.lt_of_lt_of_le (ai_lt aX) (Nat.pow_le_pow_right (show 0 < WB by decide) hn6)
      have hF := itoa_bound hbnd
      have HP := Lib.hid (fun W hT => Parse_any l W hl5 hT)
      have HR := Lib.hid (fun W => rParse_any l W hl5)
      have HFm := Lib.hid (fun W h hT => Format_any s A n c z W h (by omega) hT)
      have HRf := Lib.hid (fun W h => rFormat_any s A n c z W h (by omega))
      have HNo := Lib.hid (fun W h => Normal_any s A n c z W h (by omega))
      have HPz := Lib.hid (show ∀ W, Lib.TabBelow Tryz.prog W.heap.size W "internal/strconv.uint64pow10" .u64 Lib.pow10Tab → Calls Tryz.prog 25 #[.string ⟨(Lib.itoa z).toArray⟩] W (PrsPost W z 0) from fun W hT => by
        have := Parse_any (Lib.itoa z) W (by omega) hT
        rwa [show prsV (Lib.itoa z) = z by unfold prsV; rw [if_neg (by omega), candP_itoa, if_pos rfl], show prsE (Lib.itoa z) = 0 by unfold prsE; rw [if_neg (by omega), candP_itoa, if_pos rfl]] at this)
      unfold PrsPost at HP HR HPz
      generalize prsV l = r at *
      generalize prsE l = E at *
      clear hbnd hF aX h1
      go_wp2_with fail
      obtain ⟨W1, hW1⟩ : ∃ W1 : World, W1 = ((w.alloc (.cells #[.bool s, .slice A n c] 55)).alloc (.cells #[.bool s, .slice A n c] 55)) := ⟨_, rfl⟩
      rw [← hW1]
      have HB1 := Lib.hid (show Bx w [(w.heap.size, #[.bool s, .slice A n c])] W1 from hW1 ▸ ((Bx.nil (Below.refl w.heap.size w)).new #[.bool s, .slice A n c] 55).keep ((Below.refl _ _).alloc (Nat.le_refl _) _))
      clear hW1
      refine (HP.out W1 (HTb.out.at HB1.out.below)).mono ?_
      rintro e w2 ⟨A2, c2, rfl, hs, p2, q2, hb⟩
      go_upto_region 4 with fail
      obtain ⟨V2, hV⟩ : ∃ V : World, V = w2.alloc (.cells #[.bool (decide (r < 0)), .slice A2 (wl r.natAbs) c2] 55) := ⟨_, rfl⟩
      rw [← hV]
      have hba : Below w2.heap.size w2 V2 := hV ▸ (Below.refl _ _).alloc (Nat.le_refl _) _
      have HB2 := Lib.hid (show Bx w [(w2.heap.size, #[.bool (decide (r < 0)), .slice A2 (wl r.natAbs) c2]), (w.heap.size, #[.bool s, .slice A n c])] V2 from hV ▸ (HB1.out.keep hb).new _ _)
      have HS2 := Lib.hid (hs.below hba)
      have HP2 := Lib.hid (And.intro p2 q2)
      clear hV hs hb hba HB1 p2 q2 
      generalize w2.heap.size = G2 at *
      go_wp2_with fail
      refine (HR.out V2).mono ?_
      rintro e w3 ⟨A3, c3, rfl, hs, p3, q3, hb⟩
      go_upto_region 5 with fail
      obtain ⟨V3, hV⟩ : ∃ V : World, V = w3.alloc (.cells #[.bool (decide (r < 0)), .slice A3 (wl r.natAbs) c3] 55) := ⟨_, rfl⟩
      rw [← hV]
      have hba : Below w3.heap.size w3 V3 := hV ▸ (Below.refl _ _).alloc (Nat.le_refl _) _
      have HB3 := Lib.hid (show Bx w [(w3.heap.size, #[.bool (decide (r < 0)), .slice A3 (wl r.natAbs) c3]), (G2, #[.bool (decide (r < 0)), .slice A2 (wl r.natAbs) c2]), (w.heap.size, #[.bool s, .slice A n c])] V3 from hV ▸ (HB2.out.keep hb).new _ _)
      have HS23 := Lib.hid ((HS2.out.below hb).below hba)
      have HS3 := Lib.hid (hs.below hba)
      have HP3 := Lib.hid (And.intro p3 q3)
      clear hV hs hb hba HB2 p3 q3 HS2
      generalize w3.heap.size = G3 at *
      obtain ⟨k0, k1⟩ := HB3.out.two (List.mem_cons_of_mem _ (List.mem_cons_of_mem _ (List.mem_cons_self ..)))
      go_wp2_with fail
      refine (HFm.out V3 (HX.out.keep HB3.out.below) (HTb.out.at HB3.out.below)).mono ?_
      rintro e w4 ⟨rfl, hb⟩
      have HB4 := Lib.hid (HB3.out.keep hb)
      have HS24 := Lib.hid (HS23.out.below hb); have HS34 := Lib.hid (HS3.out.below hb)
      clear hb k0 k1 HB3 HS23 HS3
      go_wp2_with fail
      refine (HPz.out w4 (HTb.out.at HB4.out.below)).mono ?_
      rintro e w5 ⟨A5, c5, rfl, hs, p5, q5, hb⟩
      go_upto_region 7 with fail
      obtain ⟨V5, hV⟩ : ∃ V : World, V = w5.alloc (.cells #[.bool (decide (z < 0)), .slice A5 (wl z.natAbs) c5] 55) := ⟨_, rfl⟩
      rw [← hV]
      have hba : Below w5.heap.size w5 V5 := hV ▸ (Below.refl _ _).alloc (Nat.le_refl _) _
      have HB5 := Lib.hid (show Bx w [(w5.heap.size, #[.bool (decide (z < 0)), .slice A5 (wl z.natAbs) c5]), (G3, #[.bool (decide (r < 0)), .slice A3 (wl r.natAbs) c3]), (G2, #[.bool (decide (r < 0)), .slice A2 (wl r.natAbs) c2]), (w.heap.size, #[.bool s, .slice A n c])] V5 from hV ▸ (HB4.out.keep hb).new _ _)
      have HS25 := Lib.hid ((HS24.out.below hb).below hba)
      have HS35 := Lib.hid ((HS34.out.below hb).below hba)
      have HS5 := Lib.hid (hs.below hba)
      have HP5 := Lib.hid (And.intro p5 q5)
      clear hV hs hb hba HB4 p5 q5 HS24 HS34
      generalize w5.heap.size = G5 at *
      refine wp_region_val [(0, 49, VC (.string ⟨(Lib.itoa z).toArray⟩)), (1, 50, VC (.agg #[.bool s, .slice A n c])), (2, 51, VC (.string ⟨(Lib.itoa z).toArray⟩)), (3, 52, VC (.bool true)), (4, 53, VC (.bool true)), (5, 54, VC (.agg #[.bool (decide (r < 0)), .slice A2 (wl r.natAbs) c2])), (6, 55, VC (.agg #[.bool (decide (r < 0)), .slice A3 (wl r.natAbs) c3])), (7, 56, VC (.bool true)), (8, 57, VC (.bool true)), (9, 58, VC (.bool true)), (10, 59, VC (.int .i64 E)), (11, 60, VC (.int .i64 E)), (12, 61, VC (.bool true)), (13, 62, VC (.bool true)), (14, 63, VC (.bool true)), (15, 64, VC (.int .i64 0)), (16, 65, VC (.bool true)), (17, 66, VC (.bool true)), (18, 67, VC (.bool true)), (19, 68, VC (.agg #[.bool (decide (z < 0)), .slice A5 (wl z.natAbs) c5])), (20, 69, VC (.agg #[.bool s, .slice A n c])), (21, 70, ZW z), (22, 71, VC (.bool true)), (23, 72, VC (.bool true)), (24, 73, VC (.bool true)), (25, 74, VC (.bool true)), (26, 75, VC (.bool true)), (27, 4, VC (.bool true))] (fun W => Bx w [(G5, #[.bool (decide (z < 0)), .slice A5 (wl z.natAbs) c5]), (G3, #[.bool (decide (r < 0)), .slice A3 (wl r.natAbs) c3]), (G2, #[.bool (decide (r < 0)), .slice A2 (wl r.natAbs) c2]), (w.heap.size, #[.bool s, .slice A n c])] W ∧ Below w.heap.size w W ∧ Shows .u32 W A2 (digs WB r.natAbs) ∧ Shows .u32 W A3 (digs WB r.natAbs) ∧ Shows .u32 W A5 (digs WB z.natAbs)) [49, 50, 51, 52, 53, 54, 55, 56, 57, 58, 59, 60, 61, 62, 63, 64, 65, 66, 67, 68, 69, 70, 71, 72, 73, 74, 75, 4] (by kernel_rfl) (by kernel_rfl) (by kernel_rfl) ⟨Keeps.vc _, Keeps.vc _, Keeps.vc _, Keeps.vc _, Keeps.vc _, Keeps.vc _, Keeps.vc _, Keeps.vc _, Keeps.vc _, Keeps.vc _, Keeps.vc _, Keeps.vc _, Keeps.vc _, Keeps.vc _, Keeps.vc _, Keeps.vc _, Keeps.vc _, Keeps.vc _, Keeps.vc _, Keeps.vc _, Keeps.vc _, Keeps.zw _, Keeps.vc _, Keeps.vc _, Keeps.vc _, Keeps.vc _, Keeps.vc _, Keeps.vc _, trivial⟩ (fun _ _ _ h hb => ⟨h.1.keep hb, h.2.1.trans (hb.mono h.2.1.size), h.2.2.1.below hb, h.2.2.2.1.below hb, h.2.2.2.2.below hb⟩) ⟨HB5.out, HB5.out.below, HS25.out, HS35.out, HS5.out⟩ (forall_ops ⟨?_, ?_, ?_, ?_, ?_, ?_, ?_, ?_, ?_, ?_, ?_, ?_, ?_, ?_, ?_, ?_, ?_, ?_, ?_, ?_, ?_, ?_, ?_, ?_, ?_, ?_, ?_, ?_, trivial⟩) ?_
      · exact .of rfl rfl fun _ _ _ _ _ _ => .move rfl (fr_out (v := .string ⟨(Lib.itoa z).toArray⟩) (by kernel_rfl) (by kernel_rfl)) rfl
      · exact .of rfl rfl fun _ _ _ hE _ _ => .loadAll (g := w.heap.size) (vs := #[.bool s, .slice A n c]) rfl (fr_out (v := .pointer (some ⟨w.heap.size, 0, none⟩)) (by kernel_rfl) (by kernel_rfl)) (hE.1.own _ (List.mem_cons_of_mem _ (List.mem_cons_of_mem _ (List.mem_cons_of_mem _ (List.mem_cons_self ..))))).2 rfl Tryz.underlying55 rfl (by kernel_rfl) rfl
      · exact .of rfl rfl fun _ W _ hE hV _ => .call Tryz.func28 (by kernel_rfl) rfl rfl rfl (map_one ((fr_in (by kernel_rfl)).trans (hget hV 1 rfl (by kernel_rfl)))) (pw ((HRf.out W (HX.out.keep (hE.2.1))).mono (fun _ _ h => h)))
      · exact .of rfl rfl fun _ _ _ _ hV _ => .binOp (p := .string ⟨(Lib.itoa z).toArray⟩) (r := .string ⟨(Lib.itoa z).toArray⟩) rfl ((fr_in (by kernel_rfl)).trans (hget hV 0 rfl (by kernel_rfl))) ((fr_in (by kernel_rfl)).trans (hget hV 2 rfl (by kernel_rfl))) (by simp [go_sem, eqGuard]) rfl
      · exact .of rfl rfl fun _ _ _ _ hV _ => .move rfl ((fr_in (by kernel_rfl)).trans (hget hV 3 rfl (by kernel_rfl))) rfl
      · exact .on (b := true) rfl (by kernel_rfl) rfl rfl fun _ _ _ hE _ _ => .loadAll (g := G2) (vs := #[.bool (decide (r < 0)), .slice A2 (wl r.natAbs) c2]) rfl (fr_out (v := .pointer (some ⟨G2, 0, none⟩)) (by kernel_rfl) (by kernel_rfl)) (hE.1.own _ (List.mem_cons_of_mem _ (List.mem_cons_of_mem _ (List.mem_cons_self ..)))).2 rfl Tryz.underlying55 rfl (by kernel_rfl) rfl
      · exact .on (b := true) rfl (by kernel_rfl) rfl rfl fun _ _ _ hE _ _ => .loadAll (g := G3) (vs := #[.bool (decide (r < 0)), .slice A3 (wl r.natAbs) c3]) rfl (fr_out (v := .pointer (some ⟨G3, 0, none⟩)) (by kernel_rfl) (by kernel_rfl)) (hE.1.own _ (List.mem_cons_of_mem _ (List.mem_cons_self ..))).2 rfl Tryz.underlying55 rfl (by kernel_rfl) rfl
      · exact .on (b := true) rfl (by kernel_rfl) rfl rfl fun _ W _ hE hV _ => .call Tryz.func29 (by kernel_rfl) rfl rfl rfl (map_two ((fr_in (by kernel_rfl)).trans (hget hV 5 rfl (by kernel_rfl))) ((fr_in (by kernel_rfl)).trans (hget hV 6 rfl (by kernel_rfl)))) (pw (Same_int r A2 A3 c2 c3 W hE.2.2.1 hE.2.2.2.1 HP2.out.1 HP2.out.2))
      · exact .of rfl rfl fun _ _ _ _ hV _ => .pick (b := true) rfl ((fr_in (by kernel_rfl)).trans (hget hV 4 rfl (by kernel_rfl))) ((fr_in (by kernel_rfl)).trans (hget hV 7 rfl (by kernel_rfl))) rfl
      · exact .of rfl rfl fun _ _ _ _ hV _ => .move rfl ((fr_in (by kernel_rfl)).trans (hget hV 8 rfl (by kernel_rfl))) rfl
      · exact .on (b := true) rfl (by kernel_rfl) rfl rfl fun _ _ _ _ _ _ => .move rfl (fr_out (v := .int .i64 E) (by kernel_rfl) (by kernel_rfl)) rfl
      · exact .on (b := true) rfl (by kernel_rfl) rfl rfl fun _ _ _ _ _ _ => .move rfl (fr_out (v := .int .i64 E) (by kernel_rfl) (by kernel_rfl)) rfl
      · exact .on (b := true) rfl (by kernel_rfl) rfl rfl fun _ _ _ _ hV _ => .binOp (p := .int .i64 E) (r := .int .i64 E) rfl ((fr_in (by kernel_rfl)).trans (hget hV 10 rfl (by kernel_rfl))) ((fr_in (by kernel_rfl)).trans (hget hV 11 rfl (by kernel_rfl))) (by simp [go_sem, eqGuard]) rfl
      · exact .of rfl rfl fun _ _ _ _ hV _ => .pick (b := true) rfl ((fr_in (by kernel_rfl)).trans (hget hV 9 rfl (by kernel_rfl))) ((fr_in (by kernel_rfl)).trans (hget hV 12 rfl (by kernel_rfl))) rfl
      · exact .of rfl rfl fun _ _ _ _ hV _ => .move rfl ((fr_in (by kernel_rfl)).trans (hget hV 13 rfl (by kernel_rfl))) rfl
      · exact .on (b := true) rfl (by kernel_rfl) rfl rfl fun _ _ _ _ _ _ => .move rfl (fr_out (v := .int .i64 0) (by kernel_rfl) (by kernel_rfl)) rfl
      · exact .on (b := true) rfl (by kernel_rfl) rfl rfl fun _ _ _ _ hV _ => .binOp (p := .int .i64 0) (r := .int .i64 0) rfl ((fr_in (by kernel_rfl)).trans (hget hV 15 rfl (by kernel_rfl))) rfl (by simp [go_sem, eqGuard]) rfl
      · exact .of rfl rfl fun _ _ _ _ hV _ => .pick (b := true) rfl ((fr_in (by kernel_rfl)).trans (hget hV 14 rfl (by kernel_rfl))) ((fr_in (by kernel_rfl)).trans (hget hV 16 rfl (by kernel_rfl))) rfl
      · exact .of rfl rfl fun _ _ _ _ hV _ => .move rfl ((fr_in (by kernel_rfl)).trans (hget hV 17 rfl (by kernel_rfl))) rfl
      · exact .on (b := true) rfl (by kernel_rfl) rfl rfl fun _ _ _ hE _ _ => .loadAll (g := G5) (vs := #[.bool (decide (z < 0)), .slice A5 (wl z.natAbs) c5]) rfl (fr_out (v := .pointer (some ⟨G5, 0, none⟩)) (by kernel_rfl) (by kernel_rfl)) (hE.1.own _ (List.mem_cons_self ..)).2 rfl Tryz.underlying55 rfl (by kernel_rfl) rfl
      · exact .on (b := true) rfl (by kernel_rfl) rfl rfl fun _ _ _ hE _ _ => .loadAll (g := w.heap.size) (vs := #[.bool s, .slice A n c]) rfl (fr_out (v := .pointer (some ⟨w.heap.size, 0, none⟩)) (by kernel_rfl) (by kernel_rfl)) (hE.1.own _ (List.mem_cons_of_mem _ (List.mem_cons_of_mem _ (List.mem_cons_of_mem _ (List.mem_cons_self ..))))).2 rfl Tryz.underlying55 rfl (by kernel_rfl) rfl
      · exact .on (b := true) rfl (by kernel_rfl) rfl rfl fun _ W _ hE hV _ => .call Tryz.func30 (by kernel_rfl) rfl rfl rfl (map_one ((fr_in (by kernel_rfl)).trans (hget hV 20 rfl (by kernel_rfl)))) ((HNo.out W (HX.out.keep hE.2.1)).mono (fun _ _ h => zw_of h))
      · exact .on (b := true) rfl (by kernel_rfl) rfl rfl fun _ _ _ hE hV _ => .call Tryz.func29 (by kernel_rfl) rfl rfl rfl (map_two ((fr_in (by kernel_rfl)).trans (hget hV 19 rfl (by kernel_rfl))) (fr_in (by kernel_rfl))) (same_zw hE.2.2.2.2 HP5.out.1 HP5.out.2 (hget hV 21 rfl (by kernel_rfl)))
      · exact .of rfl rfl fun _ _ _ _ hV _ => .pick (b := true) rfl ((fr_in (by kernel_rfl)).trans (hget hV 18 rfl (by kernel_rfl))) ((fr_in (by kernel_rfl)).trans (hget hV 22 rfl (by kernel_rfl))) rfl
      · exact .of rfl rfl fun _ _ _ _ hV _ => .move rfl ((fr_in (by kernel_rfl)).trans (hget hV 23 rfl (by kernel_rfl))) rfl
      · exact .on (b := true) rfl (by kernel_rfl) rfl rfl fun _ W _ _ _ _ => .call Tryz.func24 (by kernel_rfl) rfl rfl rfl (map_none _) (pw (HA.out W))
      · exact .of rfl rfl fun _ _ _ _ hV _ => .pick (b := true) rfl ((fr_in (by kernel_rfl)).trans (hget hV 24 rfl (by kernel_rfl))) ((fr_in (by kernel_rfl)).trans (hget hV 25 rfl (by kernel_rfl))) rfl
      · exact .of rfl rfl fun _ _ _ _ hV _ => .assign rfl ((fr_in (by kernel_rfl)).trans (hget hV 26 rfl (by kernel_rfl))) rfl
      intro y W _ hE hV
      have y4 : y 4 = .bool true := hend hV 27 rfl
      have HBW := Lib.hid hE.2.1
      simp only [fr, putAll, List.foldl_cons, List.foldl_nil, List.setIfInBounds_toArray, List.set_cons_zero, List.set_cons_succ]
      simp only [y4]
      clear hE hV y4
      go_wp2_with fail
      go_ret
      exact ⟨rfl, HBW.out⟩
  · have hsf : shortB [n] = false := by simpa using hsh
    rw [hsf] at HSh
    clear hsh hsf
    go_enter Tryz.func6, Tryz.ntmps6
    go_wp2_with fail
    refine HSh.out.mono ?_
    rintro e w' ⟨rfl, rfl⟩
    go_wp2_with fail
    refine (HA.out _).mono ?_
    rintro e w2 ⟨rfl, hb⟩
    have HBw := Lib.hid (show Below w.heap.size w w2 from ((((Below.refl _ _).alloc (Nat.le_refl _) _).alloc (by simp) _)).trans (hb.mono (by simp; omega)))
    clear hb
    go_wp2_with fail
    go_ret
    exact ⟨rfl, HBw.out⟩
end Go.Proofs.YtfjmhfmhijhpkaaGreatDoor
