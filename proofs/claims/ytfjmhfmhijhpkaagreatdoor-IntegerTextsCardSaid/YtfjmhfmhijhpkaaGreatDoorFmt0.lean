/- Lists of texts of a call's own; an append of such a list to a new one. The text of an integer, as the program writes it. The text of an integer, as the reference writes it. -/
import Derived.Test.YtfjmhfmhijhpkaaGreatDoorRni
import Derived.Test.YtfjmhfmhijhpkaaGreatDoorWordB
import Derived.Test.YtfjmhfmhijhpkaaGreatDoorDec
import Derived.Test.YtfjmhfmhijhpkaaGreatDoorShelf
import Derived.Maps.AppendAt
import Derived.Lib.Repeat
import Derived.Sort.Grow
import Derived.Deep.Cut
import Derived.Lib.AppendIntMem
import Derived.Lib.Join
import Derived.Test.YtfjmhfmhijhpkaaGreatDoorRdv
namespace Go.Proofs.YtfjmhfmhijhpkaaGreatDoor
open Go.RowKit FF

theorem info_string : (Tryz.prog.info? 9).map (fun i => (i.zero, i.size, i.bytes)) = some (some (.string ⟨#[]⟩), 1, 16) := by kernel_rfl
def cellsT (xs : List ByteArray) : List Value := xs.map Value.string
theorem cellsT_append (xs ys : List ByteArray) : cellsT (xs ++ ys) = cellsT xs ++ cellsT ys := List.map_append
theorem cellsT_length (xs : List ByteArray) : (cellsT xs).length = xs.length := List.length_map ..
theorem cellsT_one (xs : List ByteArray) : ∀ u ∈ cellsT xs, u.oneCell' = true := by
  intro u hu
  obtain ⟨x, -, rfl⟩ := List.mem_map.1 hu
  rfl
/-- a list of texts that a call has made -/
def RowT (B : Nat) (v : Value) (xs : List ByteArray) (w : World) : Prop := w.ownsRow B 9 1 v xs.length (cellsT xs)
theorem RowT.nil (B : Nat) (w : World) : RowT B (.slice none 0 0) [] w := World.ownsRow_nil w B _ 1
theorem RowT.lit (B : Nat) (w : World) (x : ByteArray) (h : B ≤ w.heap.size) : RowT B (.slice (some ⟨w.heap.size, 0, none⟩) 1 1) [x] (w.alloc (.cells #[.string x] 9)) :=
  World.ownsRow_lit w #[.string x] 1 h (by unfold maxLen; omega) rfl
theorem RowT.form {B : Nat} {v : Value} {xs : List ByteArray} {w : World} (h : RowT B v xs w) : (v = .slice none 0 0 ∧ xs = []) ∨ ∃ g cap, v = .slice (some ⟨g, 0, none⟩) xs.length cap ∧ B ≤ g ∧ g < w.heap.size ∧ xs.length ≤ cap ∧ cap ≤ maxLen ∧ ∀ (j : Nat) (x : ByteArray), xs[j]? = some x → w.cell? ⟨g, 0 + j, none⟩ = some (.string x) := by
  rcases h.2 with ⟨h1, h2⟩ | ⟨g, cap, cur, h1, h2, h3, h4, h5, h6, h7⟩
  · exact .inl ⟨h1, List.eq_nil_of_length_eq_zero h2⟩
  · refine .inr ⟨g, cap, h1, h2, (Array.getElem?_eq_some_iff.1 h3).1, h4, h5, fun j x hj => ?_⟩
    have hjl : j < xs.length := (List.getElem?_eq_some_iff.1 hj).1
    have e : (cellsT xs)[j]? = some (.string x) := by unfold cellsT; rw [List.getElem?_map, hj]; rfl
    rw [← h7, List.getElem?_take, if_pos (by omega)] at e
    simp only [World.cell?, h3, Nat.zero_add]
    rw [if_neg (by simp)]
    simpa using e
theorem RowT.of_block {B : Nat} {v : Value} {xs : List ByteArray} {w w' : World} (h : RowT B v xs w) (hb : ∀ g, v.ownBlock = some g → w'.heap[g]? = w.heap[g]?) : RowT B v xs w' := by
  refine ⟨h.1, ?_⟩
  rcases h.2 with h0 | ⟨g, cap, cur, h1, h2, h3, h4⟩
  · exact .inl h0
  · exact .inr ⟨g, cap, cur, h1, h2, by rw [hb g (by rw [h1]; rfl)]; exact h3, h4⟩
theorem RowT.below {B : Nat} {v : Value} {xs : List ByteArray} {w w' : World} (h : RowT B v xs w) (hb : Below w.heap.size w w') : RowT B v xs w' :=
  h.of_block fun g hg => by
    rcases h.2 with ⟨h1, -⟩ | ⟨g', cap, cur, h1, -, h3, -⟩
    · rw [h1] at hg; cases hg
    · rw [h1] at hg
      simp [Value.ownBlock] at hg
      subst hg
      exact hb.block _ (Array.getElem?_eq_some_iff.1 h3).1
theorem RowT.mono {B B' : Nat} {v : Value} {xs : List ByteArray} {w : World} (h : RowT B v xs w) (hb : B' ≤ B) : RowT B' v xs w := by
  refine ⟨h.1, ?_⟩
  rcases h.2 with h0 | ⟨g, cap, cur, h1, h2, h3⟩
  · exact .inl h0
  · exact .inr ⟨g, cap, cur, h1, Nat.le_trans hb h2, h3⟩
/-- append([]string{x}, ys...) -/
theorem run_append_txt (w : World) (ty : TypeId) (i : TypeInfo) (z : Value) (hi : Tryz.prog.info? 9 = some i) (hz : i.zero = some z) (hsize : i.size = 1) (hby : i.bytes = 16) (hzs : z.cells.size = 1)
    {B : Nat} {u : Value} {x : ByteArray} {ys : List ByteArray} (hB : B ≤ w.heap.size) (h : RowT B u ys w) (hbound : ys.length ≤ 1000000) :
    ∃ v' w', (Builtin.append_ #[142, 142] ty #[.slice (some ⟨w.heap.size, 0, none⟩) 1 1, u]).run Tryz.prog (w.alloc (.cells #[.string x] 9)) = .ok v' w' ∧ RowT B v' (x :: ys) w' ∧ Below w.heap.size w w' := by
  have hl := RowT.lit B w x hB
  have h' : RowT B u ys (w.alloc (.cells #[.string x] 9)) := h.below ((Below.refl _ _).alloc (Nat.le_refl _) _)
  rcases h'.form with ⟨rfl, rfl⟩ | ⟨g, cap, rfl, h1, h2, h3, h4, h5⟩
  · exact ⟨_, _, run_append_nothing (P := Tryz.prog) _ 142 ty 9 i Tryz.underlying142 hi _ _ _ _ _ (Nat.le_refl _), hl, (Below.refl _ _).alloc (Nat.le_refl _) _⟩
  · obtain ⟨v', w', hrun, k1, k2, -, k3⟩ := run_append_own_at (P := Tryz.prog) (w.alloc (.cells #[.string x] 9)) w.heap.size 142 ty 9 i z 1 16 Tryz.underlying142 hi hz hsize hby hzs (by decide) _ 1 (cellsT [x]) (RowT.lit w.heap.size w x (Nat.le_refl _)) ⟨g, 0, none⟩ ys.length cap (cellsT ys)
      (by rw [cellsT_length]; omega) (fun j v hj => by
        have hj' : ∃ y, ys[j]? = some y ∧ v = .string y := by
          unfold cellsT at hj
          rw [List.getElem?_map] at hj
          cases hy : ys[j]? with
          | none => rw [hy] at hj; cases hj
          | some y => rw [hy] at hj; exact ⟨y, rfl, (Option.some.inj hj).symm⟩
        obtain ⟨y, hy, rfl⟩ := hj'
        rw [Addr.add_lit]
        exact h5 j y hy) (cellsT_one ys) (Nat.le_trans (show 1 + ys.length ≤ 1000001 by omega) (by decide)) (by omega) (by simp)
    refine ⟨v', w', hrun, ?_, ?_⟩
    · have e : (x :: ys).length = 1 + ys.length := by simp; omega
      refine RowT.mono ?_ hB
      unfold RowT
      rw [e]
      exact k1
    · have hb0 : Below w.heap.size w (w.alloc (.cells #[.string x] 9)) := (Below.refl _ _).alloc (Nat.le_refl _) _
      have hsz := k2.size
      simp at hsz
      exact ⟨k2.os.trans hb0.os, k2.tape.trans hb0.tape, k2.output.trans hb0.output, by omega, fun k hk => (k2.block k (by simp; omega) (by simp [Value.ownBlock]; omega)).trans (hb0.block k hk)⟩
theorem wpList_append_txt (w : World) {ops : Array Oper} {rest : List Oper} {o : Oper} {a : Act} {Q : Exit → Act → World → Prop} (hgd : o.guard = none) (s y : Operand)
    (ho : o.op = .call { callee := .builtin .append, args := #[s, y], argTypes := #[142, 142] }) (i : TypeInfo) (z : Value) (hi : Tryz.prog.info? 9 = some i) (hz : i.zero = some z) (hsize : i.size = 1) (hby : i.bytes = 16) (hzs : z.cells.size = 1)
    {B : Nat} (u : Value) (x : ByteArray) {ys : List ByteArray} (hv : a.eval s = .slice (some ⟨w.heap.size, 0, none⟩) 1 1) (hu : a.eval y = u) (hB : B ≤ w.heap.size) (h : RowT B u ys w) (hbound : ys.length ≤ 1000000)
    (hK : ∀ v' w', RowT B v' (x :: ys) w' → Below w.heap.size w w' → wpList Tryz.prog ops Q rest (a.put o.dst v') w') : wpList Tryz.prog ops Q (o :: rest) a (w.alloc (.cells #[.string x] 9)) := by
  refine wpList_plain hgd fun K hK' => ?_
  obtain ⟨v', w', hrun, r1, r2⟩ := run_append_txt w o.type i z hi hz hsize hby hzs hB h hbound (x := x)
  unfold Oper.wp
  simp [execOp, ho, resolve, invoke, builtin, hv, hu, hrun, Result.andThen]
  exact hK' _ _ (hK v' w' r1 r2)
theorem bstr_app (a b : List UInt8) : (⟨a.toArray⟩ : ByteArray) ++ ⟨b.toArray⟩ = ⟨(a ++ b).toArray⟩ := by
  apply ByteArray.ext
  simp [ByteArray.data_append]
theorem repeat_one (c : UInt8) : ∀ n, Lib.repeatL [c] n = List.replicate n c
  | 0 => rfl
  | n + 1 => by
    rw [Lib.repeatL, repeat_one c n, List.replicate_succ]; rfl
theorem below_grow (w : World) (k : Nat) (os : Array Obj) : Below w.heap.size w (Sort.grow (w.drewN k) os) :=
  ⟨rfl, rfl, rfl, by simp [Sort.grow], fun j hj => by
    show (w.heap ++ os)[j]? = w.heap[j]?
    rw [Array.getElem?_append_left hj]⟩
end Go.Proofs.YtfjmhfmhijhpkaaGreatDoor
namespace Go.Proofs.YtfjmhfmhijhpkaaGreatDoor
open Go.RowKit FF

def flatT (xs : List ByteArray) : List UInt8 := (xs.map (·.data.toList)).flatten
theorem join_none : ∀ l : List (List UInt8), Lib.join l [] = l.flatten
  | [] => rfl
  | [x] => by simp [Lib.join]
  | x :: y :: l => by
    have := join_none (y :: l)
    unfold Lib.join at this ⊢
    rw [List.intercalate_cons_cons, this]
    simp
/-- what holds at the head of Format's loop -/
def FmtRel (T K : Nat) (W0 : World) (B0 : Nat) (j : Nat) (s3 s4 : Value) (wr : World) : Prop :=
  ∃ (A : Option Addr) (cur c : Nat) (ps : List ByteArray), s3 = .slice A (wl cur) c ∧ wl cur ≤ 100000 ∧ Shows .u32 wr A (digs WB cur) ∧ cur < 10 ^ (9 * j) ∧ ps.length + j = K ∧ RowT B0 s4 ps wr ∧
    (cur = 0 → flatT ps = Lib.decDigits T) ∧ (cur ≠ 0 → Lib.decDigits T = Lib.decDigits cur ++ flatT ps) ∧ Below B0 W0 wr
theorem itoa_nat (r : Nat) : Lib.itoa (r : Int) = Lib.decDigits r := Lib.itoa_nonneg r
theorem part_pad {r : Nat} (h : r < 1000000000) : (Lib.decDigits r).length ≤ 9 := dec_len_le (by omega) (by omega)

set_option maxRecDepth 100000 in
set_option maxHeartbeats 4000000 in
theorem Format_any (s : Bool) (A : Option Addr) (n c : Nat) (z : Int) (w : World) (hx : AI w s A n c z) (hl : n ≤ 1000) (htab : Lib.TabBelow Tryz.prog w.heap.size w "internal/strconv.uint64pow10" .u64 Lib.pow10Tab) :
    Calls Tryz.prog 27 #[.agg #[.bool s, .slice A n c]] w fun e w' => e = .returned (.string ⟨(Lib.itoa z).toArray⟩) ∧ Below w.heap.size w w' := by
  obtain ⟨i0, hi, hz0, hz1, hz2⟩ := info_parts info_string
  have HI := Lib.hid hi; have HZ0 := Lib.hid hz0; have HZ1 := Lib.hid hz1; have HZ2 := Lib.hid hz2
  clear hi hz0 hz1 hz2
  obtain ⟨xs, rfl, X, dx, hcx, hcx2, rfl, -⟩ := hx
  have HSx := Lib.hid (fun w' (h : Shows .u32 w' A xs) => size_any s A xs c w' h dx hcx hcx2)
  have HX := Lib.hid X
  have TX := Lib.hid (X.trim dx)
  have HT := Lib.hid htab
  have hla : wl (val WB xs) ≤ xs.length := digs_length_le WB2 (val_lt dx)
  have hTl : val WB xs < 10 ^ (9 * (2 * xs.length)) := by
    have h1 := val_lt dx
    refine Nat.lt_of_lt_of_le h1 ?_
    have : WB ^ xs.length ≤ (10 ^ 18) ^ xs.length := Nat.pow_le_pow_left (by decide) _
    rw [← Nat.pow_mul] at this
    rw [show 9 * (2 * xs.length) = 18 * xs.length by omega]; exact this
  have HTL := Lib.hid hTl
  have HL := Lib.hid (show (Lib.decDigits (val WB xs)).length ≤ 1000000 by
    rcases Nat.eq_zero_or_pos xs.length with h0 | h0
    · have : xs = [] := List.eq_nil_of_length_eq_zero h0
      subst this
      decide +kernel
    · have := dec_len_le (k := 9 * (2 * xs.length)) (by omega) hTl
      omega)
  clear hTl htab X dx hcx hcx2
  generalize xs.length = n at *
  generalize val WB xs = T at *
  have hRep := Lib.hid (fun (d : Nat) (w : World) (hd : d ≤ 9) => Tryz.strings_Repeat ⟨#[48]⟩ d w (by omega) (by show 1 * d ≤ _; omega))
  go_enter Tryz.func27, Tryz.ntmps27
  go_upto_region 1 with fail
  obtain ⟨W0, hW0⟩ : ∃ W0 : World, W0 = w.alloc (.cells #[.bool s, .slice A n c] 55) := ⟨_, rfl⟩
  rw [← hW0]
  have hB0 : Below w.heap.size w W0 := hW0 ▸ (Below.refl _ _).alloc (Nat.le_refl _) _
  have hC0 : W0.cell? ⟨w.heap.size, 0, none⟩ = some (.bool s) ∧ W0.cell? ⟨w.heap.size, 1, none⟩ = some (.slice A n c) := by rw [hW0]; exact ⟨by simp [go_sem], by simp [go_sem]⟩
  have hlt : w.heap.size < W0.heap.size := by rw [hW0]; simp
  clear hW0
  obtain ⟨c0, c1⟩ := hC0
  go_wp2_with fail
  refine (HSx.out W0 (HX.out.below hB0)).mono ?_
  rintro e w1 ⟨rfl, hb1⟩
  have TX1 := Lib.hid (TX.out.below (hB0.trans (hb1.mono hB0.size)))
  have C1 : w1.cell? ⟨w.heap.size, 0, none⟩ = some (.bool s) := by rw [← c0]; exact hb1.cell (p := ⟨w.heap.size, 0, none⟩) hlt
  have hb01 := Lib.hid (hB0.trans (hb1.mono hB0.size))
  have hlt1 : w.heap.size < w1.heap.size := Nat.lt_of_lt_of_le hlt hb1.size
  clear hb1 hB0 hlt c0 c1 HX TX HSx W0
  have HC1 := Lib.hid C1; clear C1
  have HE := Lib.hid (show Lib.itoa (sval s T) = (if T = 0 then [48] else if s = true then 45 :: Lib.decDigits T else Lib.decDigits T) by
    by_cases hT : T = 0
    · rw [hT]; cases s <;> decide +kernel
    · rw [if_neg hT]
      unfold sval
      cases s
      · simp [Lib.itoa_nonneg]
      · simp only [if_true]; exact Lib.itoa_neg T (by omega))
  by_cases hT0 : T = 0
  · have e1 : wl T = 0 := by rw [hT0]; rfl
    rw [if_pos hT0] at HE
    clear hT0
    go_wp2_with fail
    go_ret
    exact ⟨by rw [HE.out]; rfl, hb01.out⟩
  · have e1 : wl T ≠ 0 := fun e => hT0 (wl_eq_zero.1 e)
    have e2 : (((wl T : Nat) : Int) == 0) = false := by simpa using e1
    rw [if_neg hT0] at HE
    have HT0 := Lib.hid hT0
    clear hT0
    go_wp2_with fail
    go_loopg [3, 4] (2 * n) (fun gk s3 s4 wr => FmtRel T (2 * n) w1 w1.heap.size gk s3 s4 wr)
    case atStart => exact ⟨A, T, wl T, [], rfl, by omega, TX1.out, HTL.out, by simp, RowT.nil _ _, fun h => absurd h HT0.out, fun _ => by simp [flatT], Below.refl _ _⟩
    case round =>
      clear e1 e2 TX1 HTL
      obtain ⟨A1, cur, c1, ps, rfl, hcl, hs1, hcur, hk, hR, hz, hnz, hB⟩ := hrel
      have HS1 := Lib.hid hs1; have HR := Lib.hid hR; have HB := Lib.hid hB; have HNZ := Lib.hid hnz; have HCUR := Lib.hid hcur; have HK := Lib.hid hk
      have HTab := Lib.hid (HT.out.on (hb01.out.trans (hB.mono hb01.out.size)))
      clear hs1 hR hB hnz hcur hk
      by_cases h0 : cur = 0
      · have e1 : wl cur = 0 := by rw [h0]; rfl
        have HF := Lib.hid (hz h0)
        have hpl2 : ps.length ≤ 140737488355328 := by have := HK.out; omega
        clear hz h0 HNZ HCUR HK
        rcases HR.out.form with ⟨-, rfl⟩ | ⟨g, cap, rfl, f1, f2, f3, f4, f5⟩
        · exfalso
          have := HF.out
          have h1 := dec_pos T
          rw [← this] at h1
          simp [flatT] at h1
        · have hfl : (flatT ps).length ≤ 140737488355328 := by
            rw [HF.out]; have := HL.out; omega
          have hj := Tryz.strings_Join g 0 cap ps ⟨#[]⟩ wr f5 f2 hpl2 f3 (by rw [show (⟨#[]⟩ : ByteArray).data.toList = [] from rfl, join_none]; exact hfl)
          rw [show (⟨#[]⟩ : ByteArray).data.toList = [] from rfl, join_none, show (ps.map (·.data.toList)).flatten = Lib.decDigits T from HF.out] at hj
          have HJ := Lib.hid hj
          clear hj hfl f1 f2 f3 f4 f5 HF HR
          go_wp2_with fail
          refine HJ.out.mono ?_
          rintro e w3 ⟨rfl, hb3⟩
          have hb13 := HB.out.trans (hb3.mono HB.out.size)
          have c3 : w3.cell? ⟨w.heap.size, 0, none⟩ = some (.bool s) := by rw [← HC1.out]; exact hb13.cell (p := ⟨w.heap.size, 0, none⟩) hlt1
          have HB3 := Lib.hid (hb01.out.trans (hb13.mono hb01.out.size))
          clear hb3 hb13 HJ
          cases s
          · go_wp2_with fail
            go_ret
            exact ⟨by rw [HE.out]; rfl, HB3.out⟩
          · have q1 : ¬ (9223372036854775807 : Int) < 1 + ((Lib.decDigits T).length : Int) := by have := HL.out; omega
            go_wp2_with fail
            go_ret
            exact ⟨by rw [HE.out]; exact congrArg (fun x => Ending.returned (Value.string x)) (bstr_app [45] (Lib.decDigits T)), HB3.out⟩
      · have hpos : 0 < wl cur := Nat.pos_of_ne_zero fun e => h0 (wl_eq_zero.1 e)
        have HNZ2 := Lib.hid (HNZ.out h0)
        have HP := Lib.hid h0
        clear h0 hz HNZ
        have hsh := short_any A1 (digs WB cur) 1000000000 c1 wr HS1.out (dig_digs' WB2 _) (by show wl cur ≤ _; omega) (by decide) (by decide)
        rw [val_digs' WB2] at hsh
        change Calls _ _ #[.slice A1 (wl cur) c1, _] wr _ at hsh
        obtain ⟨nx, hnx⟩ : ∃ nx, nx = cur / 1000000000 := ⟨_, rfl⟩
        obtain ⟨r, hr⟩ : ∃ r, r = cur % 1000000000 := ⟨_, rfl⟩
        rw [← hnx, ← hr] at hsh
        have HSh := Lib.hid hsh
        have hr9 : r < 1000000000 := by omega
        obtain ⟨j, rfl⟩ : ∃ j, gk = j + 1 := by
          rcases gk with - | j
          · exact absurd HCUR.out (by simpa using HP.out)
          · exact ⟨j, rfl⟩
        have HNX := Lib.hid (show nx < 10 ^ (9 * j) by
          have := HCUR.out
          rw [show 9 * (j + 1) = 9 * j + 9 by omega, Nat.pow_add] at this
          rw [hnx]
          exact Nat.div_lt_of_lt_mul (by rw [Nat.mul_comm]; exact this))
        have HD0 := Lib.hid (show nx = 0 → Lib.decDigits cur = Lib.decDigits r by
          intro e
          have : cur < 1000000000 := by omega
          rw [hr, Nat.mod_eq_of_lt this])
        have HD1 := Lib.hid (show nx ≠ 0 → Lib.decDigits cur = Lib.decDigits nx ++ padK 9 r by
          intro e
          have := dec_split 9 cur (by omega) (by rw [show (10 : Nat) ^ 9 = 1000000000 from rfl, ← hnx]; exact e)
          rw [show (10 : Nat) ^ 9 = 1000000000 from rfl, ← hnx, ← hr] at this
          exact this)
        have hnl : wl nx ≤ 100000 := by
          have : wl nx ≤ wl cur := digs_mono WB2 (by rw [hnx]; exact Nat.div_le_self _ _)
          omega
        clear hsh hnx hr HS1 HCUR
        go_wp2_with fail
        refine HSh.out.mono ?_
        rintro e w2 ⟨A2, rfl, hs2, -, hb2⟩
        have HS2 := Lib.hid hs2
        have HB2 := Lib.hid (HB.out.trans (hb2.mono HB.out.size))
        have HR2 := Lib.hid (HR.out.below hb2)
        have HT2 := Lib.hid (HTab.out.on (hb2.mono (Nat.le_trans hb01.out.size HB.out.size)))
        clear hs2 hb2 HSh HR HB HTab
        have hit : ∀ W, Lib.TabBelow Tryz.prog w.heap.size W "internal/strconv.uint64pow10" .u64 Lib.pow10Tab → Calls Tryz.prog 89 #[.int .i64 (r : Int)] W fun e w' => e = .returned (.string ⟨(Lib.decDigits r).toArray⟩) ∧ Below W.heap.size W w' := fun W hW =>
          (Tryz.strconv_Itoa (r : Int) (by omega) (by omega) W hW.here).mono fun e w' h => by
            obtain ⟨rfl, k, os, rfl⟩ := h
            exact ⟨by rw [itoa_nat], below_grow ..⟩
        have HIt := Lib.hid hit
        clear hit
        go_wp2_with fail
        refine (HIt.out w2 HT2.out).mono ?_
        rintro e w3 ⟨rfl, hb3⟩
        have HS3 := Lib.hid (HS2.out.below hb3)
        have HB3 := Lib.hid (HB2.out.trans (hb3.mono HB2.out.size))
        have HR3 := Lib.hid (HR2.out.below hb3)
        have hpl := part_pad hr9
        clear hb3 HS2 HB2 HR2 HT2 HIt
        by_cases h0 : nx = 0
        · subst h0
          have e1 : wl 0 = 0 := rfl
          have HDD := Lib.hid (HD0.out rfl)
          clear HD0 HD1
          go_wp2_with (at_builtin; (refine wpList_append_txt w3 rfl (.tmp 34) (.tmp 35) rfl i0 _ HI.out HZ0.out HZ1.out HZ2.out rfl _ ⟨(Lib.decDigits r).toArray⟩ rfl rfl HB3.out.size HR3.out (by have := HK.out; omega) ?_; rintro v' w4 hr4 hb4))
          go_roundg j
          case measure => exact Nat.lt_succ_self j
          case rel =>
            exact ⟨A2, 0, wl 0, _, rfl, hnl, HS3.out.below hb4, HNX.out, by have := HK.out; simp; omega, hr4, fun _ => by
              rw [HNZ2.out, HDD.out]; simp [flatT], fun h => absurd rfl h, HB3.out.trans (hb4.mono HB3.out.size)⟩
        · have e1 : 0 < wl nx := Nat.pos_of_ne_zero fun e => h0 (wl_eq_zero.1 e)
          have HDD := Lib.hid (HD1.out h0)
          have HN0 := Lib.hid h0
          have HRp := Lib.hid (show ∀ W : World, Calls Tryz.prog 90 #[.string ⟨#[48]⟩, .int .i64 (9 - ((Lib.decDigits r).length : Int))] W fun e w' => e = .returned (.string ⟨(List.replicate (9 - (Lib.decDigits r).length) 48).toArray⟩) ∧ Below W.heap.size W w' from fun W => by
            have := hRep.out (9 - (Lib.decDigits r).length) W (by omega)
            rw [repeat_one] at this
            rw [show (9 : Int) - ((Lib.decDigits r).length : Int) = ((9 - (Lib.decDigits r).length : Nat) : Int) by omega]
            exact this)
          have q1 : ¬ (9223372036854775807 : Int) < ((9 - (Lib.decDigits r).length : Nat) : Int) + ((Lib.decDigits r).length : Int) := by omega
          clear HD0 HD1 h0
          go_wp2_with fail
          refine (HRp.out w3).mono ?_
          rintro e w4 ⟨rfl, hb4⟩
          have HS4 := Lib.hid (HS3.out.below hb4)
          have HB4 := Lib.hid (HB3.out.trans (hb4.mono HB3.out.size))
          have HR4 := Lib.hid (HR3.out.below hb4)
          clear hb4 HS3 HB3 HR3 HRp
          go_wp2_with (at_builtin; (refine wpList_append_txt w4 rfl (.tmp 34) (.tmp 35) rfl i0 _ HI.out HZ0.out HZ1.out HZ2.out rfl _ _ rfl rfl HB4.out.size HR4.out (by have := HK.out; omega) ?_; rintro v' w5 hr5 hb5))
          go_roundg j
          case measure => exact Nat.lt_succ_self j
          case rel =>
            exact ⟨A2, nx, wl nx, _, rfl, hnl, HS4.out.below hb5, HNX.out, by have := HK.out; simp; omega, hr5, fun h => absurd h HN0.out, fun _ => by
              rw [HNZ2.out, HDD.out, List.append_assoc]
              congr 1, HB4.out.trans (hb5.mono HB4.out.size)⟩
end Go.Proofs.YtfjmhfmhijhpkaaGreatDoor
namespace Go.Proofs.YtfjmhfmhijhpkaaGreatDoor
open Go.RowKit FF

/-- what holds at the head of the reference's loop -/
def RfmRel (T : Nat) (W0 : World) (B0 : Nat) (gk : Nat) (s3 s4 : Value) (wr : World) : Prop :=
  ∃ (A : Option Addr) (c : Nat) (t : List UInt8), s3 = .slice A (hl gk) c ∧ s4 = .string ⟨t.toArray⟩ ∧ hl gk ≤ 100000 ∧ Shows .i64 wr A (digs HB gk) ∧
    (gk = 0 → t = Lib.decDigits T) ∧ (gk ≠ 0 → Lib.decDigits T = Lib.decDigits gk ++ t) ∧ Below B0 W0 wr
theorem hl_eq_zero {n : Nat} : hl n = 0 ↔ n = 0 := digs_nil HB2
theorem digs_one {d : Nat} (h0 : d ≠ 0) (h : d < 10) : digs HB d = [d] := by
  have h2 : d / HB = 0 := Nat.div_eq_of_lt (by unfold HB; omega)
  rw [digs_pos HB2 h0, h2, digs_zero, Nat.mod_eq_of_lt (by unfold HB; omega)]

theorem shows_one (w : World) (x : Nat) : Shows .i64 (w.alloc (.cells #[.int .i64 x] 3)) (some ⟨w.heap.size, 0, none⟩) [x] := fun _ => ⟨w.heap.size, 0, rfl, by simp, fun i hi => by
  have : i = 0 := by simpa using hi
  subst this
  simp [go_sem]⟩
theorem shows_ten (w : World) : Shows .i64 (w.alloc (.cells #[.int .i64 10] 3)) (some ⟨w.heap.size, 0, none⟩) (digs HB 10) := shows_one w 10

set_option maxRecDepth 100000 in
set_option maxHeartbeats 4000000 in
theorem rFormat_any (s : Bool) (A : Option Addr) (n c : Nat) (z : Int) (w : World) (hx : AI w s A n c z) (hl' : n ≤ 1000) :
    Calls Tryz.prog 28 #[.agg #[.bool s, .slice A n c]] w fun e w' => e = .returned (.string ⟨(Lib.itoa z).toArray⟩) ∧ Below w.heap.size w w' := by
  have HRd := Lib.hid (fun w' (h : AI w' s A n c z) => rDigits_any s A n c z w' h (by omega))
  have HX := Lib.hid hx
  obtain ⟨xs, e1, X, dx, hcx, hcx2, e2, e3⟩ := hx
  have hT : z.natAbs = val WB xs := by rw [← e2, sval_natAbs]
  have hTl : z.natAbs < 10 ^ (18 * n) := by
    rw [hT]
    have h1 := val_lt dx
    refine Nat.lt_of_lt_of_le h1 ?_
    have : WB ^ xs.length ≤ (10 ^ 18) ^ xs.length := Nat.pow_le_pow_left (by decide) _
    rw [← Nat.pow_mul] at this
    rw [← e1]; exact this
  have HL := Lib.hid (show (Lib.decDigits z.natAbs).length ≤ 1000000 by
    rcases Nat.eq_zero_or_pos n with h0 | h0
    · rw [h0] at hTl
      simp at hTl
      rw [hTl]; decide +kernel
    · have := dec_len_le (k := 18 * n) (by omega) hTl
      omega)
  have hlT : hl z.natAbs ≤ 100000 := by
    have h1 : z.natAbs < HB ^ (2 * n) := by
      rw [hT, Nat.pow_mul, ← e1]
      exact val_lt dx
    have := digs_length_le HB2 h1
    show (digs HB z.natAbs).length ≤ _
    omega
  have HE := Lib.hid (show Lib.itoa z = (if z.natAbs = 0 then [48] else if s = true then 45 :: Lib.decDigits z.natAbs else Lib.decDigits z.natAbs) by
    rw [hT, ← e2]
    generalize val WB xs = T
    by_cases hT : T = 0
    · rw [hT]; cases s <;> decide +kernel
    · rw [if_neg hT]
      unfold sval
      cases s
      · simp [Lib.itoa_nonneg]
      · simp only [if_true]; exact Lib.itoa_neg T (by omega))
  clear e1 X dx hcx hcx2 e2 e3 hT hTl xs
  generalize hzT : z.natAbs = T at *
  clear hzT
  go_enter Tryz.func28, Tryz.ntmps28
  go_upto_region 1 with fail
  obtain ⟨W0, hW0⟩ : ∃ W0 : World, W0 = w.alloc (.cells #[.bool s, .slice A n c] 55) := ⟨_, rfl⟩
  rw [← hW0]
  have hB0 : Below w.heap.size w W0 := hW0 ▸ (Below.refl _ _).alloc (Nat.le_refl _) _
  have hC0 : W0.cell? ⟨w.heap.size, 0, none⟩ = some (.bool s) ∧ W0.cell? ⟨w.heap.size, 1, none⟩ = some (.slice A n c) := by rw [hW0]; exact ⟨by simp [go_sem], by simp [go_sem]⟩
  have hlt : w.heap.size < W0.heap.size := by rw [hW0]; simp
  clear hW0
  obtain ⟨c0, c1⟩ := hC0
  go_wp2_with fail
  refine (HRd.out W0 (HX.out.keep hB0)).mono ?_
  rintro e w1 ⟨A1, c1', rfl, hs1, -, -, -, hb1⟩
  have C1 : w1.cell? ⟨w.heap.size, 0, none⟩ = some (.bool s) := by rw [← c0]; exact hb1.cell (p := ⟨w.heap.size, 0, none⟩) hlt
  have hb01 := Lib.hid (hB0.trans (hb1.mono hB0.size))
  have hlt1 : w.heap.size < w1.heap.size := Nat.lt_of_lt_of_le hlt hb1.size
  have HS1 := Lib.hid hs1
  clear hb1 hB0 hlt c0 c1 HX HRd W0 hs1
  have HC1 := Lib.hid C1; clear C1
  by_cases hT0 : T = 0
  · have e1 : hl T = 0 := by rw [hT0]; rfl
    rw [if_pos hT0] at HE
    clear hT0
    go_wp2_with fail
    go_ret
    exact ⟨by rw [HE.out]; rfl, hb01.out⟩
  · have e1 : hl T ≠ 0 := fun e => hT0 (hl_eq_zero.1 e)
    have e2 : (((hl T : Nat) : Int) == 0) = false := by simpa using e1
    rw [if_neg hT0] at HE
    have HT0 := Lib.hid hT0
    clear hT0
    go_wp2_with fail
    go_loopg [3, 4] T (fun gk s3 s4 wr => RfmRel T w1 w1.heap.size gk s3 s4 wr)
    case atStart => exact ⟨A1, c1', [], rfl, rfl, hlT, HS1.out, fun h => absurd h HT0.out, fun _ => by simp, Below.refl _ _⟩
    case round =>
      clear e1 e2 HS1
      obtain ⟨A2, c2, t, rfl, rfl, hcl, hs2, hz, hnz, hB⟩ := hrel
      have HS2 := Lib.hid hs2; have HB := Lib.hid hB; have HNZ := Lib.hid hnz
      clear hs2 hB hnz
      by_cases h0 : gk = 0
      · have e1 : hl gk = 0 := by rw [h0]; rfl
        have HF := Lib.hid (hz h0)
        clear hz h0 HNZ HS2
        have c3 : wr.cell? ⟨w.heap.size, 0, none⟩ = some (.bool s) := by rw [← HC1.out]; exact HB.out.cell (p := ⟨w.heap.size, 0, none⟩) hlt1
        have HB3 := Lib.hid (hb01.out.trans (HB.out.mono hb01.out.size))
        have q1 : ¬ (9223372036854775807 : Int) < 1 + (t.length : Int) := by have := HL.out; rw [← HF.out] at this; omega
        cases s
        · go_wp2_with fail
          go_ret
          exact ⟨by rw [HE.out, ← HF.out]; rfl, HB3.out⟩
        · go_wp2_with fail
          go_ret
          exact ⟨by rw [HE.out, ← HF.out]; exact congrArg (fun x => Ending.returned (Value.string x)) (bstr_app [45] t), HB3.out⟩
      · have hpos : 0 < hl gk := Nat.pos_of_ne_zero fun e => h0 (hl_eq_zero.1 e)
        have HNZ2 := Lib.hid (HNZ.out h0)
        have HP := Lib.hid h0
        clear h0 hz HNZ
        obtain ⟨W1, hW1⟩ : ∃ W1 : World, W1 = wr.alloc (.cells #[.int .i64 10] 3) := ⟨_, rfl⟩
        have hbW : Below wr.heap.size wr W1 := hW1 ▸ (Below.refl _ _).alloc (Nat.le_refl _) _
        have hdv := rDivide_any A2 (some ⟨wr.heap.size, 0, none⟩) gk 10 c2 1 W1 (HS2.out.below hbW) (hW1 ▸ shows_ten wr) (by omega) (by decide) (by decide)
        unfold RDivPost at hdv
        rw [show hl 10 = 1 from rfl, hW1] at hdv
        have HDv := Lib.hid hdv
        clear hdv
        go_wp2_with fail
        obtain ⟨q, hq⟩ : ∃ q, q = gk / 10 := ⟨_, rfl⟩
        obtain ⟨d, hd⟩ : ∃ d, d = gk % 10 := ⟨_, rfl⟩
        obtain ⟨ch, hch⟩ : ∃ ch, ch = UInt8.ofNat (48 + d) := ⟨_, rfl⟩
        rw [← hq, ← hd] at HDv
        have hd10 : d < 10 := by omega
        have hqg : q < gk := by have := HP.out; omega
        have HD0 := Lib.hid (show q = 0 → Lib.decDigits gk = [ch] by
          intro e
          rw [hch, dec_small (show gk < 10 by omega), show d = gk by omega])
        have HD1 := Lib.hid (show q ≠ 0 → Lib.decDigits gk = Lib.decDigits q ++ [ch] by
          intro e
          rw [hch, dec_big (show 10 ≤ gk by omega), ← hq, ← hd])
        have hql : hl q ≤ 100000 := by
          have : hl q ≤ hl gk := digs_mono HB2 (Nat.le_of_lt hqg)
          omega
        clear hq hd HS2
        refine HDv.out.mono ?_
        rintro e w2 ⟨A3, c3, A4, c4, rfl, -, -, -, -, hs3, hs4, hb2⟩
        rw [← hW1] at hb2
        have hb2' := hbW.trans (hb2.mono hbW.size)
        have HS3 := Lib.hid hs3
        have HB2 := Lib.hid (HB.out.trans (hb2'.mono HB.out.size))
        clear hs3 hb2 hb2' hbW HDv HB
        clear hW1 W1
        have hsl : ∀ W, (Instr.sliceAt 9 (.string ⟨#[48, 49, 50, 51, 52, 53, 54, 55, 56, 57]⟩) (some (.int .i64 (d : Int))) (some (.int .i64 ((d : Int) + 1))) none).run Tryz.prog W = .ok (.string ⟨#[ch]⟩) W := by
          intro W
          rw [hch]
          clear hch HD0 HD1
          rcases (show d = 0 ∨ d = 1 ∨ d = 2 ∨ d = 3 ∨ d = 4 ∨ d = 5 ∨ d = 6 ∨ d = 7 ∨ d = 8 ∨ d = 9 by omega) with rfl | rfl | rfl | rfl | rfl | rfl | rfl | rfl | rfl | rfl <;> kernel_rfl
        have HCH := Lib.hid hch
        clear hch
        have q1 : ¬ (9223372036854775807 : Int) < 1 + (t.length : Int) := by
          have h1 := HL.out
          rw [HNZ2.out] at h1
          simp at h1
          omega
        by_cases h0 : d = 0
        · have e1 : hl d = 0 := by rw [h0]; rfl
          subst h0
          go_wp2_with fail
          go_roundg q
          case measure => exact hqg
          case rel =>
            exact ⟨A3, c3, [ch] ++ t, rfl, congrArg Value.string (by rw [show (⟨#[48, 49, 50, 51, 52, 53, 54, 55, 56, 57]⟩ : ByteArray).extract 0 1 = ⟨[ch].toArray⟩ by rw [HCH.out]; decide +kernel]; exact bstr_app [ch] t), hql, HS3.out, fun h => by rw [HNZ2.out, HD0.out h], fun h => by rw [HNZ2.out, HD1.out h, List.append_assoc], HB2.out⟩
        · have hd1 : digs HB d = [d] := digs_one h0 hd10
          rw [hd1] at hs4
          obtain ⟨b4, o4, rfl, hb4, hc4⟩ := hs4 (by simp)
          have c40 : w2.cell? ⟨b4, o4, none⟩ = some (.int .i64 d) := by simpa using hc4 0 (by simp)
          have e1 : hl d = 1 := by unfold hl; rw [hd1]; rfl
          clear hc4 hs4
          go_wp2_with fail
          go_roundg q
          case measure => exact hqg
          case rel =>
            exact ⟨A3, c3, [ch] ++ t, rfl, congrArg Value.string (bstr_app [ch] t), hql, HS3.out, fun h => by rw [HNZ2.out, HD0.out h], fun h => by rw [HNZ2.out, HD1.out h, List.append_assoc], HB2.out⟩
end Go.Proofs.YtfjmhfmhijhpkaaGreatDoor
