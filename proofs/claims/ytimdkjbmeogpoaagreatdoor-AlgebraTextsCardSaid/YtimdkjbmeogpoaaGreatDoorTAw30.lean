/- strings.Builder of the call's own: what its writing methods do. The text of (1 - 2i + k)/3 in the program. The awake examples of chapter 3. -/
import Derived.Test.YtimdkjbmeogpoaaGreatDoorTBase
import Derived.Test.YtimdkjbmeogpoaaGreatDoorTOwn0
import Derived.Test.YtimdkjbmeogpoaaGreatDoorTShelf
import Derived.Lib.Builder
import Derived.Lib.AppendStr
import Derived.Shelf.Strings.Builder1
import Derived.Test.YtimdkjbmeogpoaaGreatDoorTQj0
import Derived.Test.YtimdkjbmeogpoaaGreatDoorTRam0
import Derived.Test.YtimdkjbmeogpoaaGreatDoorTRmf0
namespace Go.Proofs.YtimdkjbmeogpoaaGreatDoor
open Go.RowKit FF
theorem bld_info : (Tryz.prog.info? 135).map (·.size) = some 2 := by kernel_rfl
theorem bld_lies : liesAt Tryz.prog Tryz.prog.depth 135 (2 / Tryz.prog.cellsOf 135) 0 135 1 = true := by kernel_rfl
theorem byte_info : (Tryz.prog.info? 5).map (fun i => (i.zero, i.size, i.bytes)) = some (some (.int .u8 0), 1, 1) := by kernel_rfl
set_option maxHeartbeats 1000000 in
set_option maxRecDepth 100000 in
theorem bcheck_used (b : Nat) (w : World) (h0 : w.cell? ⟨b, 0, none⟩ = some (.pointer (some ⟨b, 0, none⟩))) :
    Calls Tryz.prog 131 #[.pointer (some ⟨b, 0, none⟩)] w fun e w' => e = .returned (.tuple #[]) ∧ w' = w := by
  obtain ⟨j, hj, _⟩ := Option.map_eq_some_iff.1 bld_info
  go_enter Tryz.func131, Tryz.ntmps131
  go_wp2_with fail
  rw [Lib.run_neq_ptr_same w _ Tryz.underlying132 hj]
  go_wp2_with fail
  go_end0
  exact ⟨rfl, rfl⟩
set_option maxHeartbeats 1000000 in
set_option maxRecDepth 100000 in
theorem bcheck_fresh (b : Nat) (w : World) (h0 : w.cell? ⟨b, 0, none⟩ = some (.pointer none)) (hsh : w.shape? b = some (135, 2)) (hfz : w.frozen? ⟨b, 0, none⟩ = false) :
    Calls Tryz.prog 131 #[.pointer (some ⟨b, 0, none⟩)] w fun e w' => e = .returned (.tuple #[]) ∧ w' = w.setCell ⟨b, 0, none⟩ (.pointer (some ⟨b, 0, none⟩)) := by
  obtain ⟨j, hj, hjs⟩ := Option.map_eq_some_iff.1 bld_info
  go_enter Tryz.func131, Tryz.ntmps131
  go_wp2_with fail
  rw [Lib.run_to_unsafe w ⟨b, 0, none⟩ Tryz.underlying132 Tryz.underlying188 hj (by rw [hjs]; decide) hsh (Nat.zero_lt_succ 1)]
  simp only [Result.andThen]
  rw [Oper.upon_value]
  go_wp2_with fail
  rw [run_callFunc_extern Tryz.func155 (by kernel_rfl) (by kernel_rfl) (by kernel_rfl) (e := Extern.AbiNoEscape.same) (by kernel_rfl)]
  rw [Lib.run_noEscape]
  simp only [Result.andThen]
  rw [Oper.upon_value]
  go_wp2_with fail
  rw [Lib.run_from_unsafe w ⟨b, 0, none⟩ Tryz.underlying188 Tryz.underlying132 hj hsh bld_lies]
  simp only [Result.andThen]
  rw [Oper.upon_value]
  go_wp2_with fail
  go_end0
  exact ⟨rfl, rfl⟩
abbrev Bldr (B b : Nat) (bs : List Value) (w : World) : Prop := Lib.IsBuilder 135 5 B b bs w
theorem bcheck_any (B b : Nat) (bs : List Value) (w : World) (h : Bldr B b bs w) :
    Calls Tryz.prog 131 #[.pointer (some ⟨b, 0, none⟩)] w fun e w' => e = .returned (.tuple #[]) ∧ Lib.BuilderAt 135 5 B b (.pointer (some ⟨b, 0, none⟩)) bs w' ∧ Below B w w' := by
  rcases h with h | h
  · refine (bcheck_fresh b w h.cell0 h.shape h.frozen0).mono ?_
    rintro e w' ⟨rfl, rfl⟩
    exact ⟨rfl, h.used _, (Below.refl B w).setCell (p := ⟨b, 0, none⟩) h.1 _⟩
  · refine (bcheck_used b w h.cell0).mono ?_
    rintro e w' ⟨rfl, rfl⟩
    exact ⟨rfl, h, Below.refl B _⟩
set_option maxHeartbeats 2000000 in
set_option maxRecDepth 100000 in
theorem WriteString_any (B b : Nat) (bs : List Value) (s : ByteArray) (w : World) (h : Bldr B b bs w) (hlen : bs.length + s.size ≤ 140737488355328) (hBw : B ≤ w.heap.size) :
    Calls Tryz.prog 89 #[.pointer (some ⟨b, 0, none⟩), .string s] w fun e w' => e = .returned (.tuple #[.int .i64 s.size, .nilIface]) ∧ Bldr B b (bs ++ Lib.strCells s) w' ∧ Below B w w' := by
  obtain ⟨i0, hi, hz0, hz1, hz2⟩ := info_parts byte_info
  have HI := Lib.hid hi; have HZ0 := Lib.hid hz0; have HZ1 := Lib.hid hz1; have HZ2 := Lib.hid hz2
  have HC := Lib.hid (fun w h => bcheck_any B b bs w h)
  have HL := Lib.hid hlen
  clear hi hz0 hz1 hz2 hlen
  go_enter Tryz.func89, Tryz.ntmps89
  go_wp2_with fail
  refine (HC.out _ h).mono ?_
  rintro e w1 ⟨rfl, h1, hb1⟩
  obtain ⟨hB, v, hbk, hown, hne⟩ := h1
  have c0 : w1.cell? ⟨b, 0, none⟩ = some (.pointer (some ⟨b, 0, none⟩)) := by rw [Lib.cell_of_heap hbk]; rfl
  have c1 : w1.cell? ⟨b, 1, none⟩ = some v := by rw [Lib.cell_of_heap hbk]; rfl
  have hsz := hb1.size
  go_wp2_with (at_builtin; refine Lib.wpList_append_own_string _ rfl _ _ 133 9 rfl B 5 i0 Tryz.underlying133 Tryz.underlying9 HI.out HZ0.out HZ1.out HZ2.out _ _ _ rfl hown s rfl (by have := HL.out; unfold maxLen; omega) (by have := HL.out; omega) (by omega) ?_)
  intro v' w2 hown' hgrow _
  have hlt : b < w1.heap.size := (Array.getElem?_eq_some_iff.1 hbk).1
  have hb2 : w2.heap[b]? = some (.cells #[.pointer (some ⟨b, 0, none⟩), v] 135 (0, 0)) := by
    rw [hgrow.block b hlt (fun e => hne e.symm)]
    exact hbk
  have d0 : w2.cell? ⟨b, 0, none⟩ = some (.pointer (some ⟨b, 0, none⟩)) := by rw [Lib.cell_of_heap hb2]; rfl
  have d1 : w2.cell? ⟨b, 1, none⟩ = some v := by rw [Lib.cell_of_heap hb2]; rfl
  have f1 : w2.frozen? ⟨b, 1, none⟩ = false := Lib.frozen_of_heap hb2 1
  obtain ⟨ao, n', cap, rfl⟩ : ∃ ao n' cap, v' = .slice ao n' cap := by
    rcases hown'.2 with ⟨hv, _⟩ | ⟨g, cap, cur, hv, _⟩
    · exact ⟨_, _, _, hv⟩
    · exact ⟨_, _, _, hv⟩
  go_wp2_with fail
  go_ret2
  exact ⟨rfl, .inr (Lib.BuilderAt.put (T := 135) (e := 5) hB hb2 (bs' := bs ++ Lib.strCells s) (by simpa [Lib.strCells_length] using hown') (by decide)),
    (hb1.grown hgrow (by omega) (fun k hk => (hown.lt k hk).1)).setCell (p := ⟨b, 1, none⟩) hB _⟩
set_option maxHeartbeats 2000000 in
set_option maxRecDepth 100000 in
theorem WriteByte_any (B b : Nat) (bs : List Value) (c : Int) (w : World) (h : Bldr B b bs w) (hlen : bs.length + 1 ≤ 140737488355328) (hBw : B ≤ w.heap.size) :
    Calls Tryz.prog 90 #[.pointer (some ⟨b, 0, none⟩), .int .u8 c] w fun e w' => e = .returned .nilIface ∧ Bldr B b (bs ++ [.int .u8 c]) w' ∧ Below B w w' := by
  obtain ⟨i0, hi, hz0, hz1, hz2⟩ := info_parts byte_info
  have HI := Lib.hid hi; have HZ0 := Lib.hid hz0; have HZ1 := Lib.hid hz1; have HZ2 := Lib.hid hz2
  have HC := Lib.hid (fun w h => bcheck_any B b bs w h)
  have HL := Lib.hid hlen
  clear hi hz0 hz1 hz2 hlen
  go_enter Tryz.func90, Tryz.ntmps90
  go_wp2_with fail
  refine (HC.out _ h).mono ?_
  rintro e w1 ⟨rfl, h1, hb1⟩
  obtain ⟨hB, v, hbk, hown, hne⟩ := h1
  have c0 : w1.cell? ⟨b, 0, none⟩ = some (.pointer (some ⟨b, 0, none⟩)) := by rw [Lib.cell_of_heap hbk]; rfl
  have c1 : w1.cell? ⟨b, 1, none⟩ = some v := by rw [Lib.cell_of_heap hbk]; rfl
  have hsz := hb1.size
  go_wp2_with (at_builtin; refine wpList_append_own _ rfl _ _ 133 rfl B 5 i0 (.int .u8 0) 1 1 Tryz.underlying133 HI.out HZ0.out HZ1.out HZ2.out rfl (by decide) _ _ _ rfl (hown.alloc _) ⟨w1.heap.size, 0, none⟩ 1 1 [.int .u8 c] rfl rfl ?c1 ?c2 ?c3 ?c4 ?c5 ?_)
  case c1 =>
    intro j u hj
    match j, hj with
    | 0, hj => simp at hj; subst hj; simp [Addr.add]
  case c2 => intro u hu; simp at hu; subst hu; rfl
  case c3 => have := HL.out; unfold maxLen; omega
  case c4 => have := HL.out; omega
  case c5 => simp; omega
  intro v' w2 hown' hgrow _
  have hlt : b < w1.heap.size := (Array.getElem?_eq_some_iff.1 hbk).1
  have hb2 : w2.heap[b]? = some (.cells #[.pointer (some ⟨b, 0, none⟩), v] 135 (0, 0)) := by
    rw [hgrow.block b (by simp; omega) (fun e => hne e.symm), Lib.alloc_old w1 _ b hlt]
    exact hbk
  have d0 : w2.cell? ⟨b, 0, none⟩ = some (.pointer (some ⟨b, 0, none⟩)) := by rw [Lib.cell_of_heap hb2]; rfl
  have d1 : w2.cell? ⟨b, 1, none⟩ = some v := by rw [Lib.cell_of_heap hb2]; rfl
  have f1 : w2.frozen? ⟨b, 1, none⟩ = false := Lib.frozen_of_heap hb2 1
  obtain ⟨g, cap, rfl⟩ : ∃ g cap, v' = .slice (some ⟨g, 0, none⟩) (bs.length + 1) cap := by
    rcases hown'.2 with ⟨_, h0⟩ | ⟨g, cap, cur, hv, _⟩
    · omega
    · exact ⟨g, cap, hv⟩
  go_wp2_with fail
  go_ret
  exact ⟨rfl, .inr (Lib.BuilderAt.put (T := 135) (e := 5) hB hb2 (bs' := bs ++ [.int .u8 c]) (by simpa using hown') (by decide)),
    ((hb1.alloc (by omega) _).grown hgrow (by simp; omega) (fun k hk => (hown.lt k hk).1)).setCell (p := ⟨b, 1, none⟩) hB _⟩
end Go.Proofs.YtimdkjbmeogpoaaGreatDoor
namespace Go.Proofs.YtimdkjbmeogpoaaGreatDoor
open Go.RowKit FF
theorem bytes_app (l : List UInt8) (s : ByteArray) : Lib.byteCells l ++ Lib.strCells s = Lib.byteCells (l ++ s.data.toList) := by
  simp [Lib.byteCells, Lib.strCells]
theorem bytes_one (l : List UInt8) (c : UInt8) : Lib.byteCells l ++ [Value.int .u8 (c.toNat : Int)] = Lib.byteCells (l ++ [c]) := by simp [Lib.byteCells]
def Bl (B b : Nat) (l : List UInt8) (w : World) : Prop := Bldr B b (Lib.byteCells l) w ∧ B ≤ w.heap.size
theorem Bl.len {B b : Nat} {l : List UInt8} {w : World} (h : Bl B b l w) {k : Int} (hk : (l.length : Int) = k) :
    Calls Tryz.prog 88 #[.pointer (some ⟨b, 0, none⟩)] w fun e w' => e = .returned (.int .i64 k) ∧ w' = w := by
  have h2 := Tryz.Builder_Len B b _ w h.1
  rw [Lib.byteCells_length, hk] at h2
  exact h2
theorem Bl.str {B b : Nat} {l : List UInt8} {w : World} (h : Bl B b l w) (s : ByteArray) (hl : l.length + s.size ≤ 140737488355328) :
    Calls Tryz.prog 89 #[.pointer (some ⟨b, 0, none⟩), .string s] w fun e w' => e = .returned (.tuple #[.int .i64 s.size, .nilIface]) ∧ Bl B b (l ++ s.data.toList) w' ∧ Below B w w' := by
  refine (WriteString_any B b _ s w h.1 (by rw [Lib.byteCells_length]; exact hl) h.2).mono ?_
  rintro e w' ⟨he, hb, hw⟩
  rw [bytes_app] at hb
  exact ⟨he, ⟨hb, Nat.le_trans h.2 hw.size⟩, hw⟩
theorem Bl.byte {B b : Nat} {l : List UInt8} {w : World} (h : Bl B b l w) (c : UInt8) (k : Int) (hc : (c.toNat : Int) = k) (hl : l.length + 1 ≤ 140737488355328) :
    Calls Tryz.prog 90 #[.pointer (some ⟨b, 0, none⟩), .int .u8 k] w fun e w' => e = .returned .nilIface ∧ Bl B b (l ++ [c]) w' ∧ Below B w w' := by
  subst hc
  refine (WriteByte_any B b _ c.toNat w h.1 (by rw [Lib.byteCells_length]; exact hl) h.2).mono ?_
  rintro e w' ⟨he, hb, hw⟩
  rw [bytes_one] at hb
  exact ⟨he, ⟨hb, Nat.le_trans h.2 hw.size⟩, hw⟩
theorem Bl.string {B b : Nat} {l : List UInt8} {w : World} (h : Bl B b l w) :
    Calls Tryz.prog 91 #[.pointer (some ⟨b, 0, none⟩)] w fun e w' => e = .returned (.string ⟨l.toArray⟩) ∧ Below B w w' := Tryz.Builder_String_any B b l w h.1 h.2
theorem Bl.fresh (w : World) {B b : Nat} (hB : B ≤ b) (hb : w.heap.size = b) (T : TypeId) (hT : T = 135) : Bl B b [] (w.alloc (.cells #[.pointer none, .slice none 0 0] T)) := by
  subst hb; subst hT
  refine ⟨.inl ⟨hB, .slice none 0 0, (MapKept.heap_alloc w _).1, ⟨rfl, .inl ⟨rfl, rfl⟩⟩, by simp [Value.ownBlock]⟩, by simp; omega⟩
theorem abs_ex (n k : Int) (w : World) (hk : (n.natAbs : Int) = k) (h1 : -9223372036854775807 ≤ n) (h2 : n ≤ 9223372036854775807) :
    Calls Tryz.prog 81 #[.int .i64 n] w fun e w' => e = .returned (.int .i64 k) ∧ (∀ B b l, Bl B b l w → Bl B b l w') ∧ Below w.heap.size w w' := by
  subst hk
  refine (qabs_any n w h1 h2).mono ?_
  rintro e w' ⟨he, m, rfl⟩
  exact ⟨he, fun _ _ _ h => h, below_drewN (Below.refl _ _) m⟩
theorem itoa1 (w : World) : Calls Tryz.prog 50 #[.int .i64 1] w fun e w' => e = .returned (.string ⟨#[49]⟩) ∧ w' = w := by
  have h := Tryz.strconv_Itoa_small 1 (by omega) w
  rw [show Lib.decDigits 1 = [49] by decide +kernel] at h; exact h
theorem itoa2 (w : World) : Calls Tryz.prog 50 #[.int .i64 2] w fun e w' => e = .returned (.string ⟨#[50]⟩) ∧ w' = w := by
  have h := Tryz.strconv_Itoa_small 2 (by omega) w
  rw [show Lib.decDigits 2 = [50] by decide +kernel] at h; exact h
theorem itoa3 (w : World) : Calls Tryz.prog 50 #[.int .i64 3] w fun e w' => e = .returned (.string ⟨#[51]⟩) ∧ w' = w := by
  have h := Tryz.strconv_Itoa_small 3 (by omega) w
  rw [show Lib.decDigits 3 = [51] by decide +kernel] at h; exact h
@[local go_sem] theorem run_c0 (c0 c1 c2 c3 : Value) (w : World) : (Instr.index 84 (.agg #[c0, c1, c2, c3]) (.int .i64 0)).run Tryz.prog w = .ok c0 w := by kernel_rfl
@[local go_sem] theorem run_c1 (c0 c1 c2 c3 : Value) (w : World) : (Instr.index 84 (.agg #[c0, c1, c2, c3]) (.int .i64 1)).run Tryz.prog w = .ok c1 w := by kernel_rfl
@[local go_sem] theorem run_c2 (c0 c1 c2 c3 : Value) (w : World) : (Instr.index 84 (.agg #[c0, c1, c2, c3]) (.int .i64 2)).run Tryz.prog w = .ok c2 w := by kernel_rfl
@[local go_sem] theorem run_c3 (c0 c1 c2 c3 : Value) (w : World) : (Instr.index 84 (.agg #[c0, c1, c2, c3]) (.int .i64 3)).run Tryz.prog w = .ok c3 w := by kernel_rfl
@[local go_sem] theorem run_k1 (w : World) : (Instr.index 9 (.string ⟨#[63, 105, 106, 107]⟩) (.int .i64 1)).run Tryz.prog w = .ok (.int .u8 105) w := by kernel_rfl
@[local go_sem] theorem run_k2 (w : World) : (Instr.index 9 (.string ⟨#[63, 105, 106, 107]⟩) (.int .i64 2)).run Tryz.prog w = .ok (.int .u8 106) w := by kernel_rfl
@[local go_sem] theorem run_k3 (w : World) : (Instr.index 9 (.string ⟨#[63, 105, 106, 107]⟩) (.int .i64 3)).run Tryz.prog w = .ok (.int .u8 107) w := by kernel_rfl
set_option maxHeartbeats 4000000 in
set_option maxRecDepth 100000 in
theorem text_ex (w : World) : Calls Tryz.prog 49 #[.agg #[.int .i64 1, .int .i64 (-2), .int .i64 0, .int .i64 1]] w fun e w' => e = .returned (.string ⟨#[49, 32, 45, 32, 50, 105, 32, 43, 32, 107]⟩) ∧ Below w.heap.size w w' := by
  have A1 := Lib.hid (fun w => abs_ex 1 1 w rfl (by omega) (by omega))
  have A2 := Lib.hid (fun w => abs_ex (-2) 2 w rfl (by omega) (by omega))
  go_enter Tryz.func49, Tryz.ntmps49
  go_wp2_with fail
  have hB := Bl.fresh (w.alloc (.cells #[.int .i64 1, .int .i64 (-2), .int .i64 0, .int .i64 1] 84)) (B := w.heap.size) (b := w.heap.size + 1) (by omega) (by simp) _ rfl
  have hW : Below w.heap.size w ((w.alloc (.cells #[.int .i64 1, .int .i64 (-2), .int .i64 0, .int .i64 1] 84)).alloc (.cells #[.pointer none, .slice none 0 0] 135)) := below_2 _ _
  have HB := Lib.hid hB
  have HW := Lib.hid hW
  clear hB hW
  generalize ((w.alloc (.cells #[.int .i64 1, .int .i64 (-2), .int .i64 0, .int .i64 1] 84)).alloc (.cells #[.pointer none, .slice none 0 0] 135)) = W at *
  refine wp_loop_rounds 5 ?_
  rw [rounds_succ]
  go_wp2_with fail
  refine (HB.out.len (k := 0) rfl).mono ?_
  rintro e w1 ⟨rfl, rfl⟩
  go_wp2_with fail
  refine (HB.out.len (k := 0) rfl).mono ?_
  rintro e w1 ⟨rfl, rfl⟩
  go_wp2_with fail
  refine (HB.out.len (k := 0) rfl).mono ?_
  rintro e w1 ⟨rfl, rfl⟩
  go_wp2_with fail
  refine (A1.out _).mono ?_
  rintro e w1 ⟨rfl, hb1, hw1⟩
  have HB1 := Lib.hid (hb1 _ _ _ HB.out); clear HB; have HB := Lib.hid HB1.out; clear HB1
  have HW1 := Lib.hid (HW.out.trans (hw1.mono HW.out.size)); clear HW; have HW := Lib.hid HW1.out; clear HW1 hb1 hw1
  go_wp2_with fail
  refine (itoa1 _).mono ?_
  rintro e w1 ⟨rfl, rfl⟩
  go_wp2_with fail
  refine (HB.out.str ⟨#[49]⟩ (by decide)).mono ?_
  rintro e w1 ⟨rfl, hb1, hw1⟩
  rw [show ([] ++ (ByteArray.mk #[49]).data.toList : List UInt8) = [49] from rfl] at hb1
  have HB1 := Lib.hid hb1; have HW1 := Lib.hid (HW.out.trans hw1); clear hb1 hw1 HB HW; have HB := Lib.hid HB1.out; have HW := Lib.hid HW1.out; clear HB1 HW1
  go_wp2_with fail
  rw [rounds_succ]
  go_wp2_with fail
  refine (HB.out.len (k := 1) rfl).mono ?_
  rintro e w1 ⟨rfl, rfl⟩
  go_wp2_with fail
  refine (HB.out.len (k := 1) rfl).mono ?_
  rintro e w1 ⟨rfl, rfl⟩
  go_wp2_with fail
  refine (HB.out.str ⟨#[32, 45, 32]⟩ (by decide)).mono ?_
  rintro e w1 ⟨rfl, hb1, hw1⟩
  rw [show ([49] ++ (ByteArray.mk #[32, 45, 32]).data.toList : List UInt8) = [49, 32, 45, 32] from rfl] at hb1
  have HB1 := Lib.hid hb1; have HW1 := Lib.hid (HW.out.trans hw1); clear hb1 hw1 HB HW; have HB := Lib.hid HB1.out; have HW := Lib.hid HW1.out; clear HB1 HW1
  go_wp2_with fail
  refine (A2.out _).mono ?_
  rintro e w1 ⟨rfl, hb1, hw1⟩
  have HB1 := Lib.hid (hb1 _ _ _ HB.out); clear HB; have HB := Lib.hid HB1.out; clear HB1
  have HW1 := Lib.hid (HW.out.trans (hw1.mono HW.out.size)); clear HW; have HW := Lib.hid HW1.out; clear HW1 hb1 hw1
  go_wp2_with fail
  refine (A2.out _).mono ?_
  rintro e w1 ⟨rfl, hb1, hw1⟩
  have HB1 := Lib.hid (hb1 _ _ _ HB.out); clear HB; have HB := Lib.hid HB1.out; clear HB1
  have HW1 := Lib.hid (HW.out.trans (hw1.mono HW.out.size)); clear HW; have HW := Lib.hid HW1.out; clear HW1 hb1 hw1
  go_wp2_with fail
  refine (itoa2 _).mono ?_
  rintro e w1 ⟨rfl, rfl⟩
  go_wp2_with fail
  refine (HB.out.str ⟨#[50]⟩ (by decide)).mono ?_
  rintro e w1 ⟨rfl, hb1, hw1⟩
  rw [show ([49, 32, 45, 32] ++ (ByteArray.mk #[50]).data.toList : List UInt8) = [49, 32, 45, 32, 50] from rfl] at hb1
  have HB1 := Lib.hid hb1; have HW1 := Lib.hid (HW.out.trans hw1); clear hb1 hw1 HB HW; have HB := Lib.hid HB1.out; have HW := Lib.hid HW1.out; clear HB1 HW1
  go_wp2_with fail
  refine (HB.out.byte 105 105 rfl (by decide)).mono ?_
  rintro e w1 ⟨rfl, hb1, hw1⟩
  rw [show ([49, 32, 45, 32, 50] ++ [105] : List UInt8) = [49, 32, 45, 32, 50, 105] from rfl] at hb1
  have HB1 := Lib.hid hb1; have HW1 := Lib.hid (HW.out.trans hw1); clear hb1 hw1 HB HW; have HB := Lib.hid HB1.out; have HW := Lib.hid HW1.out; clear HB1 HW1
  go_wp2_with fail
  rw [rounds_succ]
  go_wp2_with fail
  rw [rounds_succ]
  go_wp2_with fail
  refine (HB.out.len (k := 6) rfl).mono ?_
  rintro e w1 ⟨rfl, rfl⟩
  go_wp2_with fail
  refine (HB.out.len (k := 6) rfl).mono ?_
  rintro e w1 ⟨rfl, rfl⟩
  go_wp2_with fail
  refine (HB.out.len (k := 6) rfl).mono ?_
  rintro e w1 ⟨rfl, rfl⟩
  go_wp2_with fail
  refine (HB.out.str ⟨#[32, 43, 32]⟩ (by decide)).mono ?_
  rintro e w1 ⟨rfl, hb1, hw1⟩
  rw [show ([49, 32, 45, 32, 50, 105] ++ (ByteArray.mk #[32, 43, 32]).data.toList : List UInt8) = [49, 32, 45, 32, 50, 105, 32, 43, 32] from rfl] at hb1
  have HB1 := Lib.hid hb1; have HW1 := Lib.hid (HW.out.trans hw1); clear hb1 hw1 HB HW; have HB := Lib.hid HB1.out; have HW := Lib.hid HW1.out; clear HB1 HW1
  go_wp2_with fail
  refine (A1.out _).mono ?_
  rintro e w1 ⟨rfl, hb1, hw1⟩
  have HB1 := Lib.hid (hb1 _ _ _ HB.out); clear HB; have HB := Lib.hid HB1.out; clear HB1
  have HW1 := Lib.hid (HW.out.trans (hw1.mono HW.out.size)); clear HW; have HW := Lib.hid HW1.out; clear HW1 hb1 hw1
  go_wp2_with fail
  refine (HB.out.byte 107 107 rfl (by decide)).mono ?_
  rintro e w1 ⟨rfl, hb1, hw1⟩
  rw [show ([49, 32, 45, 32, 50, 105, 32, 43, 32] ++ [107] : List UInt8) = [49, 32, 45, 32, 50, 105, 32, 43, 32, 107] from rfl] at hb1
  have HB1 := Lib.hid hb1; have HW1 := Lib.hid (HW.out.trans hw1); clear hb1 hw1 HB HW; have HB := Lib.hid HB1.out; have HW := Lib.hid HW1.out; clear HB1 HW1
  go_wp2_with fail
  rw [rounds_succ]
  go_wp2_with fail
  refine (HB.out.len (k := 10) rfl).mono ?_
  rintro e w1 ⟨rfl, rfl⟩
  go_wp2_with fail
  refine HB.out.string.mono ?_
  rintro e w1 ⟨rfl, hw1⟩
  have HW1 := Lib.hid (HW.out.trans hw1); clear hw1
  go_wp2_with fail
  go_ret
  exact ⟨rfl, HW1.out⟩
set_option maxHeartbeats 4000000 in
set_option maxRecDepth 100000 in
theorem Format_ex (w : World) : Calls Tryz.prog 16 #[qv ⟨1, -2, 0, 1, 3⟩] w fun e w' => e = .returned (.tuple #[.string ⟨#[40, 49, 32, 45, 32, 50, 105, 32, 43, 32, 107, 41, 47, 51]⟩, .int .i64 0]) ∧ Below w.heap.size w w' := by
  have HN := Lib.hid (fun w => (show Calls Tryz.prog 47 #[qv ⟨1, -2, 0, 1, 3⟩] w fun r w' => r = .returned (.tuple #[qv ⟨1, -2, 0, 1, 3⟩, .int .i64 0]) ∧ Below w.heap.size w w' by
    have h := qNormal_any ⟨1, -2, 0, 1, 3⟩ w
    rw [show resQ (qE ⟨1, -2, 0, 1, 3⟩) ⟨1, -2, 0, 1, 3⟩ = ⟨1, -2, 0, 1, 3⟩ by kernel_rfl, show resE (qE ⟨1, -2, 0, 1, 3⟩) ⟨1, -2, 0, 1, 3⟩ = 0 by kernel_rfl] at h
    exact h))
  have HO := Lib.hid (fun w => qof_any 1 (-2) 0 1 3 w)
  simp only [qv, cv] at HN HO
  simp only [qv]
  go_enter Tryz.func16, Tryz.ntmps16
  go_wp2_with fail
  refine (HN.out _).mono ?_
  rintro e1 w1 ⟨rfl, hbb⟩
  have HB1 := Lib.hid (((Below.refl w.heap.size w).alloc (Nat.le_refl _) _).trans (hbb.mono (by simp)))
  have hC := show Cells w1 w.heap.size #[.int .i64 1, .int .i64 (-2), .int .i64 0, .int .i64 1, .int .i64 3] from (Cells.new w _ _ rfl).keep hbb
  have HC := Lib.hid hC
  obtain ⟨z0, z1, z2, z3, z4⟩ := hC.five
  obtain ⟨f0, f1, f2, f3, f4⟩ := hC.fr
  clear hbb hC HN
  go_upto_region 2 with fail
  obtain ⟨W2, e2, B2, C2, K2, S2⟩ := store5 HB1.out (Nat.le_refl _) HC.out (.int .i64 1) (.int .i64 (-2)) (.int .i64 0) (.int .i64 1) (.int .i64 3)
  rw [e2]
  have HB2 := Lib.hid B2
  have HC2 := Lib.hid C2
  obtain ⟨y0, y1, y2, y3, y4⟩ := C2.five
  clear z0 z1 z2 z3 z4 f0 f1 f2 f3 f4 e2 B2 C2 K2 S2 HB1 HC
  go_wp2_with fail
  refine (HO.out _).mono ?_
  rintro e1 w3 ⟨rfl, hbb⟩
  have HB3 := Lib.hid (HB2.out.trans (hbb.mono HB2.out.size))
  have HC3 := Lib.hid (HC2.out.keep hbb)
  clear hbb HB2 HC2 y0 y1 y2 y3 y4
  go_wp2_with fail
  refine (text_ex _).mono ?_
  rintro e1 w4 ⟨rfl, hbb⟩
  have HB4 := Lib.hid (HB3.out.trans (hbb.mono HB3.out.size))
  have hC4 := HC3.out.keep hbb
  obtain ⟨y0, y1, y2, y3, y4⟩ := hC4.five
  clear hbb HB3 HC3 hC4
  go_wp2_with fail
  refine (itoa3 _).mono ?_
  rintro e1 w5 ⟨rfl, rfl⟩
  go_wp2_with fail
  go_ret2
  exact ⟨rfl, HB4.out⟩
end Go.Proofs.YtimdkjbmeogpoaaGreatDoor
namespace Go.Proofs.YtimdkjbmeogpoaaGreatDoor
open Go.RowKit FF
theorem disc_ex (w : World) : Calls Tryz.prog 22 #[.agg #[.int .i64 (-1), .int .i64 3]] w fun r w' => r = .returned (.tuple #[.int .i64 6, .int .i64 0]) ∧ Below w.heap.size w w' := by
  have h := Discriminant_any (-1) 3 w
  have e : aE (-1) 3 = 0 := by decide
  rw [show discV (-1) 3 = 6 by unfold discV; rw [if_pos e, ram_ex]; rfl, e] at h
  exact h
theorem pow_ex (w : World) : Calls Tryz.prog 21 #[.agg #[.int .i64 (-1), .int .i64 (-1)], qv ⟨1, 1, 1, 1, 2⟩, .int .i64 3] w fun r w' => r = .returned (.tuple #[qv ⟨-1, 0, 0, 0, 1⟩, .int .i64 0]) ∧ Below w.heap.size w w' := by
  have h := qPower_pos (-1) (-1) 1 1 1 1 2 3 w (by omega) (by decide) (by decide)
  rw [show powQ (-1) (-1) ⟨1, 1, 1, 1, 2⟩ 3 = ⟨-1, 0, 0, 0, 1⟩ by kernel_rfl, show powE (-1) (-1) ⟨1, 1, 1, 1, 2⟩ 3 = 0 by kernel_rfl] at h
  exact h
set_option maxHeartbeats 2000000 in
theorem awake3_any (w : World) : Calls Tryz.prog 6 #[] w fun e w' => e = .returned (.bool true) ∧ Below w.heap.size w w' := by
  have HP := Lib.hid pow_ex
  have HD := Lib.hid disc_ex
  have HF := Lib.hid Format_ex
  simp only [qv] at HP HF
  go_enter Tryz.func6, Tryz.ntmps6
  go_wp2_with fail
  refine (HP.out _).mono ?_
  rintro e1 w1 ⟨rfl, hb1⟩
  have HB1 := Lib.hid ((below_2 _ _).trans (hb1.mono (by simp; omega)))
  clear hb1
  go_wp2_with fail
  refine (HD.out _).mono ?_
  rintro e2 w2 ⟨rfl, hb2⟩
  have HC := Lib.hid ((Cells.new w1 #[.int .i64 (-1), .int .i64 0, .int .i64 0, .int .i64 0, .int .i64 1] 35 rfl).keep hb2)
  have HB2 := Lib.hid ((HB1.out.alloc HB1.out.size _).trans (hb2.mono (by have := HB1.out.size; simp; omega)))
  clear hb2
  go_wp2_with fail
  refine (HF.out _).mono ?_
  rintro e3 w3 ⟨rfl, hb3⟩
  have HC3 := Lib.hid (HC.out.keep hb3)
  have HB3 := Lib.hid (HB2.out.trans (hb3.mono HB2.out.size))
  clear hb3 HC HB2 HB1
  obtain ⟨c0, c1, c2, c3, c4⟩ := HC3.out.five
  go_wp2_with fail
  go_ret
  exact ⟨rfl, HB3.out⟩
end Go.Proofs.YtimdkjbmeogpoaaGreatDoor
