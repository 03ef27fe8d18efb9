/- Words of integers: of, size, made, Of, negative. -/
import Derived.Test.YtmlkiddkgikdhaaWord
import Derived.Deep.AppendSrc
import Derived.OwnWalk
namespace Go.Proofs.Ytmlkiddkgikdhaa
open Go.RowKit FF

section
variable {P : Program} (w : World)
/-- append onto nil of what lies behind an address, whatever the two slice types are -/
theorem wpList_append_fresh {ops : Array Oper} {rest : List Oper} {o : Oper} {a : Act} {Q : Exit → Act → World → Prop} (hgd : o.guard = none) (s x : Operand) (t tx : TypeId)
    (ho : o.op = .call { callee := .builtin .append, args := #[s, x], argTypes := #[t, tx] })
    (e e' : TypeId) (i : TypeInfo) (z : Value) (ht : P.underlying t = some (.slice e)) (htx : P.underlying tx = some (.slice e')) (hi : P.info? e = some i) (hz : i.zero = some z)
    (hsize : i.size = 1) (hby : i.bytes ≤ 64) (hs : a.eval s = .slice none 0 0)
    (ad : Addr) (m c : Nat) (news : List Value) (hx : a.eval x = .slice (some ad) m c) (hl : news.length = m) (hnews : ∀ j u, news[j]? = some u → w.cell? (ad.add j) = some u) (h1 : ∀ u ∈ news, u.oneCell' = true)
    (h0 : 0 < m) (hm : m ≤ 1073741824)
    (h : ∀ (cap : Nat) (more : Array Value), m ≤ cap → cap ≤ maxLen → wpList P ops Q rest (a.put o.dst (.slice (some ⟨w.heap.size, 0, none⟩) m cap)) (w.drew.alloc (.cells (news.toArray ++ more) e))) :
    wpList P ops Q (o :: rest) a w := by
  refine wpList_plain hgd fun K hK => ?_
  have hsrc : Src P i.size tx (.slice (some ad) m c) m news w := Src.ofSlice w htx ad m c news (by rw [hsize, hl, Nat.mul_one]) hnews h1
  have hmb : m * i.bytes ≤ 281474976710656 := Nat.le_trans (Nat.mul_le_mul hm hby) (by decide)
  have hr := run_append_grow_src (P := P) w t tx o.type e i z ht hi hz none 0 0 [] (run_firstCells_none w.drew i.size 0 0 0) (.slice (some ad) m c) m news hsrc (by omega) (by omega)
    (by rw [Nat.zero_add, nextslicecap_zero h0]; exact hmb)
  unfold Oper.wp execOp
  simp only [ho, resolve, invoke, builtin, Sem.run_bind, Sem.run_pure, Result.andThen_ok, List.map_toArray, List.map_cons, List.map_nil, hs, hx, hr]
  refine hK _ _ ?_
  have hge := grownCap_ge w (0 + m) 0 e
  have hcm := grownCap_le_maxLen w (0 + m) 0 e (by simp only [maxLen]; omega)
  have := h (grownCap w (0 + m) 0 e) (Builtin.zeroCells z.cells (grownCap w (0 + m) 0 e - (0 + m))) (by omega) hcm
  simpa only [Nat.zero_add, List.nil_append] using this
end

theorem Shows.new {k : IntKind} {w : World} {cs : Array Value} {T : TypeId} {xs : List Nat} (h : ∀ i, i < xs.length → cs[i]? = some (.int k (xs.getD i 0 : Nat))) :
    Shows k (w.alloc (.cells cs T)) (some ⟨w.heap.size, 0, none⟩) xs := by
  intro _
  refine ⟨w.heap.size, 0, rfl, by simp, fun i hi => ?_⟩
  rw [Nat.zero_add]
  exact (World.cell?_alloc_at (w := w) cs T w.heap.size i rfl).trans (h i hi)

theorem dig_two (n : Nat) (hn : n < 18446744073709551616) : Dig WB [n % 4294967296, n / 4294967296] ∧ val WB [n % 4294967296, n / 4294967296] = n := by
  unfold WB
  refine ⟨fun x hx => ?_, by simp only [val]; omega⟩
  simp at hx
  rcases hx with rfl | rfl <;> omega

set_option maxHeartbeats 400000 in
theorem of_any (n : Nat) (w : World) (hn : n < 18446744073709551616) :
    Calls Try.prog 120 #[.int .u64 n] w fun e w' => ∃ A, e = .returned (.slice A (wl n) (wl n)) ∧ Shows .u32 w' A (digs WB n) ∧ Fresh w.heap.size A ∧ Below w.heap.size w w' := by
  obtain ⟨h1, h2⟩ := dig_two n hn
  have H1 := Lib.hid h1
  have H2 := Lib.hid h2
  have hsh : Shows .u32 (w.alloc (.cells #[.int .u32 ((n : Int) % 4294967296), .int .u32 ((n : Int) / 4294967296)] 111)) (some ⟨w.heap.size, 0, none⟩) [n % 4294967296, n / 4294967296] :=
    Shows.new (fun i hi => by
      match i, hi with
      | 0, _ => rfl
      | 1, _ => rfl)
  have hC := trimmed_any (some ⟨w.heap.size, 0, none⟩) [n % 4294967296, n / 4294967296] 2 _ hsh h1 (by simp) (by unfold maxLen; omega)
  rw [h2] at hC
  have HC := Lib.hid hC
  have HT := Lib.hid (h2 ▸ hsh.trim h1)
  clear hC hsh h1 h2
  go_enter Try.func120, Try.ntmps120
  go_wp2_with fail
  refine HC.out.mono ?_
  rintro e w' ⟨rfl, rfl⟩
  go_wp2
  go_ret
  exact ⟨_, rfl, HT.out, Fresh.mk (Nat.le_refl _), (Below.refl _ _).alloc (Nat.le_refl _) _⟩

set_option maxHeartbeats 400000 in
/-- size: an Int argument -/
theorem size_any (b : Bool) (A : Option Addr) (xs : List Nat) (c : Nat) (w : World) (h : Shows .u32 w A xs) (hd : Dig WB xs) (hc : xs.length ≤ c) (hc2 : c ≤ maxLen) :
    Calls Try.prog 104 #[.agg #[.bool b, .slice A xs.length c]] w fun e w' => e = .returned (.slice A (wl (val WB xs)) (wl (val WB xs))) ∧ Below w.heap.size w w' := by
  have HC := Lib.hid (fun (w1 : World) (h1 : Shows .u32 w1 A xs) => trimmed_any A xs c w1 h1 hd hc hc2)
  have HA := Lib.hid h; clear h hc hc2
  go_enter Try.func104, Try.ntmps104
  go_wp2_with fail
  refine (HC.out _ (HA.out.alloc _)).mono ?_
  rintro e w' ⟨rfl, rfl⟩
  go_wp2
  go_ret
  exact ⟨rfl, (Below.refl _ _).alloc (Nat.le_refl _) _⟩

theorem info_u32 : (Try.prog.info? 111).map (fun i => (i.zero, i.size, i.bytes)) = some (some (.int .u32 0), 1, 4) := by kernel_rfl
theorem info_int : (Try.prog.info? 3).map (fun i => (i.zero, i.size, i.bytes)) = some (some (.int .i64 0), 1, 8) := by kernel_rfl

/-- the cells of words -/
def cells (k : IntKind) (xs : List Nat) : List Value := xs.map fun x : Nat => Value.int k (x : Int)
theorem cells_length (k : IntKind) (xs : List Nat) : (cells k xs).length = xs.length := by unfold cells; rw [List.length_map]
theorem cells_get {k : IntKind} {xs : List Nat} {j : Nat} (h : j < xs.length) : (cells k xs)[j]? = some (.int k (xs.getD j 0 : Nat)) := by
  unfold cells; rw [List.getElem?_map, List.getElem?_eq_getElem h, List.getD_eq_getElem?_getD, List.getElem?_eq_getElem h]; rfl
theorem cells_one (k : IntKind) (xs : List Nat) : ∀ u ∈ cells k xs, u.oneCell' = true := by
  intro u hu; unfold cells at hu; obtain ⟨x, _, rfl⟩ := List.mem_map.1 hu; rfl
theorem cells_of_shows {k : IntKind} {w : World} {ad : Addr} {xs : List Nat} (h : Shows k w (some ad) xs) : ∀ j u, (cells k xs)[j]? = some u → w.cell? (ad.add j) = some u := by
  intro j u hu
  have hj : j < xs.length := by
    rcases Nat.lt_or_ge j xs.length with h1 | h1
    · exact h1
    · rw [List.getElem?_eq_none (by rw [cells_length]; exact h1)] at hu; cases hu
  obtain ⟨b, o, e, hb, hc⟩ := h (by omega)
  injection e with e
  subst e
  rw [cells_get hj] at hu
  rw [← hu, ← hc j hj, Addr.add_lit]

set_option maxHeartbeats 1000000 in
/-- made: an integer in normal form, in new memory -/
theorem made_any (b : Bool) (A : Option Addr) (xs : List Nat) (c : Nat) (w : World) (h : Shows .u32 w A xs) (hd : Dig WB xs) (hc : xs.length ≤ c) (hc2 : c ≤ maxLen) (hl : wl (val WB xs) ≤ 1000000) :
    Calls Try.prog 105 #[.bool b, .slice A xs.length c] w fun e w' =>
      ∃ A' c', e = .returned (.agg #[.bool (b && decide (val WB xs ≠ 0)), .slice A' (wl (val WB xs)) c']) ∧ Shows .u32 w' A' (digs WB (val WB xs)) ∧ wl (val WB xs) ≤ c' ∧ c' ≤ maxLen ∧ Fresh w.heap.size A' ∧ Below w.heap.size w w' := by
  have HC := Lib.hid (fun (w1 : World) (h1 : Shows .u32 w1 A xs) => trimmed_any A xs c w1 h1 hd hc hc2)
  have HA := Lib.hid (h.trim hd)
  have HS := Lib.hid h
  clear h hc hc2 hd
  obtain ⟨i0, hi, hz0, hz1, hz2⟩ := info_parts info_u32
  have HI := Lib.hid hi; have HZ0 := Lib.hid hz0; have HZ1 := Lib.hid hz1; have HZ2 := Lib.hid hz2
  clear hi hz0 hz1 hz2
  by_cases h0 : val WB xs = 0
  · have hl0 : wl (val WB xs) = 0 := by rw [h0]; rfl
    have HL := Lib.hid hl0
    have HF := Lib.hid h0
    clear h0 hl0 hl
    go_enter Try.func105, Try.ntmps105
    go_wp2_with fail
    have hC := HC.out _ (HS.out.alloc (.cells #[.bool false, .slice none 0 0] 51))
    rw [HL.out] at hC
    refine hC.mono ?_
    rintro e w' ⟨rfl, rfl⟩
    clear hC
    go_wp2
    refine bodyPost_ret (v := .agg #[.bool false, .slice none 0 0]) (by simp [results, Try.results105, go_sem]) rfl ?_
    refine ⟨none, 0, ?_, ?_, by rw [HL.out]; omega, by simp [maxLen], Fresh.none, ?_⟩
    · rw [HL.out, HF.out]; simp
    · rw [HF.out, digs_zero]; exact Shows.nil
    · go_grown
  · have hb : (b && decide (val WB xs ≠ 0)) = b := by simp [h0]
    have HB := Lib.hid hb
    have hlp : 0 < wl (val WB xs) := by
      apply Nat.pos_of_ne_zero; intro e; exact h0 (wl_eq_zero.1 e)
    clear h0 hb
    go_enter Try.func105, Try.ntmps105
    go_wp2_with fail
    have hC := HC.out _ (HS.out.alloc (.cells #[.bool false, .slice none 0 0] 51))
    have hA := HA.out.alloc (.cells #[.bool false, .slice none 0 0] 51)
    obtain ⟨b0, o0, rfl, hb0, hcell⟩ := hA hlp
    refine hC.mono ?_
    rintro e w' ⟨rfl, rfl⟩
    have HA2 := Lib.hid hA
    clear hC hA hcell HC HA HS
    have hml : (cells .u32 (digs WB (val WB xs))).length = wl (val WB xs) := cells_length _ _
    have HM := Lib.hid hml; clear hml
    generalize hm : wl (val WB xs) = m at *
    have Hm := Lib.hid hm; clear hm
    have d0 : ((m : Int) == 0) = false := f_beq (by omega)
    go_wp2_with (at_builtin; refine wpList_append_fresh _ rfl (.const (.slice none 0 0)) (.tmp 12) 49 112 rfl 111 111 i0 _ Try.underlying49 Try.underlying112 HI.out HZ0.out HZ1.out (by rw [HZ2.out]; omega) rfl ⟨b0, o0, none⟩ m m (cells .u32 (digs WB (val WB xs))) rfl HM.out (cells_of_shows HA2.out) (cells_one _ _) hlp (by omega) ?_; intro cap more hcap1 hcap2)
    refine bodyPost_ret (v := .agg #[.bool b, .slice (some ⟨w.heap.size + 1, 0, none⟩) m cap]) (by simp [results, Try.results105, go_sem]) rfl ?_
    refine ⟨some ⟨w.heap.size + 1, 0, none⟩, cap, ?_, ?_, ?_, hcap2, Fresh.mk (Nat.le_succ _), ?_⟩
    · rw [Hm.out, HB.out]
    · have hn := Shows.new (k := .u32) (w := w.alloc (Obj.cells #[Value.bool b, Value.slice (some { block := w.heap.size + 1, off := 0 }) m cap] 51)) (cs := (cells IntKind.u32 (digs WB (val WB xs))).toArray ++ more) (T := 111) (xs := digs WB (val WB xs)) (fun i hi => by
        rw [Array.getElem?_append_left (by simpa [cells_length] using hi)]
        simpa using cells_get hi)
      rw [World.size_alloc] at hn
      exact hn
    · rw [Hm.out]; exact hcap1
    · go_grown
end Go.Proofs.Ytmlkiddkgikdhaa
