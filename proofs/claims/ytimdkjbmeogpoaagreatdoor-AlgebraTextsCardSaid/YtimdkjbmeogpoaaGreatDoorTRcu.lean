/- Texts of elements: a text cut at a byte. -/
import Derived.Test.YtimdkjbmeogpoaaGreatDoorTRtm
import Derived.Maps.AppendAt
import Derived.BigRegion
namespace Go.Proofs.YtimdkjbmeogpoaaGreatDoor
open Go.RowKit FF
theorem info_str : (Tryz.prog.info? 9).map (fun i => (i.zero, i.size, i.bytes)) = some (some (.string ⟨#[]⟩), 1, 16) := by kernel_rfl
def cellsS (xs : List (List UInt8)) : List Value := xs.map fun l => .string ⟨l.toArray⟩
theorem cellsS_one (xs : List (List UInt8)) : ∀ u ∈ cellsS xs, u.oneCell' = true := by
  intro u hu
  obtain ⟨x, -, rfl⟩ := List.mem_map.1 hu
  rfl
def GotT (w : World) (v : Value) (xs : List (List UInt8)) (wr : World) : Prop := wr.ownsRow w.heap.size 9 1 v xs.length (cellsS xs) ∧ Below w.heap.size w wr
theorem GotT.keep {w wr w2 : World} {v : Value} {xs : List (List UInt8)} (h : GotT w v xs wr) (hb : Below wr.heap.size wr w2) : GotT w v xs w2 := by
  refine ⟨⟨h.1.1, ?_⟩, h.2.trans (hb.mono h.2.size)⟩
  rcases h.1.2 with h0 | ⟨g, cap, cur, h1, h2, h3, h4⟩
  · exact .inl h0
  · refine .inr ⟨g, cap, cur, h1, h2, ?_, h4⟩
    rw [hb.block g (Array.getElem?_eq_some_iff.1 h3).1]; exact h3
theorem GotT.lit (w : World) (x : List UInt8) : GotT w (.slice (some ⟨w.heap.size, 0, none⟩) 1 1) [x] (w.alloc (.cells #[.string ⟨x.toArray⟩] 9)) :=
  ⟨World.ownsRow_lit w #[.string ⟨x.toArray⟩] 1 (Nat.le_refl _) (by unfold maxLen; omega) rfl, (Below.refl _ _).alloc (Nat.le_refl _) _⟩
theorem GotT.row_ge {w wr : World} {v : Value} {xs : List (List UInt8)} (h : GotT w v xs wr) : ∀ k, v.ownBlock = some k → w.heap.size ≤ k := by
  intro k hk
  rcases h.1.2 with ⟨rfl, _⟩ | ⟨g, cap, cur, rfl, hb, _⟩
  · cases hk
  · simp [Value.ownBlock] at hk; omega
theorem GotT.form {w wr : World} {v : Value} {xs : List (List UInt8)} (h : GotT w v xs wr) (h0 : xs ≠ []) :
    ∃ g cap, v = .slice (some ⟨g, 0, none⟩) xs.length cap ∧ w.heap.size ≤ g ∧ g < wr.heap.size ∧ xs.length ≤ cap ∧ cap ≤ maxLen ∧ ∀ (j : Nat) (x : List UInt8), xs[j]? = some x → wr.cell? ⟨g, j, none⟩ = some (.string ⟨x.toArray⟩) ∧ wr.frozen? ⟨g, j, none⟩ = false := by
  rcases h.1.2 with ⟨rfl, hn⟩ | ⟨g, cap, cur, rfl, hb, hg, hnc, hcm, hcs, ht⟩
  · exact absurd (List.eq_nil_of_length_eq_zero hn) h0
  · refine ⟨g, cap, rfl, hb, (Array.getElem?_eq_some_iff.1 hg).1, hnc, hcm, fun j x hj => ?_⟩
    have hjl := (List.getElem?_eq_some_iff.1 hj).1
    refine ⟨?_, h.1.frozenAt j⟩
    rw [h.1.cellAt j (by omega)]
    unfold cellsS
    rw [List.getElem?_map, hj]; rfl
theorem wpList_append_gotT {ops : Array Oper} {rest : List Oper} {o : Oper} {a : Act} {Q : Exit → Act → World → Prop} (hgd : o.guard = none) (s x : Operand)
    (ho : o.op = .call { callee := .builtin .append, args := #[s, x], argTypes := #[108, 108] })
    (i : TypeInfo) (z : Value) (hi : Tryz.prog.info? 9 = some i) (hz : i.zero = some z) (hsize : i.size = 1) (hby : i.bytes = 16) (hzs : z.cells.size = 1)
    (v : Value) (xs : List (List UInt8)) (hs : a.eval s = v) {w wr : World} (hG : GotT w v xs wr) (y : List UInt8) (T' : TypeId) (c : Nat)
    (hx : a.eval x = .slice (some ⟨wr.heap.size, 0, none⟩) 1 c) (hbound : xs.length ≤ 1000000)
    (h : ∀ v' w', GotT w v' (xs ++ [y]) w' → wpList Tryz.prog ops Q rest (a.put o.dst v') w') : wpList Tryz.prog ops Q (o :: rest) a (wr.alloc (.cells #[.string ⟨y.toArray⟩] T')) := by
  have hsz' : (wr.alloc (.cells #[.string ⟨y.toArray⟩] T')).heap.size = wr.heap.size + 1 := by simp
  have hA : Below wr.heap.size wr (wr.alloc (.cells #[.string ⟨y.toArray⟩] T')) := (Below.refl _ _).alloc (Nat.le_refl _) _
  refine wpList_append_own (wr.alloc (.cells #[.string ⟨y.toArray⟩] T')) hgd s x 108 ho w.heap.size 9 i z 1 16 Tryz.underlying108 hi hz hsize hby hzs (by decide) v xs.length (cellsS xs) hs (hG.keep hA).1 ⟨wr.heap.size, 0, none⟩ 1 c (cellsS [y]) hx (by simp [cellsS]) (fun j u hj => ?_) (cellsS_one [y]) (by unfold maxLen; omega) (by omega) (by have := hG.2.size; omega) (fun v' w' h1 h2 _ => h v' w' ⟨?_, ?_⟩)
  · rw [Addr.add_lit, Nat.zero_add, World.cell?_alloc_at (w := wr) _ T' wr.heap.size j rfl, ← Array.getElem?_toList]
    exact hj
  · have e : cellsS xs ++ cellsS [y] = cellsS (xs ++ [y]) := by simp [cellsS]
    rw [← e, List.length_append]; exact h1
  · exact Below.grown (hG.keep hA).2 h2 (by have := hG.2.size; omega) hG.row_ge
theorem GotT.stored {w wr : World} {xs : List (List UInt8)} {g cap : Nat} (h : GotT w (.slice (some ⟨g, 0, none⟩) xs.length cap) xs wr) (j : Nat) (x : List UInt8) :
    GotT w (.slice (some ⟨g, 0, none⟩) xs.length cap) (xs.set j x) (wr.setCell ⟨g, j, none⟩ (.string ⟨x.toArray⟩)) := by
  obtain ⟨h1, h2⟩ := h.1.stored j (.string ⟨x.toArray⟩)
  refine ⟨?_, Below.grown h.2 h2 h.2.size (fun k hk => by cases hk; exact h.row_ge _ rfl)⟩
  have e : cellsS (xs.set j x) = (cellsS xs).set j (.string ⟨x.toArray⟩) := by unfold cellsS; rw [List.map_set]
  rw [List.length_set, e]; exact h1
structure CutI (l : List UInt8) (i : Nat) (xs : List (List UInt8)) : Prop where
  eq : xs = (l.take i).foldl cutStep [[]]
  ne : xs ≠ []
  len : ∀ z ∈ xs, z.length ≤ i
  num : xs.length ≤ i + 1
theorem CutI.start (l : List UInt8) : CutI l 0 [[]] := ⟨rfl, by simp, by simp, by simp⟩
theorem CutI.cut {l : List UInt8} {i : Nat} {xs : List (List UInt8)} (h : CutI l i xs) (hc : l[i]? = some 47) : CutI l (i + 1) (xs ++ [[]]) := by
  refine ⟨?_, by simp, fun z hz => ?_, by have := h.num; simp; omega⟩
  · rw [take_snoc hc, List.foldl_append, ← h.eq]; simp [cutStep]
  · rcases List.mem_append.1 hz with hz | hz
    · have := h.len z hz; omega
    · rw [List.mem_singleton.1 hz]; simp
theorem CutI.more {l : List UInt8} {i : Nat} {xs : List (List UInt8)} {c : UInt8} (h : CutI l i xs) (hc : l[i]? = some c) (h47 : c ≠ 47) :
    ∃ m z, xs.length = m + 1 ∧ xs[m]? = some z ∧ z.length ≤ i ∧ CutI l (i + 1) (xs.set m (z ++ [c])) := by
  obtain ⟨ys, z, rfl⟩ : ∃ ys z, xs = ys ++ [z] := ⟨xs.dropLast, xs.getLast h.ne, (List.dropLast_concat_getLast h.ne).symm⟩
  have hz := h.len z (List.mem_append_right _ (List.mem_singleton.2 rfl))
  refine ⟨ys.length, z, by simp, by simp, hz, ?_, by simp, fun x hx => ?_, by have := h.num; simp at this ⊢; omega⟩
  · rw [take_snoc hc, List.foldl_append, ← h.eq]; simp [cutStep, h47]
  · rw [show (ys ++ [z]).set ys.length (z ++ [c]) = ys ++ [z ++ [c]] by simp, List.mem_append] at hx
    rcases hx with hx | hx
    · have := h.len x (List.mem_append_left _ hx); omega
    · rw [List.mem_singleton.1 hx]; simp; omega
def CutPost (l : List UInt8) (w : World) (e : Ending) (w' : World) : Prop := ∃ v, e = .returned v ∧ GotT w v (cutB l) w'
theorem extract_one {l : List UInt8} {i : Nat} {c : UInt8} (hc : l[i]? = some c) : (⟨l.toArray⟩ : ByteArray).extract i (i + 1) = ⟨#[c]⟩ := by
  rw [extract_str]
  obtain ⟨hi, rfl⟩ := List.getElem?_eq_some_iff.1 hc
  rw [List.drop_eq_getElem_cons hi]; rfl
theorem bstr_snoc (z : List UInt8) (c : UInt8) : ((⟨z.toArray⟩ : ByteArray) ++ ⟨#[c]⟩) = ⟨(z ++ [c]).toArray⟩ := bstr_app2 z [c]
set_option maxHeartbeats 4000000 in
set_option maxRecDepth 100000 in
theorem Cut_any (l : List UInt8) (w : World) (hl : l.length ≤ 400) :
    Calls Tryz.prog 59 #[.string ⟨l.toArray⟩, .int .u8 47] w (CutPost l w) := by
  have HL := Lib.hid hl
  obtain ⟨i0, HI, HZ0, HZ1, HZ2⟩ : ∃ i0, Hid (Tryz.prog.info? 9 = some i0) ∧ Hid (i0.zero = some (.string ⟨#[]⟩)) ∧ Hid (i0.size = 1) ∧ Hid (i0.bytes = 16) := by
    obtain ⟨i, h1, h2, h3, h4⟩ := info_parts info_str
    exact ⟨i, Lib.hid h1, Lib.hid h2, Lib.hid h3, Lib.hid h4⟩
  go_enter Tryz.func59, Tryz.ntmps59
  go_upto_region 2 with fail
  obtain ⟨W0, e0⟩ : ∃ W0, w.alloc (.cells #[.string ⟨#[]⟩] 9) = W0 := ⟨_, rfl⟩
  have HG0 := Lib.hid (show GotT w (.slice (some ⟨w.heap.size, 0, none⟩) 1 1) [[]] W0 from e0 ▸ GotT.lit w [])
  rw [e0]; clear e0
  go_wp2_with fail
  go_loopw [5, 6] (fun s5 s6 wr => ∃ (i : Nat) (xs : List (List UInt8)), s6 = .int .i64 (i : Int) ∧ i ≤ l.length ∧ CutI l i xs ∧ GotT w s5 xs wr) (fun _ s _ => l.length - (intOf s).toNat)
  case atStart => exact ⟨0, [[]], rfl, Nat.zero_le _, CutI.start l, HG0.out⟩
  case round =>
    obtain ⟨i, xs, rfl, hi, hc, hg⟩ := hrel
    obtain ⟨g, cap, rfl, hgw, hgr, hcap, hcm, hcell⟩ := hg.form hc.ne
    have HG := Lib.hid hg; have HC := Lib.hid hc; have HCe := Lib.hid hcell
    clear hg hc hcell HG0
    by_cases hlt : i < l.length
    · obtain ⟨c, hc⟩ : ∃ c, l[i]? = some c := ⟨_, List.getElem?_eq_getElem hlt⟩
      have hgi := byte_at hlt hc
      have d1 : decide (i < l.length) = true := decide_eq_true hlt
      have d2 : decide ((i : Int) < (l.length : Int)) = true := decide_eq_true (by omega)
      by_cases h47 : c = 47
      · subst h47
        have HC2 := Lib.hid (HC.out.cut hc)
        have HN := Lib.hid HC.out.num; have HI2 := Lib.hid hi
        clear hc hgw hgr hcap hcm
        go_wp2_with (at_builtin; refine wpList_append_gotT rfl (.tmp 19) (.tmp 20) rfl i0 (.string ⟨#[]⟩) HI.out HZ0.out HZ1.out HZ2.out rfl _ xs rfl HG.out [] _ 1 rfl (by have := HN.out; have := HL.out; have := HI2.out; omega) ?_; intro v' w' hg')
        have HG2 := Lib.hid hg'; clear hg'
        go_wp2_with fail
        exact ⟨⟨i + 1, _, rfl, by omega, HC2.out, HG2.out⟩, by simp only [intOf]; omega⟩
      · have n47 : ((c.toNat : Int) == 47) = false := ne_int (k := 47) (by omega) h47
        obtain ⟨m, z, hm, hz, hzi, hC2⟩ := HC.out.more hc h47
        have hex := extract_one hc
        obtain ⟨x0, f0⟩ := HCe.out m z hz
        have q1 : ¬ (9223372036854775807 : Int) < (z.length : Int) + 1 := by have := HL.out; omega
        have hap := bstr_snoc z c
        have hS := HG.out.stored m (z ++ [c])
        have b1 : (i : Int) + 1 ≤ (l.length : Int) := by omega
        have b2 : (l.length : Int) ≤ 400 := by have := HL.out; omega
        have b3 : (m : Int) ≤ 400 := by have := HC.out.num; omega
        rw [hm] at hS hcap ⊢
        have HS := Lib.hid hS; have HC2 := Lib.hid hC2
        clear hS hC2 hz hc h47 HG HCe
        go_wp2_with fail
        go_region
        have HS2 := Lib.hid (HS.out.keep (Below.refl _ _).drew)
        go_wp2_with fail
        exact ⟨⟨i + 1, _, rfl, by omega, HC2.out, HS2.out⟩, by simp only [intOf]; omega⟩
    · obtain rfl : i = l.length := by omega
      have d1 : decide (l.length < l.length) = false := decide_eq_false (by omega)
      have HC3 := Lib.hid (show xs = cutB l by rw [HC.out.eq, List.take_length]; rfl)
      have HG3 := Lib.hid (show GotT w _ (cutB l) wr from HC3.out ▸ HG.out)
      go_wp2_with fail
      go_ret
      exact ⟨_, rfl, HC3.out ▸ HG.out⟩
end Go.Proofs.YtimdkjbmeogpoaaGreatDoor
