/- The program's search: all that the iterator hands out, collected. -/
import Derived.Test.YtfjmhfmhijhpkaaRst
import Derived.RangeFuncBox
import Derived.Maps.AppendAt
namespace Go.Proofs.Ytfjmhfmhijhpkaa
open Go.RowKit Go.Shelf FF
attribute [local go_sem] Oper.semAt_some

theorem roots_stops (c d nn : Int) (hc : aE c d = 0) (hnn : -1000 ≤ nn ∧ nn ≤ 1000) (n : Nat) (hn : 1 ≤ n) (B1 B2 n₀ : Nat) (w : World) (h1 : B1 < n₀) (h2 : B2 < n₀) (hn0 : n₀ ≤ w.heap.size) (c1 : w.cell? ⟨B1, 0, none⟩ = some (.int .i64 c) ∧ w.cell? ⟨B1, 1, none⟩ = some (.int .i64 d)) (c2 : w.cell? ⟨B2, 0, none⟩ = some (.int .i64 nn)) :
    SeqStopsK Fence.wide n Try.prog 116 #[.pointer (some ⟨B1, 0, none⟩), .pointer (some ⟨B2, 0, none⟩)] encB (Below n₀) (fun ys => vals ys = pick (rtB c d nn) 9826) (fun pre => vals pre <+: pick (rtB c d nn) 9826) 9826 w := fun l J Jx W hW hJ _ hY h0 =>
  roots_in c d nn hc hnn n hn l B1 B2 n₀ J Jx hY W hJ (Nat.le_trans hn0 hW.size) h1 h2 ⟨(hW.cell (p := ⟨B1, 0, none⟩) (by show B1 < _; omega)).trans c1.1, (hW.cell (p := ⟨B1, 1, none⟩) (by show B1 < _; omega)).trans c1.2⟩ ((hW.cell (p := ⟨B2, 0, none⟩) (by show B2 < _; omega)).trans c2) h0
/-- the box of a loop variable -/
def BoxQ (W : World) (B : Nat) (q : Qt) : Prop := W.heap[B]? = some (.cells #[.int .i64 q.w, .int .i64 q.x, .int .i64 q.y, .int .i64 q.z, .int .i64 q.d] 25 (0, 0))
theorem BoxQ.new (W : World) (q : Qt) : BoxQ (W.alloc (.cells #[.int .i64 q.w, .int .i64 q.x, .int .i64 q.y, .int .i64 q.z, .int .i64 q.d] 25)) W.heap.size q := World.alloc_heap_new W _
theorem BoxQ.five {W : World} {B : Nat} {q : Qt} (h : BoxQ W B q) : W.cell? ⟨B, 0, none⟩ = some (.int .i64 q.w) ∧ W.cell? ⟨B, 1, none⟩ = some (.int .i64 q.x) ∧ W.cell? ⟨B, 2, none⟩ = some (.int .i64 q.y) ∧ W.cell? ⟨B, 3, none⟩ = some (.int .i64 q.z) ∧ W.cell? ⟨B, 4, none⟩ = some (.int .i64 q.d) := by
  refine ⟨?_, ?_, ?_, ?_, ?_⟩ <;> simp [World.cell?, show W.heap[B]? = _ from h]
theorem BoxQ.kept {W W' : World} {B : Nat} {q : Qt} {row : Option Nat} (h : BoxQ W B q) (hg : W.grownBy W' row) (hr : ∀ r, row = some r → ∃ o : Obj, W.heap[r]? = some o ∧ o.isCells = false) : BoxQ W' B q :=
  (grownBy_keeps_cells hg hr h rfl).trans h
theorem BoxQ.below {W W' : World} {B : Nat} {q : Qt} (h : BoxQ W B q) (hb : Below W.heap.size W W') : BoxQ W' B q :=
  (hb.block B (Array.getElem?_eq_some_iff.1 h).1).trans h
theorem BoxQ.lt {W : World} {B : Nat} {q : Qt} (h : BoxQ W B q) : B < W.heap.size := (Array.getElem?_eq_some_iff.1 h).1
theorem keeps_below {W W' : World} (h : Below W.heap.size W W') : KeepsOthers W W' := ⟨h.size, fun k _ hk _ => (h.block k (Array.getElem?_eq_some_iff.1 hk).1).trans hk⟩
theorem cell_new_list (W : World) (news : Array Value) (T : TypeId) : ∀ j u, news.toList[j]? = some u → (W.alloc (.cells news T)).cell? ((⟨W.heap.size, 0, none⟩ : Addr).add j) = some u := fun j u hj => by
  rw [Addr.add_lit, Nat.zero_add, World.cell?_alloc_at (w := W) news T W.heap.size j rfl, ← Array.getElem?_toList, hj]

set_option maxRecDepth 100000 in
set_option maxHeartbeats 4000000 in
theorem append_in (c d nn : Int) (hc : aE c d = 0) (hnn : -1000 ≤ nn ∧ nn ≤ 1000) (n : Nat) (hn : 3 ≤ n) (B1 B2 : Nat) (w : World) (h1 : B1 < w.heap.size) (h2 : B2 < w.heap.size) (c1 : w.cell? ⟨B1, 0, none⟩ = some (.int .i64 c) ∧ w.cell? ⟨B1, 1, none⟩ = some (.int .i64 d)) (c2 : w.cell? ⟨B2, 0, none⟩ = some (.int .i64 nn)) :
    CallsIn Fence.wide n Try.prog 115 #[.slice none 0 0, .func (.func 116) #[] #[.pointer (some ⟨B1, 0, none⟩), .pointer (some ⟨B2, 0, none⟩)]] w (PurePost w (pick (rtB c d nn) 9826)) := by
  obtain ⟨i0, hi, hz0, hz1, hz2⟩ := info_parts info_quat
  refine callsIn_of_wp_marks Try.func115 rfl trivial ?_ rfl
  simp only [Try.ntmps115, List.size_toArray, List.length_cons, List.length_nil, Nat.reduceAdd, Nat.reduceSub, Array.replicate_succ, Array.replicate_zero, List.push_toArray, List.append_toArray, List.nil_append, List.cons_append]
  gi_wp2
  have bO := Boxed.new w 126 (.slice none 0 0)
  have hB0 : Below w.heap.size w (w.alloc (.cells #[.slice none 0 0] 126)) := (Below.refl _ w).alloc (Nat.le_refl _) _
  have hsz : (w.alloc (.cells #[.slice none 0 0] 126)).heap.size = w.heap.size + 1 := by simp
  obtain ⟨W0, hW0⟩ : ∃ W0, w.alloc (.cells #[.slice none 0 0] 126) = W0 := ⟨_, rfl⟩
  rw [hW0] at bO hB0 hsz ⊢
  clear hW0
  refine wpIn_rangeFunc_ownH rfl (by omega) (gf := 116) (lb := #[.pointer (some ⟨B1, 0, none⟩), .pointer (some ⟨B2, 0, none⟩)]) rfl trivial (enters_of Try.func116 (by kernel_rfl) rfl)
    (roots_stops c d nn hc hnn (n - 1) (by omega) B1 B2 w.heap.size W0 h1 h2 hB0.size ⟨(hB0.cell (p := ⟨B1, 0, none⟩) h1).trans c1.1, (hB0.cell (p := ⟨B1, 1, none⟩) h1).trans c1.2⟩ ((hB0.cell (p := ⟨B2, 0, none⟩) h2).trans c2)) belowK_t (belowK_b (by omega)) (Below.refl _ _) (fun _ => rfl)
    (fun pre W => (∃ v, Boxed W w.heap.size 126 v ∧ W.ownsRow w.heap.size 25 5 v pre.length (cellsI (qflat (vals pre))) ∧ True) ∧ Below w.heap.size w W)
    (fun _ _ _ => False)
    (OwnFrom.and (Own.from (holdsRow_own w.heap.size w.heap.size 126 25 5 (fun pre => pre.length) (fun pre => cellsI (qflat (vals pre))) (fun _ _ => True)) _) (ownFrom_below (Nat.le_refl _) (by omega)))
    (fun _ _ _ _ _ hs _ _ => hs)
    ⟨⟨_, bO, World.ownsRow_nil _ _ _ _, trivial⟩, hB0⟩
    (fun x a' W => ∃ Bx, w.heap.size < Bx ∧ BoxQ W Bx x.1 ∧ a' = { tmps := #[.slice none 0 0, .func (.func 116) #[] #[.pointer (some ⟨B1, 0, none⟩), .pointer (some ⟨B2, 0, none⟩)], .pointer (some ⟨w.heap.size, 0, none⟩), undef, .slice none 0 0, .pointer (some ⟨Bx, 0, none⟩), .func (.func 116) #[] #[.pointer (some ⟨B1, 0, none⟩), .pointer (some ⟨B2, 0, none⟩)], qv x.1, undef, undef, undef, undef, undef], defers := [] })
    (fun x a' _ X Y row hs hg hr => by obtain ⟨Bx, h1, h2, h3⟩ := hs; exact ⟨Bx, h1, h2.kept hg (fun r e => (hr r e).2), h3⟩)
    ?assign ?body ?done ?stop
  case assign =>
    rintro l pre ⟨⟨q0, q1, q2, q3, q4⟩, hbx⟩ W K ⟨⟨v, hv, hrow, -⟩, hB⟩ hK
    simp only [encB, qv]
    gi_wp2
    exact hK _ _ ((KeepsOthers.alloc _ _).from _) ((Below.refl _ W).alloc hB.size _) ⟨⟨v, hv.alloc _, hrow.alloc _, trivial⟩, hB.alloc hB.size _⟩ ⟨W.heap.size, hv.lt, BoxQ.new W ⟨q0, q1, q2, q3, q4⟩, rfl⟩
  case body =>
    rintro l pre ⟨⟨q0, q1, q2, q3, q4⟩, hbx⟩ a' W hl ⟨r, hr⟩ ⟨⟨v, hv, hrow, -⟩, hB⟩ ⟨Bx, hBx, bX, rfl⟩ hlt
    have hcv := hv.cell
    obtain ⟨k0, k1, k2, k3, k4⟩ := bX.five
    dsimp only at k0 k1 k2 k3 k4
    simp only [qv]
    gi_wp2_with (gi_at_builtin; refine wpListIn_append_own _ rfl _ _ 126 rfl w.heap.size 25 i0 _ 5 40 Try.underlying126 hi hz0 hz1 hz2 rfl (by decide) _ _ _ rfl (hrow.alloc _) ⟨W.heap.size, 0, none⟩ 1 1 [.int .i64 q0, .int .i64 q1, .int .i64 q2, .int .i64 q3, .int .i64 q4] rfl rfl (cell_new_list _ _ _) (by simp [Value.oneCell']) (by unfold maxLen; omega) (by omega) (by have := hB.size; simp; omega) ?_; intro v' w1 hown' hgrow _; obtain ⟨g', cap', rfl⟩ := ownsRow_succ hown'; obtain ⟨hv1, hv2, hr2, hk2, hb2⟩ := hv.appended (by decide) hrow hB.size (Nat.le_refl _) hown' hgrow; have hc1 := hv1.cell; have hf1 := hv1.frozen)
    have e5 : cellsI (qflat (vals (pre ++ [⟨⟨q0, q1, q2, q3, q4⟩, hbx⟩]))) = cellsI (qflat (vals pre)) ++ [.int .i64 q0, .int .i64 q1, .int .i64 q2, .int .i64 q3, .int .i64 q4] := by rw [vals_snoc, qflat_snoc]; simp [cellsI]
    exact ⟨hk2.from _, hb2, ⟨_, hv2, by rw [e5, List.length_append]; exact hr2⟩, hB.trans hb2⟩
  case done =>
    rintro D ys W hD hys ⟨⟨v, hv, hrow, -⟩, hB⟩ hK
    have hcv := hv.cell
    gi_wp2
    refine ⟨by simp, .inl ⟨_, _, rfl, run_takeDeferred hK, ?_⟩⟩
    have hG : Got w 25 5 v ys.length (qflat (vals ys)) (W.putObj D (.deferred none)) := ⟨ownsRow_putObj hrow _ hK rfl, hB.trans (belowK_b (w := w) (Nat.le_refl _) W D _ _ (by omega) hK rfl rfl)⟩
    obtain ⟨A, cp, hvv, s1, s2, s3, s4⟩ := hG.shows
    have hl : ys.length = (pick (rtB c d nn) 9826).length := by rw [← hys, vals_length]
    refine ⟨_, results_tmp rfl _ _ _, A, cp, ?_, ?_, by omega, s3, hG.below, s4⟩
    · rw [hvv, hl]; rfl
    · rw [← hys]; exact s1
  case stop =>
    rintro D c pre W _ _ h _
    exact h.elim

set_option maxHeartbeats 4000000 in
theorem collect_any (c d nn : Int) (hc : aE c d = 0) (hnn : -1000 ≤ nn ∧ nn ≤ 1000) (B1 B2 : Nat) (w : World) (h1 : B1 < w.heap.size) (h2 : B2 < w.heap.size) (c1 : w.cell? ⟨B1, 0, none⟩ = some (.int .i64 c) ∧ w.cell? ⟨B1, 1, none⟩ = some (.int .i64 d)) (c2 : w.cell? ⟨B2, 0, none⟩ = some (.int .i64 nn)) :
    Calls Try.prog 72 #[.func (.func 116) #[] #[.pointer (some ⟨B1, 0, none⟩), .pointer (some ⟨B2, 0, none⟩)]] w (PurePost w (pick (rtB c d nn) 9826)) := by
  have HA := Lib.hid (callsIn_wide.1 (append_in c d nn hc hnn 3 (by omega) B1 B2 w h1 h2 c1 c2))
  generalize pick (rtB c d nn) 9826 = L at *
  clear hc hnn h1 h2 c1 c2
  go_enter Try.func72, Try.ntmps72
  go_wp2_with fail
  refine HA.out.mono ?_
  rintro e w1 ⟨A, cp, rfl, s1, s2, s3, s4, s5⟩
  go_wp2_with fail
  go_ret
  exact ⟨A, cp, rfl, s1, s2, s3, s4, s5⟩
end Go.Proofs.Ytfjmhfmhijhpkaa
