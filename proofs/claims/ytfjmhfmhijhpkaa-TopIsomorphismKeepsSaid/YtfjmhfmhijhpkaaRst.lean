/- The pure elements that the program's search yields: what the iterator hands out, whatever the loop's body does. -/
import Derived.Test.YtfjmhfmhijhpkaaIs0
import Derived.RangeFuncNested
import Derived.RangeFuncBound
import Derived.RangeFuncCalls
import Derived.RangeFuncLeaves
import Derived.Shelf.Abstract
import Derived.Shelf.RegionOpen
import Derived.OwnWalkIn
import Derived.TacticsInMore
import Derived.LoopNIn
import Derived.LoopIn
namespace Go.Proofs.Ytfjmhfmhijhpkaa
open Go.RowKit Go.Shelf FF
attribute [local go_sem] Oper.semAt_some

/-- an element of the box that is searched -/
abbrev BQ : Type := { q : Qt // InBox q }
def encB (x : BQ) : Array Value := #[qv x.1]
def vals (l : List BQ) : List Qt := l.map fun x => x.1
theorem vals_snoc (l : List BQ) (x : BQ) : vals (l ++ [x]) = vals l ++ [x.1] := by simp [vals]
theorem vals_length (l : List BQ) : (vals l).length = l.length := by simp [vals]
theorem grown_of_below {W W' : World} (h : Below W.heap.size W W') (row : Option Nat) : W.grownBy W' row :=
  ⟨h.os, h.tape, h.output, h.size, fun k hk _ => h.block k hk⟩
theorem abides_below {β : Type} {B : Nat} {J : β → World → Prop} (hJ : AbidesFrom B J) {s : β} {W W' : World} (h : J s W) (hb : Below W.heap.size W W') : J s W' :=
  hJ s W W' none h (grown_of_below hb none) (fun r e => by cases e)

theorem showsI4 {W : World} {T : TypeId} {B : Nat} (hB : W.heap.size = B) (a b c d : Int) : ShowsI (W.alloc (.cells #[.int .i64 a, .int .i64 b, .int .i64 c, .int .i64 d] T)) (some ⟨B, 0, none⟩) [a, b, c, d] := by
  subst hB
  exact ShowsI.new fun i hi => by match i, hi with | 0, _ => rfl | 1, _ => rfl | 2, _ => rfl | 3, _ => rfl
set_option maxRecDepth 100000 in
set_option maxHeartbeats 40000000 in
theorem roots_in (c d nn : Int) (hc : aE c d = 0) (hnn : -1000 ≤ nn ∧ nn ≤ 1000) (n : Nat) (hn : 1 ≤ n) (l B1 B2 n₀ : Nat) (J Jx : List BQ → World → Prop)
    (hY : ∀ pre x W, J pre W → pre.length < 9826 → YieldAt Fence.wide (n - 1) Try.prog l (encB x) W fun e W' =>
      (e = .returned (.bool true) ∧ J (pre ++ [x]) W' ∧ Below n₀ W W') ∨ (e = .returned (.bool false) ∧ Jx (pre ++ [x]) W'))
    (W0 : World) (hJ : AbidesFrom W0.heap.size J) (hn0 : n₀ ≤ W0.heap.size) (h1 : B1 < n₀) (h2 : B2 < n₀) (c1 : W0.cell? ⟨B1, 0, none⟩ = some (.int .i64 c) ∧ W0.cell? ⟨B1, 1, none⟩ = some (.int .i64 d)) (c2 : W0.cell? ⟨B2, 0, none⟩ = some (.int .i64 nn)) (h0 : J [] W0) :
    CallsIn Fence.wide n Try.prog 116 #[.func (.yield l) #[] #[], .pointer (some ⟨B1, 0, none⟩), .pointer (some ⟨B2, 0, none⟩)] W0 fun e W' => (∃ v, e = .returned v) ∧
      ((∃ ys, vals ys = pick (rtB c d nn) 9826 ∧ J ys W') ∨ (∃ pre, vals pre <+: pick (rtB c d nn) 9826 ∧ Jx pre W')) := by
  have HSq := Lib.hid (fun w x y z e (hq : qB ⟨0, x, y, z, e⟩ = true) => qsquare_any c d nn 0 x y z e w hq hc hnn)
  have HPd := Lib.hid (show ∀ q, rtB c d nn q = (decide (gq q = 1) && sqB c d nn q) from fun _ => rfl)
  have HJ := Lib.hid hJ; have HY := Lib.hid hY
  clear hJ hY hc hnn
  generalize rtB c d nn = P at *
  refine callsIn_of_wp Try.func116 rfl trivial ?_ rfl
  simp only [Try.ntmps116, List.size_toArray, List.length_cons, List.length_nil, Nat.reduceAdd, Nat.reduceSub, Array.replicate_succ, Array.replicate_zero, List.push_toArray, List.append_toArray, List.nil_append, List.cons_append]
  gi_wp2
  gi_loopw [4] (fun s4 wr => ∃ (e : Int) (pre : List BQ), s4 = .int .i64 e ∧ 1 ≤ e ∧ e ≤ 3 ∧ vals pre = pick P (idx e (-8) (-8) (-8)) ∧ J pre wr ∧ Below n₀ W0 wr) (fun s4 _ => (3 - intOf s4).toNat)
  case atStart => exact ⟨1, [], rfl, by omega, by omega, rfl, h0, Below.refl _ _⟩
  case round =>
    obtain ⟨e, pre, rfl, e1, e2, hv, hj, hb⟩ := hrel
    by_cases he : e ≤ 2
    · obtain ⟨wo0, hwo⟩ : ∃ wo0 : World, wo0 = wr := ⟨_, rfl⟩; subst hwo
      gi_wp2
      gi_loopw [5] (fun s5 wr => ∃ (x : Int) (pre : List BQ), s5 = .int .i64 x ∧ -8 ≤ x ∧ x ≤ 9 ∧ vals pre = pick P (idx e x (-8) (-8)) ∧ J pre wr ∧ Below n₀ W0 wr) (fun s5 _ => (9 - intOf s5).toNat)
      case atStart => exact ⟨-8, pre, rfl, by omega, by omega, hv, hj, hb⟩
      case round =>
        clear hv hj hb pre
        obtain ⟨x, pre, rfl, x1, x2, hv, hj, hb⟩ := hrel
        by_cases hx : x ≤ 8
        · obtain ⟨wo1, hwo⟩ : ∃ wo1 : World, wo1 = wr := ⟨_, rfl⟩; subst hwo
          gi_wp2
          gi_loopw [6] (fun s6 wr => ∃ (y : Int) (pre : List BQ), s6 = .int .i64 y ∧ -8 ≤ y ∧ y ≤ 9 ∧ vals pre = pick P (idx e x y (-8)) ∧ J pre wr ∧ Below n₀ W0 wr) (fun s6 _ => (9 - intOf s6).toNat)
          case atStart => exact ⟨-8, pre, rfl, by omega, by omega, hv, hj, hb⟩
          case round =>
            clear hv hj hb pre
            obtain ⟨y, pre, rfl, y1, y2, hv, hj, hb⟩ := hrel
            by_cases hy : y ≤ 8
            · obtain ⟨wo2, hwo⟩ : ∃ wo2 : World, wo2 = wr := ⟨_, rfl⟩; subst hwo
              gi_wp2
              gi_loopw [7] (fun s7 wr => ∃ (z : Int) (pre : List BQ), s7 = .int .i64 z ∧ -8 ≤ z ∧ z ≤ 9 ∧ vals pre = pick P (idx e x y z) ∧ J pre wr ∧ Below n₀ W0 wr) (fun s7 _ => (9 - intOf s7).toNat)
              case atStart => exact ⟨-8, pre, rfl, by omega, by omega, hv, hj, hb⟩
              case round =>
                clear hv hj hb pre
                obtain ⟨z, pre, rfl, z1, z2, hv, hj, hb⟩ := hrel
                by_cases hz : z ≤ 8
                · have hq : qB ⟨0, x, y, z, e⟩ = true := qB_iff.2 ⟨by dsimp only; omega, by dsimp only; omega, by dsimp only; omega, by dsimp only; omega, by dsimp only; omega⟩
                  have hbox : InBox ⟨0, x, y, z, e⟩ := ⟨rfl, ⟨x1, hx⟩, ⟨y1, hy⟩, ⟨z1, hz⟩, ⟨e1, he⟩⟩
                  have hqk := qk_idx (d := e) (x := x) (y := y) (z := z) ⟨by omega, by omega⟩ ⟨by omega, by omega⟩ ⟨by omega, by omega⟩ ⟨by omega, by omega⟩
                  have hzi := idx_z (d := e) (x := x) (y := y) (z := z) (by omega) (by omega) (by omega) (by omega)
                  have hlt := idx_lt (d := e) (x := x) (y := y) (z := z) ⟨by omega, by omega⟩ ⟨by omega, by omega⟩ ⟨by omega, by omega⟩ ⟨by omega, by omega⟩
                  have hln := pick_length P (idx e x y z)
                  rw [← hv, vals_length] at hln
                  have HYy := Lib.hid (fun (h : P ⟨0, x, y, z, e⟩ = true) => pick_yes hqk h)
                  have HNn := Lib.hid (fun (h : P ⟨0, x, y, z, e⟩ = false) => pick_no hqk h)
                  rw [← hzi, ← hv] at HYy HNn
                  have HPre := Lib.hid (pick_prefix P (m := idx e x y (z + 1)) (n := 9826) (by omega))
                  have HF := Lib.hid (HPd.out ⟨0, x, y, z, e⟩)
                  have HS := Lib.hid (fun w => HSq.out w x y z e hq)
                  have HGc := Lib.hid (fun (A : Option Addr) (cc : Nat) (w : World) (hx : ShowsI w A [x, y, z, e]) => (show Calls Try.prog 84 #[.slice A 4 cc] w (Ret w (.int .i64 (gq ⟨0, x, y, z, e⟩))) by
                    have h := qgcd_any A [x, y, z, e] 4 cc w hx rfl (by omega) (fun i hi => by
                      match i, hi with
                      | 0, _ => exact ⟨by show -4611686018427387904 ≤ x; omega, by show x ≤ 4611686018427387904; omega⟩
                      | 1, _ => exact ⟨by show -4611686018427387904 ≤ y; omega, by show y ≤ 4611686018427387904; omega⟩
                      | 2, _ => exact ⟨by show -4611686018427387904 ≤ z; omega, by show z ≤ 4611686018427387904; omega⟩
                      | 3, _ => exact ⟨by show -4611686018427387904 ≤ e; omega, by show e ≤ 4611686018427387904; omega⟩)
                    have e4 : gcdL [x, y, z, e] = gq ⟨0, x, y, z, e⟩ := by
                      simp only [gcdL, gq, List.foldl_cons, List.foldl_nil, Int.gcd, Int.natAbs_natCast, Nat.gcd_zero_left, Int.natAbs_zero, Nat.gcd_assoc]
                    rw [e4] at h
                    exact h))
                  clear hq hqk hzi HPd HSq
                  generalize P ⟨0, x, y, z, e⟩ = Fl at *
                  generalize sqB c d nn ⟨0, x, y, z, e⟩ = S at *
                  generalize gq ⟨0, x, y, z, e⟩ = g at *
                  gi_wp2
                  refine ⟨trivial, (callsIn_wide.2 (HGc.out _ _ _ (showsI4 (by simp) x y z e))).mono ?_⟩
                  rintro e5 w5 ⟨rfl, n1, rfl⟩
                  obtain ⟨V, hV⟩ : ∃ V : World, V = (((wr.alloc (.cells #[.int .i64 0, .int .i64 x, .int .i64 y, .int .i64 z, .int .i64 e] 25)).alloc (.cells #[.int .i64 x, .int .i64 y, .int .i64 z, .int .i64 e] 3)).drewN n1) := ⟨_, rfl⟩
                  rw [← hV]
                  have hVb : Below wr.heap.size wr V := hV ▸ below_drewN (((Below.refl _ _).alloc (Nat.le_refl _) _).alloc (by simp) _) n1
                  have hVc : Cells V wr.heap.size #[.int .i64 0, .int .i64 x, .int .i64 y, .int .i64 z, .int .i64 e] := hV ▸ ((Cells.new wr _ _ rfl).alloc _).keep (below_drewN (Below.refl _ _) n1)
                  have hVn : Below n₀ W0 V := hb.trans (hVb.mono (by have := hb.size; omega))
                  have hVj : J pre V := abides_below (fun s A B row h1 h2 h3 => HJ.out s A B row h1 h2 h3) hj hVb
                  have HVC := Lib.hid hVc; have HVN := Lib.hid hVn; have HVJ := Lib.hid hVj
                  clear hV hVc hVn hVj hVb hb hj HGc
                  generalize wr.heap.size = G at *
                  by_cases hg : g = 1
                  · have dg : ((g : Int) == 1) = true := by rw [hg]; rfl
                    have HFS := Lib.hid (show Fl = S by rw [HF.out, decide_eq_true hg]; rfl)
                    obtain ⟨v0, v1, v2, v3, v4⟩ := HVC.out.five
                    have d1 := (HVN.out.cell (p := ⟨B1, 0, none⟩) h1).trans c1.1
                    have d2 := (HVN.out.cell (p := ⟨B1, 1, none⟩) h1).trans c1.2
                    have d3 := (HVN.out.cell (p := ⟨B2, 0, none⟩) h2).trans c2
                    clear HF hg
                    gi_wp2
                    refine ⟨trivial, (callsIn_wide.2 (HS.out _)).mono ?_⟩
                    rintro e6 w6 ⟨rfl, hb6⟩
                    have HC6 := Lib.hid (HVC.out.keep hb6)
                    have hn6 := HVN.out.trans (hb6.mono (by have := HVN.out.size; omega))
                    have hj6 : J pre w6 := abides_below (fun s A B row h1 h2 h3 => HJ.out s A B row h1 h2 h3) HVJ.out hb6
                    have HN6 := Lib.hid hn6
                    clear v0 v1 v2 v3 v4 d1 d2 d3 HVC HVN HVJ HS hb6 hn6
                    cases S
                    · have HZ := Lib.hid (HNn.out HFS.out)
                      clear HYy HNn
                      gi_wp2
                      refine ⟨fun _ h => (by cases h), ?_⟩
                      gi_wp2
                      exact ⟨⟨z + 1, pre, by go_num, by omega, by omega, by rw [HZ.out], hj6, HN6.out⟩, by simp [intOf]; omega⟩
                    · have HZ := Lib.hid (HYy.out HFS.out)
                      clear HYy HNn
                      obtain ⟨v0, v1, v2, v3, v4⟩ := HC6.out.five
                      obtain ⟨fn, tmps, assign, body, hyl, hR⟩ := HY.out pre ⟨⟨0, x, y, z, e⟩, hbox⟩ w6 hj6 (by omega)
                      dsimp only [encB, qv] at hyl
                      have HR := Lib.hid hR; clear hR hj6
                      gi_wp2
                      refine HR.out.mono ?_
                      rintro e7 w7 (⟨rfl, hj7, hb7⟩ | ⟨rfl, hjx7⟩)
                      · have HB7 := Lib.hid (HN6.out.trans hb7)
                        clear hyl HR
                        gi_wp2
                        exact ⟨⟨z + 1, pre ++ [⟨⟨0, x, y, z, e⟩, hbox⟩], by go_num, by omega, by omega, by rw [HZ.out, vals_snoc], hj7, HB7.out⟩, by simp [intOf]; omega⟩
                      · clear hyl HR
                        gi_wp2
                        refine bodyPost_ret (results_none rfl _ _ _) rfl ?_
                        exact ⟨⟨_, rfl⟩, .inr ⟨pre ++ [⟨⟨0, x, y, z, e⟩, hbox⟩], by rw [vals_snoc, ← HZ.out]; exact HPre.out, hjx7⟩⟩
                  · have dg : ((g : Int) == 1) = false := by rw [beq_eq_false_iff_ne]; omega
                    have HZ := Lib.hid (HNn.out (by rw [HF.out, decide_eq_false hg]; rfl))
                    clear HYy HNn HF HS hg
                    gi_wp2
                    refine ⟨trivial, ?_⟩
                    gi_wp2
                    refine ⟨fun _ h => (by cases h), ?_⟩
                    gi_wp2
                    exact ⟨⟨z + 1, pre, by go_num, by omega, by omega, by rw [HZ.out], HVJ.out, HVN.out⟩, by simp [intOf]; omega⟩
                · have z9 : z = 9 := by omega
                  subst z9
                  gi_wp2
                  exact ⟨⟨y + 1, pre, by go_num, by omega, by omega, by rw [idx_y e x y]; exact hv, hj, hb⟩, by simp [intOf]; omega⟩
            · have y9 : y = 9 := by omega
              subst y9
              gi_wp2
              exact ⟨⟨x + 1, pre, by go_num, by omega, by omega, by rw [idx_x e x]; exact hv, hj, hb⟩, by simp [intOf]; omega⟩
        · have x9 : x = 9 := by omega
          subst x9
          gi_wp2
          exact ⟨⟨e + 1, pre, by go_num, by omega, by omega, by rw [idx_d e]; exact hv, hj, hb⟩, by simp [intOf]; omega⟩
    · have e9 : e = 3 := by omega
      subst e9
      gi_wp2
      go_end0
      exact ⟨⟨_, rfl⟩, .inl ⟨pre, by rw [← idx_end]; exact hv, hj⟩⟩
end Go.Proofs.Ytfjmhfmhijhpkaa
