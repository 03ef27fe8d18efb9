/- Words: the long division; divide at every divisor other than 0. -/
import Derived.Test.YtimdkjbmeogpoaaGreatDoorUNt
import Derived.Test.YtimdkjbmeogpoaaGreatDoorUWordB
import Derived.Test.YtimdkjbmeogpoaaGreatDoorUQn0
section
namespace FF
def seg (f : Nat → Nat) (j m : Nat) : List Nat := (List.range m).map fun i => f (j + i)
theorem seg_length (f : Nat → Nat) (j m : Nat) : (seg f j m).length = m := by simp [seg]
theorem seg_getD {f : Nat → Nat} {j m i : Nat} (h : i < m) : (seg f j m).getD i 0 = f (j + i) := by
 simp [seg, List.getD_eq_getElem?_getD, h]
theorem seg_snoc (f : Nat → Nat) (j m : Nat) : seg f j (m + 1) = seg f j m ++ [f (j + m)] := by
 simp [seg, List.range_succ]
theorem seg_congr {f g : Nat → Nat} {j m : Nat} (h : ∀ i, i < m → f (j + i) = g (j + i)) : seg f j m = seg g j m := by
 unfold seg
 exact List.map_congr_left fun i hi => h i (List.mem_range.1 hi)
theorem dig_seg {B : Nat} {f : Nat → Nat} (h : ∀ k, f k < B) (j m : Nat) : Dig B (seg f j m) := by
 intro x hx
 obtain ⟨i, _, rfl⟩ := List.mem_map.1 hx
 exact h _
end FF
namespace FF
def upd (f : Nat → Nat) (p x : Nat) (k : Nat) : Nat := if k = p then x else f k
theorem upd_at (f : Nat → Nat) (p x : Nat) : upd f p x p = x := if_pos rfl
theorem upd_ne {f : Nat → Nat} {p x k : Nat} (h : k ≠ p) : upd f p x k = f k := if_neg h
theorem upd_lt {B : Nat} {f : Nat → Nat} {p x : Nat} (hf : ∀ k, f k < B) (hx : x < B) (k : Nat) : upd f p x k < B := by
 unfold upd
 split
 ·exact hx
 ·exact hf k
theorem val_seg_upd (B : Nat) (f : Nat → Nat) {p N : Nat} (x : Nat) (h : p < N) : val B (seg (upd f p x) 0 N) + B ^ p * f p = val B (seg f 0 N) + B ^ p * x := by
 induction N with
 | zero => omega
 | succ N ih =>
  rw [seg_snoc, seg_snoc, val_append, val_append, seg_length, seg_length, Nat.zero_add]
  simp only [val, Nat.mul_zero, Nat.add_zero]
  by_cases e : p = N
  ·subst e
   rw [upd_at, seg_congr (f := upd f p x) (g := f) (fun i hi => upd_ne (by omega))]
   omega
  ·rw [upd_ne (Ne.symm e)]
   have := ih (by omega)
   omega
theorem val_seg_zero (B : Nat) {f : Nat → Nat} {N : Nat} (h : ∀ k, k < N → f k = 0) : val B (seg f 0 N) = 0 := by
 induction N with
 | zero => rfl
 | succ N ih =>
  rw [seg_snoc, val_append, ih (fun k hk => h k (by omega)), Nat.zero_add, Nat.zero_add, h N (by omega)]
  simp [val]
theorem times_step {B i k c x V0 N : Nat} {f : Nat → Nat} {ys : List Nat} (hp : i + k < N)
  (h : val B (seg f 0 N) + B ^ (i + k) * c = V0 + B ^ i * (x * val B (ys.take k))) {s : Nat} (hs : s = x * ys.getD k 0 + f (i + k) + c) :
  val B (seg (upd f (i + k) (s % B)) 0 N) + B ^ (i + (k + 1)) * (s / B) = V0 + B ^ i * (x * val B (ys.take (k + 1))) := by
 have h1 := val_seg_upd B f (s % B) hp
 rw [val_take_succ', Nat.mul_add, Nat.mul_add]
 have e : B ^ (i + k) * s = B ^ (i + k) * (s % B) + B ^ (i + (k + 1)) * (s / B) := by
  have := Nat.mod_add_div s B
  calc B ^ (i + k) * s = B ^ (i + k) * (s % B + B * (s / B)) := by rw [this]
   _ = _ := by rw [← Nat.add_assoc, Nat.pow_succ]; grind
 have e2 : B ^ (i + k) * s = B ^ i * (x * (B ^ k * ys.getD k 0)) + B ^ (i + k) * f (i + k) + B ^ (i + k) * c := by rw [hs, Nat.pow_add]; grind
 omega
theorem times_bound {B x y z c : Nat} (hx : x < B) (hy : y < B) (hz : z < B) (hc : c < B) : (x * y + z + c) / B < B ∧ x * y + z + c < B * B := by
 have h1 : x * y ≤ (B - 1) * (B - 1) := Nat.mul_le_mul (by omega) (by omega)
 have h2 : (B - 1) * (B - 1) + (B - 1) = (B - 1) * B := by rw [← Nat.mul_succ]; congr 1; omega
 have h3 : (B - 1) * B + B = B * B := by rw [← Nat.succ_mul]; congr 1; omega
 have h4 : x * y + z + c < B * B := by omega
 exact ⟨by rw [Nat.div_lt_iff_lt_mul (by omega)]; exact h4, h4⟩
theorem times_row {B i c x N m V0 : Nat} {f : Nat → Nat} {ys : List Nat} (hp : i + m < N) (hm : ys.length = m) (h0 : f (i + m) = 0)
  (h : val B (seg f 0 N) + B ^ (i + m) * c = V0 + B ^ i * (x * val B (ys.take m))) : val B (seg (upd f (i + m) c) 0 N) = V0 + B ^ i * (x * val B ys) := by
 have h1 := val_seg_upd B f c hp
 rw [h0, Nat.mul_zero, Nat.add_zero] at h1
 rw [← hm, List.take_length, hm] at h
 omega
end FF
namespace FF
def halves : List Nat → List Nat
 | [] => []
 | x :: xs => x % 65536 :: x / 65536 :: halves xs
theorem halves_snoc (xs : List Nat) (x : Nat) : halves (xs ++ [x]) = halves xs ++ [x % 65536, x / 65536] := by
 induction xs with
 | nil => rfl
 | cons y ys ih => simp only [List.cons_append, halves, ih]
theorem halves_length (xs : List Nat) : (halves xs).length = 2 * xs.length := by
 induction xs with
 | nil => rfl
 | cons y ys ih => simp only [halves, List.length_cons, ih]; omega
theorem halves_val (xs : List Nat) : val 65536 (halves xs) = val 4294967296 xs := by
 induction xs with
 | nil => rfl
 | cons y ys ih =>
  simp only [halves, val, ih]
  have := Nat.mod_add_div y 65536
  rw [Nat.mul_add, ← Nat.mul_assoc]
  omega
theorem halves_dig {xs : List Nat} (h : Dig 4294967296 xs) : Dig 65536 (halves xs) := by
 induction xs with
 | nil => intro x hx; simp [halves] at hx
 | cons y ys ih =>
  intro x hx
  have hy := h.head
  simp only [halves, List.mem_cons] at hx
  rcases hx with rfl | rfl | hx
  ·omega
  ·omega
  ·exact ih h.tail x hx
end FF
end
section
namespace Go.Proofs.YtimdkjbmeogpoaaGreatDoor
open Go.RowKit FF
def rowN (f : Nat → Nat) : Nat → Value := fun k => .int .u32 (f k : Nat)
theorem rowIs_upd {w : World} {G T n p x : Nat} {f : Nat → Nat} (h : w.rowIs G T n (rowN f)) : (w.setCell ⟨G, p, none⟩ (.int .u32 (x : Nat))).rowIs G T n (rowN (upd f p x)) := by
 refine (h.set p (.int .u32 (x : Nat))).congr fun i _ => ?_
 unfold rowN upd
 split <;> rfl
theorem rowN_shows {w : World} {G T n : Nat} {f : Nat → Nat} (h : w.rowIs G T n (rowN f)) : Shows .u32 w (some ⟨G, 0, none⟩) (seg f 0 n) := by
 intro _
 refine ⟨G, 0, rfl, h.lt, fun i hi => ?_⟩
 rw [seg_length] at hi
 rw [seg_getD hi, Nat.zero_add]
 exact h.cell hi
theorem rowN_zero (n : Nat) (i : Nat) (_ : i < n) : Value.int .u32 0 = rowN (fun _ => 0) i := rfl
set_option maxHeartbeats 2000000 in
theorem times_any (A A' : Option Addr) (xs ys : List Nat) (c c' : Nat) (w : World) (hx : Shows .u32 w A xs) (hy : Shows .u32 w A' ys) (dx : Dig WB xs) (dy : Dig WB ys) (hxl : xs.length ≤ 1000000) (hyl : ys.length ≤ 1000000) :
  Calls Tryz.prog 117 #[.slice A xs.length c, .slice A' ys.length c'] w fun e w' =>
   ∃ A2, e = .returned (.slice A2 (wl (val WB xs * val WB ys)) (wl (val WB xs * val WB ys))) ∧ Shows .u32 w' A2 (digs WB (val WB xs * val WB ys)) ∧ Fresh w.heap.size A2 ∧ Below w.heap.size w w' := by
 obtain ⟨n, hn⟩ : ∃ n, xs.length = n := ⟨_, rfl⟩
 obtain ⟨m, hm⟩ : ∃ m, ys.length = m := ⟨_, rfl⟩
 obtain ⟨N, hN⟩ : ∃ N, N = n + m := ⟨_, rfl⟩
 have hmk := row_make N (by omega)
 have hNc : (N : Int) = (n : Int) + m := by omega
 rw [hNc] at hmk
 clear hNc
 have bx := lhd (fun i => dx.getD (show 0 < WB by decide) i)
 have by' := lhd (fun i => dy.getD (show 0 < WB by decide) i)
 have HX := lhd hx; have HY := lhd hy
 have HDX := lhd dx; have HDY := lhd dy
 have Hn := lhd hn; have Hm := lhd hm; have HN := lhd hN
 rw [hn, hm]
 rw [hn] at hxl
 rw [hm] at hyl
 clear hx hy dx dy hn hm hN
 go_enter Tryz.func117, Tryz.ntmps117
 go_wp2
 go_loopw [19] (fun s19 wr => ∃ (i : Nat) (f : Nat → Nat), s19 = .int .i64 i ∧ i ≤ n ∧ (∀ k, f k < WB) ∧ (∀ k, i + m ≤ k → k < N → f k = 0) ∧ val WB (seg f 0 N) = val WB (xs.take i) * val WB ys ∧ wr.rowIs w.heap.size 186 N (rowN f) ∧ Below w.heap.size w wr) (fun s _ => n - (intOf s).toNat)
 case atStart => exact ⟨0, fun _ => 0, rfl, Nat.zero_le _, fun _ => show 0 < WB by decide, fun _ _ _ => rfl, by rw [val_seg_zero _ (fun _ _ => rfl)]; simp [val], (World.rowIs_made w _ N _).congr (rowN_zero N), (Below.refl _ _).alloc (Nat.le_refl _) _⟩
 case round =>
  obtain ⟨i, f, rfl, hi, hf, hz, hv, hr, hb⟩ := hrel
  by_cases hiN : i < n
  ·obtain ⟨b1, o1, rfl, hb1, hc1⟩ := HX.out.below hb (by rw [Hn.out]; omega)
   have hx1 := hc1 i (by rw [Hn.out]; exact hiN)
   have bxi := bx.out i
   unfold WB at bxi
   have HV := lhd hv; have HR := lhd hr; have HB := lhd hb; have HF := lhd hf; have HZ := lhd hz
   have HXi0 : xs.getD i 0 = xs.getD i 0 := rfl
   clear hv hr hb hf hz hc1
   obtain ⟨x, hxi⟩ : ∃ x, xs.getD i 0 = x := ⟨_, rfl⟩
   have HXi := lhd hxi
   rw [hxi] at hx1 bxi
   clear hxi HXi0
   obtain ⟨W6, h6⟩ : ∃ W6 : World, W6 = wr := ⟨_, rfl⟩
   subst h6
   go_wp2
   go_loopw [8, 26] (fun s8 s26 wr2 => ∃ (k cy : Nat) (g : Nat → Nat), s8 = .int .u64 cy ∧ s26 = .int .i64 k ∧ k ≤ m ∧ cy < 4294967296 ∧ (∀ t, g t < WB) ∧ (∀ t, i + m ≤ t → t < N → g t = 0) ∧ val WB (seg g 0 N) + WB ^ (i + k) * cy = val WB (seg f 0 N) + WB ^ i * (x * val WB (ys.take k)) ∧ wr2.rowIs w.heap.size 186 N (rowN g) ∧ Below w.heap.size w wr2) (fun _ s _ => m - (intOf s).toNat)
   case atStart => exact ⟨0, 0, f, rfl, rfl, Nat.zero_le _, by decide, HF.out, HZ.out, by simp [val], HR.out, HB.out⟩
   case round =>
    obtain ⟨k, cy, g, rfl, rfl, hk, hcy, hg, hgz, hgv, hgr, hgb⟩ := hrel
    by_cases hkm : k < m
    ·obtain ⟨b2, o2, rfl, hb2, hc2⟩ := HY.out.below hgb (by rw [Hm.out]; omega)
     have hy1 := hc2 k (by rw [Hm.out]; exact hkm)
     have byk := by'.out k
     unfold WB at byk
     have hp : i + k < N := by rw [HN.out]; omega
     have hgk := hg (i + k)
     unfold WB at hgk
     have hcell : wr.cell? ⟨w.heap.size, i + k, none⟩ = some (.int .u32 (g (i + k) : Nat)) := hgr.cell hp
     have hfro := hgr.frozen (i + k)
     have hst := lhd (fun s hs => times_step (B := WB) (i := i) (k := k) (c := cy) (x := x) (ys := ys) hp hgv (s := s) hs)
     have hbd := times_bound (B := 4294967296) bxi byk hgk hcy
     have HG := lhd hg; have HGZ := lhd hgz; have HGR := lhd hgr; have HGB := lhd hgb
     clear hg hgz hgv hgr hgb hc2
     generalize ys.getD k 0 = y at *
     generalize g (i + k) = z at *
     obtain ⟨P, hP⟩ : ∃ P, x * y = P := ⟨_, rfl⟩
     have hPc : (x : Int) * y = (P : Int) := by rw [← hP]; exact (Int.natCast_mul x y).symm
     have HP := lhd hP
     rw [hP] at hbd hst
     clear hP
     have e1 : IntKind.i64.wrap ((i : Int) + k) = (i : Int) + k := IntWalk.i64_in _ (by omega)
     have e2 : (0 : Int) ≤ (i : Int) + k := by omega
     have e3 : ((i : Int) + k).toNat = i + k := by omega
     have e4 : IntKind.u64.wrap ((x : Int) * y) = (P : Int) := by rw [hPc]; simp only [IntKind.wrap, IntKind.bits, IntKind.signed]; simp; omega
     have e5 : IntKind.u64.wrap ((P : Int) + z) = ((P + z : Nat) : Int) := by simp only [IntKind.wrap, IntKind.bits, IntKind.signed]; simp; omega
     have e6 : IntKind.u64.wrap (((P + z : Nat) : Int) + cy) = ((P + z + cy : Nat) : Int) := by simp only [IntKind.wrap, IntKind.bits, IntKind.signed]; simp; omega
     clear hPc
     go_wp2
     go_quiet (fail)
     go_wp2
     refine ⟨⟨k + 1, (P + z + cy) / 4294967296, upd g (i + k) ((P + z + cy) % 4294967296), ?_, by go_num, by omega, hbd.1, upd_lt HG.out (Nat.mod_lt _ (by decide)), fun t h1 h2 => ?_, ?_, ?_, ?_⟩, by simp [intOf]; omega⟩
     ·rfl
     ·rw [upd_ne (by omega)]; exact HGZ.out t h1 h2
     ·exact hst.out _ rfl
     ·exact rowIs_upd HGR.out
     ·exact (below_drewN HGB.out _).setCell (Nat.le_refl _) _
    ·obtain rfl : k = m := by omega
     have hp : i + k < N := by rw [HN.out]; omega
     have hcell : wr.cell? ⟨w.heap.size, i + k, none⟩ = some (.int .u32 (g (i + k) : Nat)) := hgr.cell hp
     have hfro := hgr.frozen (i + k)
     have hrow := times_row (B := WB) hp Hm.out (hgz _ (Nat.le_refl _) hp) hgv
     have htk : val WB (xs.take (i + 1)) * val WB ys = val WB (xs.take i) * val WB ys + WB ^ i * (x * val WB ys) := by
      rw [val_take_succ', HXi.out, Nat.add_mul, Nat.mul_assoc]
     rw [HV.out, ← htk] at hrow
     have HROW := lhd hrow
     have HG := lhd hg; have HGZ := lhd hgz; have HGR := lhd hgr; have HGB := lhd hgb
     clear hg hgz hgv hgr hgb hrow htk
     have e0 : (cy : Int) % 4294967296 = (cy : Int) := by omega
     go_wp2
     refine ⟨⟨i + 1, upd g (i + k) cy, by go_num, by omega, upd_lt HG.out (show cy < WB from hcy), fun t h1 h2 => ?_, HROW.out, ?_, HGB.out.setCell (Nat.le_refl _) _⟩, by simp [intOf]; omega⟩
     ·rw [upd_ne (by omega)]; exact HGZ.out t (by omega) h2
     ·exact rowIs_upd HGR.out
  ·obtain rfl : i = n := by omega
   have hlt := val_lt HDX.out
   rw [List.take_of_length_le (by rw [Hn.out]; exact Nat.le_refl _)] at hv
   have hdd := dig_seg hf 0 N
   have sh := rowN_shows hr
   have T1 := trimmed_any (some ⟨w.heap.size, 0, none⟩) (seg f 0 N) N wr sh hdd (by rw [seg_length]; exact Nat.le_refl _) (by rw [HN.out]; unfold maxLen; omega)
   have S1 := sh.trim hdd
   rw [seg_length, hv] at T1
   rw [hv] at S1
   have HT := lhd T1; have HS := lhd S1; have HB := lhd hb
   clear T1 S1 hv hr hb hf hz hdd sh hmk hlt
   go_wp2_with fail
   refine HT.out.mono ?_
   rintro e w' ⟨rfl, rfl⟩
   go_wp2_with fail
   go_ret
   exact ⟨_, rfl, HS.out, Fresh.mk (Nat.le_refl _), HB.out⟩
section
variable {P : Program} (w : World)
theorem run_append_nothing (t ty e : TypeId) (i : TypeInfo) (ht : P.underlying t = some (.slice e)) (hi : P.info? e = some i) (B A : Option Addr) (n cap c : Nat) (hn : n ≤ cap) :
  (Builtin.append_ #[t, t] ty #[.slice B n cap, .slice A 0 c]).run P w = .ok (.slice B n cap) w := by
 cases A <;> cases B <;> simp [Builtin.append_, run_underlying ht, sizeOf, typeInfo, hi, Builtin.lenOf, Builtin.firstCells, hn, storeCells, loadCells, loadCellsFrom]
theorem wpList_append_nothing {ops : Array Oper} {rest : List Oper} {o : Oper} {a : Act} {Q : Exit → Act → World → Prop} (hgd : o.guard = none) (s x : Operand) (t : TypeId)
  (ho : o.op = .call { callee := .builtin .append, args := #[s, x], argTypes := #[t, t] })
  (e : TypeId) (i : TypeInfo) (ht : P.underlying t = some (.slice e)) (hi : P.info? e = some i)
  (B A : Option Addr) (n cap c : Nat) (hs : a.eval s = .slice B n cap) (hx : a.eval x = .slice A 0 c) (hn : n ≤ cap)
  (h : wpList P ops Q rest (a.put o.dst (.slice B n cap)) w) : wpList P ops Q (o :: rest) a w := by
 refine wpList_plain hgd fun K hK => ?_
 have hr := run_append_nothing (P := P) w t o.type e i ht hi B A n cap c hn
 unfold Oper.wp execOp
 simp only [ho, resolve, invoke, builtin, Sem.run_bind, Sem.run_pure, Result.andThen_ok, List.map_toArray, List.map_cons, List.map_nil, hs, hx, hr]
 exact hK _ _ h
end
theorem own_shows {k : IntKind} {w : World} {B T : Nat} {v : Value} {xs : List Nat} (h : w.ownsRow B T 1 v xs.length (cells k xs)) :
  ∃ A c, v = .slice A xs.length c ∧ Shows k w A xs ∧ xs.length ≤ c ∧ c ≤ maxLen ∧ Fresh B A := by
 rcases h.2 with ⟨rfl, hn⟩ | ⟨g, cap, cur, rfl, hb, hg, hnc, hcm, hcs, ht⟩
 ·have : xs = [] := List.eq_nil_of_length_eq_zero hn
  subst this
  exact ⟨none, 0, rfl, Shows.nil, Nat.le_refl _, by simp [maxLen], Fresh.none⟩
 ·refine ⟨some ⟨g, 0, none⟩, cap, rfl, fun h0 => ⟨g, 0, rfl, (Array.getElem?_eq_some_iff.1 hg).1, fun i hi => ?_⟩, hnc, hcm, Fresh.mk hb⟩
  have := h.cellAt i (by omega)
  rw [Nat.zero_add, this, cells_get hi]
def cellsI (xs : List Int) : List Value := xs.map fun x => Value.int .i64 x
theorem cellsI_length (xs : List Int) : (cellsI xs).length = xs.length := by unfold cellsI; rw [List.length_map]
theorem cellsI_get {xs : List Int} {j : Nat} (h : j < xs.length) : (cellsI xs)[j]? = some (.int .i64 (xs.getD j 0)) := by
 unfold cellsI; rw [List.getElem?_map, List.getElem?_eq_getElem h, List.getD_eq_getElem?_getD, List.getElem?_eq_getElem h]; rfl
theorem cellsI_one (xs : List Int) : ∀ u ∈ cellsI xs, u.oneCell' = true := by
 intro u hu; unfold cellsI at hu; obtain ⟨x, _, rfl⟩ := List.mem_map.1 hu; rfl
theorem cells_snoc (k : IntKind) (xs : List Nat) (x : Nat) : cells k xs ++ [.int k x] = cells k (xs ++ [x]) := by simp [cells]
theorem own_row_ge {w : World} {B T : Nat} {v : Value} {n : Nat} {xs : List Value} (h : w.ownsRow B T 1 v n xs) : ∀ k, v.ownBlock = some k → B ≤ k := fun k hk => (h.lt k hk).1
end Go.Proofs.YtimdkjbmeogpoaaGreatDoor
namespace Go.Proofs.YtimdkjbmeogpoaaGreatDoor
open Go.RowKit FF
def Got (w : World) (T : TypeId) (size : Nat) (v : Value) (n : Nat) (xs : List Int) (wr : World) : Prop :=
 wr.ownsRow w.heap.size T size v n (cellsI xs) ∧ Below w.heap.size w wr
section
variable {w wr : World} {T : TypeId} {size n : Nat} {v : Value} {xs : List Int}
theorem Got.below (h : Got w T size v n xs wr) : Below w.heap.size w wr := h.2
theorem Got.start (h : Below w.heap.size w wr) : Got w T size (.slice none 0 0) 0 [] wr := ⟨⟨by simp [cellsI], .inl ⟨rfl, rfl⟩⟩, h⟩
theorem Got.drewN (h : Got w T size v n xs wr) (m : Nat) : Got w T size v n xs (wr.drewN m) := ⟨h.1, below_drewN h.2 m⟩
theorem Got.alloc (h : Got w T size v n xs wr) (o : Obj) : Got w T size v n xs (wr.alloc o) := ⟨h.1.alloc o, h.2.alloc h.2.size o⟩
theorem Got.row_ge (h : Got w T size v n xs wr) : ∀ k, v.ownBlock = some k → w.heap.size ≤ k := by
 intro k hk
 rcases h.1.2 with ⟨rfl, _⟩ | ⟨g, cap, cur, rfl, hb, _⟩
 ·cases hk
 ·simp [Value.ownBlock] at hk; omega
theorem Got.keep {w2 : World} (h : Got w T size v n xs wr) (hb : Below wr.heap.size wr w2) : Got w T size v n xs w2 := by
 refine ⟨⟨h.1.1, ?_⟩, h.2.trans (hb.mono h.2.size)⟩
 rcases h.1.2 with h0 | ⟨g, cap, cur, h1, h2, h3, h4⟩
 ·exact .inl h0
 ·refine .inr ⟨g, cap, cur, h1, h2, ?_, h4⟩
  have hlt : g < wr.heap.size := (Array.getElem?_eq_some_iff.1 h3).1
  rw [hb.block g hlt]; exact h3
theorem Got.len (h : Got w T size v n xs wr) : xs.length = n * size := by have := h.1.1; rwa [cellsI_length] at this
theorem wpList_append_got {P : Program} {ops : Array Oper} {rest : List Oper} {o : Oper} {a : Act} {Q : Exit → Act → World → Prop} (hgd : o.guard = none) (s x : Operand) (t : TypeId)
  (ho : o.op = .call { callee := .builtin .append, args := #[s, x], argTypes := #[t, t] })
  (E : TypeId) (i : TypeInfo) (z : Value) (size bytes : Nat) (ht : P.underlying t = some (.slice E)) (hi : P.info? E = some i) (hz : i.zero = some z)
  (hsize : i.size = size) (hby : i.bytes = bytes) (hzs : z.cells.size = size) (hsz : 0 < size)
  (v : Value) (n : Nat) (xs : List Int) (hs : a.eval s = v) {w wr : World} (hG : Got w E size v n xs wr) (news : Array Value) (T' : TypeId) (ys : List Int) (hn : news.toList = cellsI ys) (hl : ys.length = size) (c : Nat)
  (hx : a.eval x = .slice (some ⟨wr.heap.size, 0, none⟩) 1 c) (hbound : (n + 1) * bytes ≤ 140737488355328) (h63 : n + 1 ≤ maxLen)
  (h : ∀ v' w', Got w E size v' (n + 1) (xs ++ ys) w' → wpList P ops Q rest (a.put o.dst v') w') : wpList P ops Q (o :: rest) a (wr.alloc (.cells news T')) := by
 have hsz' : (wr.alloc (.cells news T')).heap.size = wr.heap.size + 1 := by simp
 refine wpList_append_own (wr.alloc (.cells news T')) hgd s x t ho w.heap.size E i z size bytes ht hi hz hsize hby hzs hsz v n (cellsI xs) hs (hG.alloc _).1 ⟨wr.heap.size, 0, none⟩ 1 c (cellsI ys) hx (by rw [cellsI_length]; omega) (fun j u hj => ?_) (cellsI_one ys) h63 hbound (by have := hG.2.size; omega) (fun v' w' h1 h2 _ => h v' w' ⟨?_, ?_⟩)
 ·rw [Addr.add_lit, Nat.zero_add, World.cell?_alloc_at (w := wr) news T' wr.heap.size j rfl, ← Array.getElem?_toList, hn, hj]
 ·have e : cellsI xs ++ cellsI ys = cellsI (xs ++ ys) := by simp [cellsI]
  rw [← e]; exact h1
 ·exact Below.grown (hG.alloc _).2 h2 (by have := hG.2.size; omega) hG.row_ge
theorem Got.shows (h : Got w T size v n xs wr) : ∃ A c, v = .slice A n c ∧ ShowsI wr A xs ∧ n ≤ c ∧ c ≤ maxLen ∧ Fresh w.heap.size A := by
 rcases h.1.2 with ⟨rfl, hn⟩ | ⟨g, cap, cur, rfl, hb, hg, hnc, hcm, hcs, ht⟩
 ·subst hn
  have : xs = [] := List.eq_nil_of_length_eq_zero (by have := h.len; omega)
  subst this
  exact ⟨none, 0, rfl, ShowsI.nil, Nat.le_refl _, by simp [maxLen], Fresh.none⟩
 ·refine ⟨some ⟨g, 0, none⟩, cap, rfl, fun h0 => ⟨g, 0, rfl, (Array.getElem?_eq_some_iff.1 hg).1, fun i hi => ?_⟩, hnc, hcm, Fresh.mk hb⟩
  have := h.1.cellAt i (by rw [← h.len]; exact hi)
  rw [Nat.zero_add, this, cellsI_get hi]
end
end Go.Proofs.YtimdkjbmeogpoaaGreatDoor
end
section
namespace Go.Proofs.YtimdkjbmeogpoaaGreatDoor
open Go.RowKit FF
theorem own_form {w : World} {B T : Nat} {v : Value} {n : Nat} {xs : List Value} (h : w.ownsRow B T 1 v n xs) : ∃ A c, v = .slice A n c := by
 rcases h.2 with ⟨rfl, rfl⟩ | ⟨g, cap, cur, rfl, _⟩
 ·exact ⟨none, 0, rfl⟩
 ·exact ⟨_, _, rfl⟩
end Go.Proofs.YtimdkjbmeogpoaaGreatDoor
end
