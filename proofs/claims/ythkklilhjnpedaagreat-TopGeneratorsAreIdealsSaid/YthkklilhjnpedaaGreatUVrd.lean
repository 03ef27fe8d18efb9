/- The constant graph is a Ramanujan graph. -/
import Derived.Test.YthkklilhjnpedaaGreatUVsg
import Derived.Test.YthkklilhjnpedaaGreatUJs
section
namespace Go.Proofs.YthkklilhjnpedaaGreat
open Go.RowKit FF
def lim : Int := 2 ^ 1000
theorem lim_digs : digs WB lim.natAbs = List.replicate 31 0 ++ [256] := by decide +kernel
theorem lim_pos : ¬ lim < 0 := by decide +kernel
theorem lim_shows {W : World} {G : Nat} {T : TypeId} (h : W.rowIs G T 32 (fun _ => .int .u32 0)) : Shows .u32 (W.setCell ⟨G, 31, none⟩ (.int .u32 256)) (some ⟨G, 0, none⟩) (digs WB lim.natAbs) := by
  have h2 := h.set 31 (.int .u32 256)
  rw [lim_digs]
  intro _
  refine ⟨G, 0, rfl, h2.lt, fun i hi => ?_⟩
  simp only [List.length_append, List.length_replicate, List.length_singleton] at hi
  rw [Nat.zero_add, h2.cell hi]
  by_cases e : i = 31
  · subst e; simp
  · have hi31 : i < 31 := by omega
    have key : ∀ i, i < 31 → (List.replicate 31 0 ++ [256] : List Nat).getD i 0 = 0 := by decide
    rw [if_neg e, key i hi31]; rfl
set_option maxRecDepth 3000 in
set_option maxHeartbeats 1000000 in
theorem limit_any (w : World) : Calls Tryz.prog 79 #[] w (PostW (VI lim) w) := by
  have hmk : ∀ W : World, (Instr.makeSlice 45 (.int .i64 32) (.int .i64 32)).run Tryz.prog W = .ok (.slice (some ⟨W.heap.size, 0, none⟩) 32 32) (W.alloc (.cells (madeCells #[.int .u32 0] 32) 103)) := fun W => run_make_row' (P := Tryz.prog) 45 103 (.int .u32 0) 4 Tryz.underlying45 info_u32 rfl .i64 .i64 32 (by omega) (by omega) W
  go_enter Tryz.func79, Tryz.ntmps79
  go_upto_region 2 with fail
  obtain ⟨W1, hW1⟩ : ∃ W1, W1 = w.alloc (.cells #[.bool false, .slice none 0 0] 47) := ⟨_, rfl⟩
  have hs1 : W1.heap.size = w.heap.size + 1 := by rw [hW1]; simp
  have hX1 : IBox W1 w.heap.size 0 := by rw [hW1]; exact IBox.new (ic_zero w)
  have hB1 : Below w.heap.size w W1 := by rw [hW1]; exact (Below.refl _ _).alloc (Nat.le_refl _) _
  rw [← hW1]
  have hr2 := World.rowIs_made W1 (.int .u32 0) 32 103
  obtain ⟨W2, hW2⟩ : ∃ W2, W2 = W1.alloc (.cells (madeCells #[.int .u32 0] 32) 103) := ⟨_, rfl⟩
  have hs2 : W2.heap.size = w.heap.size + 1 + 1 := by rw [hW2]; simp [hs1]
  have hB12 : Below W1.heap.size W1 W2 := by rw [hW2]; exact (Below.refl _ _).alloc (Nat.le_refl _) _
  rw [← hW2] at hr2 ⊢
  rw [hs1] at hr2
  have hB23 : Below W2.heap.size W2 (W2.alloc (.cells #[.bool false, .slice (some ⟨w.heap.size + 1, 0, none⟩) 32 32] 47)) := (Below.refl _ _).alloc (Nat.le_refl _) _
  have hr3 := hr2.alloc (.cells #[.bool false, .slice (some ⟨w.heap.size + 1, 0, none⟩) 32 32] 47)
  have c0 : (W2.alloc (.cells #[.bool false, .slice (some ⟨w.heap.size + 1, 0, none⟩) 32 32] 47)).cell? ⟨w.heap.size + 1 + 1, 0, none⟩ = some (.bool false) := by rw [← hs2]; simp [go_sem]
  have c1 : (W2.alloc (.cells #[.bool false, .slice (some ⟨w.heap.size + 1, 0, none⟩) 32 32] 47)).cell? ⟨w.heap.size + 1 + 1, 1, none⟩ = some (.slice (some ⟨w.heap.size + 1, 0, none⟩) 32 32) := by rw [← hs2]; simp [go_sem]
  obtain ⟨W3, hW3⟩ : ∃ W3, W3 = W2.alloc (.cells #[.bool false, .slice (some ⟨w.heap.size + 1, 0, none⟩) 32 32] 47) := ⟨_, rfl⟩
  rw [← hW3] at hB23 hr3 c0 c1 ⊢
  have hX3 := (hX1.keep hB12).keep hB23
  have hB3 := (hB1.trans (hB12.mono hB1.size)).trans (hB23.mono (Nat.le_trans hB1.size hB12.size))
  have hr4 := hr3.cell (i := 31) (by omega)
  have hf4 := hr3.frozen 31
  have hsh := lim_shows hr3
  obtain ⟨sx, ax, nx, cx, x0, x1, x2, x3, x4, -⟩ := hX3
  have f0 := x3 0; have f1 := x3 1
  have HSh := Lib.hid hsh; have HB3 := Lib.hid hB3; have HX4 := Lib.hid x4
  have hfin : PostW (VI lim) w (.returned (.agg #[.bool false, .slice (some ⟨w.heap.size + 1, 0, none⟩) 32 32])) (((W3.setCell ⟨w.heap.size + 1, 31, none⟩ (.int .u32 256)).setCell ⟨w.heap.size, 0, none⟩ (.bool false)).setCell ⟨w.heap.size, 1, none⟩ (.slice (some ⟨w.heap.size + 1, 0, none⟩) 32 32)) := by
    have hlen : wl lim.natAbs = 32 := by show (digs WB lim.natAbs).length = 32; rw [lim_digs]; rfl
    have hai := AI.of_post (z := lim) (c := 32) HSh.out (by rw [hlen]; exact Nat.le_refl _) (by unfold maxLen; omega)
    have hIC : IC (W3.setCell ⟨w.heap.size + 1, 31, none⟩ (.int .u32 256)) (.bool false) (.slice (some ⟨w.heap.size + 1, 0, none⟩) 32 32) lim := by
      refine ⟨some ⟨w.heap.size + 1, 0, none⟩, 32, ?_, ?_, hai⟩
      · unfold sgB; rw [decide_eq_false lim_pos]
      · unfold lnW; rw [hlen]
    have hni : NoIntAt (W3.setCell ⟨w.heap.size + 1, 31, none⟩ (.int .u32 256)) w.heap.size := fun i k n e => HX4.out i k n (by
      rw [← e]
      have := (Only.setCell W3 (w.heap.size + 1) 31 (.int .u32 256)).block w.heap.size (by omega)
      simp only [World.cell?, this])
    exact ⟨_, rfl, ⟨_, _, rfl, ic_put hIC hni (by intro k n e; cases e)⟩, below_put (HB3.out.setCell (Nat.le_succ _) _) (Nat.le_refl _) _ _⟩
  have HFin := Lib.hid hfin
  clear hfin hmk hW1 hs1 hX1 hB1 hr2 hW2 hs2 hB12 hB23 hr3 hW3 hB3 hsh x0 x3 x4
  generalize lim = z at *
  go_wp2_with fail
  refine bodyPost_ret (v := .agg #[.bool false, .slice (some ⟨w.heap.size + 1, 0, none⟩) 32 32]) (by simp [results, Tryz.results79, go_sem, x1, x2]) rfl ?_
  exact HFin.out
theorem lim_wn : Wn 32 lim := by
  show lim.natAbs < WB ^ 32
  decide +kernel
theorem sizeZ_lt {x : Int} (h : sizeZ x < lim) : sgn (sizeZ x - lim) = -1 := by
  generalize lim = z at *
  unfold sgn; split <;> (try split) <;> omega
set_option maxRecDepth 3000 in
set_option maxHeartbeats 1000000 in
theorem read1_any {u v : Value} {x : Int} {M : Nat} {w : World} (hx : IC w u v x) (hk : Wn 60 x) (hl : sizeZ x < lim) (hM : IVal w M lim) : Calls Tryz.prog 81 #[.agg #[u, v], .pointer (some ⟨M, 0, none⟩)] w (PostW (VC (.bool false)) w) := by
  obtain ⟨um, vm, m0, m1, m2, m5⟩ := hM
  have BA := (Below.refl w.heap.size w).alloc (Nat.le_refl _) (.cells #[u, v] 47)
  have HSz := Lib.hid (sizeZ_lt hl); have HK := Lib.hid hk; have HB := Lib.hid BA
  have HM0 := Lib.hid (Nat.lt_of_lt_of_le m0 BA.size); have HM1 := Lib.hid ((BA.cell (p := ⟨M, 0, none⟩) m0).trans m1); have HM2 := Lib.hid ((BA.cell (p := ⟨M, 1, none⟩) m0).trans m2); have HM5 := Lib.hid (m5.keep BA)
  have HX0 := Lib.hid (show w.heap.size < (w.alloc (.cells #[u, v] 47)).heap.size by simp)
  have HX1 := Lib.hid (show (w.alloc (.cells #[u, v] 47)).cell? ⟨w.heap.size, 0, none⟩ = some u by simp [go_sem])
  have HX2 := Lib.hid (show (w.alloc (.cells #[u, v] 47)).cell? ⟨w.heap.size, 1, none⟩ = some v by simp [go_sem])
  have HX5 := Lib.hid (hx.keep BA)
  clear hx hk hl m0 m1 m2 m5 BA
  go_enter Tryz.func81, Tryz.ntmps81
  go_upto_region 1 with fail
  obtain ⟨W0, hW0⟩ : ∃ W0, W0 = w.alloc (.cells #[u, v] 47) := ⟨_, rfl⟩
  rw [← hW0] at HB HM0 HM1 HM2 HM5 HX0 HX1 HX2 HX5
  rw [← hW0]
  clear hW0
  refine wp_region_val [(0, 4, VI x), (1, 5, VI (sizeZ x)), (2, 6, VI lim), (3, 7, VC (.int .i64 (-1))), (4, 8, VC (.bool false)), (5, 3, VC (.bool false))] (fun _ => True) [4, 5, 6, 7, 8, 3] (by kernel_rfl) (by kernel_rfl) (by kernel_rfl) ⟨Keeps.vi _, Keeps.vi _, Keeps.vi _, Keeps.vc _, Keeps.vc _, Keeps.vc _, trivial⟩ (fun _ _ _ _ _ => trivial) trivial (forall_ops ⟨?_, ?_, ?_, ?_, ?_, ?_, trivial⟩) ?_
  · exact .of rfl rfl fun y W hB hE hV hU => .loadI' hB HX0.out HX1.out HX2.out HX5.out rfl (fr_out (v := (.pointer (some ⟨w.heap.size, 0, none⟩))) (by kernel_rfl) (by kernel_rfl))
  · exact .of rfl rfl fun y W hB hE hV hU => by obtain ⟨u0, v0, e0, h0⟩ := hget hV 0 rfl (by kernel_rfl); exact .call Tryz.func83 (by kernel_rfl) rfl rfl rfl (map_one ((fr_in (by kernel_rfl)).trans e0)) (wSize_any h0 HK.out (by omega))
  · exact .of rfl rfl fun y W hB hE hV hU => .loadI' hB HM0.out HM1.out HM2.out HM5.out rfl (fr_out (v := (.pointer (some ⟨M, 0, none⟩))) (by kernel_rfl) (by kernel_rfl))
  · exact .of rfl rfl fun y W hB hE hV hU => by obtain ⟨u1, v1, e1, h1⟩ := hget hV 1 rfl (by kernel_rfl); obtain ⟨u2, v2, e2, h2⟩ := hget hV 2 rfl (by kernel_rfl); exact .call Tryz.func82 (by kernel_rfl) rfl rfl rfl (map_two ((fr_in (by kernel_rfl)).trans e1) ((fr_in (by kernel_rfl)).trans e2)) (by have := cCmp h1 h2 (sizeZ_wn HK.out) lim_wn (by omega); rwa [HSz.out] at this)
  · exact .of rfl rfl fun y W hB hE hV hU => .binOp (p := .int .i64 (-1)) (r := .int .i64 0) rfl ((fr_in (by kernel_rfl)).trans (hget hV 3 rfl (by kernel_rfl))) rfl (by simp [go_sem, eqGuard]) rfl
  · exact .of rfl rfl fun y W hB hE hV hU => .assign rfl ((fr_in (by kernel_rfl)).trans (hget hV 4 rfl (by kernel_rfl))) rfl
  intro y W hB hE hV
  have e3 : y 3 = .bool false := hend hV 5 rfl
  have HB2 := Lib.hid (HB.out.trans (hB.mono HB.out.size))
  clear hB hE hV
  generalize hact : fr _ _ y = act
  simp only [fr, putAll, List.foldl_cons, List.foldl_nil, List.setIfInBounds_toArray, List.set_cons_zero, List.set_cons_succ, e3] at hact
  subst hact
  clear e3
  go_wp2_with fail
  go_ret
  exact ⟨_, rfl, rfl, HB2.out⟩
set_option maxRecDepth 3000 in
set_option maxHeartbeats 2000000 in
theorem indexI_any {v q : Value} {l : List Int} {w : World} (hv : VP l v w) (hl : l.length ≤ 1000000) (hcl : ∀ (W : World) (u u' : Value) (x : Int), Below w.heap.size w W → x ∈ l → IC W u u' x → Calls Tryz.prog 81 #[.agg #[u, u'], q] W (PostW (VC (.bool false)) W)) :
    Calls Tryz.prog 123 #[v, .func (.func 81) #[] #[q]] w (PostW (VC (.int .i64 (-1))) w) := by
  obtain ⟨A, c, rfl, h1, h2⟩ := hv.len
  obtain ⟨n, hn⟩ : ∃ n, n = l.length := ⟨_, rfl⟩
  have HV := Lib.hid hv; have HL := Lib.hid (show n ≤ 1000000 by omega); have HC := Lib.hid hcl; have HN := Lib.hid hn
  have HLe := Lib.hid (show ∀ i : Nat, i < n → ∃ z, l[i]? = some z from fun i hi => ⟨_, List.getElem?_eq_getElem (by omega)⟩)
  rw [← hn] at h1 ⊢
  clear hv hl hcl hn
  go_enter Tryz.func123, Tryz.ntmps123
  go_wp2_with fail
  go_loopw [4, 5, 8] (fun s4 _ s8 wr => ∃ i : Nat, s4 = .int .i64 0 ∧ s8 = .int .i64 i ∧ i ≤ n ∧ Below w.heap.size w wr) (fun _ _ s8 _ => (n - (intOf s8).toNat))
  case atStart => exact ⟨0, rfl, rfl, Nat.zero_le _, Below.refl _ _⟩
  case round =>
    obtain ⟨i, rfl, rfl, hil, hB⟩ := hrel
    have HB := Lib.hid hB
    clear hB
    by_cases hlt : i < n
    · have hti := decide_eq_true (p := ((i : Nat) : Int) < ((n : Nat) : Int)) (by omega)
      obtain ⟨z, hz⟩ := HLe.out i hlt
      have HZ := Lib.hid hz
      obtain ⟨b, o, s, A', m, c', rfl, q0, q1, g, hb⟩ := (HV.out.keep HB.out).at hz
      have GI := Lib.hid g
      clear g hz
      go_wp2_with fail
      refine (HC.out _ _ _ z HB.out (List.mem_of_getElem? HZ.out) GI.out).mono ?_
      rintro e w1 ⟨_, rfl, rfl, hb1⟩
      have HB1 := Lib.hid (HB.out.trans (hb1.mono HB.out.size))
      clear hb1 q0 q1
      go_wp2_with fail
      refine ⟨⟨i + 1, rfl, by rw [wrap_succ hlt HL.out], hlt, HB1.out⟩, ?_⟩
      rw [wrap_succ hlt HL.out]; simp only [intOf]; omega
    · have hti := decide_eq_false (p := ((i : Nat) : Int) < ((n : Nat) : Int)) (by omega)
      go_wp2_with fail
      go_ret
      exact ⟨_, rfl, rfl, HB.out⟩
set_option maxHeartbeats 1000000 in
theorem containsI_any {v q : Value} {l : List Int} {w : World} (hv : VP l v w) (hl : l.length ≤ 1000000) (hcl : ∀ (W : World) (u u' : Value) (x : Int), Below w.heap.size w W → x ∈ l → IC W u u' x → Calls Tryz.prog 81 #[.agg #[u, u'], q] W (PostW (VC (.bool false)) W)) :
    Calls Tryz.prog 80 #[v, .func (.func 81) #[] #[q]] w (PostW (VC (.bool false)) w) := by
  have HI := Lib.hid (indexI_any hv hl hcl)
  obtain ⟨A, c, rfl, -, -⟩ := hv.len
  clear hv hl hcl
  go_enter Tryz.func80, Tryz.ntmps80
  go_wp2_with fail
  refine HI.out.mono ?_
  rintro e w1 ⟨_, rfl, rfl, hb1⟩
  have HB1 := Lib.hid hb1
  clear hb1
  go_wp2_with fail
  go_ret
  exact ⟨_, rfl, rfl, HB1.out⟩
def rdL (l : List Int) : Bool := decide (l.length ≤ 61) && l.all (fun x => decide (x.natAbs < 4294967296 ^ 31)) && decide (0 < (stripZ l).length)
theorem rdL_iff {l : List Int} (h : rdL l = true) : l.length ≤ 61 ∧ (∀ x ∈ l, Wn 31 x ∧ sizeZ x < lim) ∧ 0 < (stripZ l).length := by
  unfold rdL at h
  simp only [Bool.and_eq_true, decide_eq_true_eq] at h
  refine ⟨h.1.1, fun x hx => ?_, h.2⟩
  have h1 := of_decide_eq_true (p := x.natAbs < 4294967296 ^ 31) (List.all_eq_true.1 h.1.2 x hx)
  refine ⟨h1, ?_⟩
  have h2 : (4294967296 ^ 31 : Nat) ≤ lim.natAbs := by decide +kernel
  have h3 := lim_pos
  unfold sizeZ
  generalize lim = z at *
  generalize (4294967296 ^ 31 : Nat) = k at *
  omega
set_option maxRecDepth 3000 in
set_option maxHeartbeats 2000000 in
theorem read_any {v : Value} {l : List Int} {w : World} (hv : VP l v w) (hr : rdL l = true) : Calls Tryz.prog 51 #[v] w (PostW (fun r W => ∃ a, r = .tuple #[a, .int .i64 0] ∧ VP (stripZ l) a W) w) := by
  obtain ⟨r1, r2, r3⟩ := rdL_iff hr
  have HNo := Lib.hid (fun (W : World) (hb : Below w.heap.size w W) => normal_vp (k := 31) (hv.keep hb) (fun x hx => (r2 x hx).1) (by omega) (by omega))
  have HCo := Lib.hid (fun (W : World) (M : Nat) (hb : Below w.heap.size w W) (hM : IVal W M lim) => containsI_any (q := .pointer (some ⟨M, 0, none⟩)) (hv.keep hb) (by omega) (fun W2 u u' x hb2 hx hi => read1_any hi ((r2 x hx).1.mono (by omega)) (r2 x hx).2 (hM.keep hb2)))
  obtain ⟨A, c, rfl, hc1, hc2⟩ := hv.len
  obtain ⟨n, hn⟩ : ∃ n, n = l.length := ⟨_, rfl⟩
  have d0 := decide_eq_false (p := (61 : Int) < (n : Int)) (by omega)
  have R3 := Lib.hid r3
  rw [← hn] at HNo HCo hc1 ⊢
  clear hv hr r1 r2 r3 hn
  go_enter Tryz.func51, Tryz.ntmps51
  go_wp2_with fail
  refine (limit_any _).mono ?_
  rintro e w1 ⟨_, rfl, ⟨u1, v1, rfl, h1⟩, hb1⟩
  obtain ⟨s1, A1, n1, c1, rfl, rfl⟩ := ic_form h1
  have hBA := (Below.refl w1.heap.size w1).alloc (Nat.le_refl _) (.cells #[.bool s1, .slice A1 n1 c1] 47)
  have hB := hb1.trans (hBA.mono hb1.size)
  have hM : IVal (w1.alloc (.cells #[.bool s1, .slice A1 n1 c1] 47)) w1.heap.size lim := ⟨_, _, by simp, by simp [go_sem], by simp [go_sem], h1.keep hBA⟩
  have HC := Lib.hid (HCo.out _ _ hB hM); have HB := Lib.hid hB
  clear h1 hBA hb1 hB hM HCo
  go_wp2_with fail
  refine HC.out.mono ?_
  rintro e w2 ⟨_, rfl, rfl, hb2⟩
  have HB2 := Lib.hid (HB.out.trans (hb2.mono HB.out.size))
  clear hb2
  go_wp2_with fail
  refine (HNo.out _ HB2.out).mono ?_
  rintro e w3 ⟨r4, rfl, hP, hb3⟩
  obtain ⟨A4, c4, rfl, -, -⟩ := hP.len
  obtain ⟨m, hm⟩ : ∃ m, m = (stripZ l).length := ⟨_, rfl⟩
  rw [← hm] at hP ⊢
  have d1 : ((m : Int) == 0) = false := by have := R3.out; simp; omega
  have HP := Lib.hid hP; have HB3 := Lib.hid (HB2.out.trans (hb3.mono HB2.out.size))
  clear hP hb3 hm
  go_wp2_with fail
  go_ret2
  exact ⟨_, rfl, ⟨_, rfl, HP.out⟩, HB3.out⟩
end Go.Proofs.YthkklilhjnpedaaGreat
end
section
namespace Go.Proofs.YthkklilhjnpedaaGreat
open Go.RowKit FF
def smW (n : Int) : Prop := -1000000 ≤ n ∧ n ≤ 1000000
set_option maxRecDepth 3000 in
set_option maxHeartbeats 1000000 in
theorem checkFrac_any {n : Int} (hn : smW n) (w : World) : Calls Tryz.prog 57 #[.agg #[.int .i64 n, .int .i64 1]] w (PostW (VC (.int .i64 0)) w) := by
  have d1 : decide (n < -1000000000) = false := decide_eq_false (by have := hn.1; omega)
  have d2 : decide (1000000000 < n) = false := decide_eq_false (by have := hn.2; omega)
  clear hn
  go_enter Tryz.func57, Tryz.ntmps57
  go_wp2_with fail
  go_ret
  exact ⟨_, rfl, rfl, (Below.refl _ _).alloc (Nat.le_refl _) _⟩
set_option maxRecDepth 3000 in
set_option maxHeartbeats 1000000 in
theorem before_any {a b : Int} (ha : smW a) (hb : smW b) (h : b ≤ a) (w : World) : Calls Tryz.prog 97 #[.agg #[.int .i64 a, .int .i64 1], .agg #[.int .i64 b, .int .i64 1]] w (PostW (VC (.bool false)) w) := by
  have d1 : decide (a < b) = false := decide_eq_false (by omega)
  have e1 : wrap64 a = a := by have := ha.1; have := ha.2; unfold wrap64; omega
  have e2 : wrap64 b = b := by have := hb.1; have := hb.2; unfold wrap64; omega
  clear ha hb h
  go_enter Tryz.func97, Tryz.ntmps97
  go_wp2_with fail
  go_ret
  exact ⟨_, rfl, rfl, ((Below.refl _ _).alloc (Nat.le_refl _) _).alloc (by simp) _⟩
set_option maxHeartbeats 1000000 in
theorem Squarefree_any {v : Value} {l q : List Int} {w : World} (hv : VP l v w) (hr : rdL l = true) (hq : sqfL (stripZ l) = some q) : Calls Tryz.prog 25 #[v] w (PostW (fun r W => ∃ a, r = .tuple #[a, .int .i64 0] ∧ VP q a W) w) := by
  have HR := Lib.hid (read_any hv hr); have HQ := Lib.hid hq
  obtain ⟨A, c, rfl, -, -⟩ := hv.len
  clear hv hr hq
  go_enter Tryz.func25, Tryz.ntmps25
  go_wp2_with fail
  refine HR.out.mono ?_
  rintro e w1 ⟨_, rfl, ⟨r1, rfl, hP⟩, hb1⟩
  have HP := Lib.hid hP; have HB := Lib.hid hb1
  clear hP hb1
  go_wp2_with fail
  refine (squarefree_any HP.out HQ.out).mono ?_
  rintro e w2 ⟨r2, rfl, hP2, hb2⟩
  have HP2 := Lib.hid hP2; have HB2 := Lib.hid (HB.out.trans (hb2.mono HB.out.size))
  clear hP2 hb2
  go_wp2_with fail
  go_ret2
  exact ⟨_, rfl, ⟨_, rfl, HP2.out⟩, HB2.out⟩
set_option maxHeartbeats 1000000 in
theorem Value_any {v : Value} {l : List Int} {n : Int} {w : World} (hv : VP l v w) (hr : rdL l = true) (hs : smS (stripZ l) = true) (h0 : 0 < (stripZ l).length) (hn : smW n) : Calls Tryz.prog 28 #[v, .agg #[.int .i64 n, .int .i64 1]] w (PostW (VC (.tuple #[.int .i64 (signZ (stripZ l) n 1), .int .i64 0])) w) := by
  have hBA := (Below.refl w.heap.size w).alloc (Nat.le_refl _) (.cells #[.int .i64 n, .int .i64 1] 70)
  have hX : FVar (w.alloc (.cells #[.int .i64 n, .int .i64 1] 70)) w.heap.size n 1 := ⟨by simp, by simp [go_sem], by simp [go_sem]⟩
  have HR := Lib.hid (read_any (hv.keep hBA) hr); have HB0 := Lib.hid hBA; have HX := Lib.hid hX
  have HSg := Lib.hid (fun (W : World) (u : Value) (h : VP (stripZ l) u W) => sign_any h h0 hs (num := n) (den := 1) ⟨by have := hn.1; omega, by have := hn.2; omega⟩ ⟨by omega, by omega⟩)
  have HCk := Lib.hid (fun w => checkFrac_any hn w)
  obtain ⟨A, c, rfl, -, -⟩ := hv.len
  clear hv hr hs h0 hn hBA hX
  go_enter Tryz.func28, Tryz.ntmps28
  go_wp2_with fail
  refine HR.out.mono ?_
  rintro e w1 ⟨_, rfl, ⟨r1, rfl, hP⟩, hb1⟩
  have HP := Lib.hid hP; have HB := Lib.hid (HB0.out.trans (hb1.mono HB0.out.size)); have HX1 := Lib.hid (HX.out.keep hb1)
  obtain ⟨x0, x1, x2⟩ := HX1.out
  clear hP hb1 x0
  go_wp2_with fail
  refine (HCk.out _).mono ?_
  rintro e w2 ⟨_, rfl, rfl, hb2⟩
  have HP2 := Lib.hid (HP.out.keep hb2); have HB2 := Lib.hid (HB.out.trans (hb2.mono HB.out.size))
  obtain ⟨x0, x3, x4⟩ := HX1.out.keep hb2
  clear hb2 x0 x1 x2
  go_wp2_with fail
  refine (HSg.out _ _ HP2.out).mono ?_
  rintro e w3 ⟨_, rfl, rfl, hb3⟩
  have HB3 := Lib.hid (HB2.out.trans (hb3.mono HB2.out.size))
  clear hb3 x3 x4
  go_wp2_with fail
  go_ret2
  exact ⟨_, rfl, rfl, HB3.out⟩
theorem changesF_bnd : ∀ (l : List Int) (last n : Int), n ≤ changesF l last n ∧ changesF l last n ≤ n + l.length
  | [], _, n => by unfold changesF; simp
  | s :: l, last, n => by
    have h1 := changesF_bnd l last n
    have h2 := changesF_bnd l s (n + 1)
    have h3 := changesF_bnd l s n
    unfold changesF
    rw [List.length_cons]
    split <;> (try split) <;> omega
theorem changesL_bnd {c : List (List Int)} (h : c.length ≤ 1000) (n d : Int) : 0 ≤ changesL c n d ∧ changesL c n d ≤ 1000 := by
  have := changesF_bnd (c.map fun p => signZ p n d) 0 0
  rw [List.length_map] at this
  unfold changesL; omega
theorem betweenL_cases {l : List Int} {lo hi r : Int} (h : betweenL l lo hi = some r) : ∃ c, chainL (stripZ l) = some c ∧ c.length ≤ 1000 ∧ c.all (fun p => smS p && decide (0 < p.length)) = true ∧ r = changesL c lo 1 - changesL c hi 1 := by
  unfold betweenL at h
  split at h
  · rename_i c hc
    split at h
    · rename_i hs
      rw [Bool.and_eq_true] at hs
      exact ⟨c, hc, of_decide_eq_true hs.1, hs.2, (Option.some.inj h).symm⟩
    · cases h
  · cases h
theorem smW_64 {n : Int} (h : smW n) : I64 n := ⟨by have := h.1; omega, by have := h.2; omega⟩
theorem idx_frac (a b : Int) (i : Nat) (hi : i < 2) (W : World) : (Instr.index 136 (.agg #[.int .i64 a, .int .i64 1, .int .i64 b, .int .i64 1]) (.int .i64 (i : Int))).run Tryz.prog W = .ok (.agg #[.int .i64 (if i = 0 then a else b), .int .i64 1]) W := by
  have h0 : ∀ W, (Instr.index 136 (.agg #[.int .i64 a, .int .i64 1, .int .i64 b, .int .i64 1]) (.int .i64 0)).run Tryz.prog W = .ok (.agg #[.int .i64 a, .int .i64 1]) W := fun W => by kernel_rfl
  have h1 : ∀ W, (Instr.index 136 (.agg #[.int .i64 a, .int .i64 1, .int .i64 b, .int .i64 1]) (.int .i64 1)).run Tryz.prog W = .ok (.agg #[.int .i64 b, .int .i64 1]) W := fun W => by kernel_rfl
  rcases i with _ | _ | i
  · exact h0 W
  · exact h1 W
  · omega
set_option maxRecDepth 3000 in
set_option maxHeartbeats 4000000 in
theorem Between_any {v : Value} {l : List Int} {lo hi r : Int} {w : World} (hv : VP l v w) (hr : rdL l = true) (hb : betweenL l lo hi = some r) (hlo : smW lo) (hhi : smW hi) (hlh : lo ≤ hi) :
    Calls Tryz.prog 56 #[v, .agg #[.int .i64 lo, .int .i64 1], .agg #[.int .i64 hi, .int .i64 1]] w (PostW (VC (.tuple #[.int .i64 r, .int .i64 0])) w) := by
  obtain ⟨ch, hc1, hc2, hc3, hc4⟩ := betweenL_cases hb
  have b1 := changesL_bnd hc2 lo 1; have b2 := changesL_bnd hc2 hi 1
  have HR4 := Lib.hid hc4
  have HCh := Lib.hid (fun (W : World) (u : Value) (h : VP (stripZ l) u W) => pchain_any h hc1)
  have HAt := Lib.hid (fun (W : World) (u : Value) (n : Int) (h : Sl ePol ch u W) (hn : smW n) => changesAt_any h (by omega) hc3 (num := n) (den := 1) (smW_64 hn) ⟨by omega, by omega⟩)
  have HSub := Lib.hid (show ∀ x y : Int, 0 ≤ x ∧ x ≤ 1000 → 0 ≤ y ∧ y ≤ 1000 → IntKind.i64.wrap (x - y) = x - y from fun x y h1 h2 => IntWalk.i64_in _ (by omega))
  have HBn := Lib.hid (And.intro b1 b2)
  have hBA := ((Below.refl w.heap.size w).alloc (Nat.le_refl _) (.cells #[.int .i64 lo, .int .i64 1] 70)).alloc (by simp) (.cells #[.int .i64 hi, .int .i64 1] 70)
  have hX : FVar ((w.alloc (.cells #[.int .i64 lo, .int .i64 1] 70)).alloc (.cells #[.int .i64 hi, .int .i64 1] 70)) w.heap.size lo 1 := ⟨by simp; omega, by simp [go_sem], by simp [go_sem]⟩
  have hY : FVar ((w.alloc (.cells #[.int .i64 lo, .int .i64 1] 70)).alloc (.cells #[.int .i64 hi, .int .i64 1] 70)) (w.heap.size + 1) hi 1 := ⟨by simp, by simp [go_sem], by simp [go_sem]⟩
  have HRd := Lib.hid (read_any (hv.keep hBA) hr); have HB0 := Lib.hid hBA; have HX := Lib.hid hX; have HY := Lib.hid hY
  have HCk := Lib.hid (fun w => checkFrac_any hlo w); have HCk2 := Lib.hid (fun w => checkFrac_any hhi w)
  have HBf := Lib.hid (fun w => before_any hhi hlo hlh w)
  have HLo := Lib.hid hlo; have HHi := Lib.hid hhi
  obtain ⟨A, c, rfl, -, -⟩ := hv.len
  clear hv hr hb hlo hhi hlh hBA hX hY hc1 hc2 hc3 hc4 b1 b2
  go_enter Tryz.func56, Tryz.ntmps56
  go_wp2_with fail
  refine HRd.out.mono ?_
  rintro e w1 ⟨_, rfl, ⟨r1, rfl, hP⟩, hb1⟩
  have HP := Lib.hid hP; have HB := Lib.hid (HB0.out.trans (hb1.mono HB0.out.size)); have HX1 := Lib.hid (HX.out.keep hb1); have HY1 := Lib.hid (HY.out.keep hb1)
  obtain ⟨-, x1, x2⟩ := HX1.out
  obtain ⟨-, y1, y2⟩ := HY1.out
  clear hP hb1
  go_wp2_with fail
  clear x1 x2 y1 y2
  go_loopw [6, 7, 11, 12, 25] (fun s6 s7 _ _ s25 wr => ∃ i : Nat, s6 = .int .i64 0 ∧ s7 = .int .i64 0 ∧ s25 = .int .i64 i ∧ i ≤ 2 ∧ Below w1.heap.size w1 wr) (fun _ _ _ _ s25 _ => (2 - (intOf s25).toNat))
  case atStart => exact ⟨0, rfl, rfl, rfl, by omega, Below.refl _ _⟩
  case round =>
    obtain ⟨i, rfl, rfl, rfl, hi2, hB⟩ := hrel
    have HBr := Lib.hid hB
    clear hB
    by_cases hlt : i < 2
    · have hti := decide_eq_true (p := ((i : Nat) : Int) < (2 : Int)) (by omega)
      have hidx := idx_frac lo hi i hlt
      obtain ⟨x, hx⟩ : ∃ x, x = if i = 0 then lo else hi := ⟨_, rfl⟩
      rw [← hx] at hidx
      have HCx := Lib.hid (show ∀ w, Calls Tryz.prog 57 #[.agg #[.int .i64 x, .int .i64 1]] w (PostW (VC (.int .i64 0)) w) from fun w => by
        rw [hx]
        by_cases h : i = 0
        · rw [if_pos h]; exact HCk.out w
        · rw [if_neg h]; exact HCk2.out w)
      have HLt := Lib.hid hlt
      clear hx
      go_wp2_with fail
      refine (HCx.out _).mono ?_
      rintro e w2 ⟨_, rfl, rfl, hb2⟩
      have HB2 := Lib.hid (HBr.out.trans ((((Below.refl wr.heap.size wr).alloc (Nat.le_refl _) (.cells #[.int .i64 x, .int .i64 1] 70)).trans (hb2.mono (by simp))).mono HBr.out.size))
      clear hb2 hidx
      go_wp2_with fail
      refine ⟨⟨i + 1, rfl, rfl, by go_num, HLt.out, HB2.out⟩, ?_⟩
      have := HLt.out
      simp only [intOf]; omega
    · have hti := decide_eq_false (p := ((i : Nat) : Int) < (2 : Int)) (by omega)
      have HP3 := Lib.hid (HP.out.keep HBr.out); have HX3 := Lib.hid (HX1.out.keep HBr.out); have HY3 := Lib.hid (HY1.out.keep HBr.out); have HB3 := Lib.hid (HB.out.trans (HBr.out.mono HB.out.size))
      obtain ⟨-, x1, x2⟩ := HX3.out
      obtain ⟨-, y1, y2⟩ := HY3.out
      go_wp2_with fail
      refine (HBf.out _).mono ?_
      rintro e w4 ⟨_, rfl, rfl, hb4⟩
      have HP4 := Lib.hid (HP3.out.keep hb4); have HX4 := Lib.hid (HX3.out.keep hb4); have HY4 := Lib.hid (HY3.out.keep hb4); have HB4 := Lib.hid (HB3.out.trans (hb4.mono HB3.out.size))
      clear hb4 x1 x2 y1 y2
      go_wp2_with fail
      refine (HCh.out _ _ HP4.out).mono ?_
      rintro e w5 ⟨r5, rfl, hS, hb5⟩
      have HS5 := Lib.hid hS; have HX5 := Lib.hid (HX4.out.keep hb5); have HY5 := Lib.hid (HY4.out.keep hb5); have HB5 := Lib.hid (HB4.out.trans (hb5.mono HB4.out.size))
      clear hS hb5
      go_upto_region 14 with fail
      refine wp_region_val [(0, 39, VC r5), (1, 40, VC (.agg #[.int .i64 lo, .int .i64 1])), (2, 41, VC (.int .i64 (changesL ch lo 1))), (3, 42, VC r5), (4, 43, VC (.agg #[.int .i64 hi, .int .i64 1])), (5, 44, VC (.int .i64 (changesL ch hi 1))), (6, 45, VC (.int .i64 r)), (7, 6, VC (.int .i64 r)), (8, 7, VC (.int .i64 0))] (fun _ => True) [39, 40, 41, 42, 43, 44, 45, 6, 7] (by kernel_rfl) (by kernel_rfl) (by kernel_rfl) ⟨Keeps.vc _, Keeps.vc _, Keeps.vc _, Keeps.vc _, Keeps.vc _, Keeps.vc _, Keeps.vc _, Keeps.vc _, Keeps.vc _, trivial⟩ (fun _ _ _ _ _ => trivial) trivial (forall_ops ⟨?_, ?_, ?_, ?_, ?_, ?_, ?_, ?_, ?_, trivial⟩) ?_
      · exact .of rfl rfl fun y W hB hE hV hU => .move rfl (fr_out (v := r5) (by kernel_rfl) (by kernel_rfl)) rfl
      · exact .of rfl rfl fun y W hB hE hV hU => by obtain ⟨x0, x1, x2⟩ := HX5.out.keep hB; exact .loadL (us := [.int .i64 lo, .int .i64 1]) rfl (fr_out (v := (.pointer (some ⟨w.heap.size, 0, none⟩))) (by kernel_rfl) (by kernel_rfl)) (two_cells x1 x2) rfl Tryz.underlying70 rfl (by kernel_rfl) rfl
      · exact .of rfl rfl fun y W hB hE hV hU => .call Tryz.func99 (by kernel_rfl) rfl rfl rfl (map_two ((fr_in (by kernel_rfl)).trans (hget hV 0 rfl (by kernel_rfl))) ((fr_in (by kernel_rfl)).trans (hget hV 1 rfl (by kernel_rfl)))) (HAt.out W _ lo (HS5.out.keep hB) HLo.out)
      · exact .of rfl rfl fun y W hB hE hV hU => .move rfl (fr_out (v := r5) (by kernel_rfl) (by kernel_rfl)) rfl
      · exact .of rfl rfl fun y W hB hE hV hU => by obtain ⟨x0, x1, x2⟩ := HY5.out.keep hB; exact .loadL (us := [.int .i64 hi, .int .i64 1]) rfl (fr_out (v := (.pointer (some ⟨w.heap.size + 1, 0, none⟩))) (by kernel_rfl) (by kernel_rfl)) (two_cells x1 x2) rfl Tryz.underlying70 rfl (by kernel_rfl) rfl
      · exact .of rfl rfl fun y W hB hE hV hU => .call Tryz.func99 (by kernel_rfl) rfl rfl rfl (map_two ((fr_in (by kernel_rfl)).trans (hget hV 3 rfl (by kernel_rfl))) ((fr_in (by kernel_rfl)).trans (hget hV 4 rfl (by kernel_rfl)))) (HAt.out W _ hi (HS5.out.keep hB) HHi.out)
      · exact .of rfl rfl fun y W hB hE hV hU => .binOp (p := .int .i64 (changesL ch lo 1)) (r := .int .i64 (changesL ch hi 1)) rfl ((fr_in (by kernel_rfl)).trans (hget hV 2 rfl (by kernel_rfl))) ((fr_in (by kernel_rfl)).trans (hget hV 5 rfl (by kernel_rfl))) (by simp [go_sem, eqGuard, HSub.out _ _ HBn.out.1 HBn.out.2, HR4.out]) rfl
      · exact .of rfl rfl fun y W hB hE hV hU => .assign rfl ((fr_in (by kernel_rfl)).trans (hget hV 6 rfl (by kernel_rfl))) rfl
      · exact .of rfl rfl fun y W hB hE hV hU => .assign rfl rfl rfl
      intro y W hB hE hV
      have e6 : y 6 = .int .i64 r := hend hV 7 rfl
      have e7 : y 7 = .int .i64 0 := hend hV 8 rfl
      have HB6 := Lib.hid (HB5.out.trans (hB.mono HB5.out.size))
      clear hB hE hV
      generalize hact : fr _ _ y = act
      simp only [fr, putAll, List.foldl_cons, List.foldl_nil, List.setIfInBounds_toArray, List.set_cons_zero, List.set_cons_succ, e6, e7] at hact
      subst hact
      clear e6 e7
      go_wp2_with fail
      go_ret2
      exact ⟨_, rfl, rfl, HB6.out⟩
set_option maxHeartbeats 1000000 in
theorem gwhole_any (n : Int) (w : World) : Calls Tryz.prog 29 #[.int .i64 n] w (PostW (VC (.agg #[.int .i64 n, .int .i64 1])) w) := by
  go_enter Tryz.func29, Tryz.ntmps29
  go_wp2_with fail
  refine bodyPost_ret (v := .agg #[.int .i64 n, .int .i64 1]) (by simp [results, Tryz.results29, go_sem]) rfl ?_
  exact ⟨_, rfl, rfl, (Below.refl _ _).alloc (Nat.le_refl _) _⟩
set_option maxHeartbeats 1000000 in
theorem gbetween_any {v : Value} {l : List Int} {lo hi r : Int} {w : World} (hv : VP l v w) (hr : rdL l = true) (hb : betweenL l lo hi = some r) (hlo : smW lo) (hhi : smW hi) (hlh : lo ≤ hi) :
    Calls Tryz.prog 27 #[v, .int .i64 lo, .int .i64 hi] w (PostW (VC (.int .i64 r)) w) := by
  have HBt := Lib.hid (fun (W : World) (hB : Below w.heap.size w W) => Between_any (hv.keep hB) hr hb hlo hhi hlh)
  have HW := Lib.hid (fun n w => gwhole_any n w)
  obtain ⟨A, c, rfl, -, -⟩ := hv.len
  clear hv hr hb hlo hhi hlh
  go_enter Tryz.func27, Tryz.ntmps27
  go_wp2_with fail
  refine (HW.out _ _).mono ?_
  rintro e w1 ⟨_, rfl, rfl, hb1⟩
  have HB1 := Lib.hid hb1
  clear hb1
  go_wp2_with fail
  refine (HW.out _ _).mono ?_
  rintro e w2 ⟨_, rfl, rfl, hb2⟩
  have HB2 := Lib.hid (HB1.out.trans (hb2.mono HB1.out.size))
  clear hb2
  go_wp2_with fail
  refine (HBt.out _ HB2.out).mono ?_
  rintro e w3 ⟨_, rfl, rfl, hb3⟩
  have HB3 := Lib.hid (HB2.out.trans (hb3.mono HB2.out.size))
  clear hb3
  go_wp2_with fail
  go_ret
  exact ⟨_, rfl, rfl, HB3.out⟩
set_option maxHeartbeats 1000000 in
theorem real_any {v : Value} {l q : List Int} {m r : Int} {w : World} (hv : VP l v w) (hr : rdL l = true) (hq : sqfL (stripZ l) = some q) (hb : betweenL l (-m - 1) m = some r) (hm : 0 ≤ m ∧ m ≤ 1000) (hql : 1 ≤ q.length ∧ q.length ≤ 1000) :
    Calls Tryz.prog 24 #[v, .int .i64 m] w (PostW (VC (.bool (r == ((q.length : Int) - 1)))) w) := by
  have HSq := Lib.hid (Squarefree_any hv hr hq)
  have HBt := Lib.hid (fun (W : World) (hB : Below w.heap.size w W) => gbetween_any (hv.keep hB) hr hb ⟨by omega, by omega⟩ ⟨by omega, by omega⟩ (by omega))
  have e1 : wrap64 (wrap64 (-m) - 1) = -m - 1 := by unfold wrap64; omega
  have E1 := Lib.hid e1
  have E2 := Lib.hid (show wrap64 ((q.length : Int) - 1) = (q.length : Int) - 1 by unfold wrap64; omega)
  have HQl := Lib.hid hql
  obtain ⟨A, c, rfl, -, -⟩ := hv.len
  clear hv hr hq hb hql hm
  go_enter Tryz.func24, Tryz.ntmps24
  clear e1
  go_wp2_with fail
  refine HSq.out.mono ?_
  rintro e w1 ⟨_, rfl, ⟨r1, rfl, hP⟩, hb1⟩
  obtain ⟨A1, c1, rfl, -, -⟩ := hP.len
  have HB1 := Lib.hid hb1
  clear hb1 hP
  have e1 := E1.out
  go_wp2_with fail
  refine (HBt.out _ HB1.out).mono ?_
  rintro e w2 ⟨_, rfl, rfl, hb2⟩
  have HB2 := Lib.hid (HB1.out.trans (hb2.mono HB1.out.size))
  clear hb2
  clear e1
  go_wp2_with fail
  go_ret
  exact ⟨_, rfl, by show Value.bool (r == wrap64 ((q.length : Int) - 1)) = _; rw [E2.out], HB2.out⟩
end Go.Proofs.YthkklilhjnpedaaGreat
end
section
namespace Go.Proofs.YthkklilhjnpedaaGreat
open Go.RowKit FF
theorem gr1 : rdL [-6, -1, 1] = true := by decide +kernel
theorem gr2 : sqfL (stripZ [-6, -1, 1]) = some [-6, -1, 1] := by decide +kernel
theorem gr3 : betweenL [-6, -1, 1] (-3 - 1) 3 = some 2 := by decide +kernel
theorem gr4 : rdL [36, -13, 1] = true := by decide +kernel
theorem gr5 : sqfL (stripZ [36, -13, 1]) = some [36, -13, 1] := by decide +kernel
theorem gr6 : rdL [36, -13, 1] = true := by decide +kernel
theorem gr7 : betweenL [36, -13, 1] 8 9 = some 1 := by decide +kernel
theorem gr8 : smS (stripZ [36, -13, 1]) = true := by decide +kernel
theorem gr9 : 0 < (stripZ [36, -13, 1]).length := by decide +kernel
theorem gr10 : signZ (stripZ [36, -13, 1]) 9 1 = 0 := by decide +kernel
set_option maxRecDepth 3000 in
set_option maxHeartbeats 4000000 in
theorem Ramanujan_c {a b : Value} {w : World} (hg : GV gNames gEdges a b w) : Calls Tryz.prog 11 #[.agg #[a, b]] w (PostW (VC (.tuple #[.bool true, .int .i64 0])) w) := by
  obtain ⟨A', c', rfl, -, -⟩ := hg.2.len
  have hB := (Below.refl w.heap.size w).alloc (Nat.le_refl _) (.cells #[a, .slice A' gEdges.length c'] 38)
  have hG := GBox.new (a := a) (b := .slice A' gEdges.length c') (W := w)
  obtain ⟨W1, hW1⟩ : ∃ W1, W1 = w.alloc (.cells #[a, .slice A' gEdges.length c'] 38) := ⟨_, rfl⟩
  rw [← hW1] at hB hG
  have HB1 := Lib.hid hB; have HG := Lib.hid hG; have HW1 := Lib.hid hW1
  have HDe := Lib.hid (fun (W : World) (hb : Below W1.heap.size W1 W) => degree_any (d := 3) ((hg.keep hB).keep hb) g_ok (by decide) (by decide))
  have HPo := Lib.hid (fun (W : World) (hb : Below W1.heap.size W1 W) => Polynomial_c ((hg.keep hB).keep hb))
  clear hg hB hG hW1
  rw [show gEdges.length = 2 from rfl] at *
  go_enter Tryz.func11, Tryz.ntmps11
  go_upto_region 1 with fail
  rw [← HW1.out]
  obtain ⟨-, g0, g1⟩ := HG.out
  go_wp2_with fail
  refine (HDe.out W1 (Below.refl _ _)).mono ?_
  rintro e W2 ⟨_, rfl, rfl, hb2⟩
  have HB2 := Lib.hid hb2
  clear g0 g1 hb2
  obtain ⟨-, g0, g1⟩ := HG.out.keep HB2.out
  rw [show (((3 : Nat) : Int)) = 3 from rfl]
  go_wp2_with fail
  refine (HPo.out W2 HB2.out).mono ?_
  rintro e W3 ⟨_, rfl, ⟨l, rfl, hl⟩, hb3⟩
  have HL := Lib.hid hl
  have HB3 := Lib.hid (HB2.out.trans (hb3.mono HB2.out.size))
  clear hb3 hl g0 g1
  go_wp2_with fail
  refine (real_any (q := [-6, -1, 1]) (m := 3) (r := 2) HL.out gr1 gr2 gr3 (by decide) (by decide)).mono ?_
  rintro e W4 ⟨_, rfl, rfl, hb4⟩
  have HL4 := Lib.hid (HL.out.keep hb4)
  have HB4 := Lib.hid (HB3.out.trans (hb4.mono HB3.out.size))
  rw [show ((2 : Int) == ((([-6, -1, 1] : List Int).length : Nat) : Int) - 1) = true from by decide]
  clear hb4
  go_wp2_with fail
  refine (squares_c HL4.out).mono ?_
  rintro e W5 ⟨l5, rfl, hl5, hb5⟩
  have HL5 := Lib.hid hl5
  have HB5 := Lib.hid (HB4.out.trans (hb5.mono HB4.out.size))
  clear hl5 hb5
  go_wp2_with fail
  refine (Squarefree_any HL5.out gr4 gr5).mono ?_
  rintro e W6 ⟨_, rfl, ⟨l6, rfl, hl6⟩, hb6⟩
  have HL6 := Lib.hid hl6
  have HB6 := Lib.hid (HB5.out.trans (hb6.mono HB5.out.size))
  clear hl6 hb6
  go_wp2_with fail
  refine (gbetween_any HL6.out gr6 gr7 ⟨by decide, by decide⟩ ⟨by decide, by decide⟩ (by decide)).mono ?_
  rintro e W7 ⟨_, rfl, rfl, hb7⟩
  have HL7 := Lib.hid (HL6.out.keep hb7)
  have HB7 := Lib.hid (HB6.out.trans (hb7.mono HB6.out.size))
  clear hb7
  go_wp2_with fail
  refine (gwhole_any 9 W7).mono ?_
  rintro e W8 ⟨_, rfl, rfl, hb8⟩
  have HL8 := Lib.hid (HL7.out.keep hb8)
  have HB8 := Lib.hid (HB7.out.trans (hb8.mono HB7.out.size))
  clear hb8
  go_wp2_with fail
  refine (Value_any HL8.out gr6 gr8 gr9 ⟨by decide, by decide⟩).mono ?_
  rintro e W9 ⟨_, rfl, rfl, hb9⟩
  have HB9 := Lib.hid (HB8.out.trans (hb9.mono HB8.out.size))
  rw [gr10]
  clear hb9
  go_wp2_with fail
  go_ret2
  exact ⟨_, rfl, rfl, HB1.out.trans (HB9.out.mono HB1.out.size)⟩
end Go.Proofs.YthkklilhjnpedaaGreat
end
