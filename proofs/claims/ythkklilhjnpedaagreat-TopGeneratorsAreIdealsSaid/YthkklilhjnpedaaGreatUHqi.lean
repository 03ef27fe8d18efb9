/- Good primes and their generators in the program and in the reference; rows of truth values; equality of elements. -/
import Derived.Test.YthkklilhjnpedaaGreatUHqh
import Derived.Test.YthkklilhjnpedaaGreatURpf
import Derived.Test.YthkklilhjnpedaaGreatUIntA
section
namespace Go.Proofs.YthkklilhjnpedaaGreat
open Go.RowKit FF
theorem qt_at {l : List Qt} {A : Option Addr} {n c : Nat} {W : World} (h : Sl eQt l (.slice A n c) W) {i : Nat} {z : Qt} (hi : l[i]? = some z) : ∃ b o, A = some ⟨b, o, none⟩ ∧ b < W.heap.size ∧
    W.cell? ⟨b, o + i * 5, none⟩ = some (.int .i64 z.w) ∧ W.cell? ⟨b, o + i * 5 + 1, none⟩ = some (.int .i64 z.x) ∧ W.cell? ⟨b, o + i * 5 + 2, none⟩ = some (.int .i64 z.y) ∧ W.cell? ⟨b, o + i * 5 + 3, none⟩ = some (.int .i64 z.z) ∧ W.cell? ⟨b, o + i * 5 + 4, none⟩ = some (.int .i64 z.d) := by
  obtain ⟨b, o, cs, e, hb, hE, hc⟩ := Sl.at h hi
  obtain rfl : cs = qcs z := hE
  exact ⟨b, o, e, hb, hc 0 _ rfl, hc 1 _ rfl, hc 2 _ rfl, hc 3 _ rfl, hc 4 _ rfl⟩
set_option maxHeartbeats 4000000 in
set_option maxRecDepth 3000 in
theorem quats_any {v : Value} {l : List Hw} {w : World} (hv : Sl eHur l v w) (hb : ∀ x ∈ l, Hb 1000000 x) (hl : l.length ≤ 1000000) : Calls Tryz.prog 17 #[v] w (PostW (Sl eQt (l.map hqt)) w) := by
  have HQ := Lib.hid (fun (x : Hw) (hx : x ∈ l) (W : World) => hquat_any x W (hb x hx))
  obtain ⟨A, c, rfl, hc1, hc2⟩ := hv.len
  obtain ⟨n, hn⟩ : ∃ n, n = l.length := ⟨_, rfl⟩
  have HN := Lib.hid hn; have HV := Lib.hid hv; have HL := Lib.hid hl
  rw [← hn] at hc1 HV HL ⊢
  clear hv hb hl hn
  go_enter Tryz.func17, Tryz.ntmps17
  go_upto_region 3 with fail
  go_loopw [3, 5, 8, 9, 10, 11, 12, 13, 14, 15, 16, 17] (fun s3 _ s8 _ _ _ _ _ _ _ _ _ wr => ∃ (i : Nat) (rs : List (Qt × List Value)), s8 = .int .i64 i ∧ i ≤ n ∧ rs.map (·.1) = (l.take i).map hqt ∧ Own eQt w s3 rs wr) (fun _ _ s8 _ _ _ _ _ _ _ _ _ _ => (n - (intOf s8).toNat))
  case atStart => exact ⟨0, [], rfl, Nat.zero_le _, rfl, Own.start eQt (Below.refl _ _)⟩
  case round =>
    obtain ⟨i, rs, rfl, hil, hrs, hO⟩ := hrel
    have HO := Lib.hid hO; have HR := Lib.hid hrs
    clear hO hrs
    by_cases hlt : i < n
    · have hti := decide_eq_true (p := ((i : Nat) : Int) < ((n : Nat) : Int)) (by omega)
      obtain ⟨x, hx⟩ : ∃ x, l[i]? = some x := ⟨_, List.getElem?_eq_getElem (by have := HN.out; omega)⟩
      obtain ⟨b, o, rfl, hb, q0, q1, q2, q3⟩ := hur_at (HV.out.keep HO.out.below) hx
      have HX := Lib.hid hx
      clear hx hb
      go_upto_region 5 with fail
      clear q0 q1 q2 q3
      have hN := Cells.new wr #[.int .i64 x.a, .int .i64 x.b, .int .i64 x.c, .int .i64 x.d] 58 rfl
      have hb := (Below.refl wr.heap.size wr).alloc (Nat.le_refl _) (.cells #[.int .i64 x.a, .int .i64 x.b, .int .i64 x.c, .int .i64 x.d] 58)
      have HO6 := Lib.hid (HO.out.keep hb)
      obtain ⟨R6, hR6⟩ : ∃ R, R = wr.heap.size := ⟨_, rfl⟩
      obtain ⟨W6, hW6⟩ : ∃ W6, W6 = wr.alloc (.cells #[.int .i64 x.a, .int .i64 x.b, .int .i64 x.c, .int .i64 x.d] 58) := ⟨_, rfl⟩
      rw [← hR6, ← hW6] at hN ⊢
      rw [← hW6] at HO6
      clear hR6 hW6 hb HO
      obtain ⟨k0, k1, k2, k3⟩ := hN.four
      have HLn := Lib.hid (show rs.length = i by have h3 := congrArg List.length HR.out; rw [List.length_map, List.length_map, List.length_take] at h3; have := HN.out; omega)
      clear hN
      go_wp2_with fail
      refine (HQ.out x (List.mem_of_getElem? HX.out) _).mono ?_
      rintro e2 w2 ⟨_, rfl, rfl, hb⟩
      have HO2 := Lib.hid (HO6.out.keep hb)
      clear k0 k1 k2 k3 hb HO6
      obtain ⟨z, hz⟩ : ∃ z, z = hqt x := ⟨_, rfl⟩
      have HZ := Lib.hid hz
      rw [← hz]
      clear hz
      unfold qv
      go_wp2_with (at_builtin; refine append_qt rfl (.tmp 12) (.tmp 15) 25 rfl Tryz.underlying25 HO2.out z _ w2.heap.size 1 rfl rfl rfl (by have := HLn.out; have := HL.out; omega) ?_; intro v1 w1 hg1; have HG1 := Lib.hid hg1; clear hg1)
      refine ⟨⟨i + 1, _, by rw [wrap_succ hlt (by have := HL.out; omega)], hlt, by rw [List.map_append, HR.out, List.take_add_one, HX.out, List.map_append, HZ.out]; rfl, HG1.out⟩, ?_⟩
      rw [wrap_succ hlt (by have := HL.out; omega)]; simp only [intOf]; omega
    · have hti := decide_eq_false (p := ((i : Nat) : Int) < ((n : Nat) : Int)) (by omega)
      have hfin : rs.map (·.1) = l.map hqt := by rw [HR.out, List.take_of_length_le (by have := HN.out; omega)]
      have HF := Lib.hid hfin
      clear hfin
      go_wp2_with fail
      go_ret
      exact ⟨_, rfl, by rw [← HF.out]; exact HO.out.sl, HO.out.below⟩
theorem sqUp_le {r B : Int} (hB : r ≤ B * B) (hB0 : 0 ≤ B) : ∀ (k : Nat) (z : Int), 0 ≤ z → z ≤ B → 0 ≤ sqUp 1 r k z ∧ sqUp 1 r k z ≤ B
  | 0, z, h0, h1 => ⟨h0, h1⟩
  | k + 1, z, h0, h1 => by
    rw [sqUp]
    split
    · rename_i h
      have := sq_lt h0 hB0 (Int.lt_of_lt_of_le h hB)
      exact sqUp_le hB hB0 k (z + 1) (by omega) (by omega)
    · exact ⟨h0, h1⟩
theorem ofL_bnd {n : Int} (h1 : 1 ≤ n) (h2 : n ≤ 500) : ∀ x ∈ ofL n, Hb 1000000 x := by
  intro h hh
  obtain ⟨u, hu, hh⟩ := List.mem_flatMap.1 (show h ∈ (upto 1 (sqUp 1 (4 * n + 1) 1000 0 - 1).toNat).flatMap (ofW n) from hh)
  have hM := sqUp_le (r := 4 * n + 1) (B := 45) (by omega) (by omega) 1000 0 (by omega) (by omega)
  have hu := mem_upto.1 hu
  have hub : 1 ≤ u ∧ u ≤ 45 := by omega
  clear hu hM
  unfold ofW at hh
  split at hh
  · cases hh
  · obtain ⟨x, hx, hh⟩ := List.mem_flatMap.1 hh
    have hx := mem_upto.1 hx
    have hxb : -45 ≤ x ∧ x ≤ 45 := by omega
    obtain ⟨y, hy, hh⟩ := List.mem_flatMap.1 (show h ∈ (upto (-u) (2 * u + 1).toNat).flatMap (ofAt n u x) from hh)
    have hy := mem_upto.1 hy
    have hyb : -45 ≤ y ∧ y ≤ 45 := by omega
    clear hx hy
    unfold ofAt at hh
    obtain ⟨p1, -⟩ := sqb (m := 45) (z := u) (by omega)
    obtain ⟨p2, -⟩ := sqb (m := 45) (z := x) (by omega)
    obtain ⟨p3, -⟩ := sqb (m := 45) (z := y) (by omega)
    have hS := sqUp_le (r := 4 * n - u * u - x * x - y * y) (B := 45) (by omega) (by omega) 1000 0 (by omega) (by omega)
    generalize sqUp 1 (4 * n - u * u - x * x - y * y) 1000 0 = q at *
    split at hh
    · cases hh
    · split at hh
      · cases hh
      · obtain ⟨s, hs, hh⟩ := List.mem_flatMap.1 (show h ∈ (if q = 0 then [0] else [-q, q]).flatMap fun s => if canL ⟨u, x, y, s⟩ = ⟨u, x, y, s⟩ then [⟨u, x, y, s⟩] else [] from hh)
        have hsb := pair_bnd rfl hS.1 hS.2 s hs
        split at hh
        · obtain rfl := List.mem_singleton.1 hh
          refine ⟨?_, ?_, ?_, ?_⟩ <;> simp only <;> omega
        · cases hh
theorem ofL_len {n : Int} (h1 : 1 ≤ n) (h2 : n ≤ 500) : (ofL n).length ≤ 1000000 := by
  have hM := sqUp_le (r := 4 * n + 1) (B := 45) (by omega) (by omega) 1000 0 (by omega) (by omega)
  have h3 := flat_len (f := ofW n) (m := 16562) (l := upto 1 (sqUp 1 (4 * n + 1) 1000 0 - 1).toNat) (fun y hy => ofW_len n y (by have := (mem_upto.1 hy).2; omega))
  rw [upto_len] at h3
  show ((upto 1 (sqUp 1 (4 * n + 1) 1000 0 - 1).toNat).flatMap (ofW n)).length ≤ _
  omega
set_option maxHeartbeats 4000000 in
set_option maxRecDepth 3000 in
theorem OfNorm_any (n : Int) (w : World) (h1 : 1 ≤ n) (h2 : n ≤ 500) (hne : 0 < (ofL n).length) : Calls Tryz.prog 8 #[.int .i64 n] w (PostW (fun r W => ∃ v l, r = .tuple #[v, .int .i64 0] ∧ l.Perm (ofL n) ∧ AscBy cmpQ l ∧ Sl eQt (l.map hqt) v W) w) := by
  have HF := Lib.hid (fun W => ofNorm_any n W h1 h2 hne)
  have HBd := Lib.hid (ofL_bnd h1 h2); have HLn := Lib.hid (ofL_len h1 h2)
  have t1 := decide_eq_false (p := n < 1) (by omega)
  have t2 := decide_eq_false (p := 500 < n) (by omega)
  clear hne h1 h2
  go_enter Tryz.func8, Tryz.ntmps8
  go_wp2_with fail
  refine (HF.out _).mono ?_
  rintro e w1 ⟨v1, rfl, ⟨l, hp, hs, hsl⟩, hb⟩
  have HP := Lib.hid hp; have HS := Lib.hid hs; have HB := Lib.hid hb
  have HQ := Lib.hid (quats_any hsl (fun x hx => HBd.out x (hp.mem_iff.1 hx)) (by rw [hp.length_eq]; exact HLn.out))
  clear hp hs hsl hb
  go_wp2_with fail
  refine HQ.out.mono ?_
  rintro e w2 ⟨v2, rfl, hsl, hb⟩
  have HB2 := Lib.hid (HB.out.trans (hb.mono HB.out.size)); have HSl := Lib.hid hsl
  clear hb hsl
  go_wp2_with fail
  go_ret2
  exact ⟨_, rfl, ⟨_, l, rfl, HP.out, HS.out, HSl.out⟩, HB2.out⟩
end Go.Proofs.YthkklilhjnpedaaGreat
end
section
namespace Go.Proofs.YthkklilhjnpedaaGreat
open Go.RowKit FF
set_option maxHeartbeats 4000000 in
set_option maxRecDepth 3000 in
theorem hread_any (x : Hw) (w : World) (hx : Hb 1000000 x) : Calls Tryz.prog 41 #[qv (g1 x)] w (PostW (VC (.tuple #[hv (dbl x), .bool true])) w) := by
  obtain ⟨a, b, c, d⟩ := x
  obtain ⟨ha, hb, hc, hd⟩ := hx
  simp only at ha hb hc hd
  have t0 : ((2 * a).tmod 1 == 0) = true := by simp
  have t1 : ((2 * b).tmod 1 == 0) = true := by simp
  have t2 : ((2 * c).tmod 1 == 0) = true := by simp
  have t3 : ((2 * d).tmod 1 == 0) = true := by simp
  have k0 : ((2 * a - 2 * a).tmod 2 == 0) = true := by simp
  have k1 : ((2 * b - 2 * a).tmod 2 == 0) = true := by rw [← Int.mul_sub]; simp
  have k2 : ((2 * c - 2 * a).tmod 2 == 0) = true := by rw [← Int.mul_sub]; simp
  have k3 : ((2 * d - 2 * a).tmod 2 == 0) = true := by rw [← Int.mul_sub]; simp
  unfold g1 qv dbl hv cv
  go_enter Tryz.func41, Tryz.ntmps41
  go_upto_region 3 with fail
  refine wp_loop_rounds 5 ?_
  rw [rounds_succ]
  go_wp2_with fail
  go_region
  go_wp2_with fail
  go_region
  go_wp2_with fail
  rw [rounds_succ]
  go_wp2_with fail
  go_region
  go_wp2_with fail
  go_region
  go_wp2_with fail
  rw [rounds_succ]
  go_wp2_with fail
  go_region
  go_wp2_with fail
  go_region
  go_wp2_with fail
  rw [rounds_succ]
  go_wp2_with fail
  go_region
  go_wp2_with fail
  go_region
  go_wp2_with fail
  rw [rounds_succ]
  go_wp2_with fail
  refine wp_loop_rounds 5 ?_
  rw [rounds_succ]
  go_wp2_with fail
  go_region
  go_wp2_with fail
  rw [rounds_succ]
  go_wp2_with fail
  go_region
  go_wp2_with fail
  rw [rounds_succ]
  go_wp2_with fail
  go_region
  go_wp2_with fail
  rw [rounds_succ]
  go_wp2_with fail
  go_region
  go_wp2_with fail
  rw [rounds_succ]
  go_wp2_with fail
  refine bodyPost_ret (v := .tuple #[cv (2 * a) (2 * b) (2 * c) (2 * d), .bool true]) (by simp [results, Tryz.results41, go_sem, cv]) rfl ?_
  exact ⟨_, rfl, rfl, ((below_2 _ _).alloc (by simp; omega) _).drew.drew.drew.drew.drew.drew.drew.drew.drew.drew.drew.drew⟩
end Go.Proofs.YthkklilhjnpedaaGreat
end
section
namespace Go.Proofs.YthkklilhjnpedaaGreat
open Go.RowKit FF
theorem dbl_bnd {x : Hw} (hx : Hb 500000 x) : Hb 1000000 (dbl x) := by
  obtain ⟨ha, hb, hc, hd⟩ := hx
  refine ⟨?_, ?_, ?_, ?_⟩ <;> simp only [dbl] <;> omega
theorem g1_E {x : Hw} (hx : Hb 500000 x) : qE (g1 x) = 0 := by
  obtain ⟨ha, hb, hc, hd⟩ := hx
  rw [qE_zero, qB_iff]
  simp only [g1]
  omega
set_option maxHeartbeats 4000000 in
set_option maxRecDepth 3000 in
theorem open1_any {v : Value} {x : Hw} {w : World} (hv : Sl eQt [g1 x] v w) (hx : Hb 500000 x) (hs : (hsum (dbl x)).tdiv 4 ≤ 1000000) : Calls Tryz.prog 19 #[v] w (PostW (fun r W => ∃ s, r = .tuple #[s, .int .i64 0] ∧ Sl eHur [dbl x] s W) w) := by
  have HC := Lib.hid (fun W => qcheck_any (g1 x) W)
  have HR := Lib.hid (fun W => hread_any x W ⟨by have := hx.1; omega, by have := hx.2.1; omega, by have := hx.2.2.1; omega, by have := hx.2.2.2; omega⟩)
  have HN := Lib.hid (fun W => hnorm_any (dbl x) W (dbl_bnd hx))
  rw [g1_E hx] at HC
  obtain ⟨A, c, rfl, hc1, hc2⟩ := hv.len
  obtain ⟨b, o, rfl, hb, q0, q1, q2, q3, q4⟩ := qt_at hv (i := 0) rfl
  obtain ⟨m, hm⟩ : ∃ m, m = (hsum (dbl x)).tdiv 4 := ⟨_, rfl⟩
  rw [← hm] at HN hs
  have t1 := decide_eq_false (p := 1000000 < m) (by omega)
  obtain ⟨y, hy⟩ : ∃ y, y = dbl x := ⟨_, rfl⟩
  rw [← hy] at HN HR ⊢
  rw [show o + 0 * 5 = o by omega] at q0 q1 q2 q3 q4
  clear hm hs hx hy hv
  obtain ⟨a0, a1, a2, a3⟩ := x
  simp only [g1] at q0 q1 q2 q3 q4
  unfold g1 qv at *
  simp only at HC HR
  go_enter Tryz.func19, Tryz.ntmps19
  go_upto_region 3 with fail
  refine wp_loop_rounds 2 ?_
  rw [rounds_succ]
  go_upto_region 5 with fail
  clear q0 q1 q2 q3 q4
  have hN := Cells.new w #[.int .i64 a0, .int .i64 a1, .int .i64 a2, .int .i64 a3, .int .i64 1] 31 rfl
  have HB5 := Lib.hid ((Below.refl w.heap.size w).alloc (Nat.le_refl _) (.cells #[.int .i64 a0, .int .i64 a1, .int .i64 a2, .int .i64 a3, .int .i64 1] 31))
  obtain ⟨R5, hR5⟩ : ∃ R, R = w.heap.size := ⟨_, rfl⟩
  obtain ⟨W5, hW5⟩ : ∃ W5, W5 = w.alloc (.cells #[.int .i64 a0, .int .i64 a1, .int .i64 a2, .int .i64 a3, .int .i64 1] 31) := ⟨_, rfl⟩
  rw [← hW5] at HB5
  rw [← hR5, ← hW5] at hN ⊢
  clear hR5 hW5
  have HN5 := Lib.hid hN
  obtain ⟨k0, k1, k2, k3, k4⟩ := hN.five
  clear hN
  go_wp2_with fail
  refine (HC.out _).mono ?_
  rintro e1 w1 ⟨rfl, hb1⟩
  have HN6 := Lib.hid (HN5.out.keep hb1)
  have HB6 := Lib.hid (HB5.out.trans (hb1.mono HB5.out.size))
  clear k0 k1 k2 k3 k4 hb1
  obtain ⟨k0, k1, k2, k3, k4⟩ := HN6.out.five
  go_wp2_with fail
  refine (HR.out _).mono ?_
  rintro e2 w2 ⟨_, rfl, rfl, hb2⟩
  have HB7 := Lib.hid (HB6.out.trans (hb2.mono HB6.out.size))
  clear k0 k1 k2 k3 k4 hb2
  unfold hv cv at *
  go_upto_region 9 with fail
  have hN8 := Cells.new w2 #[.int .i64 y.a, .int .i64 y.b, .int .i64 y.c, .int .i64 y.d] 58 rfl
  have HB8 := Lib.hid (HB7.out.alloc HB7.out.size (.cells #[.int .i64 y.a, .int .i64 y.b, .int .i64 y.c, .int .i64 y.d] 58))
  obtain ⟨R8, hR8⟩ : ∃ R, R = w2.heap.size := ⟨_, rfl⟩
  obtain ⟨W8, hW8⟩ : ∃ W8, W8 = w2.alloc (.cells #[.int .i64 y.a, .int .i64 y.b, .int .i64 y.c, .int .i64 y.d] 58) := ⟨_, rfl⟩
  rw [← hW8] at HB8
  rw [← hR8, ← hW8] at hN8 ⊢
  clear hR8 hW8
  have HN8 := Lib.hid hN8
  obtain ⟨k0, k1, k2, k3⟩ := hN8.four
  clear hN8
  go_wp2_with fail
  refine (HN.out _).mono ?_
  rintro e3 w3 ⟨_, rfl, rfl, hb3⟩
  have HN9 := Lib.hid (HN8.out.keep hb3)
  have HB9 := Lib.hid (HB8.out.trans (hb3.mono HB8.out.size))
  clear k0 k1 k2 k3 hb3
  obtain ⟨k0, k1, k2, k3⟩ := HN9.out.four
  go_wp2_with (at_builtin; refine append_hur rfl (.tmp 31) (.tmp 33) 51 rfl Tryz.underlying51 (Own.start eHur HB9.out) y _ w3.heap.size 1 rfl rfl rfl (by simp) ?_; intro v1 w4 hg1; have HG1 := Lib.hid hg1; clear hg1)
  rw [rounds_succ]
  go_wp2_with fail
  go_ret2
  exact ⟨_, rfl, ⟨_, rfl, HG1.out.sl⟩, HG1.out.below⟩
theorem qtm_bnd {B : Int} {x u : Hw} (hx : Hb B x) (hu : u ∈ unitsA) : Hb (4 * B) (qtm x u) := by
  obtain ⟨a, b, c, d⟩ := x
  obtain ⟨ha, hb, hc, hd⟩ := hx
  simp only at ha hb hc hd
  simp only [unitsA, List.mem_cons, List.not_mem_nil, or_false] at hu
  rcases hu with rfl | rfl | rfl | rfl | rfl | rfl | rfl | rfl | rfl | rfl | rfl | rfl | rfl | rfl | rfl | rfl | rfl | rfl | rfl | rfl | rfl | rfl | rfl | rfl <;> (simp only [Hb, qtm]; omega)
theorem htm_bnd {B : Int} {x u : Hw} (hx : Hb B x) (hu : u ∈ unitsA) : Hb (4 * B) (htm x u) := by
  obtain ⟨ha, hb, hc, hd⟩ := qtm_bnd hx hu
  exact ⟨tdiv_le ha, tdiv_le hb, tdiv_le hc, tdiv_le hd⟩
theorem canA_bnd {B : Int} {x : Hw} (hx : Hb B x) : ∀ {l : List Hw} {b : Hw}, (∀ u ∈ l, u ∈ unitsA) → Hb (4 * B) b → Hb (4 * B) (canA x l b)
  | [], _, _, hb => hb
  | u :: l, b, hl, hb => by
    unfold canA
    refine canA_bnd hx (fun v hv => hl v (List.mem_cons_of_mem _ hv)) ?_
    split
    · exact htm_bnd hx (hl u (List.mem_cons_self ..))
    · exact hb
theorem canL_bnd {B : Int} {x : Hw} (_hB : 0 ≤ B) (hx : Hb B x) : Hb (4 * B) (canL x) :=
  canA_bnd hx (fun _ h => h) ⟨by have := hx.1; omega, by have := hx.2.1; omega, by have := hx.2.2.1; omega, by have := hx.2.2.2; omega⟩
set_option maxHeartbeats 4000000 in
set_option maxRecDepth 3000 in
theorem Canonical_any (x : Hw) (w : World) (hx : Hb 100000 x) (hs : (hsum (dbl x)).tdiv 4 ≤ 1000000) : Calls Tryz.prog 9 #[qv (g1 x)] w (PostW (VC (.tuple #[qv (hqt (canL (dbl x))), .int .i64 0])) w) := by
  have hd : Hb 200000 (dbl x) := by
    obtain ⟨ha, hb, hc, hd⟩ := hx
    refine ⟨?_, ?_, ?_, ?_⟩ <;> simp only [dbl] <;> omega
  have HO := Lib.hid (fun (v : Value) (W : World) (h : Sl eQt [g1 x] v W) => open1_any h ⟨by have := hx.1; omega, by have := hx.2.1; omega, by have := hx.2.2.1; omega, by have := hx.2.2.2; omega⟩ hs)
  have HC := Lib.hid (fun W => canonical_any (dbl x) W ⟨by have := hd.1; omega, by have := hd.2.1; omega, by have := hd.2.2.1; omega, by have := hd.2.2.2; omega⟩)
  have hcb := canL_bnd (by omega) hd
  have HQ := Lib.hid (fun W => hquat_any (canL (dbl x)) W ⟨by have := hcb.1; omega, by have := hcb.2.1; omega, by have := hcb.2.2.1; omega, by have := hcb.2.2.2; omega⟩)
  clear hcb hd hx hs
  generalize hqt (canL (dbl x)) = z at *
  generalize canL (dbl x) = r at *
  generalize dbl x = y at *
  generalize g1 x = q at *
  obtain ⟨q0, q1, q2, q3, q4⟩ := q
  unfold qv
  go_enter Tryz.func9, Tryz.ntmps9
  go_wp2_with fail
  have hS := (Own.one (e := eQt) (w := (w.alloc (.cells #[.int .i64 q0, .int .i64 q1, .int .i64 q2, .int .i64 q3, .int .i64 q4] 31)).alloc (.cells #[.int .i64 0, .int .i64 0, .int .i64 0, .int .i64 0, .int .i64 0] 31)) (x := ⟨q0, q1, q2, q3, q4⟩) (cs := qcs ⟨q0, q1, q2, q3, q4⟩) (Below.refl _ _) rfl).sl
  rw [show ((w.alloc (.cells #[.int .i64 q0, .int .i64 q1, .int .i64 q2, .int .i64 q3, .int .i64 q4] 31)).alloc (.cells #[.int .i64 0, .int .i64 0, .int .i64 0, .int .i64 0, .int .i64 0] 31)).heap.size = w.heap.size + 1 + 1 by simp] at hS
  have hR := (Cells.new (w.alloc (.cells #[.int .i64 q0, .int .i64 q1, .int .i64 q2, .int .i64 q3, .int .i64 q4] 31)) #[.int .i64 0, .int .i64 0, .int .i64 0, .int .i64 0, .int .i64 0] 31 (b := w.heap.size + 1) (by simp)).alloc (.cells #[.int .i64 q0, .int .i64 q1, .int .i64 q2, .int .i64 q3, .int .i64 q4] 31)
  have hB := (below_2 (w := w) (.cells #[.int .i64 q0, .int .i64 q1, .int .i64 q2, .int .i64 q3, .int .i64 q4] 31) (.cells #[.int .i64 0, .int .i64 0, .int .i64 0, .int .i64 0, .int .i64 0] 31)).alloc (by simp; omega) (.cells #[.int .i64 q0, .int .i64 q1, .int .i64 q2, .int .i64 q3, .int .i64 q4] 31)
  refine (HO.out _ _ hS).mono ?_
  clear hS
  rintro e1 w1 ⟨_, rfl, ⟨s1, rfl, hs1⟩, hb1⟩
  have HR1 := Lib.hid (hR.keep hb1); have HB1 := Lib.hid (hB.trans (hb1.mono hB.size))
  clear hR hB hb1
  obtain ⟨A, c, rfl, hc1, hc2⟩ := hs1.len
  obtain ⟨b, o, rfl, hb, k0, k1, k2, k3⟩ := hur_at hs1 (i := 0) rfl
  rw [show o + 0 * 4 = o by omega] at k0 k1 k2 k3
  clear hs1 hb
  simp only [List.length_singleton] at hc1 ⊢
  unfold hv cv at *
  go_wp2_with fail
  refine (HC.out _).mono ?_
  rintro e2 w2 ⟨_, rfl, rfl, hb2⟩
  have HR2 := Lib.hid (HR1.out.keep hb2); have HB2 := Lib.hid (HB1.out.trans (hb2.mono HB1.out.size))
  clear k0 k1 k2 k3 hb2
  go_wp2_with fail
  refine (HQ.out _).mono ?_
  rintro e3 w3 ⟨_, rfl, rfl, hb3⟩
  have HR3 := Lib.hid (HR2.out.keep hb3); have HB3 := Lib.hid (HB2.out.trans (hb3.mono HB2.out.size))
  clear hb3
  obtain ⟨k0, k1, k2, k3, k4⟩ := HR3.out.five
  obtain ⟨f0, f1, f2, f3, f4⟩ := HR3.out.fr
  unfold qv
  go_wp2_with fail
  refine bodyPost_ret (v := .tuple #[qv z, .int .i64 0]) (by simp [results, Tryz.results9, go_sem, qv, k0, k1, k2, k3, k4]) rfl ?_
  exact ⟨_, rfl, rfl, below_set5 HB3.out (by omega) _ _ _ _ _⟩
end Go.Proofs.YthkklilhjnpedaaGreat
end
section
namespace Go.Proofs.YthkklilhjnpedaaGreat
open Go.RowKit FF
theorem genAt_len (p u x t : Int) : (genAt p u x t).length ≤ 2 := by
  unfold genAt
  split
  · simp
  · split
    · simp
    · split <;> simp
theorem genX_len (p u x : Int) (h : p ≤ 100) : (genX p u x).length ≤ 402 := by
  unfold genX
  split
  · simp
  · refine Nat.le_trans (flat_len (m := 2) (fun t _ => genAt_len p u x t)) ?_
    rw [upto_len]; omega
theorem genW_len (p u : Int) (h : p ≤ 100) : (genW p u).length ≤ 80802 := by
  unfold genW
  refine Nat.le_trans (flat_len (m := 402) (fun x _ => genX_len p u x h)) ?_
  rw [upto_len]; omega
theorem upto_flat_hw {acc : List Hw} {f : Int → List Hw} {lo : Int} {n : Nat} : (acc ++ (upto lo (n + 1)).flatMap f).map g1 = (acc ++ (upto lo n).flatMap f ++ f (lo + n)).map g1 := by rw [upto_flat, List.append_assoc]
theorem map_len {α : Type} {rs : List (Qt × α)} {l : List Hw} {N : Nat} (h : rs.map (·.1) = l.map g1) (hl : l.length ≤ N) : rs.length ≤ N := by
  have h1 := congrArg List.length h
  rw [List.length_map, List.length_map] at h1
  omega
set_option maxHeartbeats 8000000 in
set_option maxRecDepth 4000 in
theorem generators_any (p : Int) (w : World) (h1 : 1 ≤ p) (h2 : p ≤ 100) : Calls Tryz.prog 16 #[.int .i64 p] w (PostW (Sl eQt ((genL p).map g1)) w) := by
  have HG := Lib.hid (show genL p = genF p 100 1 from rfl)
  generalize genL p = G at *
  go_enter Tryz.func16, Tryz.ntmps16
  go_upto_region 3 with fail
  go_loopw [3, 4, 5, 6, 7, 8, 9, 10, 11, 12, 13, 14, 15, 16, 17, 18, 19, 20, 21, 22, 23, 24, 25, 26, 27, 28, 29, 30, 31, 32, 33, 34, 35, 36, 37, 38, 39, 40, 41, 42, 43, 44, 45, 46, 47, 48, 49, 50, 51, 52, 53, 54, 55, 56, 57, 58, 59, 60, 61, 62, 63, 64, 65, 66, 67, 68, 69, 70, 71, 72, 73, 74, 75, 76, 77, 78, 79, 80, 81, 82, 83, 84, 85, 86, 87, 88, 89, 90, 91, 92, 93, 94, 95, 96, 97, 98, 99, 100, 101, 102, 103, 104, 105] (fun s3 s4 _ _ _ _ _ _ _ _ _ _ _ _ _ _ _ _ _ _ _ _ _ _ _ _ _ _ _ _ _ _ _ _ _ _ _ _ _ _ _ _ _ _ _ _ _ _ _ _ _ _ _ _ _ _ _ _ _ _ _ _ _ _ _ _ _ _ _ _ _ _ _ _ _ _ _ _ _ _ _ _ _ _ _ _ _ _ _ _ _ _ _ _ _ _ _ _ _ _ _ _ _ wr => ∃ (k : Nat) (u : Int) (acc : List Hw) (rs : List (Qt × List Value)), s4 = .int .i64 u ∧ u + 2 * k = 201 ∧ 1 ≤ u ∧ u ≤ 12 ∧ acc ++ genF p k u = G ∧ rs.map (·.1) = acc.map g1 ∧ (acc.length : Int) ≤ 40401 * (u - 1) ∧ Own eQt w s3 rs wr) (fun _ s4 _ _ _ _ _ _ _ _ _ _ _ _ _ _ _ _ _ _ _ _ _ _ _ _ _ _ _ _ _ _ _ _ _ _ _ _ _ _ _ _ _ _ _ _ _ _ _ _ _ _ _ _ _ _ _ _ _ _ _ _ _ _ _ _ _ _ _ _ _ _ _ _ _ _ _ _ _ _ _ _ _ _ _ _ _ _ _ _ _ _ _ _ _ _ _ _ _ _ _ _ _ _ => (100 - (intOf s4).toNat))
  case atStart => exact ⟨100, 1, [], [], rfl, by omega, by omega, by omega, HG.out.symm, rfl, by simp, Own.start eQt (Below.refl _ _)⟩
  case round =>
    obtain ⟨k, u, acc, rs, rfl, hku, hu1, hu2, hF, hrs, hal, hO⟩ := hrel
    have HO := Lib.hid hO; have HR := Lib.hid hrs; have HF := Lib.hid hF; have HA := Lib.hid hal; have HK := Lib.hid hku
    obtain ⟨m1, m2⟩ := sqb (m := 12) (z := u) (by omega)
    obtain ⟨k', hk'⟩ : ∃ k', k = k' + 1 := ⟨k - 1, by omega⟩
    clear hO hrs hF hal hku HG
    by_cases hlt : u * u ≤ p
    · have hti := decide_eq_true (p := u * u ≤ p) hlt
      have hu3 := sq_lt (z := u) (m := 11) (by omega) (by omega) (by omega)
      have HF2 := Lib.hid (show acc ++ (genW p u ++ genF p k' (u + 2)) = G by rw [← HF.out, hk', genF, if_pos hlt])
      have HK2 := Lib.hid (show (u + 2) + 2 * (k' : Int) = 201 by have := HK.out; omega)
      clear hlt hk' HF HK
      go_upto_region 6 with fail
      clear hti
      obtain ⟨W9, hW9⟩ : ∃ W9 : World, W9 = wr := ⟨_, rfl⟩
      subst hW9
      have HR0 := HR; have HO0 := HO
      clear HR HO
      go_loopw [3, 5, 6, 7, 8, 18, 19, 20, 21, 22, 23, 24, 25, 26, 27, 28, 29, 30, 31, 32, 33, 34, 35, 36, 37, 38, 39, 40, 41, 42, 43, 44, 45, 46, 47, 48, 49, 50, 51, 52, 53, 54, 55, 56, 57, 58, 59, 60, 61, 62, 63, 64, 65, 66, 67, 68, 69, 70, 71, 72, 73, 74, 75, 76, 77, 78, 79, 80, 81, 82, 83, 84, 85, 86, 87, 88, 89, 90, 91, 92, 93, 94, 95, 96, 97, 98, 99, 100, 101, 102, 103, 104, 105] (fun s3 s5 _ _ _ _ _ _ _ _ _ _ _ _ _ _ _ _ _ _ _ _ _ _ _ _ _ _ _ _ _ _ _ _ _ _ _ _ _ _ _ _ _ _ _ _ _ _ _ _ _ _ _ _ _ _ _ _ _ _ _ _ _ _ _ _ _ _ _ _ _ _ _ _ _ _ _ _ _ _ _ _ _ _ _ _ _ _ _ _ _ _ _ wr => ∃ (j : Nat) (rs : List (Qt × List Value)), s5 = .int .i64 (-p + (j : Int)) ∧ j ≤ (2 * p + 1).toNat ∧ rs.map (·.1) = (acc ++ (upto (-p) j).flatMap (genX p u)).map g1 ∧ Own eQt w s3 rs wr) (fun _ s5 _ _ _ _ _ _ _ _ _ _ _ _ _ _ _ _ _ _ _ _ _ _ _ _ _ _ _ _ _ _ _ _ _ _ _ _ _ _ _ _ _ _ _ _ _ _ _ _ _ _ _ _ _ _ _ _ _ _ _ _ _ _ _ _ _ _ _ _ _ _ _ _ _ _ _ _ _ _ _ _ _ _ _ _ _ _ _ _ _ _ _ _ => (300 - (intOf s5 + 150).toNat))
      case atStart => exact ⟨0, rs, by simp, Nat.zero_le _, by rw [HR0.out]; simp [upto], HO0.out⟩
      case round =>
        clear HR0 HO0 rs
        obtain ⟨j, rs, rfl, hjl, hrs, hO⟩ := hrel
        have HO := Lib.hid hO; have HR := Lib.hid hrs
        obtain ⟨x, hx⟩ : ∃ x, x = -p + (j : Int) := ⟨_, rfl⟩
        have HX := Lib.hid hx
        rw [← hx]
        have hxb : -101 ≤ x ∧ x ≤ 101 := by omega
        obtain ⟨hx1, hx2⟩ := hxb
        obtain ⟨p1, p2⟩ := sqb (m := 101) (z := x) (by omega)
        have HJl := Lib.hid hjl
        clear hO hrs hjl hx
        by_cases hxu : x ≤ p
        · have hti := decide_eq_true (p := x ≤ p) hxu
          have HXU := Lib.hid hxu
          clear hxu
          rcases Decidable.em (x.tmod 2 ≠ 0) with c1 | c1
          · have t2 : (x.tmod 2 == 0) = false := by simpa using c1
            have t3 : (x.tmod 2 != 0) = true := by simpa using c1
            have HAt := Lib.hid (show genX p u x = [] by unfold genX; rw [if_pos (.inl c1)])
            go_wp2_with fail
            refine ⟨⟨j + 1, rs, by rw [HX.out]; push_cast; rw [Int.add_assoc], by have := HX.out; have := HXU.out; omega, ?_, HO.out⟩, by simp only [intOf]; omega⟩
            rw [upto_flat_hw, ← HX.out, HAt.out, List.append_nil, HR.out]
          have c1' := Decidable.not_not.1 c1
          rcases Decidable.em (p < u * u + x * x) with c2 | c2
          · have t4 := decide_eq_true (p := p < u * u + x * x) c2
            have HAt := Lib.hid (show genX p u x = [] by unfold genX; rw [if_pos (.inr c2)])
            go_wp2_with fail
            refine ⟨⟨j + 1, rs, by rw [HX.out]; push_cast; rw [Int.add_assoc], by have := HX.out; have := HXU.out; omega, ?_, HO.out⟩, by simp only [intOf]; omega⟩
            rw [upto_flat_hw, ← HX.out, HAt.out, List.append_nil, HR.out]
          have t4 := decide_eq_false (p := p < u * u + x * x) c2
          have HAt := Lib.hid (show genX p u x = (upto (-p) (2 * p + 1).toNat).flatMap (genAt p u x) by unfold genX; rw [if_neg (fun h => h.elim c1 c2)])
          have HC2 := Lib.hid c2
          clear c1 c2
          go_upto_region 10 with fail
          clear c1' t4 hti
          obtain ⟨acc2, hacc⟩ : ∃ acc2, acc2 = acc ++ (upto (-p) j).flatMap (genX p u) := ⟨_, rfl⟩
          have HA2 := Lib.hid hacc
          have HAL2 := Lib.hid (acc_len (N := 600000) (B := 500000) hacc (fun y => genX_len p u y h2) (by have := HA.out; omega) (by have := HJl.out; omega))
          have HR0 := Lib.hid (show rs.map (·.1) = acc2.map g1 by rw [HR.out, hacc])
          have HO0 := HO
          clear HR HO hacc
          obtain ⟨W8, hW8⟩ : ∃ W8 : World, W8 = wr := ⟨_, rfl⟩
          subst hW8
          go_loopw [3, 6, 7, 8, 39, 40, 41, 42, 43, 44, 45, 46, 47, 48, 49, 50, 51, 52, 53, 54, 55, 56, 57, 58, 59, 60, 61, 62, 63, 64, 65, 66, 67, 68, 69, 70, 71, 72, 73, 74, 75, 76, 77, 78, 79, 80, 81, 82, 83, 84, 85, 86, 87, 88, 89, 90, 91, 92, 93, 94, 95, 96, 97, 98, 99, 100, 101, 102, 103, 104, 105] (fun s3 s6 _ _ _ _ _ _ _ _ _ _ _ _ _ _ _ _ _ _ _ _ _ _ _ _ _ _ _ _ _ _ _ _ _ _ _ _ _ _ _ _ _ _ _ _ _ _ _ _ _ _ _ _ _ _ _ _ _ _ _ _ _ _ _ _ _ _ _ _ _ wr => ∃ (j : Nat) (rs : List (Qt × List Value)), s6 = .int .i64 (-p + (j : Int)) ∧ j ≤ (2 * p + 1).toNat ∧ rs.map (·.1) = (acc2 ++ (upto (-p) j).flatMap (genAt p u x)).map g1 ∧ Own eQt w s3 rs wr) (fun _ s6 _ _ _ _ _ _ _ _ _ _ _ _ _ _ _ _ _ _ _ _ _ _ _ _ _ _ _ _ _ _ _ _ _ _ _ _ _ _ _ _ _ _ _ _ _ _ _ _ _ _ _ _ _ _ _ _ _ _ _ _ _ _ _ _ _ _ _ _ _ _ => (300 - (intOf s6 + 150).toNat))
          case atStart => exact ⟨0, rs, by simp, Nat.zero_le _, by rw [HR0.out]; simp [upto], HO0.out⟩
          case round =>
            clear HR0 HO0 rs
            obtain ⟨j3, rs, rfl, hjl, hrs, hO⟩ := hrel
            have HO := Lib.hid hO; have HR := Lib.hid hrs
            obtain ⟨t, hy⟩ : ∃ t, t = -p + (j3 : Int) := ⟨_, rfl⟩
            have HY := Lib.hid hy
            rw [← hy]
            have hyb : -101 ≤ t ∧ t ≤ 101 := by omega
            obtain ⟨hy1, hy2⟩ := hyb
            obtain ⟨q1, q2⟩ := sqb (m := 101) (z := t) (by omega)
            have HJ3 := Lib.hid hjl
            clear hO hrs hjl hy
            by_cases hyu : t ≤ p
            · have hti := decide_eq_true (p := t ≤ p) hyu
              have HYU := Lib.hid hyu
              clear hyu
              rcases Decidable.em (t.tmod 2 ≠ 0) with c1 | c1
              · have t2 : (t.tmod 2 == 0) = false := by simpa using c1
                have t3 : (t.tmod 2 != 0) = true := by simpa using c1
                have HAt := Lib.hid (show genAt p u x t = [] by unfold genAt; rw [if_pos (.inl c1)])
                go_wp2_with fail
                refine ⟨⟨j3 + 1, rs, by rw [HY.out]; push_cast; rw [Int.add_assoc], by have := HY.out; have := HYU.out; omega, ?_, HO.out⟩, by simp only [intOf]; omega⟩
                rw [upto_flat_hw, ← HY.out, HAt.out, List.append_nil, HR.out]
              have c1' := Decidable.not_not.1 c1
              rcases Decidable.em (p < u * u + x * x + t * t) with c2 | c2
              · have t4 := decide_eq_true (p := p < u * u + x * x + t * t) c2
                have HAt := Lib.hid (show genAt p u x t = [] by unfold genAt; rw [if_pos (.inr c2)])
                go_wp2_with fail
                refine ⟨⟨j3 + 1, rs, by rw [HY.out]; push_cast; rw [Int.add_assoc], by have := HY.out; have := HYU.out; omega, ?_, HO.out⟩, by simp only [intOf]; omega⟩
                rw [upto_flat_hw, ← HY.out, HAt.out, List.append_nil, HR.out]
              have t4 := decide_eq_false (p := p < u * u + x * x + t * t) c2
              obtain ⟨r, hr⟩ : ∃ r, r = p - u * u - x * x - t * t := ⟨_, rfl⟩
              have HRr := Lib.hid hr
              have hrb : 0 ≤ r ∧ r ≤ 100 := by omega
              obtain ⟨hr1, hr2⟩ := hrb
              have HAt := Lib.hid (show genAt p u x t = if (sqUp 2 r 1000 0) * (sqUp 2 r 1000 0) ≠ r then [] else (if 0 < sqUp 2 r 1000 0 then [⟨u, x, t, -(sqUp 2 r 1000 0)⟩] else []) ++ [⟨u, x, t, sqUp 2 r 1000 0⟩] by
                unfold genAt; rw [if_neg (fun h => h.elim c1 c2), ← hr])
              clear c1 c2 hr
              go_upto_region 15 with fail
              rw [← HRr.out]
              clear c1' t4 hti
              obtain ⟨W7, hW7⟩ : ∃ W7 : World, W7 = wr := ⟨_, rfl⟩
              subst hW7
              go_loopw [8, 75, 76, 77, 78, 79, 80, 81] (fun s8 _ _ _ _ _ _ _ wr => ∃ (k : Nat) (q : Int), s8 = .int .i64 q ∧ sqUp 2 r k q = sqUp 2 r 1000 0 ∧ q + 2 * k = 2000 ∧ 0 ≤ q ∧ q ≤ 12 ∧ W7 = wr) (fun s8 _ _ _ _ _ _ _ _ => (2000 - (intOf s8).toNat))
              case atStart => exact ⟨1000, 0, rfl, rfl, by omega, by omega, by omega, rfl⟩
              case round =>
                obtain ⟨k5, q, rfl, hk, hqk, hq0, hq1, rfl⟩ := hrel
                obtain ⟨z1, z2⟩ := sqb (m := 12) (z := q) (by omega)
                by_cases hlt : q * q < r
                · have hti := decide_eq_true (p := q * q < r) hlt
                  have hz10 := sq_lt (m := 10) hq0 (by omega) (by omega)
                  obtain ⟨k', rfl⟩ : ∃ k', k5 = k' + 1 := ⟨k5 - 1, by omega⟩
                  have HKs := Lib.hid hk; have HLt := Lib.hid hlt
                  clear hk hlt
                  go_wp2_with fail
                  refine ⟨⟨k', q + 2, rfl, by rw [← HKs.out, sqUp_step (by have := HLt.out; omega)], by omega, by omega, by omega, trivial⟩, ?_⟩
                  simp only [intOf]; omega
                · have hti := decide_eq_false (p := q * q < r) hlt
                  have hqS : sqUp 2 r 1000 0 = q := by rw [← hk, sqUp_done hlt]
                  rw [hqS] at HAt
                  clear hk hlt hqS hqk
                  rcases Decidable.em (q * q ≠ r) with c1 | c1
                  · have t2 : (q * q == r) = false := by simpa using c1
                    have t3 : (q * q != r) = true := by simpa using c1
                    have HAt := Lib.hid (HAt.out.trans (if_pos c1))
                    go_wp2_with fail
                    refine ⟨⟨j3 + 1, rs, by rw [HY.out]; push_cast; rw [Int.add_assoc], by have := HY.out; have := HYU.out; omega, ?_, HO.out⟩, by simp only [intOf]; omega⟩
                    rw [upto_flat_hw, ← HY.out, HAt.out, List.append_nil, HR.out]
                  have c1' := Decidable.not_not.1 c1
                  have t1 : (q * q != r) = false := by simpa using c1'
                  have t2 : (q * q == r) = true := by simpa using c1'
                  have HAt := Lib.hid (HAt.out.trans (if_neg c1))
                  have HLn := Lib.hid (map_len HR.out (acc_len (N := 610000) (B := 600000) rfl (fun y => genAt_len p u x y) HAL2.out (by have := HJ3.out; omega)))
                  clear c1 c1'
                  by_cases hp : 0 < q
                  · have tp := decide_eq_true (p := 0 < q) hp
                    have HAt := Lib.hid (HAt.out.trans (by rw [if_pos hp]))
                    go_wp2_with (at_builtin; (first | (refine append_qt rfl (.tmp 89) (.tmp 96) 25 rfl Tryz.underlying25 HO.out (g1 ⟨u, x, t, -q⟩) _ W7.heap.size 1 rfl rfl rfl (by have := HLn.out; omega) ?_; intro v1 w1 hg1; have HG1 := Lib.hid hg1; clear hg1) | (refine append_qt rfl (.tmp 98) (.tmp 104) 25 rfl Tryz.underlying25 HG1.out (g1 ⟨u, x, t, q⟩) _ w1.heap.size 1 rfl rfl rfl (by have := HLn.out; simp; omega) ?_; intro v2 w2 hg2; have HG2 := Lib.hid hg2; clear hg2)))
                    refine ⟨⟨j3 + 1, _, by rw [HY.out]; push_cast; rw [Int.add_assoc], by have := HY.out; have := HYU.out; omega, ?_, HG2.out⟩, by simp only [intOf]; omega⟩
                    rw [upto_flat_hw, ← HY.out, HAt.out]; simp only [List.map_append, HR.out, List.map_cons, List.map_nil, List.append_assoc, List.cons_append, List.nil_append]
                  · have tp := decide_eq_false (p := 0 < q) hp
                    have HAt := Lib.hid (HAt.out.trans (by rw [if_neg hp]))
                    go_wp2_with (at_builtin; refine append_qt rfl (.tmp 98) (.tmp 104) 25 rfl Tryz.underlying25 HO.out (g1 ⟨u, x, t, q⟩) _ W7.heap.size 1 rfl rfl rfl (by have := HLn.out; omega) ?_; intro v2 w2 hg2; have HG2 := Lib.hid hg2; clear hg2)
                    refine ⟨⟨j3 + 1, _, by rw [HY.out]; push_cast; rw [Int.add_assoc], by have := HY.out; have := HYU.out; omega, ?_, HG2.out⟩, by simp only [intOf]; omega⟩
                    rw [upto_flat_hw, ← HY.out, HAt.out]; simp only [List.map_append, HR.out, List.map_cons, List.map_nil, List.append_assoc, List.nil_append]
            · have hti := decide_eq_false (p := t ≤ p) hyu
              have hfin : rs.map (·.1) = (acc2 ++ genX p u x).map g1 := by
                rw [HR.out, HAt.out, show j3 = (2 * p + 1).toNat by have := HY.out; have := HJ3.out; omega]
              have HFi := Lib.hid hfin
              clear hfin hyu
              go_wp2_with fail
              refine ⟨⟨j + 1, rs, by rw [HX.out]; push_cast; rw [Int.add_assoc], by have := HX.out; have := HXU.out; omega, ?_, HO.out⟩, by simp only [intOf]; omega⟩
              rw [upto_flat_hw, ← HX.out, HFi.out, HA2.out, List.append_assoc]
        · have hti := decide_eq_false (p := x ≤ p) hxu
          have hfin : rs.map (·.1) = (acc ++ genW p u).map g1 := by
            rw [HR.out, show j = (2 * p + 1).toNat by have := HX.out; have := HJl.out; omega]; rfl
          have HFi := Lib.hid hfin
          clear hfin hxu
          go_wp2_with fail
          refine ⟨⟨k', u + 2, acc ++ genW p u, rs, rfl, HK2.out, by omega, by omega, by rw [List.append_assoc]; exact HF2.out, HFi.out, by rw [List.length_append]; have := genW_len p u h2; have := HA.out; omega, HO.out⟩, by simp only [intOf]; omega⟩
    · have hti := decide_eq_false (p := u * u ≤ p) hlt
      have hfin : acc = G := by rw [← HF.out, hk', genF, if_neg hlt, List.append_nil]
      have HFi := Lib.hid (show rs.map (·.1) = G.map g1 by rw [HR.out, hfin])
      clear hlt hk' hfin
      go_wp2_with fail
      go_ret
      exact ⟨_, rfl, by rw [← HFi.out]; exact HO.out.sl, HO.out.below⟩
end Go.Proofs.YthkklilhjnpedaaGreat
end
section
namespace FF
theorem ok5 : okGen 5 = true := by decide +kernel
theorem ok13 : okGen 13 = true := by decide +kernel
theorem ok17 : okGen 17 = true := by decide +kernel
theorem ok29 : okGen 29 = true := by decide +kernel
theorem ok37 : okGen 37 = true := by decide +kernel
theorem ok41 : okGen 41 = true := by decide +kernel
theorem ok53 : okGen 53 = true := by decide +kernel
theorem ok61 : okGen 61 = true := by decide +kernel
theorem ok73 : okGen 73 = true := by decide +kernel
theorem ok89 : okGen 89 = true := by decide +kernel
theorem ok97 : okGen 97 = true := by decide +kernel
end FF
end
section
namespace Go.Proofs.YthkklilhjnpedaaGreat
open Go.RowKit FF
set_option maxHeartbeats 1000000 in
theorem within_any (n a b : Int) (w : World) : Calls Tryz.prog 4 #[.int .i64 n, .int .i64 a, .int .i64 b] w (PostW (VC (.bool (decide (a ≤ n ∧ n ≤ b)))) w) := by
  by_cases h1 : a ≤ n
  · have t1 := decide_eq_true (p := a ≤ n) h1
    by_cases h2 : n ≤ b
    · have t2 := decide_eq_true (p := n ≤ b) h2
      rw [decide_eq_true (p := a ≤ n ∧ n ≤ b) ⟨h1, h2⟩]
      clear h1 h2
      go_enter Tryz.func4, Tryz.ntmps4
      go_wp2_with fail
      go_ret
      exact ⟨_, rfl, rfl, Below.refl _ _⟩
    · have t2 := decide_eq_false (p := n ≤ b) h2
      rw [decide_eq_false (p := a ≤ n ∧ n ≤ b) (fun h => h2 h.2)]
      clear h1 h2
      go_enter Tryz.func4, Tryz.ntmps4
      go_wp2_with fail
      go_ret
      exact ⟨_, rfl, rfl, Below.refl _ _⟩
  · have t1 := decide_eq_false (p := a ≤ n) h1
    rw [decide_eq_false (p := a ≤ n ∧ n ≤ b) (fun h => h1 h.1)]
    clear h1
    go_enter Tryz.func4, Tryz.ntmps4
    go_wp2_with fail
    go_ret
    exact ⟨_, rfl, rfl, Below.refl _ _⟩
def gdB (p : Int) : Bool := isPB p && p.tmod 4 == 1
set_option maxHeartbeats 1000000 in
theorem isGood_any (p : Int) (w : World) : Calls Tryz.prog 5 #[.int .i64 p] w (PostW (VC (.bool (gdB p))) w) := by
  have HP := Lib.hid (fun W => rIsPrime_any p W)
  have HG := Lib.hid (show gdB p = (isPB p && p.tmod 4 == 1) from rfl)
  generalize gdB p = g at *
  cases hp : isPB p
  · rw [hp] at HP HG
    have HG2 := Lib.hid (show g = false from HG.out)
    clear HG hp
    go_enter Tryz.func5, Tryz.ntmps5
    go_wp2_with fail
    refine (HP.out _).mono ?_
    rintro e w1 ⟨rfl, n, rfl⟩
    go_wp2_with fail
    go_ret
    exact ⟨_, rfl, by rw [HG2.out]; rfl, below_drewN (Below.refl _ _) _⟩
  · rw [hp] at HP HG
    have HG2 := Lib.hid (show g = (p.tmod 4 == 1) by rw [HG.out]; rfl)
    clear HG hp
    go_enter Tryz.func5, Tryz.ntmps5
    go_wp2_with fail
    refine (HP.out _).mono ?_
    rintro e w1 ⟨rfl, n, rfl⟩
    go_wp2_with fail
    go_ret
    exact ⟨_, rfl, by rw [HG2.out]; rfl, below_drewN (Below.refl _ _) _⟩
set_option maxHeartbeats 1000000 in
theorem good_any (p : Int) (w : World) (h : gdB p = true) : Calls Tryz.prog 15 #[.int .i64 p] w (PostW (VC (.bool true)) w) := by
  have HP := Lib.hid (fun W => isPrime_any p W)
  unfold gdB at h
  rw [Bool.and_eq_true] at h
  obtain ⟨h1, h2⟩ := h
  rw [h1] at HP
  clear h1
  go_enter Tryz.func15, Tryz.ntmps15
  go_wp2_with fail
  refine (HP.out _).mono ?_
  rintro e w1 ⟨rfl, n, rfl⟩
  go_wp2_with fail
  go_ret
  exact ⟨_, rfl, rfl, below_drewN (Below.refl _ _) _⟩
set_option maxHeartbeats 1000000 in
theorem Generators_any (p : Int) (w : World) (h : gdB p = true) (h1 : 1 ≤ p) (h2 : p ≤ 100) : Calls Tryz.prog 7 #[.int .i64 p] w (PostW (fun r W => ∃ v, r = .tuple #[v, .int .i64 0] ∧ Sl eQt ((genL p).map g1) v W) w) := by
  have HG := Lib.hid (fun W => good_any p W h)
  have HN := Lib.hid (fun W => generators_any p W h1 h2)
  have t1 := decide_eq_false (p := 400 ≤ p) (by omega)
  clear h h1 h2
  go_enter Tryz.func7, Tryz.ntmps7
  go_wp2_with fail
  refine (HG.out _).mono ?_
  rintro e w1 ⟨_, rfl, rfl, hb⟩
  have HB := Lib.hid hb
  clear hb
  go_wp2_with fail
  refine (HN.out _).mono ?_
  rintro e w2 ⟨v, rfl, hv, hb⟩
  have HB2 := Lib.hid (HB.out.trans (hb.mono HB.out.size)); have HV := Lib.hid hv
  clear hb hv
  go_wp2_with fail
  go_ret2
  exact ⟨_, rfl, ⟨_, rfl, HV.out⟩, HB2.out⟩
def eBool : El Bool where
  T := 4
  n := 1
  bytes := 1
  z := .bool false
  E := fun x cs _ => cs = [.bool x]
  Bad := fun _ => False
  pos := by decide
  small := by decide
  zn := rfl
  zg := fun _ _ h => h
  len := by rintro x cs W rfl; rfl
  one := by
    rintro x cs W rfl y hy
    obtain rfl := List.mem_singleton.1 hy
    exact ⟨rfl, fun h => h⟩
  alt := fun h _ _ => h
theorem info_boolr : (Tryz.prog.info? 4).map (fun i => (i.zero, i.size, i.bytes)) = some (some (.bool false), 1, 1) := by kernel_rfl
theorem bool_make (N : Nat) (hN : N ≤ 1000000) (W : World) : (Instr.makeSlice 29 (.int .i64 (N : Int)) (.int .i64 (N : Int))).run Tryz.prog W =
    .ok (.slice (some ⟨W.heap.size, 0, none⟩) N N) (W.alloc (.cells (madeCells #[.bool false] N) 4)) :=
  run_make_row' (P := Tryz.prog) 29 4 (.bool false) 1 Tryz.underlying29 info_boolr rfl .i64 .i64 N (by omega) (by omega) W
theorem Own.made_bool {w W : World} {N : Nat} (hB : Below w.heap.size w W) (hN : N ≤ 1000000) : Own eBool w (.slice (some ⟨W.heap.size, 0, none⟩) N N) (List.replicate N (false, [.bool false])) (W.alloc (.cells (madeCells #[.bool false] N) 4)) := by
  have := Own.made (e := eBool) (N := N) (x := false) (w := w) (W := W) (fun _ => rfl) hB (by unfold maxLen; omega)
  rw [show N * eBool.n = N from Nat.mul_one N] at this
  exact this
theorem own_bool_cell {w W : World} {g cap n i : Nat} {rs : List (Bool × List Value)} (h : Own eBool w (.slice (some ⟨g, 0, none⟩) n cap) rs W) {z : Bool} (hz : (rs.map (·.1))[i]? = some z) :
    W.cell? ⟨g, i, none⟩ = some (.bool z) ∧ W.frozen? ⟨g, i, none⟩ = false := by
  rw [List.getElem?_map] at hz
  cases hx : rs[i]? with
  | none => rw [hx] at hz; cases hz
  | some x =>
    rw [hx] at hz
    obtain ⟨hc, he⟩ := h.cell hx
    obtain rfl : x.1 = z := Option.some.inj hz
    have he' : x.2 = [.bool x.1] := he
    have := hc 0 (.bool x.1) (by rw [he']; rfl)
    rw [show i * eBool.n + 0 = i from by show i * 1 + 0 = i; omega] at this
    exact ⟨this, h.fz _⟩
theorem own_bool_set {w W : World} {g cap n i : Nat} {rs : List (Bool × List Value)} (h : Own eBool w (.slice (some ⟨g, 0, none⟩) n cap) rs W) (hi : i < rs.length) (z : Bool) :
    Own eBool w (.slice (some ⟨g, 0, none⟩) n cap) (rs.set i (z, [.bool z])) (W.setCell ⟨g, i, none⟩ (.bool z)) := by
  have := h.set (e := eBool) hi (y := z) (cs := [.bool z]) rfl
  rw [show i * eBool.n = i from Nat.mul_one i] at this
  exact this
theorem eqQ_dec (x y : Qt) : (x.w == y.w && (x.x == y.x && (x.y == y.y && (x.z == y.z && x.d == y.d)))) = decide (x = y) := by
  obtain ⟨a, b, c, d, e⟩ := x
  obtain ⟨f, g, h, i, j⟩ := y
  rw [Bool.eq_iff_iff]
  simp [Qt.mk.injEq]
theorem eq5h (x0 x1 x2 x3 x4 y0 y1 y2 y3 y4 : Int) (w : World) : Sem.run Tryz.prog (Op.equalIn 10000 31 (.agg #[.int .i64 x0, .int .i64 x1, .int .i64 x2, .int .i64 x3, .int .i64 x4]) (.agg #[.int .i64 y0, .int .i64 y1, .int .i64 y2, .int .i64 y3, .int .i64 y4])) w = .ok (x0 == y0 && (x1 == y1 && (x2 == y2 && (x3 == y3 && x4 == y4)))) w := by
  have h := run_equalIn_agg (P := Tryz.prog) w 9999 31 #[.int .i64 x0, .int .i64 x1, .int .i64 x2, .int .i64 x3, .int .i64 x4] #[.int .i64 y0, .int .i64 y1, .int .i64 y2, .int .i64 y3, .int .i64 y4] (by kernel_rfl) (by kernel_rfl)
  rw [show (10000 : Nat) = 9999 + 1 from rfl, h]
  cases h0 : (x0 == y0) <;> cases h1 : (x1 == y1) <;> cases h2 : (x2 == y2) <;> cases h3 : (x3 == y3) <;> cases h4 : (x4 == y4) <;> simp [go_sem, h0, h1, h2, h3, h4, -beq_iff_eq, -beq_eq_false_iff_ne]
theorem run_eqQ (X Z : Operand) (x y : Qt) (W : World) : (do eqGuard .eql 31 X Z (qv x) (qv y); Go.binOp .eql 31 (qv x) (qv y) : Sem Value).run Tryz.prog W = .ok (.bool (decide (x = y))) W := by
  have hg : (eqGuard .eql 31 X Z (qv x) (qv y)).run Tryz.prog W = .ok () W := run_eqGuard_agg W .eql 31 X Z _ _ (by kernel_rfl)
  have h := eq5h x.w x.x x.y x.z x.d y.w y.x y.y y.z y.d W
  rw [eqQ_dec] at h
  simp only [Sem.run_bind, hg, Result.andThen_ok]
  unfold qv at *
  simp [Go.binOp, Op.equal, Op.maxDepth, h, Result.andThen]
theorem Yl.loadQ {a : Act} {w W : World} {o : Oper} {g k : Nat} {x : Operand} {h : Qt} (hB : Below w.heap.size w W) (hg : g < w.heap.size) (hC : ∀ d u, (qcs h)[d]? = some u → w.cell? ⟨g, k + d, none⟩ = some u) (ho : o.op = .load 31 x) (hx : a.eval x = .pointer (some ⟨g, k, none⟩)) : Yl Tryz.prog o a W (VC (qv h)) := by
  refine .loadL (us := qcs h) ho hx (fun d u hd => ?_) rfl Tryz.underlying31 rfl (by kernel_rfl) rfl
  rw [hB.cell (p := ⟨g, k + d, none⟩) hg]
  exact hC d u hd
end Go.Proofs.YthkklilhjnpedaaGreat
end
