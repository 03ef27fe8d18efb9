/- The law IntegerSquares answers true at all integers. -/
import Derived.Test.YtmlkiddkgikdhaaRRt
import Derived.Deep.DeepCutAuto
namespace Go.Proofs.Ytmlkiddkgikdhaa
open Go.RowKit FF

/-- the integer square root of an integer, 0 below 0 -/
def sqZ (x : Int) : Int := (sqN x.toNat : Nat)
theorem sqZ_nonneg (x : Int) : 0 ≤ sqZ x := Int.natCast_nonneg _
/-- what Root leaves, an integer and an error -/
def RPost (w : World) (z er : Int) (e : Ending) (w' : World) : Prop :=
  ∃ A c, e = .returned (.tuple #[.agg #[.bool (decide (z < 0)), .slice A (wl z.natAbs) c], .int .i64 er]) ∧ Shows .u32 w' A (digs WB z.natAbs) ∧ wl z.natAbs ≤ c ∧ c ≤ maxLen ∧ Below w.heap.size w w'
theorem RPost.of {w w' : World} {x : Int} {e : Ending} (h : RootPost w x e w') : RPost w (sqZ x) (errR x) e w' := by
  obtain ⟨A, c, rfl, h⟩ := h
  refine ⟨A, c, ?_, h⟩
  rw [show decide (sqZ x < 0) = false from decide_eq_false (by have := sqZ_nonneg x; omega)]
  rfl
theorem Root_int (s : Bool) (A : Option Addr) (n c : Nat) (x : Int) (w : World) (hx : AI w s A n c x) (hl : n ≤ 400000) :
    Calls Try.prog 64 #[.agg #[.bool s, .slice A n c]] w (RPost w (sqZ x) (errR x)) := (Root_any s A n c x w hx hl).mono fun _ _ h => RPost.of h
theorem rRoot_int (s : Bool) (A : Option Addr) (n c : Nat) (x : Int) (w : World) (hx : AI w s A n c x) (hl : n ≤ 400000) :
    Calls Try.prog 65 #[.agg #[.bool s, .slice A n c]] w (RPost w (sqZ x) (errR x)) := (rRoot_any s A n c x w hx hl).mono fun _ _ h => RPost.of h
theorem sq_key {x : Int} (h : 0 ≤ x) : sgn (sqZ x * sqZ x - x) ≤ 0 ∧ sgn ((sqZ x + 1) * (sqZ x + 1) - x) > 0 := by
  have h1 := sqN_le x.toNat
  have h2 := sqN_gt x.toNat
  have e1 : sqZ x * sqZ x = ((sqN x.toNat * sqN x.toNat : Nat) : Int) := by unfold sqZ; rw [Int.natCast_mul]
  have e2 : (sqZ x + 1) * (sqZ x + 1) = (((sqN x.toNat + 1) * (sqN x.toNat + 1) : Nat) : Int) := by unfold sqZ; rw [Int.natCast_mul]; rfl
  rw [e1, e2]
  generalize sqN x.toNat * sqN x.toNat = p at *
  generalize (sqN x.toNat + 1) * (sqN x.toNat + 1) = q at *
  constructor
  · rcases sgn_cases ((p : Int) - x) with g | g | g <;> omega
  · rcases sgn_cases ((q : Int) - x) with g | g | g <;> omega
theorem Ab.sqZ {k : Nat} {x : Int} (h : Ab k x) : Ab k (sqZ x) := by
  unfold Ab Go.Proofs.Ytmlkiddkgikdhaa.sqZ at *
  have := sqN_self_le x.toNat
  omega
theorem Ab.one : Ab 1 1 := by unfold Ab; decide

/-- one variable in a region -/
abbrev S1 (W : World) (a : Nat) (v0 v1 : Value) (w' : World) : Prop := Below W.heap.size W w' ∧ w'.cell? ⟨a, 0, none⟩ = some v0 ∧ w'.cell? ⟨a, 1, none⟩ = some v1 ∧ a < w'.heap.size
theorem S1.keep {W : World} {a : Nat} {v0 v1 : Value} {w0 w1 : World} (h : S1 W a v0 v1 w0) (hb : Below w0.heap.size w0 w1) : S1 W a v0 v1 w1 := by
  obtain ⟨b, h1, h2, h3⟩ := h
  exact ⟨below_then b hb, by rw [hb.cell (p := ⟨a, 0, none⟩) h3]; exact h1, by rw [hb.cell (p := ⟨a, 1, none⟩) h3]; exact h2, Nat.lt_of_lt_of_le h3 hb.size⟩
theorem new_keep {w W : World} {c : Array Value} {T : TypeId} (b : Below (w.alloc (.cells c T)).heap.size (w.alloc (.cells c T)) W) : (∀ i, W.cell? ⟨w.heap.size, i, none⟩ = c[i]?) ∧ (∀ i, W.frozen? ⟨w.heap.size, i, none⟩ = false) ∧ w.heap.size < W.heap.size := by
  refine ⟨fun i => ?_, fun i => ?_, ?_⟩
  · rw [b.cell (p := ⟨w.heap.size, i, none⟩) (by simp)]; simp [go_sem]
  · rw [b.frozen (p := ⟨w.heap.size, i, none⟩) (by simp)]; simp [go_sem]
  · have := b.size; rw [World.size_alloc] at this; omega
theorem new_drew {w W : World} {c : Array Value} {T : TypeId} (b : Below (w.alloc (.cells c T)).drew.heap.size (w.alloc (.cells c T)).drew W) : (∀ i, W.cell? ⟨w.heap.size, i, none⟩ = c[i]?) ∧ (∀ i, W.frozen? ⟨w.heap.size, i, none⟩ = false) ∧ w.heap.size < W.heap.size :=
  new_keep ⟨b.os, b.tape, b.output, b.size, b.block⟩
theorem below_of {W w' : World} {Q : Prop} (h : Below W.heap.size W w' ∧ Q) : Below W.heap.size W w' := h.1
theorem below_next {W w0 w1 : World} {Q : Prop} (h : Below W.heap.size W w0 ∧ Q) (b : Below w0.heap.size w0 w1) : Below W.heap.size W w1 := below_then h.1 b
theorem Has.store {W : World} {a : Nat} {v0 v1 : Value} (h : Has W a v0 v1) (u0 u1 : Value) : Has ((W.setCell ⟨a, 0, none⟩ u0).setCell ⟨a, 1, none⟩ u1) a u0 u1 := by
  obtain ⟨h1, h2, h3⟩ := h
  exact ⟨by simpa [World.setCell] using h1, by simp [go_sem, h2], by simp [go_sem, h3]⟩
theorem Hs3 {W w' : World} {a1 a2 a3 : Nat} {u1 v1 u2 v2 u3 v3 : Value} (h : Hs W [(a1, u1, v1), (a2, u2, v2), (a3, u3, v3)]) (b : Below W.heap.size W w') :
    Below W.heap.size W w' ∧ w'.cell? ⟨a1, 0, none⟩ = some u1 ∧ w'.cell? ⟨a1, 1, none⟩ = some v1 ∧ w'.cell? ⟨a2, 0, none⟩ = some u2 ∧ w'.cell? ⟨a2, 1, none⟩ = some v2 ∧ w'.cell? ⟨a3, 0, none⟩ = some u3 ∧ w'.cell? ⟨a3, 1, none⟩ = some v3 := by
  obtain ⟨k1, k2, k3, -⟩ := Hs.keep b h
  exact ⟨b, k1.2.1, k1.2.2, k2.2.1, k2.2.2, k3.2.1, k3.2.2⟩
theorem S1.store {W : World} {a g : Nat} {v0 v1 : Value} {w0 : World} (h : S1 W a v0 v1 w0) (ha : a < W.heap.size) (hg : W.heap.size ≤ g) (u0 u1 : Value) : S1 W a v0 v1 ((w0.setCell ⟨g, 0, none⟩ u0).setCell ⟨g, 1, none⟩ u1) := by
  obtain ⟨b, h1, h2, h3⟩ := h
  have k : ∀ i, ((w0.setCell ⟨g, 0, none⟩ u0).setCell ⟨g, 1, none⟩ u1).cell? ⟨a, i, none⟩ = w0.cell? ⟨a, i, none⟩ := fun i => by
    rw [World.cell?_setCell_other _ _ _ _ (fun e => by injection e with e; omega), World.cell?_setCell_other _ _ _ _ (fun e => by injection e with e; omega)]
  exact ⟨(b.setCell hg _).setCell hg _, by rw [k]; exact h1, by rw [k]; exact h2, by simpa [World.setCell] using h3⟩
theorem S1.again {W : World} {a : Nat} {v0 v1 : Value} {w0 : World} {o o2 : Obj} (h : S1 W a v0 v1 (w0.alloc o)) (ha : a < W.heap.size) (hg : W.heap.size ≤ w0.heap.size) : S1 W a v0 v1 (w0.alloc o2) := by
  obtain ⟨b, h1, h2, h3⟩ := h
  have k : ∀ i, (w0.alloc o2).cell? ⟨a, i, none⟩ = (w0.alloc o).cell? ⟨a, i, none⟩ := fun i => by
    rw [World.cell?_alloc_lt _ _ _ (show a < w0.heap.size by omega), World.cell?_alloc_lt _ _ _ (show a < w0.heap.size by omega)]
  refine ⟨⟨b.os, b.tape, b.output, by rw [World.size_alloc]; have := b.size; rw [World.size_alloc] at this; exact this, fun j hj => ?_⟩, by rw [k]; exact h1, by rw [k]; exact h2, by rw [World.size_alloc]; omega⟩
  have := b.block j hj
  rw [Below.heap_alloc w0 o j (by omega)] at this
  rw [Below.heap_alloc w0 o2 j (by omega)]
  exact this
set_option maxRecDepth 100000 in
set_option maxHeartbeats 4000000 in
theorem IntegerSquares_law (s : Bool) (A : Option Addr) (xs : List Nat) (c : Nat) (w : World) (hx : Shows .u32 w A xs) (dx : Dig WB xs) (hcx : xs.length ≤ c) (hcx2 : c ≤ maxLen) :
    Calls Try.prog 14 #[.agg #[.bool s, .slice A xs.length c]] w fun e w' => e = .returned (.bool true) ∧ Below w.heap.size w w' := by
  have hA := Lib.hid awake_any
  have aX := AI.mk (s := s) hx dx hcx hcx2
  clear hx dx
  unfold maxLen at hcx2
  obtain ⟨x, hx⟩ : ∃ x, sval s (val WB xs) = x := ⟨_, rfl⟩
  rw [hx] at aX
  clear hx
  generalize xs.length = n at *
  have HS := Lib.hid (fun (w' : World) (g c : Nat) h => short_law g [n] c w' (by simp) h)
  change Hid (∀ (w' : World) (g c : Nat), _ → Calls _ _ #[.slice (some ⟨g, 0, none⟩) 1 c] w' _) at HS
  have hcells : ∀ (W : World) (v0 : Value) (T : TypeId), ∀ i, i < [n].length → ∃ A0 c0, (W.alloc (.cells #[v0, .slice A n c] T)).cell? ⟨W.heap.size, i * 2 + 1, none⟩ = some (.slice A0 ([n].getD i 0) c0) ∧ [n].getD i 0 ≤ 9223372036854775807 := by
    intro W v0 T i hi
    match i, hi with
    | 0, _ => exact ⟨A, c, by rw [World.cell?_alloc_at _ _ _ _ rfl]; rfl, by show n ≤ _; omega⟩
  have hsz := hcells (w.alloc (.cells #[.bool s, .slice A n c] 51)) (.bool s) 51
  rw [World.size_alloc] at hsz
  have HSh := Lib.hid (HS.out _ _ 1 hsz)
  clear hcells hsz HS
  by_cases hsh : shortB [n] = true
  · have hn6 : n ≤ 6 := shortB_get hsh (i := 0) (by simp)
    rw [hsh] at HSh
    clear hsh
    have HX := Lib.hid aX
    have bx := (Ab.of_ai aX).mono hn6
    have HRo := Lib.hid (fun w' h => Root_int s A n c x w' h (by omega))
    have HRR := Lib.hid (fun w' h => rRoot_int s A n c x w' h (by omega))
    have bz := bx.sqZ
    have bz1 := (bz.mono (show 6 ≤ 7 by omega)).add (Ab.one.mono (show 1 ≤ 7 by omega))
    have hzl : wl (sqZ x).natAbs ≤ 30 := (bz.mono (by omega)).wl
    have hz1l : wl (sqZ x + 1).natAbs ≤ 30 := (bz1.mono (by omega)).wl
    have hzz : wl (sqZ x * sqZ x).natAbs ≤ 30 := ((bz.mul bz).mono (by omega)).wl
    have hzz1 : wl ((sqZ x + 1) * (sqZ x + 1)).natAbs ≤ 30 := ((bz1.mul bz1).mono (by omega)).wl
    have key := Lib.hid (fun h : 0 ≤ x => sq_key h)
    have hO : ∀ w' : World, Calls Try.prog 58 #[.int .i64 1] w' (fun e w2 => ∃ B k, e = .returned (.agg #[.bool (decide ((1 : Int) < 0)), .slice B (wl (1 : Int).natAbs) k]) ∧ Shows .u32 w2 B (digs WB (1 : Int).natAbs) ∧ wl (1 : Int).natAbs ≤ k ∧ k ≤ maxLen ∧ Below w'.heap.size w' w2) := fun w' => (Of_any 1 w' ⟨by omega, by omega⟩).mono fun _ _ ⟨B, k, h1, h2, h3, h4, _, h5⟩ => ⟨B, k, h1, h2, h3, h4, h5⟩
    obtain ⟨O, hO1⟩ : ∃ O : Int, 1 = O := ⟨_, rfl⟩
    have hol : wl O.natAbs ≤ 30 := by subst hO1; decide
    have HO := Lib.hid (show ∀ w' : World, Calls Try.prog 58 #[.int .i64 1] w' (fun e w2 => ∃ B k, e = .returned (.agg #[.bool (decide (O < 0)), .slice B (wl O.natAbs) k]) ∧ Shows .u32 w2 B (digs WB O.natAbs) ∧ wl O.natAbs ≤ k ∧ k ≤ maxLen ∧ Below w'.heap.size w' w2) by subst hO1; exact hO)
    rw [hO1] at hz1l hzz1
    have key2 := Lib.hid (fun h : 0 ≤ x => (show sgn (sqZ x * sqZ x - x) ≤ 0 ∧ 0 < sgn ((sqZ x + O) * (sqZ x + O) - x) by rw [← hO1]; exact key.out h))
    clear key
    have hE := Lib.hid (show (errR x = 2 ∧ x < 0) ∨ (errR x = 0 ∧ 0 ≤ x) by unfold errR; by_cases h : x < 0 <;> simp [h]; omega)
    generalize errR x = er at *
    generalize sqZ x = z at *
    have HSm := Lib.hid (fun (B B' : Option Addr) (k k' : Nat) (w' : World) h1 h2 h3 h4 => Same_int z B B' k k' w' h1 h2 h3 h4)
    have HAd := Lib.hid (fun (B B' : Option Addr) (k k' : Nat) w' h h' => Add_any (decide (z < 0)) (decide (O < 0)) B B' (wl z.natAbs) (wl O.natAbs) k k' z O w' h h' (by omega))
    have HMz := Lib.hid (fun (B : Option Addr) (k : Nat) w' h h' => Mul_any (decide (z < 0)) (decide (z < 0)) B B (wl z.natAbs) (wl z.natAbs) k k z z w' h h' (by omega))
    have HMn := Lib.hid (fun (B : Option Addr) (k : Nat) w' h h' => Mul_any (decide (z + O < 0)) (decide (z + O < 0)) B B (wl (z + O).natAbs) (wl (z + O).natAbs) k k (z + O) (z + O) w' h h' (by omega))
    have HC1 := Lib.hid (fun (B : Option Addr) (k : Nat) w' h h' => Cmp_any (decide (z * z < 0)) s B A (wl (z * z).natAbs) n k c (z * z) x w' h h' (by omega))
    have HC2 := Lib.hid (fun (B : Option Addr) (k : Nat) w' h h' => Cmp_any (decide ((z + O) * (z + O) < 0)) s B A (wl ((z + O) * (z + O)).natAbs) n k c ((z + O) * (z + O)) x w' h h' (by omega))
    unfold RPost at HRo HRR
    unfold IntPost at HAd HMz HMn
    generalize sgn (z * z - x) = g1 at *
    generalize sgn ((z + O) * (z + O) - x) = g2 at *
    generalize (z + O) * (z + O) = nn at *
    generalize z * z = zz at *
    generalize z + O = z1 at *
    clear aX bx bz bz1 hO1 hO
    go_enter Try.func14, Try.ntmps14
    go_wp2_with fail
    refine HSh.out.mono ?_
    rintro e w' ⟨rfl, rfl⟩
    go_wp2_with fail
    have HHa := Lib.hid (show Hs ((w.alloc (.cells #[.bool s, .slice A n c] 51)).alloc (.cells #[.bool s, .slice A n c] 51)) [(w.heap.size, .bool s, .slice A n c)] from Hs.keep (l := [(w.heap.size, .bool s, .slice A n c)]) ((Below.refl _ _).alloc (Nat.le_refl _) _) ⟨Has.new w _ _ _, trivial⟩)
    have HBa := Lib.hid (below_new (below_new (Below.refl w.heap.size w) (.cells #[.bool s, .slice A n c] 51)) (.cells #[.bool s, .slice A n c] 51))
    refine (HRo.out _ (HX.out.keep HBa.out)).mono ?_
    rintro e W1 ⟨B1, l1, rfl, s1, p1, q1, b1⟩
    have HH1 := Lib.hid (Hs.new (Hs.keep b1 HHa.out) (.bool (decide (z < 0))) (.slice B1 (wl z.natAbs) l1) 51)
    have HB1 := Lib.hid (below_new (below_then HBa.out b1) (.cells #[.bool (decide (z < 0)), .slice B1 (wl z.natAbs) l1] 51))
    have HS1 := Lib.hid ((AI.of_post s1 p1 q1).alloc (.cells #[.bool (decide (z < 0)), .slice B1 (wl z.natAbs) l1] 51))
    have HZ1 := Lib.hid (s1.alloc (.cells #[.bool (decide (z < 0)), .slice B1 (wl z.natAbs) l1] 51))
    clear b1 s1 HHa HBa HRo
    obtain ⟨⟨g1', e1, f1⟩, ⟨g2', e2, f2⟩, -⟩ := HH1.out
    go_wp2_with fail
    refine (HRR.out _ (HX.out.keep HB1.out)).mono ?_
    clear g1' e1 f1 g2' e2 f2
    rintro e W2 ⟨B2, l2, rfl, s2, p2, q2, b1⟩
    have HH2 := Lib.hid (Hs.new (Hs.keep b1 HH1.out) (.bool (decide (z < 0))) (.slice B2 (wl z.natAbs) l2) 51)
    have HB2 := Lib.hid (below_new (below_then HB1.out b1) (.cells #[.bool (decide (z < 0)), .slice B2 (wl z.natAbs) l2] 51))
    have HS2 := Lib.hid ((HS1.out.keep b1).alloc (.cells #[.bool (decide (z < 0)), .slice B2 (wl z.natAbs) l2] 51))
    have HZ2 := Lib.hid (HSm.out B1 B2 l1 l2 _ ((HZ1.out.below b1).alloc (.cells #[.bool (decide (z < 0)), .slice B2 (wl z.natAbs) l2] 51)) (s2.alloc _) p1 q1)
    clear b1 s2 HH1 HB1 HRR HS1 HZ1
    obtain ⟨⟨g1', e1, f1⟩, ⟨g2', e2, f2⟩, ⟨g3, e3, f3⟩, -⟩ := HH2.out
    go_wp2_with fail
    refine HZ2.out.mono ?_
    clear g1' e1 f1 g2' e2 f2 g3 e3 f3
    rintro e W3 ⟨rfl, b1⟩
    have HH3 := Lib.hid (Hs.keep b1 HH2.out)
    have HB3 := Lib.hid (below_then HB2.out b1)
    have HS3 := Lib.hid (HS2.out.keep b1)
    clear b1 HH2 HB2 HS2 HZ2
    obtain ⟨⟨g1', e1, f1⟩, ⟨g2', e2, f2⟩, ⟨g3, e3, f3⟩, -⟩ := HH3.out
    rcases hE.out with ⟨he, hx0⟩ | ⟨he, hx0⟩
    · subst he
      clear hE key2
      go_wp2_with fail
      refine (hA.out _).mono ?_
      rintro e W4 ⟨rfl, b1⟩
      have HB4 := Lib.hid (below_then HB3.out b1)
      clear b1
      go_wp2_with fail
      go_ret
      exact ⟨rfl, HB4.out⟩
    · subst he
      obtain ⟨hg1, hg2⟩ := key2.out hx0
      clear hE key2
      go_wp2_with fail
      clear hx0
      have hne1 := (show W1.heap.size < W3.heap.size from g2')
      go_upto_region 9 with fail
      go_cut [7] (fun s7 wx => ∃ (g : Nat) (B : Option Addr) (l : Nat), s7 = .pointer (some ⟨g, 0, none⟩) ∧ Has wx g (.bool (decide (z1 < 0))) (.slice B (wl z1.natAbs) l) ∧ AI wx (decide (z1 < 0)) B (wl z1.natAbs) l z1 ∧ Below W3.heap.size W3 wx)
      case first =>
        go_region_held3 (fun w' => Below W3.heap.size W3 w' ∧ w'.cell? ⟨W1.heap.size, 0, none⟩ = some (.bool (decide (z < 0))) ∧ w'.cell? ⟨W1.heap.size, 1, none⟩ = some (.slice B1 (wl z.natAbs) l1) ∧ W1.heap.size < w'.heap.size)
          (first
            | exact ⟨(Below.refl _ _).drew, e2, f2, g2'⟩
            | (refine S1.keep (by assumption) ?_; first | assumption | exact (Below.refl _ _).alloc (Nat.le_refl _) _ | exact below_drewN (Below.refl _ _) _)
            | exact S1.store (by assumption) hne1 (by first | exact Nat.le_refl _ | assumption) _ _
            | exact S1.again (by assumption) hne1 (by assumption))
          (first
            | (go_at_call 58; (with_reducible refine (HO.out _).mono ?_); rintro e w' ⟨B3, l3, rfl, s3, p3, q3, b3⟩; have hz3 : W3.heap.size ≤ w'.heap.size := (by have := b3.size; (try simp at this); omega); (first | (have kk := new_drew b3; obtain ⟨k3, f3', z3⟩ := kk; have k30 := k3 0; have k31 := k3 1; have f30 := f3' 0; have f31 := f3' 1; clear k3 f3') | skip))
            | (go_at_call 39; (with_reducible refine (HAd.out B1 B3 l1 l3 _ (in_ai (by assumption) HS3.out) (by first | exact AI.of_post s3 p3 q3 | exact (AI.of_post s3 p3 q3).alloc _)).mono ?_); rintro e w' ⟨B4, l4, rfl, s4, p4, q4, fr4, b4⟩; have hz4 : W3.heap.size ≤ w'.heap.size := (by have := b4.size; (try simp at this); omega); (first | (have kk := new_keep b4; obtain ⟨k4, f4', z4⟩ := kk; have k40 := k4 0; have k41 := k4 1; have f40 := f4' 0; have f41 := f4' 1; clear k4 f4') | (have k40 := (b4.cell (p := ⟨W3.heap.size, 0, none⟩) z3).trans k30; have k41 := (b4.cell (p := ⟨W3.heap.size, 1, none⟩) z3).trans k31; have f40 := (b4.frozen (p := ⟨W3.heap.size, 0, none⟩) z3).trans f30; have f41 := (b4.frozen (p := ⟨W3.heap.size, 1, none⟩) z3).trans f31; clear k30 k31 f30 f31) | skip)))
        all_goals
          go_wp2_with fail
          go_meet
          first
          | exact ⟨_, B4, l4, rfl, Has.new _ _ _ _, (AI.of_post s4 p4 q4).alloc _, below_of (by assumption)⟩
          | exact ⟨_, B4, l4, rfl, Has.store ⟨z4, k40, k41⟩ _ _, AI.of_post ((s4.setCell fr4 (by simp) _).setCell fr4 (by simp) _) p4 q4, below_of (by assumption)⟩
          | exact ⟨_, B4, l4, rfl, Has.store ⟨Nat.lt_of_lt_of_le z3 b4.size, k40, k41⟩ _ _, AI.of_post ((s4.setCell fr4 z3 _).setCell fr4 z3 _) p4 q4, below_of (by assumption)⟩
      case rest =>
        obtain ⟨g, B, l, rfl, hN, hI, hB⟩ := hcut
        have HI := Lib.hid hI
        have HH4 := Lib.hid (show Hs wc [(g, .bool (decide (z1 < 0)), .slice B (wl z1.natAbs) l), (W1.heap.size, .bool (decide (z < 0)), .slice B1 (wl z.natAbs) l1), (w.heap.size, .bool s, .slice A n c)] from ⟨hN, (Hs.keep hB HH3.out).2.1, (Hs.keep hB HH3.out).2.2.1, trivial⟩)
        have HB4 := Lib.hid (below_then HB3.out hB)
        have HX4 := Lib.hid (HX.out.keep HB4.out)
        have HS4 := Lib.hid (HS3.out.keep hB)
        clear hN hI hB HH3 HB3 HX HS3 g1' e1 f1 g2' e2 f2 g3 e3 f3 hne1
        go_wp2_with fail
        go_region_held3 (fun w' => Below wc.heap.size wc w' ∧ w'.cell? ⟨g, 0, none⟩ = some (.bool (decide (z1 < 0))) ∧ w'.cell? ⟨g, 1, none⟩ = some (.slice B (wl z1.natAbs) l) ∧ w'.cell? ⟨W1.heap.size, 0, none⟩ = some (.bool (decide (z < 0))) ∧ w'.cell? ⟨W1.heap.size, 1, none⟩ = some (.slice B1 (wl z.natAbs) l1) ∧ w'.cell? ⟨w.heap.size, 0, none⟩ = some (.bool s) ∧ w'.cell? ⟨w.heap.size, 1, none⟩ = some (.slice A n c))
          (first
            | exact Hs3 HH4.out (Below.refl _ _).drew
            | (refine Hs3 HH4.out (below_next (by assumption) ?_); first | assumption | exact (Below.refl _ _).alloc (Nat.le_refl _) _ | exact below_drewN (Below.refl _ _) _))
          (first
            | (go_at_call 43; (with_reducible refine (HMz.out B1 l1 _ (in_ai (by assumption) HS4.out) (in_ai (by assumption) HS4.out)).mono ?_); rintro e w' ⟨A1, c1, rfl, s1, p1, r1, -, b1⟩)
            | (go_at_call 57; (with_reducible refine (HC1.out A1 c1 _ (AI.of_post s1 p1 r1) (in_ai (by assumption) HX4.out)).mono ?_); rintro e w' ⟨rfl, b2⟩)
            | (go_at_call 43; (with_reducible refine (HMn.out B l _ (in_ai (by assumption) HI.out) (in_ai (by assumption) HI.out)).mono ?_); rintro e w' ⟨A3, c3, rfl, s3, p3, r3, -, b3⟩)
            | (go_at_call 57; (with_reducible refine (HC2.out A3 c3 _ (AI.of_post s3 p3 r3) (in_ai (by assumption) HX4.out)).mono ?_); rintro e w' ⟨rfl, b4⟩)
            | (go_at_call 20; (with_reducible refine (hA.out _).mono ?_); rintro e w' ⟨rfl, b9⟩))
        go_wp2_with fail
        go_ret
        exact ⟨rfl, aw_end HB4.out (by assumption)⟩
  · have hsf : shortB [n] = false := by cases h : shortB [n] <;> simp_all
    rw [hsf] at HSh
    clear hsh hsf
    go_enter Try.func14, Try.ntmps14
    go_wp2_with fail
    refine HSh.out.mono ?_
    rintro e w' ⟨rfl, rfl⟩
    go_wp2_with fail
    refine (hA.out _).mono ?_
    rintro e W5 ⟨rfl, b24⟩
    have B7 := Lib.hid (((Below.refl w.heap.size w).alloc (Nat.le_refl _) _).alloc (by simp) _ |>.trans (b24.mono (by simp; omega)))
    clear b24
    go_wp2_with fail
    go_ret
    exact ⟨rfl, B7.out⟩
end Go.Proofs.Ytmlkiddkgikdhaa
