/- The reference's digits of an integer; which digits are less. -/
import Derived.Test.YtfjmhfmhijhpkaaGreatDoorRng
import Derived.Test.YtfjmhfmhijhpkaaGreatDoorROf
import Derived.Deep.AppendLies
namespace Go.Proofs.YtfjmhfmhijhpkaaGreatDoor
open Go.RowKit FF

theorem cells_append2 (k : IntKind) (xs : List Nat) (a b : Nat) : cells k (xs ++ [a, b]) = cells k xs ++ [.int k a, .int k b] := by simp [cells]
/-- what a call leaves that returns half words -/
def HalfPost (w : World) (v : Nat) (e : Ending) (w' : World) : Prop :=
  ∃ A' c', e = .returned (.slice A' (hl v) c') ∧ Shows .i64 w' A' (digs HB v) ∧ hl v ≤ c' ∧ c' ≤ maxLen ∧ Fresh w.heap.size A' ∧ Below w.heap.size w w'

set_option maxRecDepth 100000 in
set_option maxHeartbeats 2000000 in
theorem rDigits_any (s : Bool) (A : Option Addr) (n c : Nat) (x : Int) (w : World) (hx : AI w s A n c x) (hl : n ≤ 1000000) :
    Calls Tryz.prog 92 #[.agg #[.bool s, .slice A n c]] w (HalfPost w x.natAbs) := by
  obtain ⟨i0, hi, hz0, hz1, hz2⟩ := info_parts info_int
  have HI := Lib.hid hi; have HZ0 := Lib.hid hz0; have HZ1 := Lib.hid hz1; have HZ2 := Lib.hid hz2
  clear hi hz0 hz1 hz2
  obtain ⟨xs, hn, X, dx, hcx, hcx2, rfl, -⟩ := hx
  rw [sval_natAbs]
  have HX := Lib.hid X
  have bx := Lib.hid (fun i => dx.getD (show 0 < WB by decide) i)
  have HV := Lib.hid (show val HB (halves xs) = val WB xs from halves_val xs)
  have HDg := Lib.hid (show Dig HB (halves xs) from halves_dig dx)
  have HL := Lib.hid (show (halves xs).length = 2 * n by rw [halves_length, hn])
  have HN := Lib.hid hn
  have HTk := Lib.hid (fun i (hi : i < n) => (take_snoc 0 (by rw [hn]; exact hi) : xs.take (i + 1) = xs.take i ++ [xs.getD i 0]))
  have HAll := Lib.hid (show xs.take n = xs from List.take_of_length_le (by omega))
  unfold maxLen at hcx2
  clear X dx hn
  unfold HalfPost
  go_enter Tryz.func92, Tryz.ntmps92
  go_wp2
  go_loopw [3, 4] (fun s3 s4 wr => ∃ i : Nat, s4 = .int .i64 i ∧ i ≤ n ∧ wr.ownsRow (w.heap.size + 1) 3 1 s3 (2 * i) (cells .i64 (halves (xs.take i))) ∧ Below (w.heap.size + 1) (w.alloc (.cells #[.bool s, .slice A n c] 55)) wr) (fun _ s4 _ => n - (intOf s4).toNat)
  case atStart => exact ⟨0, rfl, Nat.zero_le _, ⟨by simp [halves, cells], .inl ⟨rfl, rfl⟩⟩, Below.refl _ _⟩
  case round =>
    obtain ⟨i, rfl, hin, hown, hB⟩ := hrel
    obtain ⟨k, f, hz⟩ := slot_keep hB
    have k1 := k 1
    have HO := Lib.hid hown; have HB' := Lib.hid hB
    have hrow := Lib.hid (own_row_ge hown)
    by_cases hlt : i < n
    · have XW := HX.out.below (below_slot hB)
      obtain ⟨b1, o1, rfl, hb1, hc1⟩ := HX.out (by rw [HN.out]; omega)
      obtain ⟨b1', o1', e1, hb1', hc1'⟩ := XW (by rw [HN.out]; omega)
      injection e1 with e1; injection e1 with e2 e3
      subst e2; subst e3
      have hx1 := hc1' i (by rw [HN.out]; exact hlt)
      have bxi := bx.out i
      unfold WB at bxi
      have HT := Lib.hid (HTk.out i hlt)
      clear XW hc1 hc1' hB hown k f bx HX HTk
      generalize xs.getD i 0 = x at *
      have f1 : IntKind.i64.wrap ((x : Int).tmod 65536) = ((x % 65536 : Nat) : Int) := by
        rw [Int.tmod_eq_emod_of_nonneg (by omega)]; simp only [IntKind.wrap, IntKind.bits, IntKind.signed]; simp; omega
      have f2 : IntKind.i64.wrap (IntKind.u32.wrap ((x : Int) / 65536)) = ((x / 65536 : Nat) : Int) := by
        simp only [IntKind.wrap, IntKind.bits, IntKind.signed]; simp; omega
      have HH := Lib.hid (show halves (xs.take (i + 1)) = halves (xs.take i) ++ [x % 65536, x / 65536] by rw [HT.out, halves_snoc])
      generalize x % 65536 = a0 at *
      generalize x / 65536 = a1 at *
      have hi0 : (0 : Int) ≤ (i : Int) := Int.natCast_nonneg _
      have hi1 : (i : Int) < (n : Int) := by omega
      go_wp2_with fail
      go_region_held3 (fun w' => w'.cell? ⟨w.heap.size, 1, none⟩ = some (.slice (some ⟨b1, o1, none⟩) n c) ∧ w'.cell? ⟨b1, o1 + i, none⟩ = some (.int .u32 (x : Nat)))
        (first
          | go_keep
          | (go_split_ands
             refine ⟨?_, ?_⟩
             · (rw [hgrow.cell_far _ (by simp; omega) (fun e => by have := hrow.out _ e.symm; simp at this; omega)]; assumption)
             · (rw [hgrow.cell_far _ (by simp; omega) (fun e => by have := hrow.out _ e.symm; simp at this; omega)]; assumption)))
        ((refine step_append_lies _ (by rfl) _ _ _ (by rfl) (w.heap.size + 1) 3 i0 _ 1 8 Tryz.underlying76 HI.out HZ0.out HZ1.out HZ2.out rfl (by omega) _ (2 * i) _ (by rfl) ((HO.out.alloc _).drew)
            ⟨wr.heap.size, 0, none⟩ 2 2 [.int .i64 (a0 : Int), .int .i64 (a1 : Int)] (by rfl) (by rfl) (World.news_of_block (cs := #[.int .i64 (a0 : Int), .int .i64 (a1 : Int)]) (t := 3) (fr := (0, 0)) (heap_alloc_new wr _)) (by simp [Value.oneCell'])
            (by omega) (by unfold maxLen; omega) (by omega) (by simp; omega) (wr.heap.size + 1) (by simp) ?_; intro gg cap w1 hown1 hgrow hat hlt2))
      have hO1 : w1.ownsRow (w.heap.size + 1) 3 1 (.slice (some ⟨gg, 0, none⟩) (2 * i + 2) cap) (2 * (i + 1)) (cells .i64 (halves (xs.take (i + 1)))) := by
        rw [HH.out, cells_append2]
        exact hown1
      have hB1 : Below (w.heap.size + 1) (w.alloc (.cells #[.bool s, .slice (some ⟨b1, o1, none⟩) n c] 55)) w1 :=
        ((HB'.out.alloc (by omega) _).drew).grown hgrow (by simp; omega) (fun k hk => hrow.out k hk)
      have HO1 := Lib.hid hO1; have HB1 := Lib.hid hB1
      clear hO1 hB1 hown1 hgrow hat
      go_wp2_with fail
      exact ⟨⟨i + 1, by go_num, by omega, HO1.out, HB1.out⟩, by simp [intOf]; omega⟩
    · obtain rfl : i = n := by omega
      rw [HAll.out] at hown
      rw [← HL.out] at hown
      obtain ⟨A2, c2, rfl, s1, s2, s3, s4⟩ := own_shows hown
      have hT := rTrim_any A2 (halves xs) c2 wr s1 HDg.out s2 s3 (by rw [HL.out]; omega)
      rw [HV.out, HL.out] at hT
      have HT := Lib.hid hT
      have HB2 := Lib.hid (below_slot hB)
      have hzz : w.heap.size ≤ wr.heap.size := by omega
      rw [HL.out]
      clear hown s1 s2 s3 s4 hT HTk HAll bx hrow HO HB' hB k f HL
      go_wp2_with fail
      refine HT.out.mono ?_
      rintro e w2 ⟨A3, c3, rfl, p1, p2, p3, p4, p5⟩
      have P1 := Lib.hid p1; have P4 := Lib.hid (p4.mono hzz); have P5 := Lib.hid p5
      clear p1 p4 p5 HT
      go_wp2_with fail
      go_ret
      exact ⟨A3, c3, rfl, P1.out, p2, p3, P4.out, HB2.out.trans (P5.out.mono hzz)⟩
end Go.Proofs.YtfjmhfmhijhpkaaGreatDoor
