/- Divisors of the reference. -/
import Derived.Test.YtfjmhfmhijhpkaaDvp
import Derived.Test.YtfjmhfmhijhpkaaFacs0
namespace Go.Proofs.Ytfjmhfmhijhpkaa
open Go.RowKit FF

/-- what a call answers that makes the list of the divisors -/
def RdwPost (w : World) (n : Int) (e : Ending) (w' : World) : Prop := ∃ v D, e = .returned v ∧ DivL n D ∧ Row1 w.heap.size v D.length D w' ∧ Below w.heap.size w w'

theorem low_step {W wr w2 : World} {s3 s4 v' : Value} {i j : Nat} {L H : List Int} {c : Array Value} {T : TypeId} (hB : Below W.heap.size W wr) (hL : Row1 W.heap.size s3 i L wr) (hH : Row1 W.heap.size s4 j H wr) (hne : ∀ k, s3.ownBlock = some k → s4.ownBlock ≠ some k)
    (hg : (wr.alloc (.cells c T)).grownBy w2 s3.ownBlock) (ho : v'.ownBlock = s3.ownBlock ∨ v'.ownBlock = some (wr.alloc (.cells c T)).heap.size) :
    Row1 W.heap.size s4 j H w2 ∧ (∀ k, v'.ownBlock = some k → s4.ownBlock ≠ some k) ∧ Below W.heap.size W w2 := by
  have hg' := (World.grownBy_alloc wr (.cells c T) s3.ownBlock).trans hg
  refine ⟨Row1.of_block hH fun g hk => hg'.block g (hH.row0.lt g hk) (fun e => hne g e.symm hk), fun k hk e => ?_, hB.grown hg' hB.size (fun k hk => hL.ge k hk)⟩
  rcases ho with h | h
  · exact hne k (h ▸ hk) e
  · have := hH.row0.lt k e
    rw [h] at hk
    injection hk with hk
    simp at hk
    omega
theorem high_step {W w2 w3 : World} {v' v'' : Value} {i m : Nat} {L H : List Int} {c : Array Value} {T : TypeId} (hB : Below W.heap.size W w2) (hL : Row1 W.heap.size v' i L w2)
    (hg : (w2.alloc (.cells c T)).grownBy w3 (some w2.heap.size)) (hr : Row1 w2.heap.size v'' m H w3) :
    Row1 W.heap.size v' i L w3 ∧ Row1 W.heap.size v'' m H w3 ∧ (∀ k, v'.ownBlock = some k → v''.ownBlock ≠ some k) ∧ Below W.heap.size W w3 := by
  have hg' := (World.grownBy_alloc w2 (.cells c T) (some w2.heap.size)).trans hg
  have hs := hB.size
  refine ⟨Row1.of_block hL fun g hk => hg'.block g (hL.row0.lt g hk) (fun e => ?_), hr.mono hs, fun k hk e => ?_, hB.grown hg' hs (fun k hk => by injection hk; omega)⟩
  · have := hL.row0.lt g hk
    injection e; omega
  · have := hL.row0.lt k hk
    have := hr.ge k e
    omega

set_option maxRecDepth 100000 in
set_option maxHeartbeats 4000000 in
theorem rDivisors_any (n : Int) (w : World) (h1 : 1 ≤ n) (h2 : n ≤ 1000000000) : Calls Try.prog 43 #[.int .i64 n] w (RdwPost w n) := by
  obtain ⟨i0, hi, hz0, hz1, hz2⟩ := info_parts info_int
  have HI := Lib.hid hi; have HZ0 := Lib.hid hz0; have HZ1 := Lib.hid hz1; have HZ2 := Lib.hid hz2
  clear hi hz0 hz1 hz2
  go_enter Try.func43, Try.ntmps43
  go_wp2_with fail
  go_loopw [3, 4, 5] (fun s3 s4 s5 wr => ∃ (d : Int) (L H : List Int) (i j : Nat), s5 = .int .i64 d ∧ d ≤ 31623 ∧ RD n d L H ∧ Row1 w.heap.size s3 i L wr ∧ Row1 w.heap.size s4 j H wr ∧ (∀ k, s3.ownBlock = some k → s4.ownBlock ≠ some k) ∧ Below w.heap.size w wr) (fun _ _ s5 _ => (31625 - RowKit.intOf s5).toNat)
  case atStart => exact ⟨1, [], [], 0, 0, rfl, by omega, RD.start h1, World.ownsRow_nil _ _ _ _, World.ownsRow_nil _ _ _ _, (fun k hk => by cases hk), Below.refl _ _⟩
  case round =>
    obtain ⟨d, L, H, i, j, rfl, hd3, hR, hL, hH, hne, hB⟩ := hrel
    have HR := Lib.hid hR; have HL := Lib.hid hL; have HH := Lib.hid hH; have HN := Lib.hid hne; have HB := Lib.hid hB
    obtain ⟨d1, -, -, -, -, -, d7, d8⟩ := hR
    have hli := hL.len
    have hhj := hH.len
    rw [hli] at d7
    rw [hhj] at d8
    clear hL hH hne hB hli hhj
    have hdd : 0 ≤ d * d := Int.mul_nonneg (by omega) (by omega)
    have hdd2 : d * d ≤ 31623 * 31623 := Int.mul_le_mul hd3 hd3 (by omega) (by omega)
    by_cases hsq : d * d ≤ n
    · have hd4 := sq_bound (by omega) hsq (by omega)
      by_cases hm : n % d = 0
      · have hdv := Int.dvd_of_emod_eq_zero hm
        have hq := dvd_quo d1 h1 hdv
        have hq2 : n / d ≤ n := Int.ediv_le_self _ (by omega)
        by_cases hlt : d * d < n
        · have HF := Lib.hid (HR.out.both h1 hdv hlt)
          clear HR hdv
          go_wp2_with (at_builtin; first
            | (refine wpList_append_row (B := w.heap.size) (wr.alloc (.cells #[.int .i64 d] 3)) rfl (.tmp 17) (.tmp 19) 46 rfl i0 _ Try.underlying46 HI.out HZ0.out HZ1.out HZ2.out rfl u3 _ rfl (HL.out.kept (World.grownBy_alloc wr _ none) (fun k hk => by cases hk)) (by have := HB.out.size; simp; omega) rfl (Row1.lit 0 wr d (Nat.zero_le _)).row0 (by omega) ?_; intro v' w2 hr2 hg2 ho2 hc2; have HL2 := Lib.hid hr2; have HX := Lib.hid (low_step HB.out HL.out HH.out HN.out hg2 ho2); clear hr2 hg2 ho2 hc2 HL HH HN HB)
            | (refine wpList_append_row (B := w2.heap.size) (w2.alloc (.cells #[.int .i64 (n / d)] 3)) rfl (.tmp 29) (.tmp 30) 46 rfl i0 _ Try.underlying46 HI.out HZ0.out HZ1.out HZ2.out rfl (.slice (some ⟨w2.heap.size, 0, none⟩) 1 1) u4 rfl (Row1.lit w2.heap.size w2 (n / d) (Nat.le_refl _)) (by simp) rfl (HX.out.1.kept (World.grownBy_alloc w2 _ none) (fun k hk => by cases hk)).row0 (by omega) ?_; intro v3 w3 hr3 hg3 ho3 hc3; have HY := Lib.hid (high_step HX.out.2.2 HL2.out hg3 hr3); clear hr3 hg3 ho3 hc3))
          exact ⟨⟨d + 1, L ++ [d], n / d :: H, i + 1, 1 + j, rfl, by omega, HF.out, HY.out.1, HY.out.2.1, HY.out.2.2.1, HY.out.2.2.2⟩, by simp [RowKit.intOf]; omega⟩
        · have HF := Lib.hid (HR.out.square h1 hdv (by omega))
          clear HR hdv
          go_wp2_with (at_builtin; (refine wpList_append_row (B := w.heap.size) (wr.alloc (.cells #[.int .i64 d] 3)) rfl (.tmp 17) (.tmp 19) 46 rfl i0 _ Try.underlying46 HI.out HZ0.out HZ1.out HZ2.out rfl u3 _ rfl (HL.out.kept (World.grownBy_alloc wr _ none) (fun k hk => by cases hk)) (by have := HB.out.size; simp; omega) rfl (Row1.lit 0 wr d (Nat.zero_le _)).row0 (by omega) ?_; intro v' w2 hr2 hg2 ho2 hc2; have HL2 := Lib.hid hr2; have HX := Lib.hid (low_step HB.out HL.out HH.out HN.out hg2 ho2); clear hr2 hg2 ho2 hc2 HL HH HN HB))
          exact ⟨⟨d + 1, L ++ [d], H, i + 1, j, rfl, by omega, HF.out, HL2.out, HX.out.1, HX.out.2.1, HX.out.2.2⟩, by simp [RowKit.intOf]; omega⟩
      · have HF := Lib.hid (HR.out.skip h1 hsq (fun h => hm (Int.emod_eq_zero_of_dvd h)))
        clear HR
        go_wp2_with fail
        exact ⟨⟨d + 1, L, H, i, j, rfl, by omega, HF.out, HL.out, HH.out, HN.out, HB.out⟩, by simp [RowKit.intOf]; omega⟩
    · have HF := Lib.hid (HR.out.done h1 (by omega))
      clear HR
      go_wp2_with (at_builtin; (refine wpList_append_row (B := w.heap.size) wr rfl (.tmp 32) (.tmp 33) 46 rfl i0 _ Try.underlying46 HI.out HZ0.out HZ1.out HZ2.out rfl u3 u4 rfl HL.out HB.out.size rfl HH.out.row0 (by omega) ?_; intro v' w2 hr2 hg2 ho2 hc2; have HL2 := Lib.hid hr2; have HG := Lib.hid hg2; clear hr2 hg2 ho2 hc2))
      go_ret
      have hlen := HL2.out.len
      exact ⟨v', L ++ H, rfl, HF.out, hlen ▸ HL2.out, HB.out.grown HG.out HB.out.size (fun k hk => HL.out.ge k hk)⟩
end Go.Proofs.Ytfjmhfmhijhpkaa
