/- The reference's primes: the primes that divide a number. -/
import Derived.Test.YtfjmhfmhijhpkaaFacs0
import Derived.Test.YtfjmhfmhijhpkaaCrt0
namespace Go.Proofs.Ytfjmhfmhijhpkaa
open Go.RowKit FF

theorem primesOf_len (n : Int) : (primesOf n).length = (facs n).length := by unfold primesOf; rw [List.length_map]
theorem map_take_step {l : List (Int × Nat)} {i : Nat} (h : i < l.length) : (l.take (i + 1)).map (fun x => x.1) = (l.take i).map (fun x => x.1) ++ [(l.getD i (0, 0)).1] := by
  rw [List.take_add_one, List.map_append, List.getElem?_eq_getElem h, List.getD_eq_getElem?_getD, List.getElem?_eq_getElem h]; rfl
/-- a list that was built since a later world -/
theorem Got.down {w w1 wr : World} {T : TypeId} {size n : Nat} {v : Value} {xs : List Int} (h : Got w1 T size v n xs wr) (hb : Below w.heap.size w w1) : Got w T size v n xs wr := by
  refine ⟨⟨h.1.1, ?_⟩, hb.trans (h.2.mono hb.size)⟩
  rcases h.1.2 with h0 | ⟨g, cap, cur, h1, h2, h3⟩
  · exact .inl h0
  · exact .inr ⟨g, cap, cur, h1, Nat.le_trans hb.size h2, h3⟩
set_option maxHeartbeats 2000000 in
set_option maxRecDepth 100000 in
theorem rPrimes_any (n : Int) (w : World) (h1 : 1 ≤ n) (h2 : n ≤ 1000000000) :
    Calls Try.prog 61 #[.int .i64 n] w fun e w' => ∃ v, e = .returned v ∧ Got w 3 1 v (primesOf n).length (primesOf n) w' := by
  obtain ⟨i0, hi, hz0, hz1, hz2⟩ := info_parts info_int
  have HI := Lib.hid hi; have HZ0 := Lib.hid hz0; have HZ1 := Lib.hid hz1; have HZ2 := Lib.hid hz2
  clear hi hz0 hz1 hz2
  have hF := Lib.hid (fun w => rFactors_any n w h1 h2)
  have hL := facs_len h1 h2
  have HP := Lib.hid (show primesOf n = (facs n).map (fun x => x.1) from rfl)
  have HPl := Lib.hid (primesOf_len n)
  go_enter Try.func61, Try.ntmps61
  go_wp2_with fail
  refine (hF.out _).mono ?_
  rintro e w1 ⟨v, rfl, hG⟩
  obtain ⟨A, c, rfl, hs, hc1, hc2, _⟩ := hG.shows
  have HB := Lib.hid hG.2
  have HS := Lib.hid hs
  clear hG hs
  generalize hl : facs n = l at *
  clear hl
  unfold maxLen at hc2
  go_wp2_with fail
  go_loopw [4, 5] (fun s4 s5 wr => ∃ i : Nat, s5 = .int .i64 i ∧ i ≤ l.length ∧ Got w1 3 1 s4 i ((l.take i).map (fun x => x.1)) wr) (fun _ s5 _ => l.length - (intOf s5).toNat)
  case atStart => exact ⟨0, rfl, Nat.zero_le _, by rw [List.take_zero]; exact Got.start (Below.refl _ _)⟩
  case round =>
    obtain ⟨i, rfl, hi, hG⟩ := hrel
    have HG := Lib.hid hG; clear hG
    by_cases hlt : i < l.length
    · obtain ⟨b, o, rfl, hbk, hcell⟩ := HS.out (by rw [flatP_len]; omega)
      have hc0 := (HG.out.2.cell (p := ⟨b, o + 2 * i, none⟩) hbk).trans (hcell (2 * i) (by rw [flatP_len]; omega))
      rw [(flatP_get hlt).1, Nat.mul_comm 2 i] at hc0
      clear hcell
      have HN := Lib.hid (map_take_step hlt)
      obtain ⟨pr, hpr⟩ : ∃ pr, (l.getD i (0, 0)).1 = pr := ⟨_, rfl⟩
      rw [hpr] at hc0 HN
      clear hpr
      go_wp2_with (at_builtin; refine wpList_append_got rfl (.tmp 14) (.tmp 20) 46 rfl 3 i0 _ 1 8 Try.underlying46 HI.out HZ0.out HZ1.out HZ2.out rfl (by decide) _ i _ rfl HG.out _ _ [pr] rfl rfl 1 rfl (by omega) (by unfold maxLen; omega) ?_; intro v' w2 hg2; have HG2 := Lib.hid hg2; clear hg2)
      exact ⟨⟨i + 1, rfl, by omega, by rw [HN.out]; exact HG2.out⟩, by show l.length - (((i + 1 : Nat) : Int)).toNat < l.length - ((i : Int)).toNat; omega⟩
    · have hie : i = l.length := by omega
      have HGl := Lib.hid (show Got w 3 1 u4 (primesOf n).length (primesOf n) wr by
        have := HG.out.down HB.out
        rw [hie, List.take_length] at this
        rw [HPl.out, HP.out]; exact this)
      subst hie
      go_wp2_with fail
      go_ret
      exact ⟨_, rfl, HGl.out⟩
end Go.Proofs.Ytfjmhfmhijhpkaa
