/- Words: short. -/
import Derived.Test.YtmlkiddkgikdhaaWord6
import Derived.Laws.Bits64b
namespace Go.Proofs.Ytmlkiddkgikdhaa
open Go.RowKit FF

/-- a new block of words, those from k on laid -/
def rowH (k : Nat) (qs : List Nat) : Nat → Value := fun j => .int .u32 (if j < k then 0 else qs.getD (j - k) 0 : Nat)
theorem rowH_start (n : Nat) (i : Nat) (h : i < n) : Value.int .u32 0 = rowH n [] i := by simp [rowH, h]
theorem rowIs_cons {w : World} {G T n k : Nat} {qs : List Nat} {d : Nat} (h : w.rowIs G T n (rowH (k + 1) qs)) : (w.setCell ⟨G, k, none⟩ (.int .u32 (d : Nat))).rowIs G T n (rowH k (d :: qs)) := by
  refine (h.set k (.int .u32 (d : Nat))).congr fun i _ => ?_
  unfold rowH
  by_cases h1 : i = k
  · subst h1; simp
  · rw [if_neg h1]
    by_cases h2 : i < k
    · rw [if_pos h2, if_pos (by omega)]
    · rw [if_neg h2, if_neg (by omega)]
      obtain ⟨m, hm⟩ : ∃ m, i - k = m + 1 := ⟨i - k - 1, by omega⟩
      rw [hm, show i - (k + 1) = m by omega]; simp
theorem rowH_shows {w : World} {G T n : Nat} {qs : List Nat} (h : w.rowIs G T n (rowH 0 qs)) (hl : qs.length = n) : Shows .u32 w (some ⟨G, 0, none⟩) qs := by
  intro _
  refine ⟨G, 0, rfl, h.lt, fun i hi => ?_⟩
  rw [Nat.zero_add, h.cell (by omega)]
  unfold rowH
  rw [if_neg (by omega), Nat.sub_zero]

theorem ret_second {v : Value} {k : IntKind} {a b : Nat} (h : a = b) : Ending.returned (.tuple #[v, .int k (a : Int)]) = .returned (.tuple #[v, .int k (b : Int)]) := by rw [h]
theorem or_shift {r x : Nat} (hr : r < 4294967296) (hx : x < 4294967296) : bits .or .u64 ((r : Int) * 4294967296) (x : Int) = ((r * 4294967296 + x : Nat) : Int) := by
  have h := bits_or_u64_nat (r * 4294967296) x (by omega) (by omega)
  rw [show ((r * 4294967296 : Nat) : Int) = (r : Int) * 4294967296 by omega] at h
  rw [h]
  have e : r * 4294967296 ||| x = r * 4294967296 + x := by
    have := Nat.shiftLeft_add_eq_or_of_lt (b := x) (i := 32) (by omega) r
    rw [Nat.shiftLeft_eq, show 2 ^ 32 = 4294967296 by decide] at this
    exact this.symm
  omega

set_option maxHeartbeats 1000000 in
theorem short_any (A : Option Addr) (xs : List Nat) (d c : Nat) (w : World) (hx : Shows .u32 w A xs) (dx : Dig WB xs) (hxl : xs.length ≤ 1000000) (hd0 : 0 < d) (hd : d < 4294967296) :
    Calls Try.prog 123 #[.slice A xs.length c, .int .u32 d] w fun e w' =>
      ∃ A2, e = .returned (.tuple #[.slice A2 (wl (val WB xs / d)) (wl (val WB xs / d)), .int .u32 (val WB xs % d : Nat)]) ∧ Shows .u32 w' A2 (digs WB (val WB xs / d)) ∧ Fresh w.heap.size A2 ∧ Below w.heap.size w w' := by
  generalize hN : xs.length = N at *
  have hmk := row_make N (by omega)
  have bx := Lib.hid (fun i => dx.getD (show 0 < WB by decide) i)
  have HX := Lib.hid hx
  have hXN : Hid (xs.length = N) := Lib.hid hN
  have st := Lib.hid (show val WB (xs.drop N) = d * val WB [] + 0 by rw [← hXN.out, List.drop_length]; simp [val])
  clear hx dx hN
  go_enter Try.func123, Try.ntmps123
  go_wp2
  go_loopw [7, 8] (fun s7 s8 wr => ∃ (k r : Nat) (qs : List Nat), s7 = .int .u64 r ∧ s8 = .int .i64 ((k : Int) - 1) ∧ k ≤ N ∧ r < d ∧ qs.length + k = N ∧ Dig WB qs ∧ val WB (xs.drop k) = d * val WB qs + r ∧ wr.rowIs w.heap.size 111 N (rowH k qs) ∧ Below w.heap.size w wr) (fun _ s _ => (intOf s + 1).toNat)
  case atStart => exact ⟨N, 0, [], rfl, rfl, Nat.le_refl _, hd0, by simp, fun x hx => absurd hx (by simp), st.out, (World.rowIs_made w _ N _).congr (fun i hi => rowH_start N i hi), (Below.refl _ _).alloc (Nat.le_refl _) _⟩
  case round =>
    clear st
    obtain ⟨k, r, qs, rfl, rfl, hk, hrd, hql, hqd, hv, hr, hb⟩ := hrel
    by_cases h0 : 0 < k
    · obtain ⟨i, rfl⟩ : ∃ i, k = i + 1 := ⟨k - 1, by omega⟩
      rw [show ((i + 1 : Nat) : Int) - 1 = (i : Int) by omega]
      have sx := HX.out.below hb
      have bxi := bx.out i
      unfold WB at bxi
      have hstep := Lib.hid (fun x hx => short_step (B := WB) (i := i) (x := x) (by rw [hXN.out]; omega) hx hv)
      have hstep2 := Lib.hid (hstep.out _ rfl)
      have hcell := hr.cell (show i < N by omega)
      have hfro := hr.frozen i
      have hGs : w.heap.size < wr.heap.size := hr.lt
      obtain ⟨b1, o1, rfl, hb1, hc1⟩ := sx (by rw [hXN.out]; omega)
      have hx1 := hc1 i (by rw [hXN.out]; omega)
      have HR := Lib.hid hr; have HB := Lib.hid hb; have HD := Lib.hid hqd; have HL := Lib.hid hql
      clear hv hr hb hqd hql sx bx hmk hc1 hstep
      generalize xs.getD i 0 = x at *
      have hiN' : (i : Int) < N := by omega
      have hor := or_shift (show r < 4294967296 by omega) bxi
      go_wp2_with fail
      have hq : (r * 4294967296 + x) / d < 4294967296 := by
        rw [Nat.div_lt_iff_lt_mul hd0]
        have : (r + 1) * 4294967296 ≤ 4294967296 * d := by rw [Nat.mul_comm]; exact Nat.mul_le_mul_left _ hrd
        omega
      have e1 : (((r : Int) * 4294967296 + x) / d % 4294967296) = (((r * 4294967296 + x) / d : Nat) : Int) := by
        rw [show ((r : Int) * 4294967296 + x) = ((r * 4294967296 + x : Nat) : Int) by omega, ← Int.natCast_ediv]
        generalize (r * 4294967296 + x) / d = q at *
        omega
      have e2 : (((r : Int) * 4294967296 + x) % d) = (((r * 4294967296 + x) % d : Nat) : Int) := by
        rw [show ((r : Int) * 4294967296 + x) = ((r * 4294967296 + x : Nat) : Int) by omega, ← Int.natCast_emod]
      rw [e1, e2]
      refine ⟨⟨i, (r * 4294967296 + x) % d, (r * 4294967296 + x) / d :: qs, rfl, rfl, by omega, Nat.mod_lt _ hd0, by have := HL.out; simp only [List.length_cons]; omega, ?_, hstep2.out, rowIs_cons HR.out, HB.out.setCell (Nat.le_refl _) _⟩, by simp [intOf]⟩
      intro z hz
      rcases List.mem_cons.1 hz with rfl | hz
      · exact hq
      · exact HD.out z hz
    · obtain rfl : k = 0 := by omega
      rw [List.drop_zero] at hv
      have hql' : qs.length = N := by omega
      have sh := rowH_shows hr hql'
      have T1 := trimmed_any (some ⟨w.heap.size, 0, none⟩) qs N wr sh hqd (by omega) (by unfold maxLen; omega)
      have S1 := sh.trim hqd
      have v1 : val WB qs = val WB xs / d := by rw [hv, Nat.mul_add_div hd0, Nat.div_eq_of_lt hrd, Nat.add_zero]
      have v2 : r = val WB xs % d := by rw [hv, Nat.mul_add_mod, Nat.mod_eq_of_lt hrd]
      rw [hql', v1] at T1
      rw [v1] at S1
      have HT := Lib.hid T1; have HS := Lib.hid S1; have HB := Lib.hid hb; have V2 := Lib.hid v2
      clear T1 S1 v1 v2 hv hr hb hqd hql hql' sh bx hmk
      go_wp2_with fail
      refine HT.out.mono ?_
      rintro e w' ⟨rfl, rfl⟩
      go_wp2_with fail
      go_ret2
      exact ⟨_, ret_second V2.out, HS.out, Fresh.mk (Nat.le_refl _), HB.out⟩
end Go.Proofs.Ytmlkiddkgikdhaa
