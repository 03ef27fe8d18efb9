/- Words: a number times a power of 2; what is taken from a row. -/
import Derived.Test.YtfjmhfmhijhpkaaGreatDoorTim
namespace Go.Proofs.YtfjmhfmhijhpkaaGreatDoor
open Go.RowKit FF

set_option maxHeartbeats 400000 in
theorem shifted_any (A : Option Addr) (xs : List Nat) (c k : Nat) (w : World) (hx : Shows .u32 w A xs) (dx : Dig WB xs) (hxl : xs.length ≤ 1000000) (hk : k ≤ 31) :
    Calls Tryz.prog 183 #[.slice A xs.length c, .int .u64 k] w fun e w' =>
      ∃ A2, e = .returned (.slice A2 (wl (val WB xs * 2 ^ k)) (wl (val WB xs * 2 ^ k))) ∧ Shows .u32 w' A2 (digs WB (val WB xs * 2 ^ k)) ∧ Fresh w.heap.size A2 ∧ Below w.heap.size w w' := by
  have hT := Lib.hid (fun (w' : World) (x : Nat) (A' : Option Addr) (h : Shows .u32 w' A xs) (h' : Shows .u32 w' A' [x]) (hd : x < WB) => times_any A A' xs [x] c 1 w' h h' dx (fun y hy => by rw [List.mem_singleton.1 hy]; exact hd) hxl (by simp))
  have HX := Lib.hid hx
  clear hx dx
  generalize hn : xs.length = n at *
  clear hn
  have hq0 : 2 ^ k < 4294967296 := Nat.lt_of_le_of_lt (Nat.pow_le_pow_right (by decide) hk) (by decide)
  obtain ⟨q, hq⟩ : ∃ q : Nat, 2 ^ k = q := ⟨_, rfl⟩
  have hqc : (2 : Int) ^ k % 4294967296 = (q : Int) := by
    have : ((2 ^ k : Nat) : Int) = (2 : Int) ^ k := by simp
    rw [← this, hq]; omega
  rw [hq] at hq0 ⊢
  clear hq
  go_enter Tryz.func183, Tryz.ntmps183
  go_wp2_with fail
  have hs : Shows .u32 (w.alloc (.cells #[.int .u32 (q : Int)] 134)) (some ⟨w.heap.size, 0, none⟩) [q] :=
    Shows.new (fun i hi => by
      match i, hi with
      | 0, _ => rfl)
  have hC := hT.out _ q _ (HX.out.alloc (.cells #[.int .u32 (q : Int)] 134)) hs hq0
  have hv1 : val WB [q] = q := by simp [val]
  rw [hv1] at hC
  have HC := Lib.hid hC
  clear hC hv1 hs hT HX
  refine HC.out.mono ?_
  rintro e w' ⟨A2, rfl, h1, h2, h3⟩
  have H1 := Lib.hid h1; have H2 := Lib.hid h2; have H3 := Lib.hid h3
  clear h1 h2 h3 HC
  go_wp2_with fail
  go_ret
  exact ⟨_, rfl, H1.out, H2.out.mono (by simp), ((Below.refl w.heap.size w).alloc (Nat.le_refl _) _).trans (H3.out.mono (by simp))⟩

/-- block b begins with n cells of type t, cell i holding f i -/
def rowP (w : World) (b : Nat) (t : TypeId) (n : Nat) (f : Nat → Value) : Prop :=
  ∃ c : Array Value, w.heap[b]? = some (.cells c t (0, 0)) ∧ n ≤ c.size ∧ ∀ i, i < n → c[i]? = some (f i)
section
variable {w w' : World} {b : Nat} {t : TypeId} {n : Nat} {f g : Nat → Value}
theorem rowP.cell (h : rowP w b t n f) {i : Nat} (hi : i < n) : w.cell? ⟨b, i, none⟩ = some (f i) := by
  obtain ⟨c, hb, _, hc⟩ := h
  simp [World.cell?, hb, hc i hi]
theorem rowP.frozen (h : rowP w b t n f) (i : Nat) : w.frozen? ⟨b, i, none⟩ = false := by
  obtain ⟨c, hb, _, _⟩ := h
  simp [World.frozen?, hb]
theorem rowP.lt (h : rowP w b t n f) : b < w.heap.size := by
  obtain ⟨c, hb, _, _⟩ := h
  obtain ⟨hlt, _⟩ := Array.getElem?_eq_some_iff.1 hb
  exact hlt
theorem rowP.congr (h : rowP w b t n f) (e : ∀ i, i < n → f i = g i) : rowP w b t n g := by
  obtain ⟨c, hb, hn, hc⟩ := h
  exact ⟨c, hb, hn, fun i hi => by rw [hc i hi, e i hi]⟩
theorem rowP.of_block (h : rowP w b t n f) (e : w'.heap[b]? = w.heap[b]?) : rowP w' b t n f := by
  obtain ⟨c, hb, hn, hc⟩ := h
  exact ⟨c, e.trans hb, hn, hc⟩
theorem rowP.set (h : rowP w b t n f) (i : Nat) (v : Value) : rowP (w.setCell ⟨b, i, none⟩ v) b t n (fun j => if j = i then v else f j) := by
  obtain ⟨c, hb, hn, hc⟩ := h
  refine ⟨c.setIfInBounds i v, ?_, by simpa using hn, fun j hj => ?_⟩
  · simp [World.setCell, Array.getElem?_modify, hb]
  · rw [Array.getElem?_setIfInBounds]
    by_cases e : j = i
    · subst e
      simp [Nat.lt_of_lt_of_le hj hn]
    · rw [if_neg (fun h => e h.symm)]
      show c[j]? = some (if j = i then v else f j)
      rw [if_neg e]
      exact hc j hj
end
theorem rowP_shows {w : World} {G T n : Nat} {f : Nat → Nat} {j m : Nat} (h : rowP w G T n (rowN f)) (hj : j + m ≤ n) : Shows .u32 w (some ⟨G, j, none⟩) (seg f j m) := by
  intro _
  refine ⟨G, j, rfl, h.lt, fun i hi => ?_⟩
  rw [seg_length] at hi
  rw [seg_getD hi]
  exact h.cell (by omega)
/-- only block G, and what is new, has turned -/
theorem only_setCell {a w : World} {g : Nat} (h : a.grownBy w (some g)) {p : Addr} (hp : p.block = g ∨ a.heap.size ≤ p.block) (u : Value) : a.grownBy (w.setCell p u) (some g) :=
  ⟨h.os, h.tape, h.output, by simpa [World.setCell] using h.size, fun i hi hne => (Below.heap_setCell w p u i (by
    rintro rfl
    rcases hp with hp | hp
    · exact hne (by rw [hp])
    · omega)).trans (h.block i hi hne)⟩
theorem only_of_below {a w : World} (h : Below a.heap.size a w) (row : Option Nat) : a.grownBy w row := ⟨h.os, h.tape, h.output, h.size, fun i hi _ => h.block i hi⟩
theorem only_drewN {a w : World} {row : Option Nat} (h : a.grownBy w row) (n : Nat) : a.grownBy (w.drewN n) row := ⟨h.os, h.tape, h.output, h.size, h.block⟩
theorem rowP_put {w : World} {G T n j i d : Nat} {f : Nat → Nat} {R : List Nat} (hl : R.length = i) (h : rowP w G T n (rowN (put f j R))) :
    rowP (w.setCell ⟨G, j + i, none⟩ (.int .u32 (d : Nat))) G T n (rowN (put f j (R ++ [d]))) := by
  refine (h.set (j + i) (.int .u32 (d : Nat))).congr fun t _ => ?_
  unfold rowN
  rw [put_snoc, hl]
  split <;> rfl
theorem Shows.grown {k : IntKind} {w w' : World} {A : Option Addr} {xs : List Nat} {G : Nat} (h : Shows k w A xs) (hg : w.grownBy w' (some G)) (hne : ∀ a, A = some a → a.block ≠ G) : Shows k w' A xs := by
  intro hn
  obtain ⟨b, o, e, hb, hc⟩ := h hn
  have hbl := hg.block b hb (fun e2 => hne _ e (by injection e2))
  exact ⟨b, o, e, Nat.lt_of_lt_of_le hb hg.size, fun i hi => by rw [World.cell?_of_block (a := ⟨b, o + i, none⟩) hbl]; exact hc i hi⟩

set_option maxHeartbeats 2000000 in
theorem take_any (G j m N c c' g : Nat) (f : Nat → Nat) (A' : Option Addr) (ys : List Nat) (w : World) (hr : rowP w G 134 N (rowN f)) (hj : j + m ≤ N) (hN : N ≤ 3000000) (hf : ∀ k, f k < WB)
    (hy : Shows .u32 w A' ys) (dy : Dig WB ys) (hne : ∀ a, A' = some a → a.block ≠ G) (hg : g < WB) :
    Calls Tryz.prog 211 #[.slice (some ⟨G, j, none⟩) m c, .slice A' ys.length c', .int .u64 g] w fun e w' =>
      ∃ (R : List Nat) (cy : Nat), e = .returned (.bool ((cy : Int) == 0)) ∧ R.length = m ∧ Dig WB R ∧ val WB R + g * val WB (ys.take m) = val WB (seg f j m) + WB ^ m * cy ∧ rowP w' G 134 N (rowN (put f j R)) ∧ w.grownBy w' (some G) := by
  have hat := Lib.hid (fun (i : Nat) (w' : World) (hi : i ≤ N) (h : Shows .u32 w' A' ys) => at_any A' ys c' i w' h (by omega) dy)
  have by' := Lib.hid (fun i => dy.getD (show 0 < WB by decide) i)
  have HY := Lib.hid hy; have HNE := Lib.hid hne; have HF := Lib.hid hf
  have H0 := Lib.hid (show rowP w G 134 N (rowN (put f j [])) from hr.congr fun i _ => by unfold rowN; rw [put_nil])
  clear hy dy hne hf hr
  generalize ys.length = n2 at *
  unfold WB at hg
  go_enter Tryz.func211, Tryz.ntmps211
  go_wp2
  go_loopw [7, 13] (fun s7 s13 wr => ∃ (i cy : Nat) (R : List Nat), s7 = .int .u64 cy ∧ s13 = .int .i64 i ∧ i ≤ m ∧ cy < 4294967296 ∧ R.length = i ∧ Dig WB R ∧ val WB R + g * val WB (ys.take i) = val WB ((seg f j m).take i) + WB ^ i * cy ∧ rowP wr G 134 N (rowN (put f j R)) ∧ w.grownBy wr (some G)) (fun _ s _ => m - (intOf s).toNat)
  case atStart => exact ⟨0, 0, [], rfl, rfl, Nat.zero_le _, by decide, rfl, fun x hx => absurd hx (by simp), by simp [val], H0.out, World.grownBy.refl w _⟩
  case round =>
    obtain ⟨i, cy, R, rfl, rfl, hi, hcy, hRl, hRd, hv, hr, hb⟩ := hrel
    by_cases him : i < m
    · have sy := HY.out.grown hb HNE.out
      have byi := by'.out i
      unfold WB at byi
      have hC := Lib.hid (fun W (h : Shows .u32 W A' ys) => hat.out i W (by omega) h)
      have hfi := HF.out (j + i)
      unfold WB at hfi
      have hcell : wr.cell? ⟨G, j + i, none⟩ = some (.int .u32 (f (j + i) : Nat)) := by
        have := hr.cell (show j + i < N by omega)
        unfold rowN at this
        rwa [put_past (by omega)] at this
      have hfro := hr.frozen (j + i)
      have hGs : G < wr.heap.size := hr.lt
      have hst := Lib.hid (fun c' d hs => take_step (B := WB) (xs := seg f j m) (ys := ys) (n := g) (c := cy) (c' := c') (d := d) hRl hv hs)
      rw [seg_getD him] at hst
      have hbd := take_borrow (B := 4294967296) hg byi hcy
      have HR := Lib.hid hr; have HB := Lib.hid hb; have HRD := Lib.hid hRd; have HRL := Lib.hid hRl; have SY := Lib.hid sy
      clear hr hb hRd hRl hv sy hat by'
      generalize f (j + i) = x at *
      generalize ys.getD i 0 = y at *
      obtain ⟨P, hP⟩ : ∃ P, g * y = P := ⟨_, rfl⟩
      have hPc : (g : Int) * y = (P : Int) := by rw [← hP]; exact (Int.natCast_mul g y).symm
      have hPb : P + cy ≤ 18446744069414584320 := by
        have h1 : g * y ≤ 4294967295 * 4294967295 := Nat.mul_le_mul (by omega) (by omega)
        omega
      rw [hP] at hbd hst
      clear hP
      have e4 : IntKind.u64.wrap ((g : Int) * y) = (P : Int) := by rw [hPc]; simp only [IntKind.wrap, IntKind.bits, IntKind.signed]; simp; omega
      clear hPc
      by_cases hlo : x < (P + cy) % 4294967296
      · have hlo' : (x : Int) < ((P : Int) + cy) % 4294967296 := by omega
        have hb2 := hbd.2 (by omega)
        have hs2 := Lib.hid (hst.out _ _ (by have := (take_digit (B := WB) (x := x) (p := P + cy) (by decide)).1 hlo; unfold WB at *; omega : x + WB * ((P + cy) / WB + 1) = (x + WB - (P + cy) % WB) + P + cy))
        clear hst hbd hlo
        go_wp2_with fail
        refine (hC.out _ SY.out).mono ?_
        rintro e w' ⟨rfl, n3, rfl⟩
        go_wp2_with fail
        have e5 : ((x : Int) - ((P : Int) + cy)) % 4294967296 = ((x + WB - (P + cy) % WB : Nat) : Int) := by unfold WB; omega
        rw [e5]
        refine ⟨⟨i + 1, (P + cy) / 4294967296 + 1, R ++ [x + WB - (P + cy) % WB], by go_num, by go_num, by omega, hb2, by simp [HRL.out], dig_snoc HRD.out (by unfold WB; omega), hs2.out, ?_, only_setCell (only_drewN HB.out _) (.inl rfl) _⟩, by simp [intOf]; omega⟩
        exact rowP_put HRL.out HR.out
      · have hlo' : ((P : Int) + cy) % 4294967296 ≤ (x : Int) := by omega
        have hb2 := hbd.1
        have hs2 := Lib.hid (hst.out _ _ (by have := (take_digit (B := WB) (x := x) (p := P + cy) (by decide)).2 (by unfold WB; omega); unfold WB at *; omega : x + WB * ((P + cy) / WB) = (x - (P + cy) % WB) + P + cy))
        clear hst hbd hlo
        go_wp2_with fail
        refine (hC.out _ SY.out).mono ?_
        rintro e w' ⟨rfl, n3, rfl⟩
        go_wp2_with fail
        have e5 : (x : Int) - ((P : Int) + cy) % 4294967296 = ((x - (P + cy) % WB : Nat) : Int) := by unfold WB; omega
        rw [e5]
        refine ⟨⟨i + 1, (P + cy) / 4294967296, R ++ [x - (P + cy) % WB], by go_num, by go_num, by omega, hb2, by simp [HRL.out], dig_snoc HRD.out (by unfold WB; omega), hs2.out, ?_, only_setCell (only_drewN HB.out _) (.inl rfl) _⟩, by simp [intOf]; omega⟩
        exact rowP_put HRL.out HR.out
    · obtain rfl : i = m := by omega
      have HR := Lib.hid hr; have HB := Lib.hid hb
      rw [seg_take (Nat.le_refl _)] at hv
      have HV := Lib.hid hv
      have HRD := Lib.hid hRd; have HRL := Lib.hid hRl
      clear hr hb hRd hRl hv hat by'
      go_wp2_with fail
      go_ret
      exact ⟨R, cy, rfl, HRL.out, HRD.out, HV.out, HR.out, HB.out⟩
end Go.Proofs.YtfjmhfmhijhpkaaGreatDoor
