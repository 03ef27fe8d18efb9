/- The primes at which an algebra is ramified, in the program. The discriminant, and the ramified places, in the program. -/
import Derived.Test.YtimdkjbmeogpoaaGreatDoorTRw0
import Derived.Test.YtimdkjbmeogpoaaGreatDoorTUnits0
import Derived.Test.YtimdkjbmeogpoaaGreatDoorTFacs0
import Derived.Test.YtimdkjbmeogpoaaGreatDoorTRmf0
import Derived.Test.YtimdkjbmeogpoaaGreatDoorTQc0
import Derived.Test.YtimdkjbmeogpoaaGreatDoorTQa0
import Derived.Test.YtimdkjbmeogpoaaGreatDoorTQo0
namespace Go.Proofs.YtimdkjbmeogpoaaGreatDoor
open Go.RowKit Go.Lib Go.Sort FF
theorem ram_gives (a b x : Int) (B : Nat) (W : World) (c0 : W.cell? ⟨B, 0, none⟩ = some (.int .i64 a)) (c1 : W.cell? ⟨B, 1, none⟩ = some (.int .i64 b)) :
    FnGives Tryz.prog 110 #[.pointer (some ⟨B, 0, none⟩)] #[.int .i64 x] (.bool (hilV a b x != -1)) W := by
  have HH := Lib.hid (fun w => Hilbert_any a b x w)
  generalize hilV a b x = V at *
  generalize hilE a b x = E at *
  unfold FnGives
  show Calls _ _ #[.int .i64 x, .pointer (some ⟨B, 0, none⟩)] _ _
  go_enter Tryz.func110, Tryz.ntmps110
  go_wp2_with fail
  refine (HH.out _).mono ?_
  rintro e w' ⟨rfl, n1, rfl⟩
  go_wp2_with fail
  go_ret
  exact ⟨rfl, _, rfl⟩
theorem ram_at (a b : Int) (B : Nat) (w : World) (hB : B < w.heap.size) (c0 : w.cell? ⟨B, 0, none⟩ = some (.int .i64 a)) (c1 : w.cell? ⟨B, 1, none⟩ = some (.int .i64 b)) :
    PredAt Tryz.prog 110 #[.pointer (some ⟨B, 0, none⟩)] (Value.int .i64) (fun x => hilV a b x != -1) w :=
  fun W x hb => ram_gives a b x B W ((hb.cell (p := ⟨B, 0, none⟩) hB).trans c0) ((hb.cell (p := ⟨B, 1, none⟩) hB).trans c1)
theorem ram_over (a b : Int) (B blk size : Nat) (w : World) (hB : B < w.heap.size) (hne : B ≠ blk) (c0 : w.cell? ⟨B, 0, none⟩ = some (.int .i64 a)) (c1 : w.cell? ⟨B, 1, none⟩ = some (.int .i64 b)) :
    PredOver Tryz.prog 110 #[.pointer (some ⟨B, 0, none⟩)] (Value.int .i64) (fun x => hilV a b x != -1) blk 0 size w :=
  fun n os dk x _ => by
    have k : ∀ i, (sortWorld (Value.int .i64) w blk 0 n dk os).cell? ⟨B, i, none⟩ = w.cell? ⟨B, i, none⟩ := fun i => by
      unfold sortWorld
      rw [cell?_grow _ _ _ (by show B < (putRow _ _ _ _ _).heap.size; rw [size_putRow]; exact hB), cell?_putRow_other _ _ blk 0 _ _ (Or.inl hne)]
      rfl
    exact ram_gives a b x B _ ((k 0).trans c0) ((k 1).trans c1)
theorem del_ram (a b : Int) (B g c : Nat) (xs : List Int) (w : World) (hB : B < w.heap.size) (hne : B ≠ g) (c0 : w.cell? ⟨B, 0, none⟩ = some (.int .i64 a)) (c1 : w.cell? ⟨B, 1, none⟩ = some (.int .i64 b))
    (hH : Holds (Value.int .i64) w g 0 xs.toArray) (hg : g < w.heap.size) (hn : xs.length ≤ c) (hc : c ≤ maxLen) {B0 : Nat} (hB0 : B0 ≤ g) :
    Calls Tryz.prog 109 #[.slice (some ⟨g, 0, none⟩) xs.length c, .func (.func 110) #[] #[.pointer (some ⟨B, 0, none⟩)]] w fun e w' =>
      e = .returned (.slice (some ⟨g, 0, none⟩) (xs.filter fun x => hilV a b x == -1).length c) ∧ ShowsI w' (some ⟨g, 0, none⟩) (xs.filter fun x => hilV a b x == -1) ∧ Below B0 w w' := by
  have eg : ∀ args w, (callFunc 110 args).run Tryz.prog w = .ok (.enter 110 args) w := enters_of Tryz.func110 (by kernel_rfl) rfl
  have zv : ∀ w, (zeroValue 3).run Tryz.prog w = .ok (.int .i64 0) w := fun w => by kernel_rfl
  have hsz : xs.toArray.size = xs.length := by simp
  have e1 : (fun x => !(hilV a b x != -1)) = fun x => hilV a b x == -1 := by funext x; cases h : (hilV a b x == -1) <;> simp [bne, h]
  have hcon := Tryz.slices_DeleteFunc (Value.int .i64) (fun _ => rfl) (fun x => hilV a b x != -1) 110 #[.pointer (some ⟨B, 0, none⟩)] eg 0 zv g 0 c xs.toArray w (ram_at a b B w hB c0 c1) (ram_over a b B g _ w hB hne c0 c1) hH (by rw [hsz]; unfold maxLen at hc; omega) (by rw [hsz]; exact hn)
  rw [hsz] at hcon
  refine hcon.mono ?_
  rw [e1]
  rintro e w' ⟨rfl, q, rfl⟩
  have hle : (xs.filter fun x => hilV a b x == -1).length ≤ xs.length := List.length_filter_le ..
  have hsz2 : ((xs.filter fun x => hilV a b x == -1) ++ List.replicate (xs.length - (xs.filter fun x => hilV a b x == -1).length) (0 : Int)).toArray.size = xs.toArray.size := by simp; omega
  have hHd : Holds (Value.int .i64) (Sort.ahead w q) g 0 xs.toArray := fun j hj => ⟨by exact (hH j hj).1, by exact (hH j hj).2⟩
  have hP := holds_putRow (Value.int .i64) (Sort.ahead w q) g 0 xs.toArray _ hHd hsz2
  refine ⟨rfl, fun h0 => ⟨g, 0, rfl, by rw [size_putRow]; exact hg, fun i hi => ?_⟩, below_putRow (Below.refl _ _) hB0⟩
  have h1 := (hP i (by rw [hsz2]; simp; omega)).1
  rw [h1]
  congr 2
  rw [getElem!_pos _ i (by rw [hsz2]; simp; omega), List.getD_eq_getElem?_getD, List.getElem?_eq_getElem hi]
  simp only [List.getElem_toArray, Option.getD_some]
  exact List.getElem_append_left hi
theorem Compact_own2 {B : Nat} (v : Value) (xs : List Int) (w : World) (h : w.ownsRow B 3 1 v xs.length (cellsI xs)) (hl : xs.length < 4611686018427387904) (h0 : 0 < xs.length) :
    Calls Tryz.prog 108 #[v] w fun e w' => ∃ g c, e = .returned (.slice (some ⟨g, 0, none⟩) (Lib.compact xs).length c) ∧ B ≤ g ∧ g < w'.heap.size ∧ Holds (Value.int .i64) w' g 0 (Lib.compact xs).toArray ∧ (Lib.compact xs).length ≤ c ∧ c ≤ maxLen ∧ Below B w w' := by
  rcases h.2 with ⟨rfl, hn⟩ | ⟨g, cap, cur, rfl, hb, hg, hnc, hcm, hcs, ht⟩
  · omega
  · have hlt : g < w.heap.size := (Array.getElem?_eq_some_iff.1 hg).1
    obtain ⟨g', cap', hv, _, hgl, _, _, _, hH⟩ := Lib.holds_of_ownsRow (enc := Value.int .i64) h (by simp)
    cases hv
    have hle := Lib.compact_length_le xs
    refine (Tryz.slices_Compact_int g 0 cap xs w hH (by omega) hnc).mono ?_
    rintro e w' ⟨rfl, q, rfl⟩
    have hsz2 : (Lib.compact xs ++ List.replicate (xs.length - (Lib.compact xs).length) (0 : Int)).toArray.size = xs.toArray.size := by simp; omega
    have hHd : Holds (Value.int .i64) (Sort.ahead w q) g 0 xs.toArray := fun j hj => ⟨by exact (hH j hj).1, by exact (hH j hj).2⟩
    have hP := holds_putRow (Value.int .i64) (Sort.ahead w q) g 0 xs.toArray _ hHd hsz2
    refine ⟨g, cap, rfl, hb, by rw [size_putRow]; exact hlt, fun j hj => ?_, by omega, hcm, below_putRow (Below.refl _ _) hb⟩
    have hj' : j < (Lib.compact xs).length := by simpa using hj
    have h1 := hP j (by rw [hsz2]; simp; omega)
    refine ⟨?_, h1.2⟩
    rw [h1.1]
    congr 2
    rw [getElem!_pos _ j (by rw [hsz2]; simp; omega), getElem!_pos _ j (by simpa using hj')]
    simp only [List.getElem_toArray]
    exact List.getElem_append_left hj'
theorem own_new2 {B : Nat} (w : World) (hB : B ≤ w.heap.size) (xs : List Int) (n : Nat) (vs : Array Value) (hn : xs.length = n) (hv : vs.toList = cellsI xs) (hm : n ≤ maxLen) :
    (w.alloc (.cells vs 3)).ownsRow B 3 1 (.slice (some ⟨w.heap.size, 0, none⟩) n n) n (cellsI xs) := by
  have hs : vs.size = n := by rw [← Array.length_toList, hv, cellsI_length, hn]
  refine ⟨by rw [cellsI_length, hn, Nat.mul_one], .inr ⟨w.heap.size, n, vs, rfl, hB, ?_, Nat.le_refl _, hm, by omega, ?_⟩⟩
  · exact (MapKept.heap_alloc w _).1
  · rw [hv, Nat.mul_one, List.take_of_length_le (by rw [cellsI_length]; omega)]
theorem compactUpTo_spec (d : Array Int) (hs : ∀ i j, i ≤ j → j < d.size → d[i]! ≤ d[j]!) : ∀ m, m ≤ d.size →
    (Lib.compactUpTo d m).Pairwise (· < ·) ∧ (∀ x, x ∈ Lib.compactUpTo d m ↔ ∃ j, j < m ∧ d[j]! = x) := by
  intro m
  induction m with
  | zero => exact fun _ => ⟨by simp [Lib.compactUpTo], fun x => by simp [Lib.compactUpTo]⟩
  | succ m ih =>
    intro hm
    obtain ⟨h1, h2⟩ := ih (by omega)
    rw [Lib.compactUpTo_succ]
    have hm' : ∀ x, (∃ j, j < m + 1 ∧ d[j]! = x) ↔ (∃ j, j < m ∧ d[j]! = x) ∨ d[m]! = x := fun x =>
      ⟨fun ⟨j, hj, e⟩ => by
        rcases Nat.lt_or_ge j m with g | g
        · exact .inl ⟨j, g, e⟩
        · obtain rfl : j = m := by omega
          exact .inr e, fun h => h.elim (fun ⟨j, hj, e⟩ => ⟨j, by omega, e⟩) fun e => ⟨m, by omega, e⟩⟩
    by_cases hk : Lib.keeps d m = true
    · rw [if_pos hk]
      refine ⟨List.pairwise_append.2 ⟨h1, by simp, fun x hx y hy => ?_⟩, fun x => by rw [List.mem_append, h2, hm', List.mem_singleton]; exact or_congr Iff.rfl eq_comm⟩
      rw [List.mem_singleton] at hy
      subst hy
      obtain ⟨j, hj, rfl⟩ := (h2 x).1 hx
      have a1 := hs j (m - 1) (by omega) (by omega)
      have a2 := hs (m - 1) m (by omega) (by omega)
      unfold Lib.keeps at hk
      rw [decide_eq_true_iff] at hk
      omega
    · rw [if_neg hk, List.append_nil]
      refine ⟨h1, fun x => by
        rw [h2, hm']
        refine ⟨.inl, fun h => h.elim id fun e => ?_⟩
        unfold Lib.keeps at hk
        rw [decide_eq_true_iff] at hk
        exact ⟨m - 1, by omega, by omega⟩⟩
theorem compact_sorted {l : List Int} (h : l.Pairwise (· ≤ ·)) : (Lib.compact l).Pairwise (· < ·) ∧ ∀ x, x ∈ Lib.compact l ↔ x ∈ l := by
  have hs : ∀ i j, i ≤ j → j < l.toArray.size → l.toArray[i]! ≤ l.toArray[j]! := fun i j hij hj => by
    have hj' : j < l.length := by simpa using hj
    rw [getElem!_pos _ i (by simp; omega), getElem!_pos _ j (by simpa using hj')]
    simp only [List.getElem_toArray]
    rcases Nat.lt_or_eq_of_le hij with g | g
    · exact List.pairwise_iff_getElem.1 h i j (by omega) hj' g
    · subst g; exact Int.le_refl _
  obtain ⟨h1, h2⟩ := compactUpTo_spec l.toArray hs l.length (by simp)
  refine ⟨h1, fun x => (h2 x).trans ⟨fun ⟨j, hj, e⟩ => ?_, fun hx => ?_⟩⟩
  · rw [getElem!_pos _ j (by simpa using hj)] at e
    simp only [List.getElem_toArray] at e
    rw [← e]; exact List.getElem_mem hj
  · obtain ⟨j, hj, e⟩ := List.mem_iff_getElem.1 hx
    exact ⟨j, hj, by rw [getElem!_pos _ j (by simpa using hj)]; simp only [List.getElem_toArray]; exact e⟩
def plc (a b : Int) : List Int := [2] ++ primesOf a.natAbs ++ primesOf b.natAbs
theorem plc_ram {a b : Int} (h : aE a b = 0) : (Lib.compact (sortI (plc a b))).filter (fun x => hilV a b x == -1) = ramL a b 999 := by
  obtain ⟨ha, hb, ha1, hb1⟩ := aE_zero.1 h
  have hp := List.mergeSort_perm (plc a b) (fun x y => decide (x ≤ y))
  have hs := List.pairwise_mergeSort (le := fun x y : Int => decide (x ≤ y)) (fun a b c h1 h2 => by simp at *; omega) (fun a b => by simp; omega) (plc a b)
  obtain ⟨h1, h2⟩ := compact_sorted (l := sortI (plc a b)) (hs.imp (fun h => by simpa using h))
  have hm : ∀ x, x ∈ Lib.compact (sortI (plc a b)) ↔ x = 2 ∨ x ∈ primesOf a.natAbs ∨ x ∈ primesOf b.natAbs := fun x => by
    rw [h2, show sortI (plc a b) = (plc a b).mergeSort (fun x y => decide (x ≤ y)) from rfl, hp.mem_iff]
    simp only [plc, List.mem_append, List.mem_singleton, or_assoc]
  rw [← ram_unique ha hb ha1 hb1 h1 hm]
  refine List.filter_congr fun x hx => ?_
  have hx2 : isPB x = true := by
    refine isPB_iff.2 ?_
    rcases (hm x).1 hx with h | h | h
    · subst h; exact ⟨isP_two, by omega⟩
    · have h3 := (primesOf_mem (by omega)).1 h
      have h4 := primesOf_le (by omega) h
      exact ⟨h3.1, by omega⟩
    · have h3 := (primesOf_mem (by omega)).1 h
      have h4 := primesOf_le (by omega) h
      exact ⟨h3.1, by omega⟩
  have hE : hilE a b x = 0 := by
    unfold hilE
    rw [if_neg (by omega), if_neg (by
      have i1 : inB a = true := inB_iff.2 ⟨by omega, by omega⟩
      have i2 : inB b = true := inB_iff.2 ⟨by omega, by omega⟩
      rw [i1, i2]; simp), if_neg (by rw [hx2]; simp)]
  unfold hilV
  rw [if_pos hE]
theorem plc_len {a b : Int} (h : aE a b = 0) : (plc a b).length ≤ 100 ∧ (primesOf a.natAbs).length ≤ 31 ∧ (primesOf b.natAbs).length ≤ 31 := by
  obtain ⟨ha, hb, ha1, hb1⟩ := aE_zero.1 h
  have key : ∀ m : Int, 1 ≤ m → m ≤ 1000 → (primesOf m).length ≤ 31 := fun m h1 h2 => by
    have h3 := primes_small (primesOf_asc h1) (fun x hx => (primesOf_le h1 hx).1) (prodZ_primesOf h1) h1
    apply Classical.byContradiction
    intro h4
    have h5 : (2 : Nat) ^ 10 ≤ 2 ^ (primesOf m).length := Nat.pow_le_pow_right (by omega) (by omega)
    have h6 : (((2 : Nat) ^ (primesOf m).length : Nat) : Int) = (2 : Int) ^ (primesOf m).length := by push_cast; rfl
    have h7 : (2 : Nat) ^ 10 = 1024 := by decide
    omega
  have k1 := key a.natAbs (by omega) (by omega)
  have k2 := key b.natAbs (by omega) (by omega)
  exact ⟨by simp [plc]; omega, k1, k2⟩
theorem got_take0 {w wr : World} {T : TypeId} {v : Value} {n : Nat} {X : List Int} {l : List (Int × Nat)} (h : Got w T 1 v X.length X wr) (hX : X.length = n) : Got w T 1 v (n + 0) (X ++ (l.take 0).map (fun x => x.1)) wr := by
  rw [List.take_zero, List.map_nil, List.append_nil, Nat.add_zero, ← hX]; exact h
theorem got_full {w wr : World} {T : TypeId} {v : Value} {n : Nat} {X : List Int} {l : List (Int × Nat)} (h : Got w T 1 v (n + l.length) (X ++ (l.take l.length).map (fun x => x.1)) wr) (hX : X.length = n) : Got w T 1 v (X ++ l.map (fun x => x.1)).length (X ++ l.map (fun x => x.1)) wr := by
  rw [List.take_length] at h
  rw [List.length_append, List.length_map, hX]; exact h
theorem pr_take_succ (X : List Int) (l : List (Int × Nat)) {k : Nat} (h0 : k < l.length) : X ++ (l.take (k + 1)).map (fun x => x.1) = (X ++ (l.take k).map (fun x => x.1)) ++ [(l.getD k (0, 0)).1] := by
  rw [List.take_succ_eq_append_getElem h0, List.map_append, List.getD_eq_getElem?_getD, List.getElem?_eq_getElem h0, List.append_assoc]; rfl
@[local go_sem] theorem run_arr0 (c0 c1 : Value) (w : World) : (Instr.index 147 (.agg #[c0, c1]) (.int .i64 0)).run Tryz.prog w = .ok c0 w := by kernel_rfl
@[local go_sem] theorem run_arr1 (c0 c1 : Value) (w : World) : (Instr.index 147 (.agg #[c0, c1]) (.int .i64 1)).run Tryz.prog w = .ok c1 w := by kernel_rfl
set_option maxHeartbeats 4000000 in
set_option maxRecDepth 100000 in
theorem ramified_any (a b : Int) (w : World) (hE : aE a b = 0) :
    Calls Tryz.prog 65 #[.agg #[.int .i64 a, .int .i64 b]] w fun e w' => ∃ A c, e = .returned (.slice A (ramL a b 999).length c) ∧ ShowsI w' A (ramL a b 999) ∧ (ramL a b 999).length ≤ c ∧ c ≤ maxLen ∧ Below w.heap.size w w' := by
  obtain ⟨ha, hb, ha1, hb1⟩ := aE_zero.1 hE
  have HR := Lib.hid (plc_ram hE)
  obtain ⟨hl0, hl1, hl2⟩ := plc_len hE
  have HL := Lib.hid hl0
  have hAbsa := Lib.hid (fun w => qabs_any a w (by omega) (by omega))
  have hAbsb := Lib.hid (fun w => qabs_any b w (by omega) (by omega))
  have hFaca := Lib.hid (fun w => Factor_any (a.natAbs : Int) w (by omega) (by omega))
  have hFacb := Lib.hid (fun w => Factor_any (b.natAbs : Int) w (by omega) (by omega))
  have hPa := Lib.hid (show primesOf a.natAbs = (facs (a.natAbs : Int)).map (·.1) from rfl)
  have hPb := Lib.hid (show primesOf b.natAbs = (facs (b.natAbs : Int)).map (·.1) from rfl)
  have hla : (facs (a.natAbs : Int)).length ≤ 31 := by rw [← List.length_map (f := (·.1)), ← hPa.out]; exact hl1
  have hlb : (facs (b.natAbs : Int)).length ≤ 31 := by rw [← List.length_map (f := (·.1)), ← hPb.out]; exact hl2
  have HPL := Lib.hid (show plc a b = ([2] ++ (facs (a.natAbs : Int)).map (·.1)) ++ (facs (b.natAbs : Int)).map (·.1) from rfl)
  clear hl0 hl1 hl2 hPa hPb ha hb ha1 hb1 hE
  generalize facs (a.natAbs : Int) = lA at *
  generalize facs (b.natAbs : Int) = lB at *
  generalize (a.natAbs : Int) = na at *
  generalize (b.natAbs : Int) = nb at *
  obtain ⟨i0, hi, hz0, hz1, hz2⟩ := info_parts info_int
  have HI := Lib.hid hi; have HZ0 := Lib.hid hz0; have HZ1 := Lib.hid hz1; have HZ2 := Lib.hid hz2
  clear hi hz0 hz1 hz2
  go_enter Tryz.func65, Tryz.ntmps65
  go_wp2_with fail
  refine wp_loop_rounds 3 ?_
  obtain ⟨W1, hW1⟩ : ∃ W1 : World, W1 = w.alloc (.cells #[.int .i64 a, .int .i64 b] 23) := ⟨_, rfl⟩
  rw [← hW1]
  have hC := show Cells W1 w.heap.size #[.int .i64 a, .int .i64 b] by rw [hW1]; exact Cells.new w _ _ rfl
  have HC := Lib.hid hC
  have hs1 : W1.heap.size = w.heap.size + 1 := by rw [hW1]; simp
  have HB1 := Lib.hid (show Below w.heap.size w W1 by rw [hW1]; exact (Below.refl _ _).alloc (Nat.le_refl _) _)
  have HG0 := Lib.hid (show Got W1 3 1 (.slice (some ⟨W1.heap.size, 0, none⟩) 1 1) ([2] : List Int).length [2] (W1.alloc (.cells #[.int .i64 2] 3)) from ⟨own_new2 W1 (Nat.le_refl _) [2] 1 _ rfl rfl (by unfold maxLen; omega), (Below.refl _ _).alloc (Nat.le_refl _) _⟩)
  rw [hs1] at HG0
  clear hC hW1
  rw [rounds_succ]
  go_wp2_with fail
  refine (hAbsa.out _).mono ?_
  rintro e w2 ⟨rfl, n1, rfl⟩
  go_wp2_with fail
  refine (hFaca.out _).mono ?_
  rintro e w3 ⟨v, rfl, hP⟩
  have HRow := Lib.hid hP.row0
  have HGot := Lib.hid ((HG0.out.drewN n1).keep hP.2)
  obtain ⟨A2, c2, e2, hsA, hc3, hc4, -⟩ := hP.shows
  obtain rfl := e2
  unfold maxLen at hc4
  clear hP hsA hAbsa hFaca
  go_wp2_with fail
  go_loopw [3, 9, 27] (fun s3 _ s27 wx => ∃ k : Nat, s27 = .int .i64 k ∧ k ≤ lA.length ∧ Got W1 3 1 s3 (1 + k) ([2] ++ (lA.take k).map (fun x : Int × Nat => x.1)) wx ∧ Row0 wx 152 2 (.slice A2 lA.length c2) lA.length (flatP lA)) (fun _ _ s27 _ => lA.length - (intOf s27).toNat)
  case atStart => exact ⟨0, rfl, Nat.zero_le _, got_take0 HGot.out (by simp; try omega), HRow.out⟩
  case round =>
    clear HGot HRow
    obtain ⟨k, rfl, hk, hG, hR⟩ := hrel
    have HG := Lib.hid hG
    have HR := Lib.hid hR
    obtain ⟨B3, c3, e3, -, hc5, hc6, -⟩ := hG.shows
    obtain rfl := e3
    unfold maxLen at hc6
    obtain ⟨A4, c4, e4, hsA, -, -⟩ := hR.shows
    injection e4 with e4a e4b e4c
    obtain rfl := e4a
    clear hG hR e4b e4c
    by_cases h0 : k < lA.length
    · obtain ⟨b1, o1, rfl, hb1, hcell⟩ := hsA (by rw [flatP_len]; omega)
      obtain ⟨f0, f1⟩ := flatP_get (l := lA) (i := k) h0
      have x0 := hcell (2 * k) (by rw [flatP_len]; omega)
      have x1 := hcell (2 * k + 1) (by rw [flatP_len]; omega)
      rw [f0, show o1 + 2 * k = o1 + k * 2 by omega] at x0
      rw [f1, show o1 + (2 * k + 1) = o1 + k * 2 + 1 by omega] at x1
      have HT := Lib.hid (pr_take_succ ([2]) lA h0)
      generalize (lA.getD k (0, 0)).1 = p at *
      generalize (lA.getD k (0, 0)).2 = q at *
      clear hcell f0 f1 hsA
      go_wp2_with (at_builtin; refine wpList_append_got2 rfl (.tmp 31) (.tmp 34) 88 rfl 3 i0 _ 1 8 Tryz.underlying88 HI.out HZ0.out HZ1.out HZ2.out rfl (by decide) _ (1 + k) _ rfl (HG.out.alloc _) _ _ [p] rfl rfl 1 (by rw [World.size_alloc]; rfl) (by omega) (by unfold maxLen; omega) ?_; intro v' w4 hg2 hg3; have HG2 := Lib.hid hg2; have HG3 := Lib.hid hg3; clear hg2 hg3)
      have HRn := ((HR.out.keep ((Below.refl _ _).alloc (Nat.le_refl _) _)).keep ((Below.refl _ _).alloc (Nat.le_refl _) _)).beside ((HG.out.alloc _).alloc _).row0 (by decide) HG3.out
      exact ⟨⟨k + 1, by go_num, by omega, by rw [HT.out]; exact HG2.out, HRn⟩, by simp [intOf]; omega⟩
    · obtain rfl : k = lA.length := by omega
      have HGa := Lib.hid (got_full HG.out (by simp; try omega))
      clear HG HR hsA
      obtain ⟨W5, hW5⟩ : ∃ W5 : World, W5 = wr := ⟨_, rfl⟩
      subst hW5
      go_wp2_with fail
      rw [rounds_succ]
      go_wp2_with fail
      refine (hAbsb.out _).mono ?_
      rintro e w2 ⟨rfl, n1, rfl⟩
      go_wp2_with fail
      refine (hFacb.out _).mono ?_
      rintro e w3 ⟨v, rfl, hP⟩
      have HRow := Lib.hid hP.row0
      have HGot := Lib.hid ((HGa.out.drewN n1).keep hP.2)
      obtain ⟨A2, c2, e2, hsA, hc3, hc4, -⟩ := hP.shows
      obtain rfl := e2
      unfold maxLen at hc4
      clear hP hsA hAbsb hFacb
      go_wp2_with fail
      go_loopw [3, 9, 27] (fun s3 _ s27 wx => ∃ k : Nat, s27 = .int .i64 k ∧ k ≤ lB.length ∧ Got W1 3 1 s3 ((1 + lA.length) + k) (([2] ++ lA.map (fun x : Int × Nat => x.1)) ++ (lB.take k).map (fun x : Int × Nat => x.1)) wx ∧ Row0 wx 152 2 (.slice A2 lB.length c2) lB.length (flatP lB)) (fun _ _ s27 _ => lB.length - (intOf s27).toNat)
      case atStart => exact ⟨0, rfl, Nat.zero_le _, got_take0 HGot.out (by simp; try omega), HRow.out⟩
      case round =>
        clear HGot HRow
        obtain ⟨k, rfl, hk, hG, hR⟩ := hrel
        have HG := Lib.hid hG
        have HR := Lib.hid hR
        obtain ⟨B3, c3, e3, -, hc5, hc6, -⟩ := hG.shows
        obtain rfl := e3
        unfold maxLen at hc6
        obtain ⟨A4, c4, e4, hsA, -, -⟩ := hR.shows
        injection e4 with e4a e4b e4c
        obtain rfl := e4a
        clear hG hR e4b e4c
        by_cases h0 : k < lB.length
        · obtain ⟨b1, o1, rfl, hb1, hcell⟩ := hsA (by rw [flatP_len]; omega)
          obtain ⟨f0, f1⟩ := flatP_get (l := lB) (i := k) h0
          have x0 := hcell (2 * k) (by rw [flatP_len]; omega)
          have x1 := hcell (2 * k + 1) (by rw [flatP_len]; omega)
          rw [f0, show o1 + 2 * k = o1 + k * 2 by omega] at x0
          rw [f1, show o1 + (2 * k + 1) = o1 + k * 2 + 1 by omega] at x1
          have HT := Lib.hid (pr_take_succ (([2] ++ lA.map (fun x : Int × Nat => x.1))) lB h0)
          generalize (lB.getD k (0, 0)).1 = p at *
          generalize (lB.getD k (0, 0)).2 = q at *
          clear hcell f0 f1 hsA
          go_wp2_with (at_builtin; refine wpList_append_got2 rfl (.tmp 31) (.tmp 34) 88 rfl 3 i0 _ 1 8 Tryz.underlying88 HI.out HZ0.out HZ1.out HZ2.out rfl (by decide) _ ((1 + lA.length) + k) _ rfl (HG.out.alloc _) _ _ [p] rfl rfl 1 (by rw [World.size_alloc]; rfl) (by omega) (by unfold maxLen; omega) ?_; intro v' w4 hg2 hg3; have HG2 := Lib.hid hg2; have HG3 := Lib.hid hg3; clear hg2 hg3)
          have HRn := ((HR.out.keep ((Below.refl _ _).alloc (Nat.le_refl _) _)).keep ((Below.refl _ _).alloc (Nat.le_refl _) _)).beside ((HG.out.alloc _).alloc _).row0 (by decide) HG3.out
          exact ⟨⟨k + 1, by go_num, by omega, by rw [HT.out]; exact HG2.out, HRn⟩, by simp [intOf]; omega⟩
        · obtain rfl : k = lB.length := by omega
          have HGb := Lib.hid (got_full HG.out (by simp; try omega))
          clear HG HR hsA
          obtain ⟨W6, hW6⟩ : ∃ W6 : World, W6 = wr := ⟨_, rfl⟩
          subst hW6
          go_wp2_with fail
          rw [rounds_succ]
          go_wp2_with fail
          have hX0 : 0 < (plc a b).length := by rw [HPL.out]; simp
          have HGc := Lib.hid (show Got W1 3 1 (.slice B3 (1 + lA.length + lB.length) c3) (plc a b).length (plc a b) W6 by rw [HPL.out]; exact HGb.out)
          clear HPL HGb HG0
          generalize plc a b = X at *
          have HXL := HL.out
          have HS := Lib.hid (Sort_own (.slice B3 (1 + lA.length + lB.length) c3) X W6 HGc.out.1 (by omega))
          refine HS.out.mono ?_
          rintro e w3 ⟨rfl, hown3, hgrow3⟩
          have hB3 : Below W1.heap.size W1 w3 := Below.grown HGc.out.2 hgrow3 HGc.out.2.size (fun k hk => HGc.out.row_ge k hk)
          have HK := Lib.hid (Compact_own2 (.slice B3 (1 + lA.length + lB.length) c3) (sortI X) w3 (by rw [sortI_length]; exact hown3) (by rw [sortI_length]; omega) (by rw [sortI_length]; exact hX0))
          have HB3 := Lib.hid hB3
          clear hown3 hgrow3 hB3 HS HGc
          go_wp2_with fail
          refine HK.out.mono ?_
          rintro e w4 ⟨g, c, rfl, hBg, hg, hH, hc1, hc2, hb4⟩
          have HB4 := Lib.hid (HB3.out.trans hb4)
          have hc := HC.out.keep HB4.out
          have hD := del_ram a b w.heap.size g c (Lib.compact (sortI X)) w4 hc.1 (by omega) hc.two.1 hc.two.2 hH hg hc1 hc2 (B0 := W1.heap.size) hBg
          rw [HR.out] at hD
          have hle : (ramL a b 999).length ≤ c := by rw [← HR.out]; exact Nat.le_trans (List.length_filter_le ..) hc1
          have HD := Lib.hid hD
          clear hb4 hH hD hc HB3 HK HR
          go_wp2_with fail
          refine HD.out.mono ?_
          rintro e w5 ⟨rfl, hs, hb5⟩
          have HSh := Lib.hid hs
          have HB5 := Lib.hid (HB4.out.trans hb5)
          clear hs hb5
          go_wp2_with fail
          go_ret
          exact ⟨_, _, rfl, HSh.out, hle, hc2, HB1.out.trans (HB5.out.mono (by omega))⟩
end Go.Proofs.YtimdkjbmeogpoaaGreatDoor
namespace Go.Proofs.YtimdkjbmeogpoaaGreatDoor
open Go.RowKit FF
def discV (a b : Int) : Int := if aE a b = 0 then prodZ (ramL a b 999) else 0
theorem prodZ_take_succ {l : List Int} {k : Nat} (h : k < l.length) : prodZ (l.take (k + 1)) = prodZ (l.take k) * l.getD k 0 := by
  rw [List.take_succ_eq_append_getElem h, prodZ_append, List.getD_eq_getElem?_getD, List.getElem?_eq_getElem h]
  show _ = _ * l[k]
  rw [show prodZ [l[k]] = l[k] * 1 from rfl, Int.mul_one]
set_option maxHeartbeats 2000000 in
theorem Discriminant_any (a b : Int) (w : World) :
    Calls Tryz.prog 22 #[.agg #[.int .i64 a, .int .i64 b]] w fun r w' => r = .returned (.tuple #[.int .i64 (discV a b), .int .i64 (aE a b)]) ∧ Below w.heap.size w w' := by
  have HC := Lib.hid (fun w => qCheck_any a b w)
  by_cases hE : aE a b = 0
  · obtain ⟨ha, hb, ha1, hb1⟩ := aE_zero.1 hE
    have HR := Lib.hid (fun w => ramified_any a b w hE)
    have HP := Lib.hid (fun i => ram_prod ha hb ha1 hb1 999 i)
    have HD := Lib.hid (show discV a b = prodZ (ramL a b 999) from if_pos hE)
    have HE0 := Lib.hid hE
    rw [hE] at HC
    clear ha hb ha1 hb1 hE
    generalize discV a b = D at *
    rw [HE0.out]
    clear HE0
    generalize ramL a b 999 = L at *
    go_enter Tryz.func22, Tryz.ntmps22
    go_wp2_with fail
    refine (HC.out _).mono ?_
    rintro e1 w1 ⟨rfl, hb1⟩
    have HB1 := Lib.hid (show Bx w [(w.heap.size, #[.int .i64 a, .int .i64 b])] w1 from ((Bx.nil (Below.refl w.heap.size w)).new _ _).keep hb1)
    clear hb1 HC
    obtain ⟨c0, c1⟩ := HB1.out.two (List.mem_cons_self ..)
    go_wp2_with fail
    refine (HR.out _).mono ?_
    rintro e2 w2 ⟨A, c, rfl, hs, hlc, hcm, hb2⟩
    have HS := Lib.hid hs
    have HB2 := Lib.hid (HB1.out.below.trans (hb2.mono HB1.out.below.size))
    unfold maxLen at hcm
    clear hs hb2 HB1 HR c0 c1
    go_wp2_with fail
    go_loopw [5, 7, 16] (fun s5 _ s16 wx => ∃ k : Nat, s16 = .int .i64 k ∧ k ≤ L.length ∧ s5 = .int .i64 (prodZ (L.take k)) ∧ wx = w2) (fun _ _ s16 _ => L.length - (intOf s16).toNat)
    case atStart => exact ⟨0, rfl, Nat.zero_le _, rfl, rfl⟩
    case round =>
      obtain ⟨k, rfl, hk, rfl, rfl⟩ := hrel
      by_cases h0 : k < L.length
      · obtain ⟨b1, o1, rfl, hb1, hc1⟩ := HS.out (by omega)
        have x1 := hc1 k h0
        have HT := Lib.hid (prodZ_take_succ h0)
        obtain ⟨p1, p2⟩ := HP.out (k + 1)
        rw [HT.out] at p1 p2
        generalize prodZ (L.take k) = q at *
        generalize L.getD k 0 = x at *
        clear hc1
        go_wp2_with fail
        exact ⟨⟨k + 1, by go_num, by omega, by rw [HT.out], trivial⟩, by simp [intOf]; omega⟩
      · obtain rfl : k = L.length := by omega
        have HD2 := Lib.hid (show prodZ (L.take L.length) = D by rw [List.take_length]; exact HD.out.symm)
        rw [HD2.out]
        go_wp2_with fail
        go_ret2
        exact ⟨rfl, HB2.out⟩
  · have HD := Lib.hid (show discV a b = 0 from if_neg hE)
    have d1 : (aE a b == 0) = false := f_beq hE
    rw [HD.out]
    clear hE HD
    generalize aE a b = E at *
    go_enter Tryz.func22, Tryz.ntmps22
    go_wp2_with fail
    refine (HC.out _).mono ?_
    rintro e1 w1 ⟨rfl, hb1⟩
    have HB1 := Lib.hid (((Below.refl w.heap.size w).alloc (Nat.le_refl _) _).trans (hb1.mono (by simp)))
    clear hb1 HC
    go_wp2_with fail
    go_ret2
    exact ⟨rfl, HB1.out⟩
end Go.Proofs.YtimdkjbmeogpoaaGreatDoor
