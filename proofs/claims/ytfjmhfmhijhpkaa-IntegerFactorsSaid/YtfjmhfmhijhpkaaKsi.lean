/- The keys of a map of steps, sorted: what the library makes of them. -/
import Derived.Shelf.SlIterI.Nil
import Derived.Ground.GgzProg
import Derived.Test.YtfjmhfmhijhpkaaShelf
import Derived.Test.YtfjmhfmhijhpkaaMst
namespace Go.Proofs
open Go.Shelf
def Try.keysA_ren : Go.Shelf.Ren := ⟨fun | 7 => 60 | 10 => 102 | n => n, fun | 23 => 110 | 26 => 3 | 3 => 48 | 28 => 115 | 0 => 0 | 27 => 114 | 33 => 54 | 4 => 4 | n => n, fun | n => n⟩
theorem Try.keysA : Go.Proofs.SlLaysZI.n7 Try.prog Try.keysA_ren := {
  mixed := by kernel_rfl
  f7 := ⟨Try.f60.name, by decide, Try.func60.trans (congrArg some (by kernel_rfl))⟩
  f10 := ⟨Try.f102.name, by decide, Try.func102.trans (congrArg some (by kernel_rfl))⟩
  t0 := Try.underlying0
  a0 := Try.isAgg0
  z0 := Try.sizeOf0
  v0 := Try.zeroValue0
  t4 := Try.underlying4
  a4 := Try.isAgg4
  z4 := Try.sizeOf4
  v4 := Try.zeroValue4
  t23 := Try.underlying110
  a23 := Try.isAgg110
  z23 := Try.sizeOf110
  v23 := Try.zeroValue110
  t26 := Try.underlying3
  a26 := Try.isAgg3
  z26 := Try.sizeOf3
  v26 := Try.zeroValue3
  t27 := Try.underlying114
  a27 := Try.isAgg114
  z27 := Try.sizeOf114
  v27 := Try.zeroValue114
  t28 := Try.underlying115
  a28 := Try.isAgg115
  z28 := Try.sizeOf115
  v28 := Try.zeroValue115
  t33 := Try.underlying54
  a33 := Try.isAgg54
  z33 := Try.sizeOf54
  v33 := Try.zeroValue54 }
def Try.sortedA_ren : Go.Shelf.Ren := ⟨fun | 6 => 59 | 8 => 101 | 9 => 80 | 11 => 133 | 13 => 122 | 12 => 121 | 23 => 144 | 24 => 145 | 14 => 135 | 15 => 136 | 16 => 137 | 17 => 138 | 18 => 139 | 19 => 140 | 20 => 141 | 21 => 142 | 22 => 143 | 25 => 148 | 26 => 149 | 27 => 150 | 28 => 151 | 29 => 152 | 30 => 153 | 31 => 154 | n => n, fun | 26 => 3 | 28 => 115 | 24 => 46 | 0 => 0 | 3 => 3 | 37 => 169 | 48 => 147 | 50 => 150 | 4 => 4 | 40 => 182 | 39 => 181 | 45 => 94 | 5 => 5 | 9 => 9 | 51 => 190 | 55 => 194 | 57 => 196 | 58 => 137 | 33 => 54 | n => n, fun | n => n⟩
theorem Try.sortedA : Go.Proofs.SlLaysZI.n6 Try.prog Try.sortedA_ren := {
  mixed := by kernel_rfl
  f6 := ⟨Try.f59.name, by decide, Try.func59.trans (congrArg some (by kernel_rfl))⟩
  f8 := ⟨Try.f101.name, by decide, Try.func101.trans (congrArg some (by kernel_rfl))⟩
  f11 := ⟨Try.f133.name, by decide, Try.func133.trans (congrArg some (by kernel_rfl))⟩
  t0 := Try.underlying0
  a0 := Try.isAgg0
  z0 := Try.sizeOf0
  v0 := Try.zeroValue0
  t24 := Try.underlying46
  a24 := Try.isAgg46
  z24 := Try.sizeOf46
  v24 := Try.zeroValue46
  t26 := Try.underlying3
  a26 := Try.isAgg3
  z26 := Try.sizeOf3
  v26 := Try.zeroValue3
  t28 := Try.underlying115
  a28 := Try.isAgg115
  z28 := Try.sizeOf115
  v28 := Try.zeroValue115
  i26 := by kernel_rfl }
end Go.Proofs
namespace Go.Proofs.Ytfjmhfmhijhpkaa
open Go.RowKit Go.Maps Go.Sort Go.Shelf FF
theorem sorts_in (m : Nat) : AnyZI.SortsIn Try.prog Try.sortedA_ren Fence.wide m :=
  ⟨fun blk off cap ss W hH hblk hsz => callsIn_wide.2 (Try.slices_Sort_int blk off cap ss W hH hblk hsz), fun p cap W => callsIn_wide.2 (Try.slices_Sort_int_none p cap W)⟩
theorem keys_call (mb : Option Nat) (W : World) : Calls Try.prog 60 #[.map mb] W fun e w' => e = .returned (.func (.func 102) #[] #[.pointer (some ⟨W.heap.size, 0, none⟩)]) ∧ w' = W.alloc (.cells #[.map mb] 110) :=
  callsIn_wide.1 (AnyZI.keys_in Try.keysA Fence.wide 5 trivial rfl mb W)
theorem sort_asc {l : List Int} (h : l.Nodup) : (l.mergeSort fun x y => decide (x ≤ y)).Pairwise (· < ·) := by
  have tr : ∀ a b c : Int, decide (a ≤ b) = true → decide (b ≤ c) = true → decide (a ≤ c) = true := fun a b c h1 h2 => by simp only [decide_eq_true_eq] at *; exact Int.le_trans h1 h2
  have to : ∀ a b : Int, (decide (a ≤ b) || decide (b ≤ a)) = true := fun a b => by simp only [Bool.or_eq_true, decide_eq_true_eq]; exact Int.le_total a b
  have h1 := List.pairwise_mergeSort tr to l
  have h2 : (l.mergeSort fun x y => decide (x ≤ y)).Nodup := (List.mergeSort_perm l _).nodup_iff.2 h
  refine (h1.and h2).imp fun {a b} h => ?_
  have h3 : a ≤ b := by simpa using h.1
  have h4 : a ≠ b := h.2
  omega
theorem sorted_keys (W : World) (Bm b n : Nat) (rs : List Refs) (hc : W.cell? ⟨Bm, 0, none⟩ = some (.map (some b))) (hBm : Bm < W.heap.size) (hS : MapS W b n rs) (hn : rs.length ≤ 1000) :
    Calls Try.prog 59 #[.func (.func 102) #[] #[.pointer (some ⟨Bm, 0, none⟩)]] W fun e w' => ∃ v ks, e = .returned v ∧ ks.Pairwise (· < ·) ∧ (∀ m, m ∈ ks ↔ m ∈ keysOf rs) ∧ ks.length = rs.length ∧ Got W 3 1 v ks.length ks w' := by
  obtain ⟨D, h1, h2, h3⟩ := hS.keys
  have hseq : SeqGives Fence.wide 2 Try.prog 102 #[.pointer (some ⟨Bm, 0, none⟩)] encZ (fun ss => ss.Perm (intKeys D)) (Maps.size D) W :=
    AnyZI.keys_gives (ρ := Try.keysA_ren) { Try.keysA with } Fence.wide _ trivial rfl (by omega) Bm b n D W hBm hc h1
  have cS := AnyZI.sorted_in Try.sortedA Fence.wide 5 trivial trivial trivial trivial rfl (by omega) (sorts_in _) (enters_of Try.func80 (by kernel_rfl) rfl) 102 #[.pointer (some ⟨Bm, 0, none⟩)] trivial (enters_of Try.func102 (by kernel_rfl) rfl) _ _ (by rw [h3]; unfold maxLen; omega) (by rw [h3]; omega) W hseq
  refine (callsIn_wide.1 cS).mono ?_
  rintro e w' ⟨v, ss, rfl, hs, hrow, -, hb⟩
  have hp : ss.Perm (keysOf rs) := hs.trans h2.symm
  have hnd : ss.Nodup := hp.nodup_iff.2 hS.nodup
  have hl : (ss.mergeSort fun x y => decide (x ≤ y)).length = ss.length := (List.mergeSort_perm ss _).length_eq
  have hk : ss.length = rs.length := by rw [hp.length_eq]; unfold keysOf; rw [List.length_map]
  refine ⟨v, ss.mergeSort fun x y => decide (x ≤ y), rfl, sort_asc hnd, fun m => ((List.mergeSort_perm ss _).mem_iff).trans hp.mem_iff, by rw [hl, hk], ?_, hb⟩
  rw [hl]
  exact hrow
end Go.Proofs.Ytfjmhfmhijhpkaa
