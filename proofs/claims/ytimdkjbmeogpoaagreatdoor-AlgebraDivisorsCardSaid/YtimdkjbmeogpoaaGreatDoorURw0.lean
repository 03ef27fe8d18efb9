/- The lists of prime powers of the program and of the reference. Factor of the program; Has of the base. -/
import Derived.Test.YtimdkjbmeogpoaaGreatDoorUKn
import Derived.Shelf.Strings.Builder1
import Derived.Shelf.Small.Bits
import Derived.Shelf.Small.Strs
import Derived.Shelf.Small.Wraps
import Derived.Shelf.Strings.BuilderF
import Derived.Shelf.Strings.BuilderK
import Derived.Shelf.Strconv.Atoi
import Derived.Shelf.Strconv.Itoa0
import Derived.Shelf.Strconv.Itoa1
import Derived.Shelf.LaysM
import Derived.Shelf.Strconv.Itoa2
import Derived.Shelf.Strconv.Itoa3
import Derived.Shelf.Strconv.AtoiErrFast
import Derived.Shelf.Strconv.ParseIntEmpty
import Derived.Shelf.Strconv.AtoiFail
import Derived.Shelf.Strconv.Clone
import Derived.Shelf.Strconv.SyntaxError
import Derived.Shelf.Strconv.Lower
import Derived.Shelf.Strconv.ParseUint10
import Derived.Shelf.Strconv.ParseUint10Empty
import Derived.Shelf.Strconv.RangeError
import Derived.Shelf.Strconv.ParseUintEmpty
import Derived.Shelf.Strconv.ParseUint10b64
import Derived.Shelf.Strconv.ParseUint10b32
import Derived.Shelf.Strconv.ParseUint10b16
import Derived.Shelf.Strconv.ParseUint10b8
import Derived.Shelf.Strings.Search1
import Derived.Shelf.Strings.Search2
import Derived.Shelf.Strings.Cut
import Derived.Shelf.Strings.Shaped
import Derived.Shelf.Sort.Plain
import Derived.Shelf.Strings.Prefix
import Derived.Shelf.Strings.BuilderCap
import Derived.Ground.Names2Prog
import Derived.Shelf.Slices.CompactI
import Derived.Shelf.Slices.SearchI
import Derived.Shelf.Slices.Cells
import Derived.Shelf.Slices.In.SortNone
import Derived.Ground.SlgnProg
import Derived.Shelf.SlicesE.Compact
import Derived.Ground.SlgfProg
import Derived.Shelf.SlicesE.IndexFunc
import Derived.Shelf.SlicesE.DeleteFunc
import Derived.Test.YtimdkjbmeogpoaaGreatDoorProg
import Derived.Test.YtimdkjbmeogpoaaGreatDoorUIntA
import Derived.Test.YtimdkjbmeogpoaaGreatDoorUAg0
import Derived.Sort.OwnSortedInts
import Derived.Lib.OwnBridge
import Derived.Laws.IdiomCopy
import Derived.Test.YtimdkjbmeogpoaaGreatDoorUQn0
section
namespace Go.Proofs.YtimdkjbmeogpoaaGreatDoor
open Go.RowKit FF
def Row0 (wr : World) (T : TypeId) (size : Nat) (v : Value) (n : Nat) (xs : List Int) : Prop := wr.ownsRow 0 T size v n (cellsI xs)
theorem Got.row0 {w wr : World} {T : TypeId} {size n : Nat} {v : Value} {xs : List Int} (h : Got w T size v n xs wr) : Row0 wr T size v n xs := by
 refine ⟨h.1.1, ?_⟩
 rcases h.1.2 with h0 | ⟨g, cap, cur, h1, -, h4⟩
 ·exact .inl h0
 ·exact .inr ⟨g, cap, cur, h1, Nat.zero_le _, h4⟩
theorem Row0.keep {wr w2 : World} {T : TypeId} {size n : Nat} {v : Value} {xs : List Int} (h : Row0 wr T size v n xs) (hb : Below wr.heap.size wr w2) : Row0 w2 T size v n xs := by
 refine ⟨h.1, ?_⟩
 rcases h.2 with h0 | ⟨g, cap, cur, h1, h2, h3, h4⟩
 ·exact .inl h0
 ·exact .inr ⟨g, cap, cur, h1, h2, by rw [hb.block g (Array.getElem?_eq_some_iff.1 h3).1]; exact h3, h4⟩
theorem Row0.shows {wr : World} {T : TypeId} {size n : Nat} {v : Value} {xs : List Int} (h : Row0 wr T size v n xs) : ∃ A c, v = .slice A n c ∧ ShowsI wr A xs ∧ n ≤ c ∧ c ≤ maxLen := by
 have hl : xs.length = n * size := by have := h.1; rwa [cellsI_length] at this
 rcases h.2 with ⟨rfl, hn⟩ | ⟨g, cap, cur, rfl, hb, hg, hnc, hcm, hcs, ht⟩
 ·subst hn
  have : xs = [] := List.eq_nil_of_length_eq_zero (by omega)
  subst this
  exact ⟨none, 0, rfl, ShowsI.nil, Nat.le_refl _, by simp [maxLen]⟩
 ·refine ⟨some ⟨g, 0, none⟩, cap, rfl, fun h0 => ⟨g, 0, rfl, (Array.getElem?_eq_some_iff.1 hg).1, fun i hi => ?_⟩, hnc, hcm⟩
  have := h.cellAt i (by rw [← hl]; exact hi)
  rw [Nat.zero_add, this, cellsI_get hi]
theorem Row0.beside {wr w2 : World} {T T' : TypeId} {size size' n n' : Nat} {v v' : Value} {xs xs' : List Int} (h : Row0 wr T size v n xs) (h' : Row0 wr T' size' v' n' xs') (hT : T ≠ T') (hg : wr.grownBy w2 v'.ownBlock) : Row0 w2 T size v n xs := by
 refine ⟨h.1, ?_⟩
 rcases h.2 with h0 | ⟨g, cap, cur, h1, h2, h3, h4⟩
 ·exact .inl h0
 ·refine .inr ⟨g, cap, cur, h1, h2, ?_, h4⟩
  rw [hg.block g (Array.getElem?_eq_some_iff.1 h3).1 (fun e => ?_)]
  ·exact h3
  ·rcases h'.2 with ⟨rfl, -⟩ | ⟨g', cap', cur', rfl, -, h3', -⟩
   ·cases e
   ·simp [Value.ownBlock] at e
    subst e
    rw [h3] at h3'
    injection h3' with h3'
    injection h3' with _ e2
    exact hT e2
theorem wpList_append_got2 {P : Program} {ops : Array Oper} {rest : List Oper} {o : Oper} {a : Act} {Q : Exit → Act → World → Prop} (hgd : o.guard = none) (s x : Operand) (t : TypeId)
  (ho : o.op = .call { callee := .builtin .append, args := #[s, x], argTypes := #[t, t] })
  (E : TypeId) (i : TypeInfo) (z : Value) (size bytes : Nat) (ht : P.underlying t = some (.slice E)) (hi : P.info? E = some i) (hz : i.zero = some z)
  (hsize : i.size = size) (hby : i.bytes = bytes) (hzs : z.cells.size = size) (hsz : 0 < size)
  (v : Value) (n : Nat) (xs : List Int) (hs : a.eval s = v) {w wr : World} (hG : Got w E size v n xs wr) (news : Array Value) (T' : TypeId) (ys : List Int) (hn : news.toList = cellsI ys) (hl : ys.length = size) (c : Nat)
  (hx : a.eval x = .slice (some ⟨wr.heap.size, 0, none⟩) 1 c) (hbound : (n + 1) * bytes ≤ 140737488355328) (h63 : n + 1 ≤ maxLen)
  (h : ∀ v' w', Got w E size v' (n + 1) (xs ++ ys) w' → (wr.alloc (.cells news T')).grownBy w' v.ownBlock → wpList P ops Q rest (a.put o.dst v') w') : wpList P ops Q (o :: rest) a (wr.alloc (.cells news T')) := by
 have hsz' : (wr.alloc (.cells news T')).heap.size = wr.heap.size + 1 := by simp
 refine wpList_append_own (wr.alloc (.cells news T')) hgd s x t ho w.heap.size E i z size bytes ht hi hz hsize hby hzs hsz v n (cellsI xs) hs (hG.alloc _).1 ⟨wr.heap.size, 0, none⟩ 1 c (cellsI ys) hx (by rw [cellsI_length]; omega) (fun j u hj => ?_) (cellsI_one ys) h63 hbound (by have := hG.2.size; omega) (fun v' w' h1 h2 _ => h v' w' ⟨?_, ?_⟩ h2)
 ·rw [Addr.add_lit, Nat.zero_add, World.cell?_alloc_at (w := wr) news T' wr.heap.size j rfl, ← Array.getElem?_toList, hn, hj]
 ·have e : cellsI xs ++ cellsI ys = cellsI (xs ++ ys) := by simp [cellsI]
  rw [← e]; exact h1
 ·exact Below.grown (hG.alloc _).2 h2 (by have := hG.2.size; omega) hG.row_ge
end Go.Proofs.YtimdkjbmeogpoaaGreatDoor
end
section
namespace Go.Proofs
open Go.Shelf
def Tryz.lays170_ren : Go.Shelf.Ren := ⟨fun | 170 => 88 | n => n, fun | 70 => 132 | 3 => 3 | 0 => 0 | 72 => 135 | 37 => 133 | 5 => 5 | n => n, fun | n => n⟩
theorem Tryz.lays170 : Go.Proofs.Lays.n170 Tryz.prog Tryz.lays170_ren := {
 mixed := by kernel_rfl
 f170 := Tryz.func88.trans (congrArg some (by kernel_rfl))
 t0 := Tryz.underlying0
 a0 := Tryz.isAgg0
 z0 := Tryz.sizeOf0
 v0 := Tryz.zeroValue0
 t3 := Tryz.underlying3
 a3 := Tryz.isAgg3
 z3 := Tryz.sizeOf3
 v3 := Tryz.zeroValue3
 t37 := Tryz.underlying133
 a37 := Tryz.isAgg133
 z37 := Tryz.sizeOf133
 v37 := Tryz.zeroValue133
 t70 := Tryz.underlying132
 a70 := Tryz.isAgg132
 z70 := Tryz.sizeOf132
 v70 := Tryz.zeroValue132
 t72 := Tryz.underlying135
 a72 := Tryz.isAgg135
 z72 := Tryz.sizeOf135
 v72 := Tryz.zeroValue135 }
open Go.RowKit in
theorem Tryz.Builder_Len (B b : Nat) (bs : List Value) (w : World) (h : Lib.IsBuilder 135 5 B b bs w) :
  Calls Tryz.prog 88 #[.pointer (some ⟨b, 0, none⟩)] w fun e w' => e = .returned (.int .i64 bs.length) ∧ w' = w := Any.Builder_Len Tryz.lays170 B b bs w h
def Tryz.lays169_ren : Go.Shelf.Ren := ⟨fun | 169 => 91 | n => n, fun | 70 => 132 | 9 => 9 | 0 => 0 | 72 => 135 | 37 => 133 | 127 => 170 | 3 => 3 | 5 => 5 | n => n, fun | n => n⟩
theorem Tryz.lays169 : Go.Proofs.Lays.n169 Tryz.prog Tryz.lays169_ren := {
 mixed := by kernel_rfl
 f169 := Tryz.func91.trans (congrArg some (by kernel_rfl))
 t0 := Tryz.underlying0
 a0 := Tryz.isAgg0
 z0 := Tryz.sizeOf0
 v0 := Tryz.zeroValue0
 t3 := Tryz.underlying3
 a3 := Tryz.isAgg3
 z3 := Tryz.sizeOf3
 v3 := Tryz.zeroValue3
 t9 := Tryz.underlying9
 a9 := Tryz.isAgg9
 z9 := Tryz.sizeOf9
 v9 := Tryz.zeroValue9
 t37 := Tryz.underlying133
 a37 := Tryz.isAgg133
 z37 := Tryz.sizeOf133
 v37 := Tryz.zeroValue133
 t70 := Tryz.underlying132
 a70 := Tryz.isAgg132
 z70 := Tryz.sizeOf132
 v70 := Tryz.zeroValue132
 t72 := Tryz.underlying135
 a72 := Tryz.isAgg135
 z72 := Tryz.sizeOf135
 v72 := Tryz.zeroValue135
 t127 := Tryz.underlying170
 a127 := Tryz.isAgg170
 z127 := Tryz.sizeOf170
 v127 := Tryz.zeroValue170 }
theorem Tryz.Builder_Extra_169 : Builder.Extra Tryz.prog Tryz.lays169_ren := {
 sizeBuilder := by kernel_rfl
 liesBuilder := by kernel_rfl
 t5 := Tryz.underlying5
 a5 := Tryz.isAgg5
 z5 := Tryz.sizeOf5
 v5 := Tryz.zeroValue5
 infoByte := by kernel_rfl
 cellsByte := by kernel_rfl
 sizeByte := by kernel_rfl
 neB5 := by decide }
open Go.RowKit in
theorem Tryz.Builder_String_any (B b : Nat) (l : List UInt8) (w : World) (h : Lib.IsBuilder 135 5 B b (Lib.byteCells l) w) (hBw : B ≤ w.heap.size) :
  Calls Tryz.prog 91 #[.pointer (some ⟨b, 0, none⟩)] w fun e w' => e = .returned (.string ⟨l.toArray⟩) ∧ Below B w w' := Any.Builder_String_any Tryz.lays169 Tryz.Builder_Extra_169 B b l w h hBw
def Tryz.laysM246_ren : Go.Shelf.Ren := ⟨fun | 246 => 132 | 283 => 156 | 284 => 157 | 285 => 158 | 286 => 159 | 129 => 177 | 317 => 183 | 318 => 184 | 319 => 185 | 320 => 186 | 337 => 197 | 338 => 198 | n => n, fun | 2 => 2 | 3 => 3 | 9 => 9 | 4 => 4 | 171 => 190 | 0 => 0 | 53 => 163 | 37 => 133 | 5 => 5 | 173 => 193 | 212 => 212 | 51 => 186 | 20 => 20 | 213 => 213 | 46 => 182 | 232 => 229 | 233 => 230 | n => n, fun | 17 => 3 | 18 => 4 | 19 => 5 | n => n⟩
def Tryz.laysM243_ren : Go.Shelf.Ren := ⟨fun | 243 => 92 | 246 => 132 | 283 => 156 | 284 => 157 | 285 => 158 | 286 => 159 | 129 => 177 | 317 => 183 | 318 => 184 | 319 => 185 | 320 => 186 | 337 => 197 | 338 => 198 | n => n, fun | 3 => 3 | 9 => 9 | 2 => 2 | 4 => 4 | 171 => 190 | 0 => 0 | 53 => 163 | 37 => 133 | 5 => 5 | 173 => 193 | 212 => 212 | 51 => 186 | 20 => 20 | 213 => 213 | 46 => 182 | 232 => 229 | 233 => 230 | n => n, fun | 17 => 3 | 18 => 4 | 19 => 5 | n => n⟩
def Tryz.laysM171_ren : Go.Shelf.Ren := ⟨fun | 171 => 50 | 243 => 92 | 246 => 132 | 283 => 156 | 284 => 157 | 285 => 158 | 286 => 159 | 129 => 177 | 317 => 183 | 318 => 184 | 319 => 185 | 320 => 186 | 337 => 197 | 338 => 198 | n => n, fun | 3 => 3 | 9 => 9 | 2 => 2 | 4 => 4 | 171 => 190 | 0 => 0 | 53 => 163 | 37 => 133 | 5 => 5 | 173 => 193 | 212 => 212 | 51 => 186 | 20 => 20 | 213 => 213 | 46 => 182 | 232 => 229 | 233 => 230 | n => n, fun | 17 => 3 | 18 => 4 | 19 => 5 | n => n⟩
def Tryz.lays171_ren : Go.Shelf.Ren := ⟨fun | 171 => 50 | 243 => 92 | 246 => 132 | 283 => 156 | 284 => 157 | 285 => 158 | 286 => 159 | 129 => 177 | 317 => 183 | 318 => 184 | 319 => 185 | 320 => 186 | 337 => 197 | 338 => 198 | n => n, fun | 3 => 3 | 9 => 9 | 2 => 2 | 4 => 4 | 171 => 190 | 0 => 0 | 53 => 163 | 37 => 133 | 5 => 5 | 173 => 193 | 212 => 212 | 51 => 186 | 20 => 20 | 213 => 213 | 46 => 182 | 232 => 229 | 233 => 230 | n => n, fun | 17 => 3 | 18 => 4 | 19 => 5 | n => n⟩
theorem Tryz.lays171 : Go.Proofs.Lays.n171 Tryz.prog Tryz.lays171_ren := {
 mixed := by kernel_rfl
 f129 := Tryz.func177.trans (congrArg some (by kernel_rfl))
 f171 := Tryz.func50.trans (congrArg some (by kernel_rfl))
 f243 := Tryz.func92.trans (congrArg some (by kernel_rfl))
 f246 := Tryz.func132.trans (congrArg some (by kernel_rfl))
 f283 := Tryz.func156.trans (congrArg some (by kernel_rfl))
 f284 := Tryz.func157.trans (congrArg some (by kernel_rfl))
 f285 := Tryz.func158.trans (congrArg some (by kernel_rfl))
 f286 := Tryz.func159.trans (congrArg some (by kernel_rfl))
 f317 := Tryz.func183.trans (congrArg some (by kernel_rfl))
 f318 := Tryz.func184.trans (congrArg some (by kernel_rfl))
 f319 := Tryz.func185.trans (congrArg some (by kernel_rfl))
 f320 := Tryz.func186.trans (congrArg some (by kernel_rfl))
 f337 := Tryz.func197.trans (congrArg some (by kernel_rfl))
 f338 := Tryz.func198.trans (congrArg some (by kernel_rfl))
 t0 := Tryz.underlying0
 a0 := Tryz.isAgg0
 z0 := Tryz.sizeOf0
 v0 := Tryz.zeroValue0
 t2 := Tryz.underlying2
 a2 := Tryz.isAgg2
 z2 := Tryz.sizeOf2
 v2 := Tryz.zeroValue2
 t3 := Tryz.underlying3
 a3 := Tryz.isAgg3
 z3 := Tryz.sizeOf3
 v3 := Tryz.zeroValue3
 t4 := Tryz.underlying4
 a4 := Tryz.isAgg4
 z4 := Tryz.sizeOf4
 v4 := Tryz.zeroValue4
 t5 := Tryz.underlying5
 a5 := Tryz.isAgg5
 z5 := Tryz.sizeOf5
 v5 := Tryz.zeroValue5
 t9 := Tryz.underlying9
 a9 := Tryz.isAgg9
 z9 := Tryz.sizeOf9
 v9 := Tryz.zeroValue9
 t20 := Tryz.underlying20
 a20 := Tryz.isAgg20
 z20 := Tryz.sizeOf20
 v20 := Tryz.zeroValue20
 t37 := Tryz.underlying133
 a37 := Tryz.isAgg133
 z37 := Tryz.sizeOf133
 v37 := Tryz.zeroValue133
 t46 := Tryz.underlying182
 a46 := Tryz.isAgg182
 z46 := Tryz.sizeOf182
 v46 := Tryz.zeroValue182
 t51 := Tryz.underlying186
 a51 := Tryz.isAgg186
 z51 := Tryz.sizeOf186
 v51 := Tryz.zeroValue186
 t53 := Tryz.underlying163
 a53 := Tryz.isAgg163
 z53 := Tryz.sizeOf163
 v53 := Tryz.zeroValue163
 t171 := Tryz.underlying190
 a171 := Tryz.isAgg190
 z171 := Tryz.sizeOf190
 v171 := Tryz.zeroValue190
 t173 := Tryz.underlying193
 a173 := Tryz.isAgg193
 z173 := Tryz.sizeOf193
 v173 := Tryz.zeroValue193
 t212 := Tryz.underlying212
 a212 := Tryz.isAgg212
 z212 := Tryz.sizeOf212
 v212 := Tryz.zeroValue212
 t213 := Tryz.underlying213
 a213 := Tryz.isAgg213
 z213 := Tryz.sizeOf213
 t232 := Tryz.underlying229
 a232 := Tryz.isAgg229
 z232 := Tryz.sizeOf229
 v232 := Tryz.zeroValue229
 t233 := Tryz.underlying230
 a233 := Tryz.isAgg230
 z233 := Tryz.sizeOf230
 v233 := Tryz.zeroValue230
 g17 := by kernel_rfl
 g18 := by kernel_rfl
 g19 := by kernel_rfl }
open Go.RowKit Go.Sort Go.Lib in
theorem Tryz.strconv_Itoa_small (i : Nat) (hi : i < 100) (w : World) :
  Calls Tryz.prog 50 #[.int .i64 i] w fun e w' => e = .returned (.string ⟨(Lib.decDigits i).toArray⟩) ∧ w' = w := Any.strconv_Itoa_small Tryz.lays171 i hi w
def Tryz.lays189_ren : Go.Shelf.Ren := ⟨fun | 189 => 107 | 125 => 143 | 257 => 142 | 128 => 176 | 129 => 177 | 294 => 167 | 295 => 168 | 296 => 169 | 297 => 170 | 298 => 171 | 299 => 172 | 216 => 173 | 300 => 174 | 301 => 175 | 328 => 190 | 329 => 191 | 330 => 192 | 331 => 193 | 332 => 194 | 215 => 195 | 343 => 199 | n => n, fun | 28 => 88 | 3 => 3 | 46 => 182 | 0 => 0 | 51 => 186 | 53 => 163 | 4 => 4 | 183 => 204 | 182 => 203 | 131 => 126 | 5 => 5 | 9 => 9 | 218 => 221 | 222 => 225 | 228 => 227 | 229 => 122 | n => n, fun | n => n⟩
theorem Tryz.lays189 : Go.Proofs.Lays.n189 Tryz.prog Tryz.lays189_ren := {
 mixed := by kernel_rfl
 f125 := Tryz.func143.trans (congrArg some (by kernel_rfl))
 f128 := Tryz.func176.trans (congrArg some (by kernel_rfl))
 f129 := Tryz.func177.trans (congrArg some (by kernel_rfl))
 f189 := Tryz.func107.trans (congrArg some (by kernel_rfl))
 f215 := Tryz.func195.trans (congrArg some (by kernel_rfl))
 f216 := Tryz.func173.trans (congrArg some (by kernel_rfl))
 f257 := Tryz.func142.trans (congrArg some (by kernel_rfl))
 f294 := Tryz.func167.trans (congrArg some (by kernel_rfl))
 f295 := Tryz.func168.trans (congrArg some (by kernel_rfl))
 f296 := Tryz.func169.trans (congrArg some (by kernel_rfl))
 f297 := Tryz.func170.trans (congrArg some (by kernel_rfl))
 f298 := Tryz.func171.trans (congrArg some (by kernel_rfl))
 f299 := Tryz.func172.trans (congrArg some (by kernel_rfl))
 f300 := Tryz.func174.trans (congrArg some (by kernel_rfl))
 f301 := Tryz.func175.trans (congrArg some (by kernel_rfl))
 f328 := Tryz.func190.trans (congrArg some (by kernel_rfl))
 f329 := Tryz.func191.trans (congrArg some (by kernel_rfl))
 f330 := Tryz.func192.trans (congrArg some (by kernel_rfl))
 f331 := Tryz.func193.trans (congrArg some (by kernel_rfl))
 f332 := Tryz.func194.trans (congrArg some (by kernel_rfl))
 f343 := Tryz.func199.trans (congrArg some (by kernel_rfl))
 t0 := Tryz.underlying0
 a0 := Tryz.isAgg0
 z0 := Tryz.sizeOf0
 v0 := Tryz.zeroValue0
 t3 := Tryz.underlying3
 a3 := Tryz.isAgg3
 z3 := Tryz.sizeOf3
 v3 := Tryz.zeroValue3
 t4 := Tryz.underlying4
 a4 := Tryz.isAgg4
 z4 := Tryz.sizeOf4
 v4 := Tryz.zeroValue4
 t5 := Tryz.underlying5
 a5 := Tryz.isAgg5
 z5 := Tryz.sizeOf5
 v5 := Tryz.zeroValue5
 t9 := Tryz.underlying9
 a9 := Tryz.isAgg9
 z9 := Tryz.sizeOf9
 v9 := Tryz.zeroValue9
 t28 := Tryz.underlying88
 a28 := Tryz.isAgg88
 z28 := Tryz.sizeOf88
 v28 := Tryz.zeroValue88
 t46 := Tryz.underlying182
 a46 := Tryz.isAgg182
 z46 := Tryz.sizeOf182
 v46 := Tryz.zeroValue182
 t51 := Tryz.underlying186
 a51 := Tryz.isAgg186
 z51 := Tryz.sizeOf186
 v51 := Tryz.zeroValue186
 t53 := Tryz.underlying163
 a53 := Tryz.isAgg163
 z53 := Tryz.sizeOf163
 v53 := Tryz.zeroValue163
 t131 := Tryz.underlying126
 a131 := Tryz.isAgg126
 z131 := Tryz.sizeOf126
 v131 := Tryz.zeroValue126
 t182 := Tryz.underlying203
 a182 := Tryz.isAgg203
 z182 := Tryz.sizeOf203
 v182 := Tryz.zeroValue203
 t183 := Tryz.underlying204
 a183 := Tryz.isAgg204
 z183 := Tryz.sizeOf204
 v183 := Tryz.zeroValue204
 t218 := Tryz.underlying221
 a218 := Tryz.isAgg221
 z218 := Tryz.sizeOf221
 v218 := Tryz.zeroValue221
 t222 := Tryz.underlying225
 a222 := Tryz.isAgg225
 z222 := Tryz.sizeOf225
 v222 := Tryz.zeroValue225
 t228 := Tryz.underlying227
 a228 := Tryz.isAgg227
 z228 := Tryz.sizeOf227
 v228 := Tryz.zeroValue227
 t229 := Tryz.underlying122
 a229 := Tryz.isAgg122
 z229 := Tryz.sizeOf122
 v229 := Tryz.zeroValue122 }
open Go.Sort Go.RowKit in
theorem Tryz.slices_Sort_int (blk off cap : Nat) (zs : List Int) (w : World) (hH : Holds (Value.int .i64) w blk off zs.toArray) (hblk : blk < w.heap.size) (hsz : zs.length < 4611686018427387904) :
  Calls Tryz.prog 107 #[.slice (some ⟨blk, off, none⟩) zs.length cap] w fun e w' =>
   e = .returned (.tuple #[]) ∧ ∃ n os, w' = grow (putRow (Value.int .i64) (Sort.ahead w n) blk off (zs.mergeSort fun x y => decide (x ≤ y)).toArray) os := Any.slices_Sort_int Tryz.lays189 blk off cap zs w hH hblk hsz
def Tryz.laysNm220_ren : Go.Shelf.Ren := ⟨fun | 20 => 108 | n => n, fun | 22 => 88 | 3 => 3 | 4 => 4 | 0 => 0 | n => n, fun | n => n⟩
theorem Tryz.laysNm220 : Go.Proofs.Lays2.n20 Tryz.prog Tryz.laysNm220_ren := {
 mixed := by kernel_rfl
 f20 := Tryz.func108.trans (congrArg some (by kernel_rfl))
 t0 := Tryz.underlying0
 a0 := Tryz.isAgg0
 z0 := Tryz.sizeOf0
 v0 := Tryz.zeroValue0
 t3 := Tryz.underlying3
 a3 := Tryz.isAgg3
 z3 := Tryz.sizeOf3
 v3 := Tryz.zeroValue3
 t4 := Tryz.underlying4
 a4 := Tryz.isAgg4
 z4 := Tryz.sizeOf4
 v4 := Tryz.zeroValue4
 t22 := Tryz.underlying88
 a22 := Tryz.isAgg88
 z22 := Tryz.sizeOf88
 v22 := Tryz.zeroValue88
 i3 := by kernel_rfl }
open Go.RowKit Go.Lib Go.Sort in
theorem Tryz.slices_Compact_int (blk off cap : Nat) (zs : List Int) (w : World) (hH : Holds (Value.int .i64) w blk off zs.toArray) (hsz : zs.length ≤ 9223372036854775807) (hcap : zs.length ≤ cap) :
  Calls Tryz.prog 108 #[.slice (some ⟨blk, off, none⟩) zs.length cap] w fun e w' => e = .returned (.slice (some ⟨blk, off, none⟩) (Lib.compact zs).length cap) ∧ ∃ q, w' = putRow (Value.int .i64) (Sort.ahead w q) blk off (Lib.compact zs ++ List.replicate (zs.length - (Lib.compact zs).length) 0).toArray := Any.slices_Compact_int Tryz.laysNm220 blk off cap zs w hH hsz hcap
open Go.RowKit Go.Sort in
theorem Tryz.slices_Sort_int_none (p : Option Addr) (cap : Nat) (w : World) :
  Calls Tryz.prog 107 #[.slice p 0 cap] w fun e w' => e = .returned (.tuple #[]) ∧ w' = w := Any.slices_Sort_int_none Tryz.lays189 p cap w
def Tryz.laysSlH10_f109_ren : Go.Shelf.Ren := ⟨fun | 10 => 109 | 6 => 144 | n => n, fun | 22 => 88 | 23 => 3 | 25 => 67 | 3 => 3 | 4 => 4 | 0 => 0 | n => n, fun | n => n⟩
theorem Tryz.laysSlH10_f109 : Go.Proofs.SlLaysH.n10 Tryz.prog Tryz.laysSlH10_f109_ren := {
 mixed := by kernel_rfl
 f6 := ⟨Tryz.f144.name, by decide, Tryz.func144.trans (congrArg some (by kernel_rfl))⟩
 f10 := ⟨Tryz.f109.name, by decide, Tryz.func109.trans (congrArg some (by kernel_rfl))⟩
 t0 := Tryz.underlying0
 a0 := Tryz.isAgg0
 z0 := Tryz.sizeOf0
 v0 := Tryz.zeroValue0
 t3 := Tryz.underlying3
 a3 := Tryz.isAgg3
 z3 := Tryz.sizeOf3
 v3 := Tryz.zeroValue3
 t4 := Tryz.underlying4
 a4 := Tryz.isAgg4
 z4 := Tryz.sizeOf4
 v4 := Tryz.zeroValue4
 t22 := Tryz.underlying88
 a22 := Tryz.isAgg88
 z22 := Tryz.sizeOf88
 v22 := Tryz.zeroValue88
 a23 := Tryz.isAgg3
 z23 := Tryz.sizeOf3
 t25 := Tryz.underlying67
 a25 := Tryz.isAgg67
 z25 := Tryz.sizeOf67
 v25 := Tryz.zeroValue67 }
open Go.RowKit Go.Lib Go.Sort in
theorem Tryz.slices_DeleteFunc {α : Type} [Inhabited α] (enc : α → Value) (hO : OneCell enc) (p : α → Bool) (g : Nat) (lb : Array Value) (eg : ∀ args w, (callFunc g args).run Tryz.prog w = .ok (.enter g args) w) (zr : α) (v23 : ∀ w, (zeroValue 3).run Tryz.prog w = .ok (enc zr) w) (blk off cap : Nat) (d : Array α) (w : World) (hp : PredAt Tryz.prog g lb enc p w) (hpo : PredOver Tryz.prog g lb enc p blk off d.size w) (hH : Holds enc w blk off d) (hsz : d.size ≤ 9223372036854775807) (hcap : d.size ≤ cap) :
  Calls Tryz.prog 109 #[.slice (some ⟨blk, off, none⟩) d.size cap, .func (.func g) #[] lb] w fun e w' => e = .returned (.slice (some ⟨blk, off, none⟩) (d.toList.filter fun x => !p x).length cap) ∧ ∃ q, w' = putRow enc (Sort.ahead w q) blk off ((d.toList.filter fun x => !p x) ++ List.replicate (d.size - (d.toList.filter fun x => !p x).length) zr).toArray := AnyE.slices_DeleteFunc Tryz.laysSlH10_f109 enc hO p g lb eg zr v23 blk off cap d w hp hpo hH hsz hcap
end Go.Proofs
end
section
namespace Go.Proofs.YtimdkjbmeogpoaaGreatDoor
open Go.RowKit FF
def sortI (xs : List Int) : List Int := xs.mergeSort fun x y => decide (x ≤ y)
theorem sortI_length (xs : List Int) : (sortI xs).length = xs.length := List.length_mergeSort xs
theorem Sort_own {B : Nat} (v : Value) (xs : List Int) (w : World) (h : w.ownsRow B 3 1 v xs.length (cellsI xs)) (hl : xs.length < 4611686018427387904) :
  Calls Tryz.prog 107 #[v] w fun e w' => e = .returned (.tuple #[]) ∧ w'.ownsRow B 3 1 v xs.length (cellsI (sortI xs)) ∧ w.grownBy w' v.ownBlock := by
 rcases h.2 with ⟨rfl, h0⟩ | ⟨g, cap, cur, rfl, hb, hg, hnc, hcm, hcs, ht⟩
 ·have hx : xs = [] := List.eq_nil_of_length_eq_zero h0
  subst hx
  refine (Tryz.slices_Sort_int_none none 0 w).mono ?_
  rintro e w' ⟨rfl, rfl⟩
  refine ⟨rfl, ?_, ⟨rfl, rfl, rfl, Nat.le_refl _, fun _ _ _ => rfl⟩⟩
  have : sortI [] = [] := List.eq_nil_of_length_eq_zero (sortI_length [])
  rw [this]; exact h
 ·obtain ⟨g', cap', hv, _, hgl, _, _, _, hH⟩ := Lib.holds_of_ownsRow (enc := Value.int .i64) h (by simp)
  cases hv
  refine (Tryz.slices_Sort_int g 0 cap xs w hH hgl hl).mono ?_
  rintro e w' ⟨rfl, n, os, rfl⟩
  exact ⟨rfl, _root_.Go.ownsRow_sortedI (sortI_length xs) hb hg hnc hcm hcs, _root_.Go.grownBy_sortedI _⟩
def flatP (l : List (Int × Nat)) : List Int := l.flatMap fun x => [x.1, (x.2 : Int)]
theorem flatP_snoc (l : List (Int × Nat)) (p : Int) (k : Nat) : flatP l ++ [p, (k : Int)] = flatP (l ++ [(p, k)]) := by simp [flatP]
theorem flatP_get {l : List (Int × Nat)} {i : Nat} (h : i < l.length) : (flatP l).getD (2 * i) 0 = (l.getD i (0, 0)).1 ∧ (flatP l).getD (2 * i + 1) 0 = ((l.getD i (0, 0)).2 : Int) := by
 induction l generalizing i with
 | nil => simp at h
 | cons x l ih =>
  cases i with
  | zero => exact ⟨rfl, rfl⟩
  | succ i =>
   have := ih (i := i) (by simpa using h)
   rw [show 2 * (i + 1) = 2 * i + 1 + 1 by omega]
   exact this
theorem flatP_len (l : List (Int × Nat)) : (flatP l).length = 2 * l.length := by
 induction l with
 | nil => rfl
 | cons x l ih => show (flatP l).length + 1 + 1 = _; rw [ih, List.length_cons]; omega
theorem info_power : (Tryz.prog.info? 152).map (fun i => (i.zero, i.size, i.bytes)) = some (some (.agg #[.int .i64 0, .int .i64 0]), 2, 16) := by kernel_rfl
def facW (w : World) (N : Int) (l : List (Int × Nat)) (p n : Int) (v : Value) (wr : World) : Prop := FacRel N l p n ∧ Got w 152 2 v l.length (flatP l) wr
theorem facW.app {w : World} {v : Value} {l : List (Int × Nat)} {p : Int} {k : Nat} {w2 : World} (h : Got w 152 2 v (l.length + 1) (flatP l ++ [p, (k : Int)]) w2) :
  Got w 152 2 v (l ++ [(p, k)]).length (flatP (l ++ [(p, k)])) w2 := by
 rw [flatP_snoc] at h; rw [List.length_append]; exact h
theorem vp_small {p n : Int} (hp : 2 ≤ p) (hn : 1 ≤ n) (h : n ≤ 1000000000) : vp p n ≤ 30 := by
 have h1 := vp_lt hp (show n ≠ 0 by omega)
 rcases Nat.lt_or_ge 30 (vp p n) with g | g
 ·exfalso
  have h2 : 2 ^ 31 ≤ 2 ^ vp p n := Nat.pow_le_pow_right (by omega) g
  omega
 ·exact g
set_option maxHeartbeats 1000000 in
theorem factors_any (n : Int) (w : World) (h1 : 1 ≤ n) (h2 : n ≤ 1000000000) :
  Calls Tryz.prog 141 #[.int .i64 n] w fun e w' => ∃ v, e = .returned v ∧ Got w 152 2 v (facs n).length (flatP (facs n)) w' := by
 obtain ⟨i0, hi, hz0, hz1, hz2⟩ := info_parts info_power
 have HI := lhd hi; have HZ0 := lhd hz0; have HZ1 := lhd hz1; have HZ2 := lhd hz2
 clear hi hz0 hz1 hz2
 have hV := lhd (fun (p x : Int) (w : World) (hp : 2 ≤ p) (hp2 : p ≤ 31622) (hx : 1 ≤ x) (hx2 : x ≤ 1000000000) => valuation_any x p w ⟨by omega, by omega⟩ (by omega) hp (by omega))
 go_enter Tryz.func141, Tryz.ntmps141
 go_wp2_with fail
 go_loopw [0, 3, 4, 5, 6] (fun s0 s3 s4 _ _ wr => ∃ (x p : Int) (l : List (Int × Nat)), s0 = .int .i64 x ∧ s4 = .int .i64 p ∧ p ≤ 31623 ∧ facW w n l p x s3 wr) (fun _ _ s4 _ _ _ => (31625 - intOf s4).toNat)
 case atStart => exact ⟨n, 2, [], rfl, rfl, by omega, FacRel.start h1, Got.start (Below.refl _ _)⟩
 case round =>
  obtain ⟨x, p, l, rfl, rfl, hp3, hF, hG⟩ := hrel
  have hl := hF.len h2
  have HF := lhd hF; have HG := lhd hG
  obtain ⟨_, p2, x1, x2, _⟩ := hF
  clear hG
  by_cases hsq : p * p ≤ x
  ·have hp4 := sq_bound (by omega) hsq (by omega)
   have hpp : 0 ≤ p * p := Int.mul_nonneg (by omega) (by omega)
   by_cases hm : x % p = 0
   ·have hd := t_beq hm
    have HN := lhd (HF.out.go hsq hm)
    have hk := vp_small p2 x1 (by omega)
    obtain ⟨r1, r2⟩ := rest_le p2 x1
    clear hm HF
    go_wp2_with fail
    refine (hV.out p x _ p2 hp4 x1 (by omega)).mono ?_
    rintro e w' ⟨rfl, n1, rfl⟩
    have HG1 := lhd (HG.out.drewN n1)
    clear HG
    generalize rest p x = r at *
    generalize vp p x = k at *
    go_wp2_with (at_builtin; refine wpList_append_got rfl (.tmp 24) (.tmp 28) 148 rfl 152 i0 _ 2 16 Tryz.underlying148 HI.out HZ0.out HZ1.out HZ2.out rfl (by decide) _ l.length (flatP l) rfl HG1.out _ _ [p, (k : Int)] rfl rfl 1 rfl (by omega) (by unfold maxLen; omega) ?_; intro v' w2 hg2; have HG2 := lhd hg2; clear hg2)
    exact ⟨⟨r, p + 1, _, rfl, rfl, by omega, HN.out, facW.app HG2.out⟩, by show (31625 - (p + 1)).toNat < (31625 - p).toNat; omega⟩
   ·have hd := f_beq hm
    have HN := lhd (HF.out.skip hsq hm)
    clear hm HF
    go_wp2_with fail
    exact ⟨⟨x, p + 1, l, rfl, rfl, by omega, HN.out, HG.out⟩, by show (31625 - (p + 1)).toNat < (31625 - p).toNat; omega⟩
  ·have hpp : p * p ≤ 1000000000000 := by
    have := Int.mul_le_mul hp3 hp3 (by omega) (by omega)
    omega
   have hsq' : x < p * p := by omega
   by_cases hx : 1 < x
   ·have HN := lhd (HF.out.last hsq' hx)
    clear HF
    go_wp2_with (at_builtin; refine wpList_append_got rfl (.tmp 33) (.tmp 36) 148 rfl 152 i0 _ 2 16 Tryz.underlying148 HI.out HZ0.out HZ1.out HZ2.out rfl (by decide) _ l.length (flatP l) rfl HG.out _ _ [x, 1] rfl rfl 1 rfl (by omega) (by unfold maxLen; omega) ?_; intro v' w2 hg2; have HG2 := lhd hg2; clear hg2)
    go_ret
    exact ⟨v', rfl, HN.out ▸ facW.app (k := 1) HG2.out⟩
   ·have HN := lhd (HF.out.done hsq' hx)
    clear HF
    go_wp2_with fail
    go_ret
    exact ⟨_, rfl, HN.out ▸ HG.out⟩
end Go.Proofs.YtimdkjbmeogpoaaGreatDoor
namespace Go.Proofs.YtimdkjbmeogpoaaGreatDoor
open Go.RowKit FF
theorem Factor_any (n : Int) (w : World) (h1 : 1 ≤ n) (h2 : n ≤ 1000000000) :
  Calls Tryz.prog 106 #[.int .i64 n] w fun e w' => ∃ v, e = .returned (.tuple #[v, .int .i64 0]) ∧ Got w 152 2 v (facs n).length (flatP (facs n)) w' := by
 have hM := lhd (fun w => (modB_true (m := n)).2 ⟨h1, h2⟩ ▸ modulus_any n w)
 have hF := lhd (fun w => factors_any n w h1 h2)
 go_enter Tryz.func106, Tryz.ntmps106
 go_wp2_with fail
 refine (hM.out _).mono ?_
 rintro e w' ⟨rfl, n1, rfl⟩
 go_wp2_with fail
 refine (hF.out _).mono ?_
 rintro e w' ⟨v, rfl, hG⟩
 have HG := lhd hG
 clear hG
 go_wp2_with fail
 go_ret2
 exact ⟨v, rfl, HG.out.1, (below_drewN (Below.refl w.heap.size w) n1).trans HG.out.2⟩
end Go.Proofs.YtimdkjbmeogpoaaGreatDoor
end
