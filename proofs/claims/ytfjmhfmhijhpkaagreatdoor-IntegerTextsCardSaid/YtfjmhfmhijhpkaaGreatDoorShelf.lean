/- The library's contracts at this program: what lay-shelf and lay-plain print. -/
import Derived.Shelf.Strings.Builder1
import Derived.Shelf.Strings.Builder2
import Derived.Shelf.Strings.OnBuilder
import Derived.Shelf.Small.Bits
import Derived.Shelf.Small.Strs
import Derived.Shelf.Small.Wraps
import Derived.Shelf.Strings.BuilderF
import Derived.Shelf.Strings.BuilderK
import Derived.Shelf.Strings.Builder2Cap
import Derived.Shelf.Strconv.Atoi
import Derived.Shelf.Strconv.Itoa0
import Derived.Shelf.Strconv.Itoa1
import Derived.Shelf.LaysM
import Derived.Shelf.Strconv.Itoa2
import Derived.Shelf.Strconv.Itoa3
import Derived.Shelf.Strconv.AtoiErrFast
import Derived.Shelf.Strconv.ParseIntEmpty
import Derived.Shelf.Strconv.AtoiFail
import Derived.Shelf.Strconv.Clone
import Derived.Shelf.Strconv.SyntaxError
import Derived.Shelf.Strconv.Lower
import Derived.Shelf.Strconv.ParseUint10
import Derived.Shelf.Strconv.ParseUint10Empty
import Derived.Shelf.Strconv.RangeError
import Derived.Shelf.Strconv.ParseUintEmpty
import Derived.Shelf.Strconv.ParseUint10b64
import Derived.Shelf.Strconv.ParseUint10b32
import Derived.Shelf.Strconv.ParseUint10b16
import Derived.Shelf.Strconv.ParseUint10b8
import Derived.Shelf.Strings.Search1
import Derived.Shelf.Strings.Search2
import Derived.Shelf.Strings.Cut
import Derived.Shelf.Strings.Shaped
import Derived.Shelf.Sort.Plain
import Derived.Shelf.Strings.Prefix
import Derived.Shelf.Bits.Mul64
import Derived.Shelf.Strings.Repeat
import Derived.Shelf.Strings.BuilderCap
import Derived.Shelf.Slices.Equal
import Derived.Ground.Names2Prog
import Derived.Shelf.Slices.CompactI
import Derived.Shelf.Slices.SearchI
import Derived.Shelf.Slices.Cells
import Derived.Shelf.Slices.In.SortNone
import Derived.Shelf.Slices.Empties2
import Derived.Ground.SlgnProg
import Derived.Shelf.SlicesE.Equal
import Derived.Shelf.SlicesE.Compact
import Derived.Ground.SlgfProg
import Derived.Shelf.SlicesE.IndexFunc
import Derived.Shelf.SlicesE.DeleteFunc
import Derived.Test.YtfjmhfmhijhpkaaGreatDoorProg
namespace Go.Proofs
open Go.Shelf
def Tryz.lays170_ren : Go.Shelf.Ren := ⟨fun | 170 => 157 | n => n, fun | 70 => 204 | 3 => 3 | 0 => 0 | 72 => 207 | 37 => 205 | 5 => 5 | n => n, fun | n => n⟩
theorem Tryz.lays170 : Go.Proofs.Lays.n170 Tryz.prog Tryz.lays170_ren := {
  mixed := by kernel_rfl
  f170 := Tryz.func157.trans (congrArg some (by kernel_rfl))
  t0 := Tryz.underlying0
  a0 := Tryz.isAgg0
  z0 := Tryz.sizeOf0
  v0 := Tryz.zeroValue0
  t3 := Tryz.underlying3
  a3 := Tryz.isAgg3
  z3 := Tryz.sizeOf3
  v3 := Tryz.zeroValue3
  t37 := Tryz.underlying205
  a37 := Tryz.isAgg205
  z37 := Tryz.sizeOf205
  v37 := Tryz.zeroValue205
  t70 := Tryz.underlying204
  a70 := Tryz.isAgg204
  z70 := Tryz.sizeOf204
  v70 := Tryz.zeroValue204
  t72 := Tryz.underlying207
  a72 := Tryz.isAgg207
  z72 := Tryz.sizeOf207
  v72 := Tryz.zeroValue207 }
open Go.RowKit in
theorem Tryz.Builder_Len (B b : Nat) (bs : List Value) (w : World) (h : Lib.IsBuilder 207 5 B b bs w) :
    Calls Tryz.prog 157 #[.pointer (some ⟨b, 0, none⟩)] w fun e w' => e = .returned (.int .i64 bs.length) ∧ w' = w := Any.Builder_Len Tryz.lays170 B b bs w h
def Tryz.lays169_ren : Go.Shelf.Ren := ⟨fun | 169 => 158 | n => n, fun | 70 => 204 | 9 => 9 | 0 => 0 | 72 => 207 | 37 => 205 | 127 => 237 | 3 => 3 | 5 => 5 | n => n, fun | n => n⟩
theorem Tryz.lays169 : Go.Proofs.Lays.n169 Tryz.prog Tryz.lays169_ren := {
  mixed := by kernel_rfl
  f169 := Tryz.func158.trans (congrArg some (by kernel_rfl))
  t0 := Tryz.underlying0
  a0 := Tryz.isAgg0
  z0 := Tryz.sizeOf0
  v0 := Tryz.zeroValue0
  t3 := Tryz.underlying3
  a3 := Tryz.isAgg3
  z3 := Tryz.sizeOf3
  v3 := Tryz.zeroValue3
  t9 := Tryz.underlying9
  a9 := Tryz.isAgg9
  z9 := Tryz.sizeOf9
  v9 := Tryz.zeroValue9
  t37 := Tryz.underlying205
  a37 := Tryz.isAgg205
  z37 := Tryz.sizeOf205
  v37 := Tryz.zeroValue205
  t70 := Tryz.underlying204
  a70 := Tryz.isAgg204
  z70 := Tryz.sizeOf204
  v70 := Tryz.zeroValue204
  t72 := Tryz.underlying207
  a72 := Tryz.isAgg207
  z72 := Tryz.sizeOf207
  v72 := Tryz.zeroValue207
  t127 := Tryz.underlying237
  a127 := Tryz.isAgg237
  z127 := Tryz.sizeOf237
  v127 := Tryz.zeroValue237 }
theorem Tryz.Builder_Extra_169 : Builder.Extra Tryz.prog Tryz.lays169_ren := {
  sizeBuilder := by kernel_rfl
  liesBuilder := by kernel_rfl
  t5 := Tryz.underlying5
  a5 := Tryz.isAgg5
  z5 := Tryz.sizeOf5
  v5 := Tryz.zeroValue5
  infoByte := by kernel_rfl
  cellsByte := by kernel_rfl
  sizeByte := by kernel_rfl
  neB5 := by decide }
open Go.RowKit in
theorem Tryz.Builder_String (B b : Nat) (l : List UInt8) (w : World) (h : Lib.IsBuilder 207 5 B b (Lib.byteCells l) w) (h0 : l ≠ []) :
    Calls Tryz.prog 158 #[.pointer (some ⟨b, 0, none⟩)] w fun e w' => e = .returned (.string ⟨l.toArray⟩) ∧ Below B w w' := Any.Builder_String Tryz.lays169 Tryz.Builder_Extra_169 B b l w h h0
open Go.RowKit in
theorem Tryz.Builder_String_empty (B b : Nat) (w : World) (h : Lib.IsBuilder 207 5 B b [] w) (hBw : B ≤ w.heap.size) :
    Calls Tryz.prog 158 #[.pointer (some ⟨b, 0, none⟩)] w fun e w' => e = .returned (.string ⟨#[]⟩) ∧ Below B w w' := Any.Builder_String_empty Tryz.lays169 Tryz.Builder_Extra_169 B b w h hBw
open Go.RowKit in
theorem Tryz.Builder_String_any (B b : Nat) (l : List UInt8) (w : World) (h : Lib.IsBuilder 207 5 B b (Lib.byteCells l) w) (hBw : B ≤ w.heap.size) :
    Calls Tryz.prog 158 #[.pointer (some ⟨b, 0, none⟩)] w fun e w' => e = .returned (.string ⟨l.toArray⟩) ∧ Below B w w' := Any.Builder_String_any Tryz.lays169 Tryz.Builder_Extra_169 B b l w h hBw
def Tryz.lays241_ren : Go.Shelf.Ren := ⟨fun | 241 => 197 | 277 => 229 | n => n, fun | 70 => 204 | 3 => 3 | 0 => 0 | 72 => 207 | 37 => 205 | 5 => 5 | n => n, fun | n => n⟩
theorem Tryz.lays241 : Go.Proofs.Lays.n241 Tryz.prog Tryz.lays241_ren := {
  mixed := by kernel_rfl
  f241 := Tryz.func197.trans (congrArg some (by kernel_rfl))
  f277 := Tryz.func229.trans (congrArg some (by kernel_rfl))
  t0 := Tryz.underlying0
  a0 := Tryz.isAgg0
  z0 := Tryz.sizeOf0
  v0 := Tryz.zeroValue0
  t3 := Tryz.underlying3
  a3 := Tryz.isAgg3
  z3 := Tryz.sizeOf3
  v3 := Tryz.zeroValue3
  t37 := Tryz.underlying205
  a37 := Tryz.isAgg205
  z37 := Tryz.sizeOf205
  v37 := Tryz.zeroValue205
  t70 := Tryz.underlying204
  a70 := Tryz.isAgg204
  z70 := Tryz.sizeOf204
  v70 := Tryz.zeroValue204
  t72 := Tryz.underlying207
  a72 := Tryz.isAgg207
  z72 := Tryz.sizeOf207
  v72 := Tryz.zeroValue207 }
theorem Tryz.Builder_Extra_241 : Builder.Extra Tryz.prog Tryz.lays241_ren := {
  sizeBuilder := by kernel_rfl
  liesBuilder := by kernel_rfl
  t5 := Tryz.underlying5
  a5 := Tryz.isAgg5
  z5 := Tryz.sizeOf5
  v5 := Tryz.zeroValue5
  infoByte := by kernel_rfl
  cellsByte := by kernel_rfl
  sizeByte := by kernel_rfl
  neB5 := by decide }
open Go.RowKit in
theorem Tryz.Builder_grow_fresh (B b n : Nat) (w : World) (hB : B ≤ b) (hbk : w.heap[b]? = some (.cells #[.pointer (some ⟨b, 0, none⟩), .slice none 0 0] 207 (0, 0))) (hBw : B ≤ w.heap.size) (hn : n ≤ 281474976710656) :
    Calls Tryz.prog 197 #[.pointer (some ⟨b, 0, none⟩), .int .i64 n] w fun e w' => e = .returned (.tuple #[]) ∧ (Lib.BuilderAt 207 5 B b (.pointer (some ⟨b, 0, none⟩)) [] w' ∧ Below B w w') := Any.Builder_grow_fresh Tryz.lays241 Tryz.Builder_Extra_241 B b n w hB hbk hBw hn
def Tryz.lays165_ren : Go.Shelf.Ren := ⟨fun | 165 => 155 | 240 => 196 | 241 => 197 | 276 => 228 | 277 => 229 | n => n, fun | 70 => 204 | 3 => 3 | 0 => 0 | 4 => 4 | 9 => 9 | 20 => 20 | 72 => 207 | 37 => 205 | 164 => 261 | 5 => 5 | n => n, fun | n => n⟩
theorem Tryz.lays165 : Go.Proofs.Lays.n165 Tryz.prog Tryz.lays165_ren := {
  mixed := by kernel_rfl
  f165 := Tryz.func155.trans (congrArg some (by kernel_rfl))
  f240 := Tryz.func196.trans (congrArg some (by kernel_rfl))
  f241 := Tryz.func197.trans (congrArg some (by kernel_rfl))
  f276 := Tryz.func228.trans (congrArg some (by kernel_rfl))
  f277 := Tryz.func229.trans (congrArg some (by kernel_rfl))
  t0 := Tryz.underlying0
  a0 := Tryz.isAgg0
  z0 := Tryz.sizeOf0
  v0 := Tryz.zeroValue0
  t3 := Tryz.underlying3
  a3 := Tryz.isAgg3
  z3 := Tryz.sizeOf3
  v3 := Tryz.zeroValue3
  t4 := Tryz.underlying4
  a4 := Tryz.isAgg4
  z4 := Tryz.sizeOf4
  v4 := Tryz.zeroValue4
  t9 := Tryz.underlying9
  a9 := Tryz.isAgg9
  z9 := Tryz.sizeOf9
  v9 := Tryz.zeroValue9
  t20 := Tryz.underlying20
  a20 := Tryz.isAgg20
  z20 := Tryz.sizeOf20
  v20 := Tryz.zeroValue20
  t37 := Tryz.underlying205
  a37 := Tryz.isAgg205
  z37 := Tryz.sizeOf205
  v37 := Tryz.zeroValue205
  t70 := Tryz.underlying204
  a70 := Tryz.isAgg204
  z70 := Tryz.sizeOf204
  v70 := Tryz.zeroValue204
  t72 := Tryz.underlying207
  a72 := Tryz.isAgg207
  z72 := Tryz.sizeOf207
  v72 := Tryz.zeroValue207
  t164 := Tryz.underlying261
  a164 := Tryz.isAgg261
  z164 := Tryz.sizeOf261
  v164 := Tryz.zeroValue261 }
theorem Tryz.Builder_Extra_165 : Builder.Extra Tryz.prog Tryz.lays165_ren := {
  sizeBuilder := by kernel_rfl
  liesBuilder := by kernel_rfl
  t5 := Tryz.underlying5
  a5 := Tryz.isAgg5
  z5 := Tryz.sizeOf5
  v5 := Tryz.zeroValue5
  infoByte := by kernel_rfl
  cellsByte := by kernel_rfl
  sizeByte := by kernel_rfl
  neB5 := by decide }
open Go.RowKit in
theorem Tryz.Builder_Grow_fresh (B b n : Nat) (w : World) (hB : B ≤ b) (hbk : w.heap[b]? = some (.cells #[.pointer none, .slice none 0 0] 207 (0, 0))) (hBw : B ≤ w.heap.size) (hn : n ≤ 281474976710656) :
    Calls Tryz.prog 155 #[.pointer (some ⟨b, 0, none⟩), .int .i64 n] w fun e w' => e = .returned (.tuple #[]) ∧ (Lib.BuilderAt 207 5 B b (.pointer (some ⟨b, 0, none⟩)) [] w' ∧ Below B w w') := Any.Builder_Grow_fresh Tryz.lays165 Tryz.Builder_Extra_165 B b n w hB hbk hBw hn
def Tryz.lays156_ren : Go.Shelf.Ren := ⟨fun | 156 => 91 | 165 => 155 | 166 => 156 | 169 => 158 | 240 => 196 | 241 => 197 | 276 => 228 | 277 => 229 | n => n, fun | 31 => 142 | 9 => 9 | 3 => 3 | 4 => 4 | 0 => 0 | 20 => 20 | 72 => 207 | 76 => 158 | 70 => 204 | 37 => 205 | 75 => 157 | 127 => 237 | 164 => 261 | 5 => 5 | 80 => 153 | n => n, fun | n => n⟩
theorem Tryz.lays156 : Go.Proofs.Lays.n156 Tryz.prog Tryz.lays156_ren := {
  mixed := by kernel_rfl
  f156 := Tryz.func91.trans (congrArg some (by kernel_rfl))
  f165 := Tryz.func155.trans (congrArg some (by kernel_rfl))
  f166 := Tryz.func156.trans (congrArg some (by kernel_rfl))
  f169 := Tryz.func158.trans (congrArg some (by kernel_rfl))
  f240 := Tryz.func196.trans (congrArg some (by kernel_rfl))
  f241 := Tryz.func197.trans (congrArg some (by kernel_rfl))
  f276 := Tryz.func228.trans (congrArg some (by kernel_rfl))
  f277 := Tryz.func229.trans (congrArg some (by kernel_rfl))
  t0 := Tryz.underlying0
  a0 := Tryz.isAgg0
  z0 := Tryz.sizeOf0
  v0 := Tryz.zeroValue0
  t3 := Tryz.underlying3
  a3 := Tryz.isAgg3
  z3 := Tryz.sizeOf3
  v3 := Tryz.zeroValue3
  t4 := Tryz.underlying4
  a4 := Tryz.isAgg4
  z4 := Tryz.sizeOf4
  v4 := Tryz.zeroValue4
  t9 := Tryz.underlying9
  a9 := Tryz.isAgg9
  z9 := Tryz.sizeOf9
  v9 := Tryz.zeroValue9
  t20 := Tryz.underlying20
  a20 := Tryz.isAgg20
  z20 := Tryz.sizeOf20
  v20 := Tryz.zeroValue20
  t31 := Tryz.underlying142
  a31 := Tryz.isAgg142
  z31 := Tryz.sizeOf142
  v31 := Tryz.zeroValue142
  t37 := Tryz.underlying205
  a37 := Tryz.isAgg205
  z37 := Tryz.sizeOf205
  v37 := Tryz.zeroValue205
  t70 := Tryz.underlying204
  a70 := Tryz.isAgg204
  z70 := Tryz.sizeOf204
  v70 := Tryz.zeroValue204
  t72 := Tryz.underlying207
  a72 := Tryz.isAgg207
  z72 := Tryz.sizeOf207
  v72 := Tryz.zeroValue207
  t75 := Tryz.underlying157
  a75 := Tryz.isAgg157
  z75 := Tryz.sizeOf157
  v75 := Tryz.zeroValue157
  t76 := Tryz.underlying158
  a76 := Tryz.isAgg158
  z76 := Tryz.sizeOf158
  v76 := Tryz.zeroValue158
  t127 := Tryz.underlying237
  a127 := Tryz.isAgg237
  z127 := Tryz.sizeOf237
  v127 := Tryz.zeroValue237
  t164 := Tryz.underlying261
  a164 := Tryz.isAgg261
  z164 := Tryz.sizeOf261
  v164 := Tryz.zeroValue261 }
theorem Tryz.Builder_Extra_156 : Builder.Extra Tryz.prog Tryz.lays156_ren := {
  sizeBuilder := by kernel_rfl
  liesBuilder := by kernel_rfl
  t5 := Tryz.underlying5
  a5 := Tryz.isAgg5
  z5 := Tryz.sizeOf5
  v5 := Tryz.zeroValue5
  infoByte := by kernel_rfl
  cellsByte := by kernel_rfl
  sizeByte := by kernel_rfl
  neB5 := by decide }
open Go.RowKit in
theorem Tryz.strings_Join_none (a : Option Addr) (c : Nat) (sep : ByteArray) (w : World) :
    Calls Tryz.prog 91 #[.slice a 0 c, .string sep] w fun e w' => e = .returned (.string ⟨#[]⟩) ∧ w' = w := Any.strings_Join_none Tryz.lays156 Tryz.Builder_Extra_156 a c sep w
open Go.RowKit in
theorem Tryz.strings_Join (bk o c : Nat) (xs : List ByteArray) (sep : ByteArray) (w : World) (hcells : ∀ (j : Nat) x, xs[j]? = some x → w.cell? ⟨bk, o + j, none⟩ = some (.string x)) (hbk : bk < w.heap.size) (hN : xs.length ≤ 140737488355328) (hcap : xs.length ≤ c) (hlen : (Lib.join (xs.map (·.data.toList)) sep.data.toList).length ≤ 140737488355328) :
    Calls Tryz.prog 91 #[.slice (some ⟨bk, o, none⟩) xs.length c, .string sep] w fun e w' => e = .returned (.string ⟨(Lib.join (xs.map (·.data.toList)) sep.data.toList).toArray⟩) ∧ Below w.heap.size w w' := Any.strings_Join Tryz.lays156 Tryz.Builder_Extra_156 bk o c xs sep w hcells hbk hN hcap hlen
def Tryz.lays128_ren : Go.Shelf.Ren := ⟨fun | 128 => 222 | n => n, fun | 51 => 134 | 3 => 3 | 4 => 4 | 46 => 200 | 5 => 5 | 9 => 9 | n => n, fun | n => n⟩
theorem Tryz.lays128 : Go.Proofs.Lays.n128 Tryz.prog Tryz.lays128_ren := {
  mixed := by kernel_rfl
  f128 := Tryz.func222.trans (congrArg some (by kernel_rfl))
  t3 := Tryz.underlying3
  a3 := Tryz.isAgg3
  z3 := Tryz.sizeOf3
  v3 := Tryz.zeroValue3
  t4 := Tryz.underlying4
  a4 := Tryz.isAgg4
  z4 := Tryz.sizeOf4
  v4 := Tryz.zeroValue4
  t5 := Tryz.underlying5
  a5 := Tryz.isAgg5
  z5 := Tryz.sizeOf5
  v5 := Tryz.zeroValue5
  t9 := Tryz.underlying9
  a9 := Tryz.isAgg9
  z9 := Tryz.sizeOf9
  v9 := Tryz.zeroValue9
  t46 := Tryz.underlying200
  a46 := Tryz.isAgg200
  z46 := Tryz.sizeOf200
  v46 := Tryz.zeroValue200
  t51 := Tryz.underlying134
  a51 := Tryz.isAgg134
  z51 := Tryz.sizeOf134
  v51 := Tryz.zeroValue134 }
theorem Tryz.bits_Len32 (x : Int) (w : World) (h0 : 0 ≤ x) (h1 : x ≤ 4294967295) :
    Calls Tryz.prog 222 #[.int .u32 x] w fun e w' => e = .returned (.int .i64 (Lib.bitLen x.toNat)) ∧ w' = w := Any.bits_Len32 Tryz.lays128 x w h0 h1
def Tryz.lays125_ren : Go.Shelf.Ren := ⟨fun | 125 => 192 | 128 => 222 | 129 => 223 | n => n, fun | 46 => 200 | 3 => 3 | 51 => 134 | 53 => 136 | 4 => 4 | 5 => 5 | 9 => 9 | n => n, fun | n => n⟩
theorem Tryz.lays125 : Go.Proofs.Lays.n125 Tryz.prog Tryz.lays125_ren := {
  mixed := by kernel_rfl
  f125 := Tryz.func192.trans (congrArg some (by kernel_rfl))
  f128 := Tryz.func222.trans (congrArg some (by kernel_rfl))
  f129 := Tryz.func223.trans (congrArg some (by kernel_rfl))
  t3 := Tryz.underlying3
  a3 := Tryz.isAgg3
  z3 := Tryz.sizeOf3
  v3 := Tryz.zeroValue3
  t4 := Tryz.underlying4
  a4 := Tryz.isAgg4
  z4 := Tryz.sizeOf4
  v4 := Tryz.zeroValue4
  t5 := Tryz.underlying5
  a5 := Tryz.isAgg5
  z5 := Tryz.sizeOf5
  v5 := Tryz.zeroValue5
  t9 := Tryz.underlying9
  a9 := Tryz.isAgg9
  z9 := Tryz.sizeOf9
  v9 := Tryz.zeroValue9
  t46 := Tryz.underlying200
  a46 := Tryz.isAgg200
  z46 := Tryz.sizeOf200
  v46 := Tryz.zeroValue200
  t51 := Tryz.underlying134
  a51 := Tryz.isAgg134
  z51 := Tryz.sizeOf134
  v51 := Tryz.zeroValue134
  t53 := Tryz.underlying136
  a53 := Tryz.isAgg136
  z53 := Tryz.sizeOf136
  v53 := Tryz.zeroValue136 }
theorem Tryz.bits_Len (x : Int) (w : World) (h0 : 0 ≤ x) (h1 : x ≤ 18446744073709551615) :
    Calls Tryz.prog 192 #[.int .u64 x] w fun e w' => e = .returned (.int .i64 (Lib.bitLen x.toNat)) ∧ w' = w := Any.bits_Len Tryz.lays125 x w h0 h1
def Tryz.lays137_ren : Go.Shelf.Ren := ⟨fun | 137 => 99 | 217 => 165 | 266 => 204 | n => n, fun | 9 => 9 | 5 => 5 | 3 => 3 | n => n, fun | n => n⟩
theorem Tryz.lays137 : Go.Proofs.Lays.n137 Tryz.prog Tryz.lays137_ren := {
  mixed := by kernel_rfl
  f137 := Tryz.func99.trans (congrArg some (by kernel_rfl))
  f217 := Tryz.func165.trans (congrArg some (by kernel_rfl))
  f266 := Tryz.func204.trans (congrArg some (by kernel_rfl))
  t3 := Tryz.underlying3
  a3 := Tryz.isAgg3
  z3 := Tryz.sizeOf3
  v3 := Tryz.zeroValue3
  t5 := Tryz.underlying5
  a5 := Tryz.isAgg5
  z5 := Tryz.sizeOf5
  v5 := Tryz.zeroValue5
  t9 := Tryz.underlying9
  a9 := Tryz.isAgg9
  z9 := Tryz.sizeOf9
  v9 := Tryz.zeroValue9 }
open Go.RowKit in
theorem Tryz.strings_IndexByte (s : ByteArray) (c : Int) (w : World) :
    Calls Tryz.prog 99 #[.string s, .int .u8 c] w fun e w' => e = .returned (.int .i64 (Lib.indexByte s.data.toList c.toNat.toUInt8)) ∧ w' = w := Any.strings_IndexByte Tryz.lays137 s c w
def Tryz.lays210_ren : Go.Shelf.Ren := ⟨fun | 210 => 150 | 206 => 166 | n => n, fun | 9 => 9 | 4 => 4 | 3 => 3 | n => n, fun | n => n⟩
theorem Tryz.lays210 : Go.Proofs.Lays.n210 Tryz.prog Tryz.lays210_ren := {
  mixed := by kernel_rfl
  f206 := Tryz.func166.trans (congrArg some (by kernel_rfl))
  f210 := Tryz.func150.trans (congrArg some (by kernel_rfl))
  t3 := Tryz.underlying3
  a3 := Tryz.isAgg3
  z3 := Tryz.sizeOf3
  v3 := Tryz.zeroValue3
  t4 := Tryz.underlying4
  a4 := Tryz.isAgg4
  z4 := Tryz.sizeOf4
  v4 := Tryz.zeroValue4
  t9 := Tryz.underlying9
  a9 := Tryz.isAgg9
  z9 := Tryz.sizeOf9
  v9 := Tryz.zeroValue9 }
open Go.RowKit in
theorem Tryz.stringslite_CutPrefix (s p : ByteArray) (w : World) :
    Calls Tryz.prog 150 #[.string s, .string p] w fun e w' => e = .returned (.tuple #[.string ⟨(Lib.trimPrefix s.data.toList p.data.toList).toArray⟩, .bool (Lib.hasPrefix s.data.toList p.data.toList)]) ∧ w' = w := Any.stringslite_CutPrefix Tryz.lays210 s p w
def Tryz.lays103_ren : Go.Shelf.Ren := ⟨fun | 103 => 78 | 210 => 150 | 206 => 166 | n => n, fun | 9 => 9 | 4 => 4 | 24 => 130 | 3 => 3 | n => n, fun | n => n⟩
theorem Tryz.lays103 : Go.Proofs.Lays.n103 Tryz.prog Tryz.lays103_ren := {
  mixed := by kernel_rfl
  f103 := Tryz.func78.trans (congrArg some (by kernel_rfl))
  f206 := Tryz.func166.trans (congrArg some (by kernel_rfl))
  f210 := Tryz.func150.trans (congrArg some (by kernel_rfl))
  t3 := Tryz.underlying3
  a3 := Tryz.isAgg3
  z3 := Tryz.sizeOf3
  v3 := Tryz.zeroValue3
  t4 := Tryz.underlying4
  a4 := Tryz.isAgg4
  z4 := Tryz.sizeOf4
  v4 := Tryz.zeroValue4
  t9 := Tryz.underlying9
  a9 := Tryz.isAgg9
  z9 := Tryz.sizeOf9
  v9 := Tryz.zeroValue9
  t24 := Tryz.underlying130
  a24 := Tryz.isAgg130
  z24 := Tryz.sizeOf130
  v24 := Tryz.zeroValue130 }
open Go.RowKit in
theorem Tryz.strings_CutPrefix (s p : ByteArray) (w : World) :
    Calls Tryz.prog 78 #[.string s, .string p] w fun e w' => e = .returned (.tuple #[.string ⟨(Lib.trimPrefix s.data.toList p.data.toList).toArray⟩, .bool (Lib.hasPrefix s.data.toList p.data.toList)]) ∧ w' = w := Any.strings_CutPrefix Tryz.lays103 s p w
def Tryz.lays215_ren : Go.Shelf.Ren := ⟨fun | 215 => 241 | n => n, fun | 3 => 3 | 4 => 4 | n => n, fun | n => n⟩
theorem Tryz.lays215 : Go.Proofs.Lays.n215 Tryz.prog Tryz.lays215_ren := {
  mixed := by kernel_rfl
  f215 := Tryz.func241.trans (congrArg some (by kernel_rfl))
  t3 := Tryz.underlying3
  a3 := Tryz.isAgg3
  z3 := Tryz.sizeOf3
  v3 := Tryz.zeroValue3
  t4 := Tryz.underlying4
  a4 := Tryz.isAgg4
  z4 := Tryz.sizeOf4
  v4 := Tryz.zeroValue4 }
open Go.RowKit in
theorem Tryz.cmp_isNaN_int (x : Int) (w : World) :
    Calls Tryz.prog 241 #[.int .i64 x] w fun e w' => e = .returned (.bool false) ∧ w' = w := Any.cmp_isNaN_int Tryz.lays215 x w
open Go.RowKit in
theorem Tryz.Builder_Len_f (B b : Nat) (bs : List Value) (w : World) (h : Lib.IsBuilderF 207 5 B b bs w) :
    Calls Tryz.prog 157 #[.pointer (some ⟨b, 0, none⟩)] w fun e w' => e = .returned (.int .i64 bs.length) ∧ w' = w := Any.Builder_Len_f Tryz.lays170 B b bs w h
open Go.RowKit in
theorem Tryz.Builder_String_f (B b : Nat) (l : List UInt8) (w : World) (h : Lib.IsBuilderF 207 5 B b (Lib.byteCells l) w) (h0 : l ≠ []) :
    Calls Tryz.prog 158 #[.pointer (some ⟨b, 0, none⟩)] w fun e w' => e = .returned (.string ⟨l.toArray⟩) ∧ (Lib.IsBuilderF 207 5 B b (Lib.byteCells l) w' ∧ Below B w w') := Any.Builder_String_f Tryz.lays169 Tryz.Builder_Extra_169 B b l w h h0
open Go.RowKit in
theorem Tryz.Builder_String_empty_f (B b : Nat) (w : World) (h : Lib.IsBuilderF 207 5 B b [] w) (hBw : B ≤ w.heap.size) :
    Calls Tryz.prog 158 #[.pointer (some ⟨b, 0, none⟩)] w fun e w' => e = .returned (.string ⟨#[]⟩) ∧ (Lib.IsBuilderF 207 5 B b [] w' ∧ Below B w w') := Any.Builder_String_empty_f Tryz.lays169 Tryz.Builder_Extra_169 B b w h hBw
open Go.RowKit in
theorem Tryz.Builder_String_any_f (B b : Nat) (l : List UInt8) (w : World) (h : Lib.IsBuilderF 207 5 B b (Lib.byteCells l) w) (hBw : B ≤ w.heap.size) :
    Calls Tryz.prog 158 #[.pointer (some ⟨b, 0, none⟩)] w fun e w' => e = .returned (.string ⟨l.toArray⟩) ∧ (Lib.IsBuilderF 207 5 B b (Lib.byteCells l) w' ∧ Below B w w') := Any.Builder_String_any_f Tryz.lays169 Tryz.Builder_Extra_169 B b l w h hBw
open Go.RowKit in
theorem Tryz.Builder_String_k (B b : Nat) (l : List UInt8) (w : World) (h : Lib.IsBuilderF 207 5 B b (Lib.byteCells l) w) (h0 : l ≠ []) :
    Calls Tryz.prog 158 #[.pointer (some ⟨b, 0, none⟩)] w fun e w' => e = .returned (.string ⟨l.toArray⟩) ∧ (Lib.IsBuilderF 207 5 B b (Lib.byteCells l) w' ∧ Below B w w' ∧ Lib.OthersKept 5 (some b) w w') := Any.Builder_String_k Tryz.lays169 Tryz.Builder_Extra_169 B b l w h h0
open Go.RowKit in
theorem Tryz.Builder_String_empty_k (B b : Nat) (w : World) (h : Lib.IsBuilderF 207 5 B b [] w) (hBw : B ≤ w.heap.size) :
    Calls Tryz.prog 158 #[.pointer (some ⟨b, 0, none⟩)] w fun e w' => e = .returned (.string ⟨#[]⟩) ∧ (Lib.IsBuilderF 207 5 B b [] w' ∧ Below B w w' ∧ Lib.OthersKept 5 (some b) w w') := Any.Builder_String_empty_k Tryz.lays169 Tryz.Builder_Extra_169 B b w h hBw
open Go.RowKit in
theorem Tryz.Builder_String_any_k (B b : Nat) (l : List UInt8) (w : World) (h : Lib.IsBuilderF 207 5 B b (Lib.byteCells l) w) (hBw : B ≤ w.heap.size) :
    Calls Tryz.prog 158 #[.pointer (some ⟨b, 0, none⟩)] w fun e w' => e = .returned (.string ⟨l.toArray⟩) ∧ (Lib.IsBuilderF 207 5 B b (Lib.byteCells l) w' ∧ Below B w w' ∧ Lib.OthersKept 5 (some b) w w') := Any.Builder_String_any_k Tryz.lays169 Tryz.Builder_Extra_169 B b l w h hBw
open Go.RowKit in
theorem Tryz.Builder_grow_fresh_cap (B b n : Nat) (w : World) (hB : B ≤ b) (hbk : w.heap[b]? = some (.cells #[.pointer (some ⟨b, 0, none⟩), .slice none 0 0] 207 (0, 0))) (hBw : B ≤ w.heap.size) (hn : n ≤ 281474976710656) :
    Calls Tryz.prog 197 #[.pointer (some ⟨b, 0, none⟩), .int .i64 n] w fun e w' => e = .returned (.tuple #[]) ∧ (Lib.BuilderAt 207 5 B b (.pointer (some ⟨b, 0, none⟩)) [] w' ∧ Below B w w') ∧ ∃ p cap, w'.cell? ⟨b, 1, none⟩ = some (.slice p 0 cap) ∧ n ≤ cap := Any.Builder_grow_fresh_cap Tryz.lays241 Tryz.Builder_Extra_241 B b n w hB hbk hBw hn
open Go.RowKit in
theorem Tryz.Builder_Grow_fresh_cap (B b n : Nat) (w : World) (hB : B ≤ b) (hbk : w.heap[b]? = some (.cells #[.pointer none, .slice none 0 0] 207 (0, 0))) (hBw : B ≤ w.heap.size) (hn : n ≤ 281474976710656) :
    Calls Tryz.prog 155 #[.pointer (some ⟨b, 0, none⟩), .int .i64 n] w fun e w' => e = .returned (.tuple #[]) ∧ (Lib.BuilderAt 207 5 B b (.pointer (some ⟨b, 0, none⟩)) [] w' ∧ Below B w w') ∧ ∃ p cap, w'.cell? ⟨b, 1, none⟩ = some (.slice p 0 cap) ∧ n ≤ cap := Any.Builder_Grow_fresh_cap Tryz.lays165 Tryz.Builder_Extra_165 B b n w hB hbk hBw hn
def Tryz.lays244_ren : Go.Shelf.Ren := ⟨fun | 244 => 163 | 247 => 199 | 287 => 233 | 321 => 247 | 322 => 248 | n => n, fun | 9 => 9 | 3 => 3 | 75 => 157 | 4 => 4 | 5 => 5 | 167 => 239 | 37 => 205 | 0 => 0 | 85 => 240 | 2 => 2 | 53 => 136 | 175 => 264 | 46 => 200 | 21 => 21 | 80 => 153 | n => n, fun | n => n⟩
theorem Tryz.lays244 : Go.Proofs.Lays.n244 Tryz.prog Tryz.lays244_ren := {
  mixed := by kernel_rfl
  f244 := Tryz.func163.trans (congrArg some (by kernel_rfl))
  f247 := Tryz.func199.trans (congrArg some (by kernel_rfl))
  f287 := Tryz.func233.trans (congrArg some (by kernel_rfl))
  f321 := Tryz.func247.trans (congrArg some (by kernel_rfl))
  f322 := Tryz.func248.trans (congrArg some (by kernel_rfl))
  t0 := Tryz.underlying0
  a0 := Tryz.isAgg0
  z0 := Tryz.sizeOf0
  v0 := Tryz.zeroValue0
  t2 := Tryz.underlying2
  a2 := Tryz.isAgg2
  z2 := Tryz.sizeOf2
  v2 := Tryz.zeroValue2
  t3 := Tryz.underlying3
  a3 := Tryz.isAgg3
  z3 := Tryz.sizeOf3
  v3 := Tryz.zeroValue3
  t4 := Tryz.underlying4
  a4 := Tryz.isAgg4
  z4 := Tryz.sizeOf4
  v4 := Tryz.zeroValue4
  t5 := Tryz.underlying5
  a5 := Tryz.isAgg5
  z5 := Tryz.sizeOf5
  v5 := Tryz.zeroValue5
  t9 := Tryz.underlying9
  a9 := Tryz.isAgg9
  z9 := Tryz.sizeOf9
  v9 := Tryz.zeroValue9
  t21 := Tryz.underlying21
  a21 := Tryz.isAgg21
  z21 := Tryz.sizeOf21
  v21 := Tryz.zeroValue21
  t37 := Tryz.underlying205
  a37 := Tryz.isAgg205
  z37 := Tryz.sizeOf205
  v37 := Tryz.zeroValue205
  t46 := Tryz.underlying200
  a46 := Tryz.isAgg200
  z46 := Tryz.sizeOf200
  v46 := Tryz.zeroValue200
  t53 := Tryz.underlying136
  a53 := Tryz.isAgg136
  z53 := Tryz.sizeOf136
  v53 := Tryz.zeroValue136
  t75 := Tryz.underlying157
  a75 := Tryz.isAgg157
  z75 := Tryz.sizeOf157
  v75 := Tryz.zeroValue157
  t85 := Tryz.underlying240
  a85 := Tryz.isAgg240
  z85 := Tryz.sizeOf240
  v85 := Tryz.zeroValue240
  t167 := Tryz.underlying239
  a167 := Tryz.isAgg239
  z167 := Tryz.sizeOf239
  v167 := Tryz.zeroValue239
  t175 := Tryz.underlying264
  a175 := Tryz.isAgg264
  z175 := Tryz.sizeOf264
  v175 := Tryz.zeroValue264 }
open Go.RowKit in
theorem Tryz.internal_strconv_Atoi (s : ByteArray) (n : Int) (hl : s.size ≤ 18) (h : Lib.atoi s.data.toList = some n) (w : World) :
    Calls Tryz.prog 163 #[.string s] w fun e w' => e = .returned (.tuple #[.int .i64 n, .nilIface]) ∧ ∃ t, w' = Lib.bytesWorld w 5 t := Any.internal_strconv_Atoi Tryz.lays244 s n hl h w
def Tryz.lays172_ren : Go.Shelf.Ren := ⟨fun | 172 => 98 | 244 => 163 | 245 => 164 | 247 => 199 | 279 => 200 | 280 => 201 | 281 => 202 | 282 => 203 | 287 => 233 | 316 => 234 | 171 => 89 | 205 => 235 | 321 => 247 | 322 => 248 | 243 => 153 | 246 => 193 | 283 => 224 | 284 => 225 | 285 => 226 | 286 => 227 | 129 => 223 | 317 => 242 | 318 => 243 | 319 => 244 | 320 => 245 | 337 => 250 | 338 => 251 | n => n, fun | 9 => 9 | 3 => 3 | 75 => 157 | 76 => 158 | 4 => 4 | 5 => 5 | 167 => 239 | 37 => 205 | 0 => 0 | 85 => 240 | 2 => 2 | 168 => 242 | 53 => 136 | 175 => 264 | 46 => 200 | 210 => 268 | 127 => 237 | 145 => 284 | 143 => 282 | 21 => 21 | 171 => 257 | 173 => 259 | 212 => 277 | 51 => 134 | 20 => 20 | 213 => 278 | 232 => 287 | 233 => 288 | 80 => 153 | n => n, fun | 15 => 1 | 16 => 2 | 17 => 3 | 18 => 4 | 19 => 5 | n => n⟩
theorem Tryz.lays172 : Go.Proofs.Lays.n172 Tryz.prog Tryz.lays172_ren := {
  mixed := by kernel_rfl
  f129 := Tryz.func223.trans (congrArg some (by kernel_rfl))
  f171 := Tryz.func89.trans (congrArg some (by kernel_rfl))
  f172 := Tryz.func98.trans (congrArg some (by kernel_rfl))
  f205 := Tryz.func235.trans (congrArg some (by kernel_rfl))
  f243 := Tryz.func153.trans (congrArg some (by kernel_rfl))
  f244 := Tryz.func163.trans (congrArg some (by kernel_rfl))
  f245 := Tryz.func164.trans (congrArg some (by kernel_rfl))
  f246 := Tryz.func193.trans (congrArg some (by kernel_rfl))
  f247 := Tryz.func199.trans (congrArg some (by kernel_rfl))
  f279 := Tryz.func200.trans (congrArg some (by kernel_rfl))
  f280 := Tryz.func201.trans (congrArg some (by kernel_rfl))
  f281 := Tryz.func202.trans (congrArg some (by kernel_rfl))
  f282 := Tryz.func203.trans (congrArg some (by kernel_rfl))
  f283 := Tryz.func224.trans (congrArg some (by kernel_rfl))
  f284 := Tryz.func225.trans (congrArg some (by kernel_rfl))
  f285 := Tryz.func226.trans (congrArg some (by kernel_rfl))
  f286 := Tryz.func227.trans (congrArg some (by kernel_rfl))
  f287 := Tryz.func233.trans (congrArg some (by kernel_rfl))
  f316 := Tryz.func234.trans (congrArg some (by kernel_rfl))
  f317 := Tryz.func242.trans (congrArg some (by kernel_rfl))
  f318 := Tryz.func243.trans (congrArg some (by kernel_rfl))
  f319 := Tryz.func244.trans (congrArg some (by kernel_rfl))
  f320 := Tryz.func245.trans (congrArg some (by kernel_rfl))
  f321 := Tryz.func247.trans (congrArg some (by kernel_rfl))
  f322 := Tryz.func248.trans (congrArg some (by kernel_rfl))
  f337 := Tryz.func250.trans (congrArg some (by kernel_rfl))
  f338 := Tryz.func251.trans (congrArg some (by kernel_rfl))
  t0 := Tryz.underlying0
  a0 := Tryz.isAgg0
  z0 := Tryz.sizeOf0
  v0 := Tryz.zeroValue0
  t2 := Tryz.underlying2
  a2 := Tryz.isAgg2
  z2 := Tryz.sizeOf2
  v2 := Tryz.zeroValue2
  t3 := Tryz.underlying3
  a3 := Tryz.isAgg3
  z3 := Tryz.sizeOf3
  v3 := Tryz.zeroValue3
  t4 := Tryz.underlying4
  a4 := Tryz.isAgg4
  z4 := Tryz.sizeOf4
  v4 := Tryz.zeroValue4
  t5 := Tryz.underlying5
  a5 := Tryz.isAgg5
  z5 := Tryz.sizeOf5
  v5 := Tryz.zeroValue5
  t9 := Tryz.underlying9
  a9 := Tryz.isAgg9
  z9 := Tryz.sizeOf9
  v9 := Tryz.zeroValue9
  t20 := Tryz.underlying20
  a20 := Tryz.isAgg20
  z20 := Tryz.sizeOf20
  v20 := Tryz.zeroValue20
  t21 := Tryz.underlying21
  a21 := Tryz.isAgg21
  z21 := Tryz.sizeOf21
  v21 := Tryz.zeroValue21
  t37 := Tryz.underlying205
  a37 := Tryz.isAgg205
  z37 := Tryz.sizeOf205
  v37 := Tryz.zeroValue205
  t46 := Tryz.underlying200
  a46 := Tryz.isAgg200
  z46 := Tryz.sizeOf200
  v46 := Tryz.zeroValue200
  t51 := Tryz.underlying134
  a51 := Tryz.isAgg134
  z51 := Tryz.sizeOf134
  v51 := Tryz.zeroValue134
  t53 := Tryz.underlying136
  a53 := Tryz.isAgg136
  z53 := Tryz.sizeOf136
  v53 := Tryz.zeroValue136
  t75 := Tryz.underlying157
  a75 := Tryz.isAgg157
  z75 := Tryz.sizeOf157
  v75 := Tryz.zeroValue157
  t76 := Tryz.underlying158
  a76 := Tryz.isAgg158
  z76 := Tryz.sizeOf158
  v76 := Tryz.zeroValue158
  t85 := Tryz.underlying240
  a85 := Tryz.isAgg240
  z85 := Tryz.sizeOf240
  v85 := Tryz.zeroValue240
  t127 := Tryz.underlying237
  a127 := Tryz.isAgg237
  z127 := Tryz.sizeOf237
  v127 := Tryz.zeroValue237
  t143 := Tryz.underlying282
  a143 := Tryz.isAgg282
  z143 := Tryz.sizeOf282
  v143 := Tryz.zeroValue282
  t145 := Tryz.underlying284
  a145 := Tryz.isAgg284
  z145 := Tryz.sizeOf284
  v145 := Tryz.zeroValue284
  t167 := Tryz.underlying239
  a167 := Tryz.isAgg239
  z167 := Tryz.sizeOf239
  v167 := Tryz.zeroValue239
  t168 := Tryz.underlying242
  a168 := Tryz.isAgg242
  z168 := Tryz.sizeOf242
  v168 := Tryz.zeroValue242
  t171 := Tryz.underlying257
  a171 := Tryz.isAgg257
  z171 := Tryz.sizeOf257
  v171 := Tryz.zeroValue257
  t173 := Tryz.underlying259
  a173 := Tryz.isAgg259
  z173 := Tryz.sizeOf259
  v173 := Tryz.zeroValue259
  t175 := Tryz.underlying264
  a175 := Tryz.isAgg264
  z175 := Tryz.sizeOf264
  v175 := Tryz.zeroValue264
  t210 := Tryz.underlying268
  a210 := Tryz.isAgg268
  z210 := Tryz.sizeOf268
  v210 := Tryz.zeroValue268
  t212 := Tryz.underlying277
  a212 := Tryz.isAgg277
  z212 := Tryz.sizeOf277
  v212 := Tryz.zeroValue277
  t213 := Tryz.underlying278
  a213 := Tryz.isAgg278
  z213 := Tryz.sizeOf278
  t232 := Tryz.underlying287
  a232 := Tryz.isAgg287
  z232 := Tryz.sizeOf287
  v232 := Tryz.zeroValue287
  t233 := Tryz.underlying288
  a233 := Tryz.isAgg288
  z233 := Tryz.sizeOf288
  v233 := Tryz.zeroValue288
  g15 := by kernel_rfl
  g16 := by kernel_rfl
  g17 := by kernel_rfl
  g18 := by kernel_rfl
  g19 := by kernel_rfl }
open Go.RowKit in
theorem Tryz.strconv_Atoi (s : ByteArray) (n : Int) (hl : s.size ≤ 18) (h : Lib.atoi s.data.toList = some n) (w : World) :
    Calls Tryz.prog 98 #[.string s] w fun e w' => e = .returned (.tuple #[.int .i64 n, .nilIface]) ∧ ∃ t, w' = Lib.bytesWorld w 5 t := Any.strconv_Atoi Tryz.lays172 s n hl h w
def Tryz.lays129_ren : Go.Shelf.Ren := ⟨fun | 129 => 223 | n => n, fun | 53 => 136 | 3 => 3 | 4 => 4 | 46 => 200 | 5 => 5 | 9 => 9 | n => n, fun | n => n⟩
theorem Tryz.lays129 : Go.Proofs.Lays.n129 Tryz.prog Tryz.lays129_ren := {
  mixed := by kernel_rfl
  f129 := Tryz.func223.trans (congrArg some (by kernel_rfl))
  t3 := Tryz.underlying3
  a3 := Tryz.isAgg3
  z3 := Tryz.sizeOf3
  v3 := Tryz.zeroValue3
  t4 := Tryz.underlying4
  a4 := Tryz.isAgg4
  z4 := Tryz.sizeOf4
  v4 := Tryz.zeroValue4
  t5 := Tryz.underlying5
  a5 := Tryz.isAgg5
  z5 := Tryz.sizeOf5
  v5 := Tryz.zeroValue5
  t9 := Tryz.underlying9
  a9 := Tryz.isAgg9
  z9 := Tryz.sizeOf9
  v9 := Tryz.zeroValue9
  t46 := Tryz.underlying200
  a46 := Tryz.isAgg200
  z46 := Tryz.sizeOf200
  v46 := Tryz.zeroValue200
  t53 := Tryz.underlying136
  a53 := Tryz.isAgg136
  z53 := Tryz.sizeOf136
  v53 := Tryz.zeroValue136 }
theorem Tryz.bits_Len64 (x : Int) (w : World) (h0 : 0 ≤ x) (h1 : x ≤ 18446744073709551615) :
    Calls Tryz.prog 223 #[.int .u64 x] w fun e w' => e = .returned (.int .i64 (Lib.bitLen x.toNat)) ∧ w' = w := Any.bits_Len64 Tryz.lays129 x w h0 h1
def Tryz.lays317_ren : Go.Shelf.Ren := ⟨fun | 317 => 242 | n => n, fun | 3 => 3 | 46 => 200 | n => n, fun | n => n⟩
theorem Tryz.lays317 : Go.Proofs.Lays.n317 Tryz.prog Tryz.lays317_ren := {
  mixed := by kernel_rfl
  f317 := Tryz.func242.trans (congrArg some (by kernel_rfl))
  t3 := Tryz.underlying3
  a3 := Tryz.isAgg3
  z3 := Tryz.sizeOf3
  v3 := Tryz.zeroValue3
  t46 := Tryz.underlying200
  a46 := Tryz.isAgg200
  z46 := Tryz.sizeOf200
  v46 := Tryz.zeroValue200 }
open Go.Lib in
theorem Tryz.internal_strconv_log10Pow2 (x : Nat) (h : x ≤ 64) (w : World) :
    Calls Tryz.prog 242 #[.int .i64 x] w fun e w' => e = .returned (.int .i64 (Lib.l10 x)) ∧ w' = w := Any.internal_strconv_log10Pow2 Tryz.lays317 x h w
def Tryz.lays318_ren : Go.Shelf.Ren := ⟨fun | 318 => 243 | n => n, fun | 3 => 3 | 4 => 4 | n => n, fun | n => n⟩
theorem Tryz.lays318 : Go.Proofs.Lays.n318 Tryz.prog Tryz.lays318_ren := {
  mixed := by kernel_rfl
  f318 := Tryz.func243.trans (congrArg some (by kernel_rfl))
  t3 := Tryz.underlying3
  a3 := Tryz.isAgg3
  z3 := Tryz.sizeOf3
  v3 := Tryz.zeroValue3
  t4 := Tryz.underlying4
  a4 := Tryz.isAgg4
  z4 := Tryz.sizeOf4
  v4 := Tryz.zeroValue4 }
open Go.Lib in
theorem Tryz.internal_strconv_bool2_int (b : Bool) (w : World) :
    Calls Tryz.prog 243 #[.bool b] w fun e w' => e = .returned (.int .i64 (if b then 1 else 0)) ∧ w' = w := Any.internal_strconv_bool2_int Tryz.lays318 b w
def Tryz.lays283_ren : Go.Shelf.Ren := ⟨fun | 283 => 224 | n => n, fun | 3 => 3 | 9 => 9 | 4 => 4 | n => n, fun | n => n⟩
theorem Tryz.lays283 : Go.Proofs.Lays.n283 Tryz.prog Tryz.lays283_ren := {
  mixed := by kernel_rfl
  f283 := Tryz.func224.trans (congrArg some (by kernel_rfl))
  t3 := Tryz.underlying3
  a3 := Tryz.isAgg3
  z3 := Tryz.sizeOf3
  v3 := Tryz.zeroValue3
  t4 := Tryz.underlying4
  a4 := Tryz.isAgg4
  z4 := Tryz.sizeOf4
  v4 := Tryz.zeroValue4
  t9 := Tryz.underlying9
  a9 := Tryz.isAgg9
  z9 := Tryz.sizeOf9
  v9 := Tryz.zeroValue9 }
open Go.Lib in
theorem Tryz.internal_strconv_small (i : Nat) (h : i < 100) (w : World) :
    Calls Tryz.prog 224 #[.int .i64 i] w fun e w' => e = .returned (.string ⟨(Lib.decDigits i).toArray⟩) ∧ w' = w := Any.internal_strconv_small Tryz.lays283 i h w
def Tryz.laysM284_ren : Go.Shelf.Ren := ⟨fun | 284 => 225 | 129 => 223 | 317 => 242 | 318 => 243 | n => n, fun | 53 => 136 | 3 => 3 | 212 => 277 | 0 => 0 | 4 => 4 | 46 => 200 | 5 => 5 | 9 => 9 | n => n, fun | 17 => 3 | n => n⟩
theorem Tryz.laysM284 : Go.Proofs.LaysM.n284 Tryz.prog Tryz.laysM284_ren := {
  mixed := by kernel_rfl
  f129 := Tryz.func223.trans (congrArg some (by kernel_rfl))
  f284 := Tryz.func225.trans (congrArg some (by kernel_rfl))
  f317 := Tryz.func242.trans (congrArg some (by kernel_rfl))
  f318 := Tryz.func243.trans (congrArg some (by kernel_rfl))
  t0 := Tryz.underlying0
  a0 := Tryz.isAgg0
  z0 := Tryz.sizeOf0
  v0 := Tryz.zeroValue0
  t3 := Tryz.underlying3
  a3 := Tryz.isAgg3
  z3 := Tryz.sizeOf3
  v3 := Tryz.zeroValue3
  t4 := Tryz.underlying4
  a4 := Tryz.isAgg4
  z4 := Tryz.sizeOf4
  v4 := Tryz.zeroValue4
  t5 := Tryz.underlying5
  a5 := Tryz.isAgg5
  z5 := Tryz.sizeOf5
  v5 := Tryz.zeroValue5
  t9 := Tryz.underlying9
  a9 := Tryz.isAgg9
  z9 := Tryz.sizeOf9
  v9 := Tryz.zeroValue9
  t46 := Tryz.underlying200
  a46 := Tryz.isAgg200
  z46 := Tryz.sizeOf200
  v46 := Tryz.zeroValue200
  t53 := Tryz.underlying136
  a53 := Tryz.isAgg136
  z53 := Tryz.sizeOf136
  v53 := Tryz.zeroValue136
  t212 := Tryz.underlying277
  a212 := Tryz.isAgg277
  z212 := Tryz.sizeOf277
  v212 := Tryz.zeroValue277
  g17 := by kernel_rfl
  i0 := by kernel_rfl
  i3 := by kernel_rfl
  i4 := by kernel_rfl
  i5 := by kernel_rfl
  i9 := by kernel_rfl
  i46 := by kernel_rfl
  i53 := by kernel_rfl
  i212 := by kernel_rfl
  m17 := by kernel_rfl }
open Go.Lib in
theorem Tryz.internal_strconv_numDigits (u : Nat) (h1 : 1 ≤ u) (h2 : u < 18446744073709551616) (w : World) (htab : Lib.TabIs Tryz.prog w "internal/strconv.uint64pow10" .u64 Lib.pow10Tab) :
    Calls Tryz.prog 225 #[.int .u64 u] w fun e w' => e = .returned (.int .i64 (Lib.nDigits u)) ∧ w' = w := Any.internal_strconv_numDigits Tryz.laysM284 u h1 h2 w htab
def Tryz.lays285_ren : Go.Shelf.Ren := ⟨fun | 285 => 226 | n => n, fun | 37 => 205 | 53 => 136 | 3 => 3 | 4 => 4 | 51 => 134 | 9 => 9 | 5 => 5 | 0 => 0 | n => n, fun | n => n⟩
theorem Tryz.lays285 : Go.Proofs.Lays.n285 Tryz.prog Tryz.lays285_ren := {
  mixed := by kernel_rfl
  f285 := Tryz.func226.trans (congrArg some (by kernel_rfl))
  t0 := Tryz.underlying0
  a0 := Tryz.isAgg0
  z0 := Tryz.sizeOf0
  v0 := Tryz.zeroValue0
  t3 := Tryz.underlying3
  a3 := Tryz.isAgg3
  z3 := Tryz.sizeOf3
  v3 := Tryz.zeroValue3
  t4 := Tryz.underlying4
  a4 := Tryz.isAgg4
  z4 := Tryz.sizeOf4
  v4 := Tryz.zeroValue4
  t5 := Tryz.underlying5
  a5 := Tryz.isAgg5
  z5 := Tryz.sizeOf5
  v5 := Tryz.zeroValue5
  t9 := Tryz.underlying9
  a9 := Tryz.isAgg9
  z9 := Tryz.sizeOf9
  v9 := Tryz.zeroValue9
  t37 := Tryz.underlying205
  a37 := Tryz.isAgg205
  z37 := Tryz.sizeOf205
  v37 := Tryz.zeroValue205
  t51 := Tryz.underlying134
  a51 := Tryz.isAgg134
  z51 := Tryz.sizeOf134
  v51 := Tryz.zeroValue134
  t53 := Tryz.underlying136
  a53 := Tryz.isAgg136
  z53 := Tryz.sizeOf136
  v53 := Tryz.zeroValue136 }
open Go.RowKit Go.Sort Go.Lib in
theorem Tryz.internal_strconv_formatBase10 (blk off cap : Nat) (u : Nat) (d : Array UInt8) (w : World) (hH : Holds (fun (b : UInt8) => Value.int .u8 (b.toNat : Int)) w blk off d) (hu : u < 10 ^ d.size) (hu64 : u < 18446744073709551616) (hsz : d.size < 4611686018427387904) :
    Calls Tryz.prog 226 #[.slice (some ⟨blk, off, none⟩) d.size cap, .int .u64 u] w fun e w' =>
      e = .returned (.tuple #[]) ∧ ∃ (n v' : Nat) (dk : Array UInt8), w' = (putRow (fun (b : UInt8) => Value.int .u8 (b.toNat : Int)) w blk off dk).drewN n ∧ FmtInv d.size u 0 v' dk := Any.internal_strconv_formatBase10 Tryz.lays285 blk off cap u d w hH hu hu64 hsz
def Tryz.laysM246_ren : Go.Shelf.Ren := ⟨fun | 246 => 193 | 283 => 224 | 284 => 225 | 285 => 226 | 286 => 227 | 129 => 223 | 317 => 242 | 318 => 243 | 319 => 244 | 320 => 245 | 337 => 250 | 338 => 251 | n => n, fun | 2 => 2 | 3 => 3 | 9 => 9 | 4 => 4 | 171 => 257 | 0 => 0 | 53 => 136 | 37 => 205 | 5 => 5 | 173 => 259 | 212 => 277 | 51 => 134 | 20 => 20 | 213 => 278 | 46 => 200 | 232 => 287 | 233 => 288 | n => n, fun | 17 => 3 | 18 => 4 | 19 => 5 | n => n⟩
theorem Tryz.laysM246 : Go.Proofs.LaysM.n246 Tryz.prog Tryz.laysM246_ren := {
  mixed := by kernel_rfl
  f129 := Tryz.func223.trans (congrArg some (by kernel_rfl))
  f246 := Tryz.func193.trans (congrArg some (by kernel_rfl))
  f283 := Tryz.func224.trans (congrArg some (by kernel_rfl))
  f284 := Tryz.func225.trans (congrArg some (by kernel_rfl))
  f285 := Tryz.func226.trans (congrArg some (by kernel_rfl))
  f286 := Tryz.func227.trans (congrArg some (by kernel_rfl))
  f317 := Tryz.func242.trans (congrArg some (by kernel_rfl))
  f318 := Tryz.func243.trans (congrArg some (by kernel_rfl))
  f319 := Tryz.func244.trans (congrArg some (by kernel_rfl))
  f320 := Tryz.func245.trans (congrArg some (by kernel_rfl))
  f337 := Tryz.func250.trans (congrArg some (by kernel_rfl))
  f338 := Tryz.func251.trans (congrArg some (by kernel_rfl))
  t0 := Tryz.underlying0
  a0 := Tryz.isAgg0
  z0 := Tryz.sizeOf0
  v0 := Tryz.zeroValue0
  t2 := Tryz.underlying2
  a2 := Tryz.isAgg2
  z2 := Tryz.sizeOf2
  v2 := Tryz.zeroValue2
  t3 := Tryz.underlying3
  a3 := Tryz.isAgg3
  z3 := Tryz.sizeOf3
  v3 := Tryz.zeroValue3
  t4 := Tryz.underlying4
  a4 := Tryz.isAgg4
  z4 := Tryz.sizeOf4
  v4 := Tryz.zeroValue4
  t5 := Tryz.underlying5
  a5 := Tryz.isAgg5
  z5 := Tryz.sizeOf5
  v5 := Tryz.zeroValue5
  t9 := Tryz.underlying9
  a9 := Tryz.isAgg9
  z9 := Tryz.sizeOf9
  v9 := Tryz.zeroValue9
  t20 := Tryz.underlying20
  a20 := Tryz.isAgg20
  z20 := Tryz.sizeOf20
  v20 := Tryz.zeroValue20
  t37 := Tryz.underlying205
  a37 := Tryz.isAgg205
  z37 := Tryz.sizeOf205
  v37 := Tryz.zeroValue205
  t46 := Tryz.underlying200
  a46 := Tryz.isAgg200
  z46 := Tryz.sizeOf200
  v46 := Tryz.zeroValue200
  t51 := Tryz.underlying134
  a51 := Tryz.isAgg134
  z51 := Tryz.sizeOf134
  v51 := Tryz.zeroValue134
  t53 := Tryz.underlying136
  a53 := Tryz.isAgg136
  z53 := Tryz.sizeOf136
  v53 := Tryz.zeroValue136
  t171 := Tryz.underlying257
  a171 := Tryz.isAgg257
  z171 := Tryz.sizeOf257
  v171 := Tryz.zeroValue257
  t173 := Tryz.underlying259
  a173 := Tryz.isAgg259
  z173 := Tryz.sizeOf259
  v173 := Tryz.zeroValue259
  t212 := Tryz.underlying277
  a212 := Tryz.isAgg277
  z212 := Tryz.sizeOf277
  v212 := Tryz.zeroValue277
  t213 := Tryz.underlying278
  a213 := Tryz.isAgg278
  z213 := Tryz.sizeOf278
  t232 := Tryz.underlying287
  a232 := Tryz.isAgg287
  z232 := Tryz.sizeOf287
  v232 := Tryz.zeroValue287
  t233 := Tryz.underlying288
  a233 := Tryz.isAgg288
  z233 := Tryz.sizeOf288
  v233 := Tryz.zeroValue288
  g17 := by kernel_rfl
  g18 := by kernel_rfl
  g19 := by kernel_rfl
  i0 := by kernel_rfl
  i2 := by kernel_rfl
  i3 := by kernel_rfl
  i4 := by kernel_rfl
  i5 := by kernel_rfl
  i9 := by kernel_rfl
  i20 := by kernel_rfl
  i37 := by kernel_rfl
  i46 := by kernel_rfl
  i51 := by kernel_rfl
  i53 := by kernel_rfl
  i171 := by kernel_rfl
  i173 := by kernel_rfl
  i212 := by kernel_rfl
  i232 := by kernel_rfl
  i233 := by kernel_rfl
  m17 := by kernel_rfl
  m18 := by kernel_rfl
  m19 := by kernel_rfl }
open Go.RowKit Go.Sort Go.Lib in
theorem Tryz.internal_strconv_FormatInt_10 (n : Int) (h0 : -9223372036854775808 ≤ n) (h1 : n ≤ 9223372036854775807) (w : World) (htab : Lib.TabIs Tryz.prog w "internal/strconv.uint64pow10" .u64 Lib.pow10Tab) :
    Calls Tryz.prog 193 #[.int .i64 n, .int .i64 10] w fun e w' => e = .returned (.string ⟨(Lib.itoa n).toArray⟩) ∧ ∃ k os, w' = grow (w.drewN k) os := Any.internal_strconv_FormatInt_10 Tryz.laysM246 n h0 h1 w htab
def Tryz.lays246_ren : Go.Shelf.Ren := ⟨fun | 246 => 193 | 283 => 224 | 284 => 225 | 285 => 226 | 286 => 227 | 129 => 223 | 317 => 242 | 318 => 243 | 319 => 244 | 320 => 245 | 337 => 250 | 338 => 251 | n => n, fun | 2 => 2 | 3 => 3 | 9 => 9 | 4 => 4 | 171 => 257 | 0 => 0 | 53 => 136 | 37 => 205 | 5 => 5 | 173 => 259 | 212 => 277 | 51 => 134 | 20 => 20 | 213 => 278 | 46 => 200 | 232 => 287 | 233 => 288 | n => n, fun | 17 => 3 | 18 => 4 | 19 => 5 | n => n⟩
theorem Tryz.lays246 : Go.Proofs.Lays.n246 Tryz.prog Tryz.lays246_ren := {
  mixed := by kernel_rfl
  f129 := Tryz.func223.trans (congrArg some (by kernel_rfl))
  f246 := Tryz.func193.trans (congrArg some (by kernel_rfl))
  f283 := Tryz.func224.trans (congrArg some (by kernel_rfl))
  f284 := Tryz.func225.trans (congrArg some (by kernel_rfl))
  f285 := Tryz.func226.trans (congrArg some (by kernel_rfl))
  f286 := Tryz.func227.trans (congrArg some (by kernel_rfl))
  f317 := Tryz.func242.trans (congrArg some (by kernel_rfl))
  f318 := Tryz.func243.trans (congrArg some (by kernel_rfl))
  f319 := Tryz.func244.trans (congrArg some (by kernel_rfl))
  f320 := Tryz.func245.trans (congrArg some (by kernel_rfl))
  f337 := Tryz.func250.trans (congrArg some (by kernel_rfl))
  f338 := Tryz.func251.trans (congrArg some (by kernel_rfl))
  t0 := Tryz.underlying0
  a0 := Tryz.isAgg0
  z0 := Tryz.sizeOf0
  v0 := Tryz.zeroValue0
  t2 := Tryz.underlying2
  a2 := Tryz.isAgg2
  z2 := Tryz.sizeOf2
  v2 := Tryz.zeroValue2
  t3 := Tryz.underlying3
  a3 := Tryz.isAgg3
  z3 := Tryz.sizeOf3
  v3 := Tryz.zeroValue3
  t4 := Tryz.underlying4
  a4 := Tryz.isAgg4
  z4 := Tryz.sizeOf4
  v4 := Tryz.zeroValue4
  t5 := Tryz.underlying5
  a5 := Tryz.isAgg5
  z5 := Tryz.sizeOf5
  v5 := Tryz.zeroValue5
  t9 := Tryz.underlying9
  a9 := Tryz.isAgg9
  z9 := Tryz.sizeOf9
  v9 := Tryz.zeroValue9
  t20 := Tryz.underlying20
  a20 := Tryz.isAgg20
  z20 := Tryz.sizeOf20
  v20 := Tryz.zeroValue20
  t37 := Tryz.underlying205
  a37 := Tryz.isAgg205
  z37 := Tryz.sizeOf205
  v37 := Tryz.zeroValue205
  t46 := Tryz.underlying200
  a46 := Tryz.isAgg200
  z46 := Tryz.sizeOf200
  v46 := Tryz.zeroValue200
  t51 := Tryz.underlying134
  a51 := Tryz.isAgg134
  z51 := Tryz.sizeOf134
  v51 := Tryz.zeroValue134
  t53 := Tryz.underlying136
  a53 := Tryz.isAgg136
  z53 := Tryz.sizeOf136
  v53 := Tryz.zeroValue136
  t171 := Tryz.underlying257
  a171 := Tryz.isAgg257
  z171 := Tryz.sizeOf257
  v171 := Tryz.zeroValue257
  t173 := Tryz.underlying259
  a173 := Tryz.isAgg259
  z173 := Tryz.sizeOf259
  v173 := Tryz.zeroValue259
  t212 := Tryz.underlying277
  a212 := Tryz.isAgg277
  z212 := Tryz.sizeOf277
  v212 := Tryz.zeroValue277
  t213 := Tryz.underlying278
  a213 := Tryz.isAgg278
  z213 := Tryz.sizeOf278
  t232 := Tryz.underlying287
  a232 := Tryz.isAgg287
  z232 := Tryz.sizeOf287
  v232 := Tryz.zeroValue287
  t233 := Tryz.underlying288
  a233 := Tryz.isAgg288
  z233 := Tryz.sizeOf288
  v233 := Tryz.zeroValue288
  g17 := by kernel_rfl
  g18 := by kernel_rfl
  g19 := by kernel_rfl }
open Go.RowKit Go.Sort Go.Lib in
theorem Tryz.internal_strconv_FormatInt_10_small (i : Nat) (hi : i < 100) (w : World) :
    Calls Tryz.prog 193 #[.int .i64 i, .int .i64 10] w fun e w' => e = .returned (.string ⟨(Lib.decDigits i).toArray⟩) ∧ w' = w := Any.internal_strconv_FormatInt_10_small Tryz.lays246 i hi w
def Tryz.laysM243_ren : Go.Shelf.Ren := ⟨fun | 243 => 153 | 246 => 193 | 283 => 224 | 284 => 225 | 285 => 226 | 286 => 227 | 129 => 223 | 317 => 242 | 318 => 243 | 319 => 244 | 320 => 245 | 337 => 250 | 338 => 251 | n => n, fun | 3 => 3 | 9 => 9 | 2 => 2 | 4 => 4 | 171 => 257 | 0 => 0 | 53 => 136 | 37 => 205 | 5 => 5 | 173 => 259 | 212 => 277 | 51 => 134 | 20 => 20 | 213 => 278 | 46 => 200 | 232 => 287 | 233 => 288 | n => n, fun | 17 => 3 | 18 => 4 | 19 => 5 | n => n⟩
theorem Tryz.laysM243 : Go.Proofs.LaysM.n243 Tryz.prog Tryz.laysM243_ren := {
  mixed := by kernel_rfl
  f129 := Tryz.func223.trans (congrArg some (by kernel_rfl))
  f243 := Tryz.func153.trans (congrArg some (by kernel_rfl))
  f246 := Tryz.func193.trans (congrArg some (by kernel_rfl))
  f283 := Tryz.func224.trans (congrArg some (by kernel_rfl))
  f284 := Tryz.func225.trans (congrArg some (by kernel_rfl))
  f285 := Tryz.func226.trans (congrArg some (by kernel_rfl))
  f286 := Tryz.func227.trans (congrArg some (by kernel_rfl))
  f317 := Tryz.func242.trans (congrArg some (by kernel_rfl))
  f318 := Tryz.func243.trans (congrArg some (by kernel_rfl))
  f319 := Tryz.func244.trans (congrArg some (by kernel_rfl))
  f320 := Tryz.func245.trans (congrArg some (by kernel_rfl))
  f337 := Tryz.func250.trans (congrArg some (by kernel_rfl))
  f338 := Tryz.func251.trans (congrArg some (by kernel_rfl))
  t0 := Tryz.underlying0
  a0 := Tryz.isAgg0
  z0 := Tryz.sizeOf0
  v0 := Tryz.zeroValue0
  t2 := Tryz.underlying2
  a2 := Tryz.isAgg2
  z2 := Tryz.sizeOf2
  v2 := Tryz.zeroValue2
  t3 := Tryz.underlying3
  a3 := Tryz.isAgg3
  z3 := Tryz.sizeOf3
  v3 := Tryz.zeroValue3
  t4 := Tryz.underlying4
  a4 := Tryz.isAgg4
  z4 := Tryz.sizeOf4
  v4 := Tryz.zeroValue4
  t5 := Tryz.underlying5
  a5 := Tryz.isAgg5
  z5 := Tryz.sizeOf5
  v5 := Tryz.zeroValue5
  t9 := Tryz.underlying9
  a9 := Tryz.isAgg9
  z9 := Tryz.sizeOf9
  v9 := Tryz.zeroValue9
  t20 := Tryz.underlying20
  a20 := Tryz.isAgg20
  z20 := Tryz.sizeOf20
  v20 := Tryz.zeroValue20
  t37 := Tryz.underlying205
  a37 := Tryz.isAgg205
  z37 := Tryz.sizeOf205
  v37 := Tryz.zeroValue205
  t46 := Tryz.underlying200
  a46 := Tryz.isAgg200
  z46 := Tryz.sizeOf200
  v46 := Tryz.zeroValue200
  t51 := Tryz.underlying134
  a51 := Tryz.isAgg134
  z51 := Tryz.sizeOf134
  v51 := Tryz.zeroValue134
  t53 := Tryz.underlying136
  a53 := Tryz.isAgg136
  z53 := Tryz.sizeOf136
  v53 := Tryz.zeroValue136
  t171 := Tryz.underlying257
  a171 := Tryz.isAgg257
  z171 := Tryz.sizeOf257
  v171 := Tryz.zeroValue257
  t173 := Tryz.underlying259
  a173 := Tryz.isAgg259
  z173 := Tryz.sizeOf259
  v173 := Tryz.zeroValue259
  t212 := Tryz.underlying277
  a212 := Tryz.isAgg277
  z212 := Tryz.sizeOf277
  v212 := Tryz.zeroValue277
  t213 := Tryz.underlying278
  a213 := Tryz.isAgg278
  z213 := Tryz.sizeOf278
  t232 := Tryz.underlying287
  a232 := Tryz.isAgg287
  z232 := Tryz.sizeOf287
  v232 := Tryz.zeroValue287
  t233 := Tryz.underlying288
  a233 := Tryz.isAgg288
  z233 := Tryz.sizeOf288
  v233 := Tryz.zeroValue288
  g17 := by kernel_rfl
  g18 := by kernel_rfl
  g19 := by kernel_rfl
  i0 := by kernel_rfl
  i2 := by kernel_rfl
  i3 := by kernel_rfl
  i4 := by kernel_rfl
  i5 := by kernel_rfl
  i9 := by kernel_rfl
  i20 := by kernel_rfl
  i37 := by kernel_rfl
  i46 := by kernel_rfl
  i51 := by kernel_rfl
  i53 := by kernel_rfl
  i171 := by kernel_rfl
  i173 := by kernel_rfl
  i212 := by kernel_rfl
  i232 := by kernel_rfl
  i233 := by kernel_rfl
  m17 := by kernel_rfl
  m18 := by kernel_rfl
  m19 := by kernel_rfl }
open Go.RowKit Go.Sort Go.Lib in
theorem Tryz.internal_strconv_Itoa (n : Int) (h0 : -9223372036854775808 ≤ n) (h1 : n ≤ 9223372036854775807) (w : World) (htab : Lib.TabIs Tryz.prog w "internal/strconv.uint64pow10" .u64 Lib.pow10Tab) :
    Calls Tryz.prog 153 #[.int .i64 n] w fun e w' => e = .returned (.string ⟨(Lib.itoa n).toArray⟩) ∧ ∃ k os, w' = grow (w.drewN k) os := Any.internal_strconv_Itoa Tryz.laysM243 n h0 h1 w htab
def Tryz.lays243_ren : Go.Shelf.Ren := ⟨fun | 243 => 153 | 246 => 193 | 283 => 224 | 284 => 225 | 285 => 226 | 286 => 227 | 129 => 223 | 317 => 242 | 318 => 243 | 319 => 244 | 320 => 245 | 337 => 250 | 338 => 251 | n => n, fun | 3 => 3 | 9 => 9 | 2 => 2 | 4 => 4 | 171 => 257 | 0 => 0 | 53 => 136 | 37 => 205 | 5 => 5 | 173 => 259 | 212 => 277 | 51 => 134 | 20 => 20 | 213 => 278 | 46 => 200 | 232 => 287 | 233 => 288 | n => n, fun | 17 => 3 | 18 => 4 | 19 => 5 | n => n⟩
theorem Tryz.lays243 : Go.Proofs.Lays.n243 Tryz.prog Tryz.lays243_ren := {
  mixed := by kernel_rfl
  f129 := Tryz.func223.trans (congrArg some (by kernel_rfl))
  f243 := Tryz.func153.trans (congrArg some (by kernel_rfl))
  f246 := Tryz.func193.trans (congrArg some (by kernel_rfl))
  f283 := Tryz.func224.trans (congrArg some (by kernel_rfl))
  f284 := Tryz.func225.trans (congrArg some (by kernel_rfl))
  f285 := Tryz.func226.trans (congrArg some (by kernel_rfl))
  f286 := Tryz.func227.trans (congrArg some (by kernel_rfl))
  f317 := Tryz.func242.trans (congrArg some (by kernel_rfl))
  f318 := Tryz.func243.trans (congrArg some (by kernel_rfl))
  f319 := Tryz.func244.trans (congrArg some (by kernel_rfl))
  f320 := Tryz.func245.trans (congrArg some (by kernel_rfl))
  f337 := Tryz.func250.trans (congrArg some (by kernel_rfl))
  f338 := Tryz.func251.trans (congrArg some (by kernel_rfl))
  t0 := Tryz.underlying0
  a0 := Tryz.isAgg0
  z0 := Tryz.sizeOf0
  v0 := Tryz.zeroValue0
  t2 := Tryz.underlying2
  a2 := Tryz.isAgg2
  z2 := Tryz.sizeOf2
  v2 := Tryz.zeroValue2
  t3 := Tryz.underlying3
  a3 := Tryz.isAgg3
  z3 := Tryz.sizeOf3
  v3 := Tryz.zeroValue3
  t4 := Tryz.underlying4
  a4 := Tryz.isAgg4
  z4 := Tryz.sizeOf4
  v4 := Tryz.zeroValue4
  t5 := Tryz.underlying5
  a5 := Tryz.isAgg5
  z5 := Tryz.sizeOf5
  v5 := Tryz.zeroValue5
  t9 := Tryz.underlying9
  a9 := Tryz.isAgg9
  z9 := Tryz.sizeOf9
  v9 := Tryz.zeroValue9
  t20 := Tryz.underlying20
  a20 := Tryz.isAgg20
  z20 := Tryz.sizeOf20
  v20 := Tryz.zeroValue20
  t37 := Tryz.underlying205
  a37 := Tryz.isAgg205
  z37 := Tryz.sizeOf205
  v37 := Tryz.zeroValue205
  t46 := Tryz.underlying200
  a46 := Tryz.isAgg200
  z46 := Tryz.sizeOf200
  v46 := Tryz.zeroValue200
  t51 := Tryz.underlying134
  a51 := Tryz.isAgg134
  z51 := Tryz.sizeOf134
  v51 := Tryz.zeroValue134
  t53 := Tryz.underlying136
  a53 := Tryz.isAgg136
  z53 := Tryz.sizeOf136
  v53 := Tryz.zeroValue136
  t171 := Tryz.underlying257
  a171 := Tryz.isAgg257
  z171 := Tryz.sizeOf257
  v171 := Tryz.zeroValue257
  t173 := Tryz.underlying259
  a173 := Tryz.isAgg259
  z173 := Tryz.sizeOf259
  v173 := Tryz.zeroValue259
  t212 := Tryz.underlying277
  a212 := Tryz.isAgg277
  z212 := Tryz.sizeOf277
  v212 := Tryz.zeroValue277
  t213 := Tryz.underlying278
  a213 := Tryz.isAgg278
  z213 := Tryz.sizeOf278
  t232 := Tryz.underlying287
  a232 := Tryz.isAgg287
  z232 := Tryz.sizeOf287
  v232 := Tryz.zeroValue287
  t233 := Tryz.underlying288
  a233 := Tryz.isAgg288
  z233 := Tryz.sizeOf288
  v233 := Tryz.zeroValue288
  g17 := by kernel_rfl
  g18 := by kernel_rfl
  g19 := by kernel_rfl }
open Go.RowKit Go.Sort Go.Lib in
theorem Tryz.internal_strconv_Itoa_small (i : Nat) (hi : i < 100) (w : World) :
    Calls Tryz.prog 153 #[.int .i64 i] w fun e w' => e = .returned (.string ⟨(Lib.decDigits i).toArray⟩) ∧ w' = w := Any.internal_strconv_Itoa_small Tryz.lays243 i hi w
def Tryz.laysM171_ren : Go.Shelf.Ren := ⟨fun | 171 => 89 | 243 => 153 | 246 => 193 | 283 => 224 | 284 => 225 | 285 => 226 | 286 => 227 | 129 => 223 | 317 => 242 | 318 => 243 | 319 => 244 | 320 => 245 | 337 => 250 | 338 => 251 | n => n, fun | 3 => 3 | 9 => 9 | 2 => 2 | 4 => 4 | 171 => 257 | 0 => 0 | 53 => 136 | 37 => 205 | 5 => 5 | 173 => 259 | 212 => 277 | 51 => 134 | 20 => 20 | 213 => 278 | 46 => 200 | 232 => 287 | 233 => 288 | n => n, fun | 17 => 3 | 18 => 4 | 19 => 5 | n => n⟩
theorem Tryz.laysM171 : Go.Proofs.LaysM.n171 Tryz.prog Tryz.laysM171_ren := {
  mixed := by kernel_rfl
  f129 := Tryz.func223.trans (congrArg some (by kernel_rfl))
  f171 := Tryz.func89.trans (congrArg some (by kernel_rfl))
  f243 := Tryz.func153.trans (congrArg some (by kernel_rfl))
  f246 := Tryz.func193.trans (congrArg some (by kernel_rfl))
  f283 := Tryz.func224.trans (congrArg some (by kernel_rfl))
  f284 := Tryz.func225.trans (congrArg some (by kernel_rfl))
  f285 := Tryz.func226.trans (congrArg some (by kernel_rfl))
  f286 := Tryz.func227.trans (congrArg some (by kernel_rfl))
  f317 := Tryz.func242.trans (congrArg some (by kernel_rfl))
  f318 := Tryz.func243.trans (congrArg some (by kernel_rfl))
  f319 := Tryz.func244.trans (congrArg some (by kernel_rfl))
  f320 := Tryz.func245.trans (congrArg some (by kernel_rfl))
  f337 := Tryz.func250.trans (congrArg some (by kernel_rfl))
  f338 := Tryz.func251.trans (congrArg some (by kernel_rfl))
  t0 := Tryz.underlying0
  a0 := Tryz.isAgg0
  z0 := Tryz.sizeOf0
  v0 := Tryz.zeroValue0
  t2 := Tryz.underlying2
  a2 := Tryz.isAgg2
  z2 := Tryz.sizeOf2
  v2 := Tryz.zeroValue2
  t3 := Tryz.underlying3
  a3 := Tryz.isAgg3
  z3 := Tryz.sizeOf3
  v3 := Tryz.zeroValue3
  t4 := Tryz.underlying4
  a4 := Tryz.isAgg4
  z4 := Tryz.sizeOf4
  v4 := Tryz.zeroValue4
  t5 := Tryz.underlying5
  a5 := Tryz.isAgg5
  z5 := Tryz.sizeOf5
  v5 := Tryz.zeroValue5
  t9 := Tryz.underlying9
  a9 := Tryz.isAgg9
  z9 := Tryz.sizeOf9
  v9 := Tryz.zeroValue9
  t20 := Tryz.underlying20
  a20 := Tryz.isAgg20
  z20 := Tryz.sizeOf20
  v20 := Tryz.zeroValue20
  t37 := Tryz.underlying205
  a37 := Tryz.isAgg205
  z37 := Tryz.sizeOf205
  v37 := Tryz.zeroValue205
  t46 := Tryz.underlying200
  a46 := Tryz.isAgg200
  z46 := Tryz.sizeOf200
  v46 := Tryz.zeroValue200
  t51 := Tryz.underlying134
  a51 := Tryz.isAgg134
  z51 := Tryz.sizeOf134
  v51 := Tryz.zeroValue134
  t53 := Tryz.underlying136
  a53 := Tryz.isAgg136
  z53 := Tryz.sizeOf136
  v53 := Tryz.zeroValue136
  t171 := Tryz.underlying257
  a171 := Tryz.isAgg257
  z171 := Tryz.sizeOf257
  v171 := Tryz.zeroValue257
  t173 := Tryz.underlying259
  a173 := Tryz.isAgg259
  z173 := Tryz.sizeOf259
  v173 := Tryz.zeroValue259
  t212 := Tryz.underlying277
  a212 := Tryz.isAgg277
  z212 := Tryz.sizeOf277
  v212 := Tryz.zeroValue277
  t213 := Tryz.underlying278
  a213 := Tryz.isAgg278
  z213 := Tryz.sizeOf278
  t232 := Tryz.underlying287
  a232 := Tryz.isAgg287
  z232 := Tryz.sizeOf287
  v232 := Tryz.zeroValue287
  t233 := Tryz.underlying288
  a233 := Tryz.isAgg288
  z233 := Tryz.sizeOf288
  v233 := Tryz.zeroValue288
  g17 := by kernel_rfl
  g18 := by kernel_rfl
  g19 := by kernel_rfl
  i0 := by kernel_rfl
  i2 := by kernel_rfl
  i3 := by kernel_rfl
  i4 := by kernel_rfl
  i5 := by kernel_rfl
  i9 := by kernel_rfl
  i20 := by kernel_rfl
  i37 := by kernel_rfl
  i46 := by kernel_rfl
  i51 := by kernel_rfl
  i53 := by kernel_rfl
  i171 := by kernel_rfl
  i173 := by kernel_rfl
  i212 := by kernel_rfl
  i232 := by kernel_rfl
  i233 := by kernel_rfl
  m17 := by kernel_rfl
  m18 := by kernel_rfl
  m19 := by kernel_rfl }
open Go.RowKit Go.Sort Go.Lib in
theorem Tryz.strconv_Itoa (n : Int) (h0 : -9223372036854775808 ≤ n) (h1 : n ≤ 9223372036854775807) (w : World) (htab : Lib.TabIs Tryz.prog w "internal/strconv.uint64pow10" .u64 Lib.pow10Tab) :
    Calls Tryz.prog 89 #[.int .i64 n] w fun e w' => e = .returned (.string ⟨(Lib.itoa n).toArray⟩) ∧ ∃ k os, w' = grow (w.drewN k) os := Any.strconv_Itoa Tryz.laysM171 n h0 h1 w htab
def Tryz.lays171_ren : Go.Shelf.Ren := ⟨fun | 171 => 89 | 243 => 153 | 246 => 193 | 283 => 224 | 284 => 225 | 285 => 226 | 286 => 227 | 129 => 223 | 317 => 242 | 318 => 243 | 319 => 244 | 320 => 245 | 337 => 250 | 338 => 251 | n => n, fun | 3 => 3 | 9 => 9 | 2 => 2 | 4 => 4 | 171 => 257 | 0 => 0 | 53 => 136 | 37 => 205 | 5 => 5 | 173 => 259 | 212 => 277 | 51 => 134 | 20 => 20 | 213 => 278 | 46 => 200 | 232 => 287 | 233 => 288 | n => n, fun | 17 => 3 | 18 => 4 | 19 => 5 | n => n⟩
theorem Tryz.lays171 : Go.Proofs.Lays.n171 Tryz.prog Tryz.lays171_ren := {
  mixed := by kernel_rfl
  f129 := Tryz.func223.trans (congrArg some (by kernel_rfl))
  f171 := Tryz.func89.trans (congrArg some (by kernel_rfl))
  f243 := Tryz.func153.trans (congrArg some (by kernel_rfl))
  f246 := Tryz.func193.trans (congrArg some (by kernel_rfl))
  f283 := Tryz.func224.trans (congrArg some (by kernel_rfl))
  f284 := Tryz.func225.trans (congrArg some (by kernel_rfl))
  f285 := Tryz.func226.trans (congrArg some (by kernel_rfl))
  f286 := Tryz.func227.trans (congrArg some (by kernel_rfl))
  f317 := Tryz.func242.trans (congrArg some (by kernel_rfl))
  f318 := Tryz.func243.trans (congrArg some (by kernel_rfl))
  f319 := Tryz.func244.trans (congrArg some (by kernel_rfl))
  f320 := Tryz.func245.trans (congrArg some (by kernel_rfl))
  f337 := Tryz.func250.trans (congrArg some (by kernel_rfl))
  f338 := Tryz.func251.trans (congrArg some (by kernel_rfl))
  t0 := Tryz.underlying0
  a0 := Tryz.isAgg0
  z0 := Tryz.sizeOf0
  v0 := Tryz.zeroValue0
  t2 := Tryz.underlying2
  a2 := Tryz.isAgg2
  z2 := Tryz.sizeOf2
  v2 := Tryz.zeroValue2
  t3 := Tryz.underlying3
  a3 := Tryz.isAgg3
  z3 := Tryz.sizeOf3
  v3 := Tryz.zeroValue3
  t4 := Tryz.underlying4
  a4 := Tryz.isAgg4
  z4 := Tryz.sizeOf4
  v4 := Tryz.zeroValue4
  t5 := Tryz.underlying5
  a5 := Tryz.isAgg5
  z5 := Tryz.sizeOf5
  v5 := Tryz.zeroValue5
  t9 := Tryz.underlying9
  a9 := Tryz.isAgg9
  z9 := Tryz.sizeOf9
  v9 := Tryz.zeroValue9
  t20 := Tryz.underlying20
  a20 := Tryz.isAgg20
  z20 := Tryz.sizeOf20
  v20 := Tryz.zeroValue20
  t37 := Tryz.underlying205
  a37 := Tryz.isAgg205
  z37 := Tryz.sizeOf205
  v37 := Tryz.zeroValue205
  t46 := Tryz.underlying200
  a46 := Tryz.isAgg200
  z46 := Tryz.sizeOf200
  v46 := Tryz.zeroValue200
  t51 := Tryz.underlying134
  a51 := Tryz.isAgg134
  z51 := Tryz.sizeOf134
  v51 := Tryz.zeroValue134
  t53 := Tryz.underlying136
  a53 := Tryz.isAgg136
  z53 := Tryz.sizeOf136
  v53 := Tryz.zeroValue136
  t171 := Tryz.underlying257
  a171 := Tryz.isAgg257
  z171 := Tryz.sizeOf257
  v171 := Tryz.zeroValue257
  t173 := Tryz.underlying259
  a173 := Tryz.isAgg259
  z173 := Tryz.sizeOf259
  v173 := Tryz.zeroValue259
  t212 := Tryz.underlying277
  a212 := Tryz.isAgg277
  z212 := Tryz.sizeOf277
  v212 := Tryz.zeroValue277
  t213 := Tryz.underlying278
  a213 := Tryz.isAgg278
  z213 := Tryz.sizeOf278
  t232 := Tryz.underlying287
  a232 := Tryz.isAgg287
  z232 := Tryz.sizeOf287
  v232 := Tryz.zeroValue287
  t233 := Tryz.underlying288
  a233 := Tryz.isAgg288
  z233 := Tryz.sizeOf288
  v233 := Tryz.zeroValue288
  g17 := by kernel_rfl
  g18 := by kernel_rfl
  g19 := by kernel_rfl }
open Go.RowKit Go.Sort Go.Lib in
theorem Tryz.strconv_Itoa_small (i : Nat) (hi : i < 100) (w : World) :
    Calls Tryz.prog 89 #[.int .i64 i] w fun e w' => e = .returned (.string ⟨(Lib.decDigits i).toArray⟩) ∧ w' = w := Any.strconv_Itoa_small Tryz.lays171 i hi w
open Go.RowKit in
theorem Tryz.internal_strconv_Atoi_err (s : ByteArray) (hl0 : 1 ≤ s.size) (hl : s.size ≤ 18) (h : Lib.atoi s.data.toList = none) (w : World) :
    Calls Tryz.prog 163 #[.string s] w fun e w' => e = .returned (.tuple #[.int .i64 0, (.iface 239 (.int .i64 2))]) ∧ (w' = w ∨ ∃ t, w' = Lib.bytesWorld w 5 t) := Any.internal_strconv_Atoi_err Tryz.lays244 s hl0 hl h w
def Tryz.lays247_ren : Go.Shelf.Ren := ⟨fun | 247 => 199 | 287 => 233 | 321 => 247 | 322 => 248 | n => n, fun | 9 => 9 | 3 => 3 | 2 => 2 | 75 => 157 | 4 => 4 | 167 => 239 | 5 => 5 | 53 => 136 | 175 => 264 | 46 => 200 | 37 => 205 | 0 => 0 | 21 => 21 | 80 => 153 | n => n, fun | n => n⟩
theorem Tryz.lays247 : Go.Proofs.Lays.n247 Tryz.prog Tryz.lays247_ren := {
  mixed := by kernel_rfl
  f247 := Tryz.func199.trans (congrArg some (by kernel_rfl))
  f287 := Tryz.func233.trans (congrArg some (by kernel_rfl))
  f321 := Tryz.func247.trans (congrArg some (by kernel_rfl))
  f322 := Tryz.func248.trans (congrArg some (by kernel_rfl))
  t0 := Tryz.underlying0
  a0 := Tryz.isAgg0
  z0 := Tryz.sizeOf0
  v0 := Tryz.zeroValue0
  t2 := Tryz.underlying2
  a2 := Tryz.isAgg2
  z2 := Tryz.sizeOf2
  v2 := Tryz.zeroValue2
  t3 := Tryz.underlying3
  a3 := Tryz.isAgg3
  z3 := Tryz.sizeOf3
  v3 := Tryz.zeroValue3
  t4 := Tryz.underlying4
  a4 := Tryz.isAgg4
  z4 := Tryz.sizeOf4
  v4 := Tryz.zeroValue4
  t5 := Tryz.underlying5
  a5 := Tryz.isAgg5
  z5 := Tryz.sizeOf5
  v5 := Tryz.zeroValue5
  t9 := Tryz.underlying9
  a9 := Tryz.isAgg9
  z9 := Tryz.sizeOf9
  v9 := Tryz.zeroValue9
  t21 := Tryz.underlying21
  a21 := Tryz.isAgg21
  z21 := Tryz.sizeOf21
  v21 := Tryz.zeroValue21
  t37 := Tryz.underlying205
  a37 := Tryz.isAgg205
  z37 := Tryz.sizeOf205
  v37 := Tryz.zeroValue205
  t46 := Tryz.underlying200
  a46 := Tryz.isAgg200
  z46 := Tryz.sizeOf200
  v46 := Tryz.zeroValue200
  t53 := Tryz.underlying136
  a53 := Tryz.isAgg136
  z53 := Tryz.sizeOf136
  v53 := Tryz.zeroValue136
  t75 := Tryz.underlying157
  a75 := Tryz.isAgg157
  z75 := Tryz.sizeOf157
  v75 := Tryz.zeroValue157
  t167 := Tryz.underlying239
  a167 := Tryz.isAgg239
  z167 := Tryz.sizeOf239
  v167 := Tryz.zeroValue239
  t175 := Tryz.underlying264
  a175 := Tryz.isAgg264
  z175 := Tryz.sizeOf264
  v175 := Tryz.zeroValue264 }
open Go.RowKit in
theorem Tryz.internal_strconv_ParseInt_empty (base bits : Int) (w : World) :
    Calls Tryz.prog 199 #[.string ⟨#[]⟩, .int .i64 base, .int .i64 bits] w fun e w' => e = .returned (.tuple #[.int .i64 0, (.iface 239 (.int .i64 2))]) ∧ w' = w := Any.internal_strconv_ParseInt_empty Tryz.lays247 base bits w
open Go.RowKit in
theorem Tryz.internal_strconv_Atoi_empty (w : World) :
    Calls Tryz.prog 163 #[.string ⟨#[]⟩] w fun e w' => e = .returned (.tuple #[.int .i64 0, (.iface 239 (.int .i64 2))]) ∧ w' = w := Any.internal_strconv_Atoi_empty Tryz.lays244 w
open Go.RowKit in
theorem Tryz.internal_strconv_Atoi_fail (s : ByteArray) (hl : s.size ≤ 18) (h : Lib.atoi s.data.toList = none) (w : World) :
    Calls Tryz.prog 163 #[.string s] w fun e w' => e = .returned (.tuple #[.int .i64 0, (.iface 239 (.int .i64 2))]) ∧ (w' = w ∨ ∃ t, w' = Lib.bytesWorld w 5 t) := Any.internal_strconv_Atoi_fail Tryz.lays244 s hl h w
def Tryz.laysM316_ren : Go.Shelf.Ren := ⟨fun | 316 => 234 | n => n, fun | 9 => 9 | 3 => 3 | 4 => 4 | 37 => 205 | 0 => 0 | 127 => 237 | 5 => 5 | n => n, fun | n => n⟩
theorem Tryz.laysM316 : Go.Proofs.LaysM.n316 Tryz.prog Tryz.laysM316_ren := {
  mixed := by kernel_rfl
  f316 := Tryz.func234.trans (congrArg some (by kernel_rfl))
  t0 := Tryz.underlying0
  a0 := Tryz.isAgg0
  z0 := Tryz.sizeOf0
  v0 := Tryz.zeroValue0
  t3 := Tryz.underlying3
  a3 := Tryz.isAgg3
  z3 := Tryz.sizeOf3
  v3 := Tryz.zeroValue3
  t4 := Tryz.underlying4
  a4 := Tryz.isAgg4
  z4 := Tryz.sizeOf4
  v4 := Tryz.zeroValue4
  t9 := Tryz.underlying9
  a9 := Tryz.isAgg9
  z9 := Tryz.sizeOf9
  v9 := Tryz.zeroValue9
  t37 := Tryz.underlying205
  a37 := Tryz.isAgg205
  z37 := Tryz.sizeOf205
  v37 := Tryz.zeroValue205
  t127 := Tryz.underlying237
  a127 := Tryz.isAgg237
  z127 := Tryz.sizeOf237
  v127 := Tryz.zeroValue237
  t5 := Tryz.underlying5
  a5 := Tryz.isAgg5
  z5 := Tryz.sizeOf5
  v5 := Tryz.zeroValue5
  i0 := by kernel_rfl
  i3 := by kernel_rfl
  i4 := by kernel_rfl
  i5 := by kernel_rfl
  i9 := by kernel_rfl
  i37 := by kernel_rfl
  i127 := by kernel_rfl }
open Go.RowKit in
theorem Tryz.stringslite_Clone (s : ByteArray) (w : World) (hlim : s.size ≤ 281474976710656) :
    Calls Tryz.prog 234 #[.string s] w fun e w' => e = .returned (.string s) ∧ Below w.heap.size w w' := Any.stringslite_Clone Tryz.laysM316 s w hlim
def Tryz.laysM279_ren : Go.Shelf.Ren := ⟨fun | 279 => 200 | 316 => 234 | n => n, fun | 9 => 9 | 168 => 242 | 75 => 157 | 210 => 268 | 3 => 3 | 4 => 4 | 37 => 205 | 0 => 0 | 127 => 237 | 80 => 153 | 5 => 5 | n => n, fun | 15 => 1 | n => n⟩
theorem Tryz.laysM279 : Go.Proofs.LaysM.n279 Tryz.prog Tryz.laysM279_ren := {
  mixed := by kernel_rfl
  f279 := Tryz.func200.trans (congrArg some (by kernel_rfl))
  f316 := Tryz.func234.trans (congrArg some (by kernel_rfl))
  t0 := Tryz.underlying0
  a0 := Tryz.isAgg0
  z0 := Tryz.sizeOf0
  v0 := Tryz.zeroValue0
  t3 := Tryz.underlying3
  a3 := Tryz.isAgg3
  z3 := Tryz.sizeOf3
  v3 := Tryz.zeroValue3
  t4 := Tryz.underlying4
  a4 := Tryz.isAgg4
  z4 := Tryz.sizeOf4
  v4 := Tryz.zeroValue4
  t9 := Tryz.underlying9
  a9 := Tryz.isAgg9
  z9 := Tryz.sizeOf9
  v9 := Tryz.zeroValue9
  t37 := Tryz.underlying205
  a37 := Tryz.isAgg205
  z37 := Tryz.sizeOf205
  v37 := Tryz.zeroValue205
  t75 := Tryz.underlying157
  a75 := Tryz.isAgg157
  z75 := Tryz.sizeOf157
  v75 := Tryz.zeroValue157
  t127 := Tryz.underlying237
  a127 := Tryz.isAgg237
  z127 := Tryz.sizeOf237
  v127 := Tryz.zeroValue237
  t168 := Tryz.underlying242
  a168 := Tryz.isAgg242
  z168 := Tryz.sizeOf242
  v168 := Tryz.zeroValue242
  t210 := Tryz.underlying268
  a210 := Tryz.isAgg268
  z210 := Tryz.sizeOf268
  v210 := Tryz.zeroValue268
  g15 := by kernel_rfl
  t5 := Tryz.underlying5
  a5 := Tryz.isAgg5
  z5 := Tryz.sizeOf5
  v5 := Tryz.zeroValue5
  t80 := Tryz.underlying153
  a80 := Tryz.isAgg153
  z80 := Tryz.sizeOf153
  v80 := Tryz.zeroValue153
  i0 := by kernel_rfl
  i3 := by kernel_rfl
  i4 := by kernel_rfl
  i5 := by kernel_rfl
  i9 := by kernel_rfl
  i37 := by kernel_rfl
  i75 := by kernel_rfl
  i80 := by kernel_rfl
  i127 := by kernel_rfl
  i168 := by kernel_rfl
  i210 := by kernel_rfl
  m15 := by kernel_rfl }
open Go.RowKit in
theorem Tryz.strconv_syntaxError (fn s : ByteArray) (ev : Value) (w : World) (hlim : s.size ≤ 281474976710656) (hv : w.cell? ⟨1, 0, none⟩ = some ev) (hev : ev = .nilIface ∨ ∃ te pe, ev = .iface te pe) :
    Calls Tryz.prog 200 #[.string fn, .string s] w fun e w' => ∃ N, e = .returned (.pointer (some ⟨N, 0, none⟩)) ∧ w.heap.size ≤ N ∧ w'.heap[N]? = some (.cells #[.string fn, .string s, ev] 268 (0, 0)) ∧ Below w.heap.size w w' := Any.strconv_syntaxError Tryz.laysM279 fn s ev w hlim hv hev
def Tryz.lays321_ren : Go.Shelf.Ren := ⟨fun | 321 => 247 | n => n, fun | 5 => 5 | n => n, fun | n => n⟩
theorem Tryz.lays321 : Go.Proofs.Lays.n321 Tryz.prog Tryz.lays321_ren := {
  mixed := by kernel_rfl
  f321 := Tryz.func247.trans (congrArg some (by kernel_rfl))
  t5 := Tryz.underlying5
  a5 := Tryz.isAgg5
  z5 := Tryz.sizeOf5
  v5 := Tryz.zeroValue5 }
open Go.RowKit in
theorem Tryz.internal_strconv_lower (c : Int) (w : World) :
    Calls Tryz.prog 247 #[.int .u8 c] w fun e w' => e = .returned (.int .u8 (bits .or .u8 c 32)) ∧ w' = w := Any.internal_strconv_lower Tryz.lays321 c w
def Tryz.lays287_ren : Go.Shelf.Ren := ⟨fun | 287 => 233 | 321 => 247 | 322 => 248 | n => n, fun | 9 => 9 | 3 => 3 | 53 => 136 | 75 => 157 | 4 => 4 | 167 => 239 | 5 => 5 | 46 => 200 | 37 => 205 | 0 => 0 | 21 => 21 | 80 => 153 | n => n, fun | n => n⟩
theorem Tryz.lays287 : Go.Proofs.Lays.n287 Tryz.prog Tryz.lays287_ren := {
  mixed := by kernel_rfl
  f287 := Tryz.func233.trans (congrArg some (by kernel_rfl))
  f321 := Tryz.func247.trans (congrArg some (by kernel_rfl))
  f322 := Tryz.func248.trans (congrArg some (by kernel_rfl))
  t0 := Tryz.underlying0
  a0 := Tryz.isAgg0
  z0 := Tryz.sizeOf0
  v0 := Tryz.zeroValue0
  t3 := Tryz.underlying3
  a3 := Tryz.isAgg3
  z3 := Tryz.sizeOf3
  v3 := Tryz.zeroValue3
  t4 := Tryz.underlying4
  a4 := Tryz.isAgg4
  z4 := Tryz.sizeOf4
  v4 := Tryz.zeroValue4
  t5 := Tryz.underlying5
  a5 := Tryz.isAgg5
  z5 := Tryz.sizeOf5
  v5 := Tryz.zeroValue5
  t9 := Tryz.underlying9
  a9 := Tryz.isAgg9
  z9 := Tryz.sizeOf9
  v9 := Tryz.zeroValue9
  t21 := Tryz.underlying21
  a21 := Tryz.isAgg21
  z21 := Tryz.sizeOf21
  v21 := Tryz.zeroValue21
  t37 := Tryz.underlying205
  a37 := Tryz.isAgg205
  z37 := Tryz.sizeOf205
  v37 := Tryz.zeroValue205
  t46 := Tryz.underlying200
  a46 := Tryz.isAgg200
  z46 := Tryz.sizeOf200
  v46 := Tryz.zeroValue200
  t53 := Tryz.underlying136
  a53 := Tryz.isAgg136
  z53 := Tryz.sizeOf136
  v53 := Tryz.zeroValue136
  t75 := Tryz.underlying157
  a75 := Tryz.isAgg157
  z75 := Tryz.sizeOf157
  v75 := Tryz.zeroValue157
  t167 := Tryz.underlying239
  a167 := Tryz.isAgg239
  z167 := Tryz.sizeOf239
  v167 := Tryz.zeroValue239 }
open Go.RowKit in
theorem Tryz.internal_strconv_ParseUint_10 (t : ByteArray) (hne : t.size ≠ 0) (hmax : t.size ≤ 9223372036854775806) (w : World) :
    Calls Tryz.prog 233 #[.string t, .int .i64 10, .int .i64 0] w fun e w' => e = .returned (Lib.uintTuple 239 (Lib.parseUint10 0 t.data.toList)) ∧ w' = Lib.bytesWorld w 5 t := Any.internal_strconv_ParseUint_10 Tryz.lays287 t hne hmax w
open Go.RowKit in
theorem Tryz.internal_strconv_ParseUint_10_empty (w : World) :
    Calls Tryz.prog 233 #[.string ⟨#[]⟩, .int .i64 10, .int .i64 0] w fun e w' => e = .returned (Lib.uintTuple 239 .syntax) ∧ w' = w := Any.internal_strconv_ParseUint_10_empty Tryz.lays287 w
def Tryz.laysM280_ren : Go.Shelf.Ren := ⟨fun | 280 => 201 | 316 => 234 | n => n, fun | 9 => 9 | 168 => 242 | 75 => 157 | 210 => 268 | 3 => 3 | 4 => 4 | 37 => 205 | 0 => 0 | 127 => 237 | 80 => 153 | 5 => 5 | n => n, fun | 16 => 2 | n => n⟩
theorem Tryz.laysM280 : Go.Proofs.LaysM.n280 Tryz.prog Tryz.laysM280_ren := {
  mixed := by kernel_rfl
  f280 := Tryz.func201.trans (congrArg some (by kernel_rfl))
  f316 := Tryz.func234.trans (congrArg some (by kernel_rfl))
  t0 := Tryz.underlying0
  a0 := Tryz.isAgg0
  z0 := Tryz.sizeOf0
  v0 := Tryz.zeroValue0
  t3 := Tryz.underlying3
  a3 := Tryz.isAgg3
  z3 := Tryz.sizeOf3
  v3 := Tryz.zeroValue3
  t4 := Tryz.underlying4
  a4 := Tryz.isAgg4
  z4 := Tryz.sizeOf4
  v4 := Tryz.zeroValue4
  t9 := Tryz.underlying9
  a9 := Tryz.isAgg9
  z9 := Tryz.sizeOf9
  v9 := Tryz.zeroValue9
  t37 := Tryz.underlying205
  a37 := Tryz.isAgg205
  z37 := Tryz.sizeOf205
  v37 := Tryz.zeroValue205
  t75 := Tryz.underlying157
  a75 := Tryz.isAgg157
  z75 := Tryz.sizeOf157
  v75 := Tryz.zeroValue157
  t127 := Tryz.underlying237
  a127 := Tryz.isAgg237
  z127 := Tryz.sizeOf237
  v127 := Tryz.zeroValue237
  t168 := Tryz.underlying242
  a168 := Tryz.isAgg242
  z168 := Tryz.sizeOf242
  v168 := Tryz.zeroValue242
  t210 := Tryz.underlying268
  a210 := Tryz.isAgg268
  z210 := Tryz.sizeOf268
  v210 := Tryz.zeroValue268
  g16 := by kernel_rfl
  t5 := Tryz.underlying5
  a5 := Tryz.isAgg5
  z5 := Tryz.sizeOf5
  v5 := Tryz.zeroValue5
  t80 := Tryz.underlying153
  a80 := Tryz.isAgg153
  z80 := Tryz.sizeOf153
  v80 := Tryz.zeroValue153
  i0 := by kernel_rfl
  i3 := by kernel_rfl
  i4 := by kernel_rfl
  i5 := by kernel_rfl
  i9 := by kernel_rfl
  i37 := by kernel_rfl
  i75 := by kernel_rfl
  i80 := by kernel_rfl
  i127 := by kernel_rfl
  i168 := by kernel_rfl
  i210 := by kernel_rfl
  m16 := by kernel_rfl }
open Go.RowKit in
theorem Tryz.strconv_rangeError (fn s : ByteArray) (ev : Value) (w : World) (hlim : s.size ≤ 281474976710656) (hv : w.cell? ⟨2, 0, none⟩ = some ev) (hev : ev = .nilIface ∨ ∃ te pe, ev = .iface te pe) :
    Calls Tryz.prog 201 #[.string fn, .string s] w fun e w' => ∃ N, e = .returned (.pointer (some ⟨N, 0, none⟩)) ∧ w.heap.size ≤ N ∧ w'.heap[N]? = some (.cells #[.string fn, .string s, ev] 268 (0, 0)) ∧ Below w.heap.size w w' := Any.strconv_rangeError Tryz.laysM280 fn s ev w hlim hv hev
open Go.RowKit in
theorem Tryz.internal_strconv_ParseUint_empty (base bits : Int) (w : World) :
    Calls Tryz.prog 233 #[.string ⟨#[]⟩, .int .i64 base, .int .i64 bits] w fun e w' => e = .returned (.tuple #[.int .u64 0, .iface 239 (.int .i64 2)]) ∧ w' = w := Any.internal_strconv_ParseUint_empty Tryz.lays287 base bits w
open Go.RowKit in
theorem Tryz.internal_strconv_ParseUint_10_b64 (t : ByteArray) (hne : t.size ≠ 0) (hmax : t.size ≤ 9223372036854775806) (w : World) :
    Calls Tryz.prog 233 #[.string t, .int .i64 10, .int .i64 64] w fun e w' => e = .returned (Lib.uintTuple 239 (Lib.parseUint10 0 t.data.toList)) ∧ w' = Lib.bytesWorld w 5 t := Any.internal_strconv_ParseUint_10_b64 Tryz.lays287 t hne hmax w
open Go.RowKit in
theorem Tryz.internal_strconv_ParseUint_10_b32 (t : ByteArray) (hne : t.size ≠ 0) (hmax : t.size ≤ 9223372036854775806) (w : World) :
    Calls Tryz.prog 233 #[.string t, .int .i64 10, .int .i64 32] w fun e w' => e = .returned (Lib.uintTupleM 239 4294967295 (Lib.parseUintM 4294967295 0 t.data.toList)) ∧ w' = Lib.bytesWorld w 5 t := Any.internal_strconv_ParseUint_10_b32 Tryz.lays287 t hne hmax w
open Go.RowKit in
theorem Tryz.internal_strconv_ParseUint_10_b16 (t : ByteArray) (hne : t.size ≠ 0) (hmax : t.size ≤ 9223372036854775806) (w : World) :
    Calls Tryz.prog 233 #[.string t, .int .i64 10, .int .i64 16] w fun e w' => e = .returned (Lib.uintTupleM 239 65535 (Lib.parseUintM 65535 0 t.data.toList)) ∧ w' = Lib.bytesWorld w 5 t := Any.internal_strconv_ParseUint_10_b16 Tryz.lays287 t hne hmax w
open Go.RowKit in
theorem Tryz.internal_strconv_ParseUint_10_b8 (t : ByteArray) (hne : t.size ≠ 0) (hmax : t.size ≤ 9223372036854775806) (w : World) :
    Calls Tryz.prog 233 #[.string t, .int .i64 10, .int .i64 8] w fun e w' => e = .returned (Lib.uintTupleM 239 255 (Lib.parseUintM 255 0 t.data.toList)) ∧ w' = Lib.bytesWorld w 5 t := Any.internal_strconv_ParseUint_10_b8 Tryz.lays287 t hne hmax w
def Tryz.lays217_ren : Go.Shelf.Ren := ⟨fun | 217 => 165 | 266 => 204 | n => n, fun | 9 => 9 | 5 => 5 | 3 => 3 | n => n, fun | n => n⟩
theorem Tryz.lays217 : Go.Proofs.Lays.n217 Tryz.prog Tryz.lays217_ren := {
  mixed := by kernel_rfl
  f217 := Tryz.func165.trans (congrArg some (by kernel_rfl))
  f266 := Tryz.func204.trans (congrArg some (by kernel_rfl))
  t3 := Tryz.underlying3
  a3 := Tryz.isAgg3
  z3 := Tryz.sizeOf3
  v3 := Tryz.zeroValue3
  t5 := Tryz.underlying5
  a5 := Tryz.isAgg5
  z5 := Tryz.sizeOf5
  v5 := Tryz.zeroValue5
  t9 := Tryz.underlying9
  a9 := Tryz.isAgg9
  z9 := Tryz.sizeOf9
  v9 := Tryz.zeroValue9 }
open Go.RowKit Go.Lib in
theorem Tryz.stringslite_IndexByte (s : ByteArray) (c : Int) (w : World) :
    Calls Tryz.prog 165 #[.string s, .int .u8 c] w fun e w' => e = .returned (.int .i64 (Lib.indexByte s.data.toList c.toNat.toUInt8)) ∧ w' = w := Any.stringslite_IndexByte Tryz.lays217 s c w
def Tryz.lays224_ren : Go.Shelf.Ren := ⟨fun | 224 => 231 | n => n, fun | 3 => 3 | n => n, fun | n => n⟩
theorem Tryz.lays224 : Go.Proofs.Lays.n224 Tryz.prog Tryz.lays224_ren := {
  mixed := by kernel_rfl
  f224 := Tryz.func231.trans (congrArg some (by kernel_rfl))
  t3 := Tryz.underlying3
  a3 := Tryz.isAgg3
  z3 := Tryz.sizeOf3
  v3 := Tryz.zeroValue3 }
open Go.RowKit Go.Lib in
theorem Tryz.bytealg_Cutover (n : Int) (h0 : 0 ≤ n) (h1 : n < 4611686018427387904) (w : World) :
    Calls Tryz.prog 231 #[.int .i64 n] w fun e w' => e = .returned (.int .i64 ((n + 16) / 8)) ∧ w' = w := Any.bytealg_Cutover Tryz.lays224 n h0 h1 w
def Tryz.lays314_ren : Go.Shelf.Ren := ⟨fun | 314 => 246 | n => n, fun | 9 => 9 | 51 => 134 | 3 => 3 | 4 => 4 | 5 => 5 | 46 => 200 | n => n, fun | n => n⟩
theorem Tryz.lays314 : Go.Proofs.Lays.n314 Tryz.prog Tryz.lays314_ren := {
  mixed := by kernel_rfl
  f314 := Tryz.func246.trans (congrArg some (by kernel_rfl))
  t3 := Tryz.underlying3
  a3 := Tryz.isAgg3
  z3 := Tryz.sizeOf3
  v3 := Tryz.zeroValue3
  t4 := Tryz.underlying4
  a4 := Tryz.isAgg4
  z4 := Tryz.sizeOf4
  v4 := Tryz.zeroValue4
  t5 := Tryz.underlying5
  a5 := Tryz.isAgg5
  z5 := Tryz.sizeOf5
  v5 := Tryz.zeroValue5
  t9 := Tryz.underlying9
  a9 := Tryz.isAgg9
  z9 := Tryz.sizeOf9
  v9 := Tryz.zeroValue9
  t46 := Tryz.underlying200
  a46 := Tryz.isAgg200
  z46 := Tryz.sizeOf200
  v46 := Tryz.zeroValue200
  t51 := Tryz.underlying134
  a51 := Tryz.isAgg134
  z51 := Tryz.sizeOf134
  v51 := Tryz.zeroValue134 }
open Go.RowKit Go.Lib in
theorem Tryz.bytealg_hashStr (sep : ByteArray) (hs : sep.size < 4294967281) (w : World) :
    Calls Tryz.prog 246 #[.string sep] w fun e w' => e = .returned (.tuple #[.int .u32 (RK.H sep.data.toList % 4294967296), .int .u32 (16777619 ^ sep.size % 4294967296)]) ∧ w' = w := Any.bytealg_hashStr Tryz.lays314 sep hs w
def Tryz.lays267_ren : Go.Shelf.Ren := ⟨fun | 267 => 232 | 314 => 246 | n => n, fun | 9 => 9 | 3 => 3 | 146 => 233 | 51 => 134 | 4 => 4 | 5 => 5 | 46 => 200 | n => n, fun | n => n⟩
theorem Tryz.lays267 : Go.Proofs.Lays.n267 Tryz.prog Tryz.lays267_ren := {
  mixed := by kernel_rfl
  f267 := Tryz.func232.trans (congrArg some (by kernel_rfl))
  f314 := Tryz.func246.trans (congrArg some (by kernel_rfl))
  t3 := Tryz.underlying3
  a3 := Tryz.isAgg3
  z3 := Tryz.sizeOf3
  v3 := Tryz.zeroValue3
  t4 := Tryz.underlying4
  a4 := Tryz.isAgg4
  z4 := Tryz.sizeOf4
  v4 := Tryz.zeroValue4
  t5 := Tryz.underlying5
  a5 := Tryz.isAgg5
  z5 := Tryz.sizeOf5
  v5 := Tryz.zeroValue5
  t9 := Tryz.underlying9
  a9 := Tryz.isAgg9
  z9 := Tryz.sizeOf9
  v9 := Tryz.zeroValue9
  t46 := Tryz.underlying200
  a46 := Tryz.isAgg200
  z46 := Tryz.sizeOf200
  v46 := Tryz.zeroValue200
  t51 := Tryz.underlying134
  a51 := Tryz.isAgg134
  z51 := Tryz.sizeOf134
  v51 := Tryz.zeroValue134
  t146 := Tryz.underlying233
  a146 := Tryz.isAgg233
  z146 := Tryz.sizeOf233
  v146 := Tryz.zeroValue233 }
open Go.RowKit Go.Lib in
theorem Tryz.bytealg_IndexRabinKarp (s sep : ByteArray) (h1 : 1 ≤ sep.size) (h2 : sep.size ≤ s.size) (hs : s.size < 4294967281) (w : World) :
    Calls Tryz.prog 232 #[.string s, .string sep] w fun e w' => e = .returned (.int .i64 (Lib.index s.data.toList sep.data.toList)) ∧ w' = w := Any.bytealg_IndexRabinKarp Tryz.lays267 s sep h1 h2 hs w
def Tryz.lays219_ren : Go.Shelf.Ren := ⟨fun | 219 => 198 | 217 => 165 | 225 => 230 | 224 => 231 | 267 => 232 | 266 => 204 | 314 => 246 | n => n, fun | 9 => 9 | 3 => 3 | 4 => 4 | 5 => 5 | 46 => 200 | 146 => 233 | 51 => 134 | n => n, fun | 1 => 0 | n => n⟩
theorem Tryz.lays219 : Go.Proofs.Lays.n219 Tryz.prog Tryz.lays219_ren := {
  mixed := by kernel_rfl
  f217 := Tryz.func165.trans (congrArg some (by kernel_rfl))
  f219 := Tryz.func198.trans (congrArg some (by kernel_rfl))
  f224 := Tryz.func231.trans (congrArg some (by kernel_rfl))
  f225 := Tryz.func230.trans (congrArg some (by kernel_rfl))
  f266 := Tryz.func204.trans (congrArg some (by kernel_rfl))
  f267 := Tryz.func232.trans (congrArg some (by kernel_rfl))
  f314 := Tryz.func246.trans (congrArg some (by kernel_rfl))
  t3 := Tryz.underlying3
  a3 := Tryz.isAgg3
  z3 := Tryz.sizeOf3
  v3 := Tryz.zeroValue3
  t4 := Tryz.underlying4
  a4 := Tryz.isAgg4
  z4 := Tryz.sizeOf4
  v4 := Tryz.zeroValue4
  t5 := Tryz.underlying5
  a5 := Tryz.isAgg5
  z5 := Tryz.sizeOf5
  v5 := Tryz.zeroValue5
  t9 := Tryz.underlying9
  a9 := Tryz.isAgg9
  z9 := Tryz.sizeOf9
  v9 := Tryz.zeroValue9
  t46 := Tryz.underlying200
  a46 := Tryz.isAgg200
  z46 := Tryz.sizeOf200
  v46 := Tryz.zeroValue200
  t51 := Tryz.underlying134
  a51 := Tryz.isAgg134
  z51 := Tryz.sizeOf134
  v51 := Tryz.zeroValue134
  t146 := Tryz.underlying233
  a146 := Tryz.isAgg233
  z146 := Tryz.sizeOf233
  v146 := Tryz.zeroValue233
  g1 := by kernel_rfl }
open Go.RowKit Go.Lib in
theorem Tryz.stringslite_Index_one (s : ByteArray) (c : UInt8) (w : World) :
    Calls Tryz.prog 198 #[.string s, .string ⟨#[c]⟩] w fun e w' => e = .returned (.int .i64 (Lib.indexByte s.data.toList c)) ∧ w' = w := Any.stringslite_Index_one Tryz.lays219 s c w
open Go.RowKit Go.Lib in
theorem Tryz.stringslite_Index (s sub : ByteArray) (m : Int) (w : World) (hs : s.size < 4294967281) (hm : w.cell? ⟨0, 0, none⟩ = some (.int .i64 m)) :
    Calls Tryz.prog 198 #[.string s, .string sub] w fun e w' => e = .returned (.int .i64 (Lib.index s.data.toList sub.data.toList)) ∧ w' = w := Any.stringslite_Index Tryz.lays219 s sub m w hs hm
def Tryz.lays220_ren : Go.Shelf.Ren := ⟨fun | 220 => 162 | 219 => 198 | 217 => 165 | 225 => 230 | 224 => 231 | 267 => 232 | 266 => 204 | 314 => 246 | n => n, fun | 9 => 9 | 4 => 4 | 3 => 3 | 5 => 5 | 46 => 200 | 146 => 233 | 51 => 134 | n => n, fun | 1 => 0 | n => n⟩
theorem Tryz.lays220 : Go.Proofs.Lays.n220 Tryz.prog Tryz.lays220_ren := {
  mixed := by kernel_rfl
  f217 := Tryz.func165.trans (congrArg some (by kernel_rfl))
  f219 := Tryz.func198.trans (congrArg some (by kernel_rfl))
  f220 := Tryz.func162.trans (congrArg some (by kernel_rfl))
  f224 := Tryz.func231.trans (congrArg some (by kernel_rfl))
  f225 := Tryz.func230.trans (congrArg some (by kernel_rfl))
  f266 := Tryz.func204.trans (congrArg some (by kernel_rfl))
  f267 := Tryz.func232.trans (congrArg some (by kernel_rfl))
  f314 := Tryz.func246.trans (congrArg some (by kernel_rfl))
  t3 := Tryz.underlying3
  a3 := Tryz.isAgg3
  z3 := Tryz.sizeOf3
  v3 := Tryz.zeroValue3
  t4 := Tryz.underlying4
  a4 := Tryz.isAgg4
  z4 := Tryz.sizeOf4
  v4 := Tryz.zeroValue4
  t5 := Tryz.underlying5
  a5 := Tryz.isAgg5
  z5 := Tryz.sizeOf5
  v5 := Tryz.zeroValue5
  t9 := Tryz.underlying9
  a9 := Tryz.isAgg9
  z9 := Tryz.sizeOf9
  v9 := Tryz.zeroValue9
  t46 := Tryz.underlying200
  a46 := Tryz.isAgg200
  z46 := Tryz.sizeOf200
  v46 := Tryz.zeroValue200
  t51 := Tryz.underlying134
  a51 := Tryz.isAgg134
  z51 := Tryz.sizeOf134
  v51 := Tryz.zeroValue134
  t146 := Tryz.underlying233
  a146 := Tryz.isAgg233
  z146 := Tryz.sizeOf233
  v146 := Tryz.zeroValue233
  g1 := by kernel_rfl }
open Go.RowKit Go.Lib in
theorem Tryz.stringslite_Cut (s sep : ByteArray) (m : Int) (w : World) (hs : s.size < 4294967281) (hm : w.cell? ⟨0, 0, none⟩ = some (.int .i64 m)) :
    Calls Tryz.prog 162 #[.string s, .string sep] w fun e w' => e = .returned (.tuple #[.string ⟨(Lib.cut s.data.toList sep.data.toList).1.toArray⟩, .string ⟨(Lib.cut s.data.toList sep.data.toList).2.1.toArray⟩, .bool (Lib.cut s.data.toList sep.data.toList).2.2]) ∧ ∃ n, w' = w.drewN n := Any.stringslite_Cut Tryz.lays220 s sep m w hs hm
def Tryz.lays145_ren : Go.Shelf.Ren := ⟨fun | 145 => 97 | 220 => 162 | 219 => 198 | 217 => 165 | 225 => 230 | 224 => 231 | 267 => 232 | 266 => 204 | 314 => 246 | n => n, fun | 9 => 9 | 4 => 4 | 59 => 154 | 3 => 3 | 5 => 5 | 46 => 200 | 146 => 233 | 51 => 134 | n => n, fun | 1 => 0 | n => n⟩
theorem Tryz.lays145 : Go.Proofs.Lays.n145 Tryz.prog Tryz.lays145_ren := {
  mixed := by kernel_rfl
  f145 := Tryz.func97.trans (congrArg some (by kernel_rfl))
  f217 := Tryz.func165.trans (congrArg some (by kernel_rfl))
  f219 := Tryz.func198.trans (congrArg some (by kernel_rfl))
  f220 := Tryz.func162.trans (congrArg some (by kernel_rfl))
  f224 := Tryz.func231.trans (congrArg some (by kernel_rfl))
  f225 := Tryz.func230.trans (congrArg some (by kernel_rfl))
  f266 := Tryz.func204.trans (congrArg some (by kernel_rfl))
  f267 := Tryz.func232.trans (congrArg some (by kernel_rfl))
  f314 := Tryz.func246.trans (congrArg some (by kernel_rfl))
  t3 := Tryz.underlying3
  a3 := Tryz.isAgg3
  z3 := Tryz.sizeOf3
  v3 := Tryz.zeroValue3
  t4 := Tryz.underlying4
  a4 := Tryz.isAgg4
  z4 := Tryz.sizeOf4
  v4 := Tryz.zeroValue4
  t5 := Tryz.underlying5
  a5 := Tryz.isAgg5
  z5 := Tryz.sizeOf5
  v5 := Tryz.zeroValue5
  t9 := Tryz.underlying9
  a9 := Tryz.isAgg9
  z9 := Tryz.sizeOf9
  v9 := Tryz.zeroValue9
  t46 := Tryz.underlying200
  a46 := Tryz.isAgg200
  z46 := Tryz.sizeOf200
  v46 := Tryz.zeroValue200
  t51 := Tryz.underlying134
  a51 := Tryz.isAgg134
  z51 := Tryz.sizeOf134
  v51 := Tryz.zeroValue134
  t59 := Tryz.underlying154
  a59 := Tryz.isAgg154
  z59 := Tryz.sizeOf154
  v59 := Tryz.zeroValue154
  t146 := Tryz.underlying233
  a146 := Tryz.isAgg233
  z146 := Tryz.sizeOf233
  v146 := Tryz.zeroValue233
  g1 := by kernel_rfl }
open Go.RowKit Go.Lib in
theorem Tryz.strings_Cut (s sep : ByteArray) (m : Int) (w : World) (hs : s.size < 4294967281) (hm : w.cell? ⟨0, 0, none⟩ = some (.int .i64 m)) :
    Calls Tryz.prog 97 #[.string s, .string sep] w fun e w' => e = .returned (.tuple #[.string ⟨(Lib.cut s.data.toList sep.data.toList).1.toArray⟩, .string ⟨(Lib.cut s.data.toList sep.data.toList).2.1.toArray⟩, .bool (Lib.cut s.data.toList sep.data.toList).2.2]) ∧ ∃ n, w' = w.drewN n := Any.strings_Cut Tryz.lays145 s sep m w hs hm
def Tryz.laysM219_ren : Go.Shelf.Ren := ⟨fun | 219 => 198 | 217 => 165 | 225 => 230 | 224 => 231 | 267 => 232 | 266 => 204 | 314 => 246 | n => n, fun | 9 => 9 | 3 => 3 | 4 => 4 | 5 => 5 | 46 => 200 | 146 => 233 | 51 => 134 | n => n, fun | 1 => 0 | n => n⟩
theorem Tryz.laysM219 : Go.Proofs.LaysM.n219 Tryz.prog Tryz.laysM219_ren := {
  mixed := by kernel_rfl
  f217 := Tryz.func165.trans (congrArg some (by kernel_rfl))
  f219 := Tryz.func198.trans (congrArg some (by kernel_rfl))
  f224 := Tryz.func231.trans (congrArg some (by kernel_rfl))
  f225 := Tryz.func230.trans (congrArg some (by kernel_rfl))
  f266 := Tryz.func204.trans (congrArg some (by kernel_rfl))
  f267 := Tryz.func232.trans (congrArg some (by kernel_rfl))
  f314 := Tryz.func246.trans (congrArg some (by kernel_rfl))
  t3 := Tryz.underlying3
  a3 := Tryz.isAgg3
  z3 := Tryz.sizeOf3
  v3 := Tryz.zeroValue3
  t4 := Tryz.underlying4
  a4 := Tryz.isAgg4
  z4 := Tryz.sizeOf4
  v4 := Tryz.zeroValue4
  t5 := Tryz.underlying5
  a5 := Tryz.isAgg5
  z5 := Tryz.sizeOf5
  v5 := Tryz.zeroValue5
  t9 := Tryz.underlying9
  a9 := Tryz.isAgg9
  z9 := Tryz.sizeOf9
  v9 := Tryz.zeroValue9
  t46 := Tryz.underlying200
  a46 := Tryz.isAgg200
  z46 := Tryz.sizeOf200
  v46 := Tryz.zeroValue200
  t51 := Tryz.underlying134
  a51 := Tryz.isAgg134
  z51 := Tryz.sizeOf134
  v51 := Tryz.zeroValue134
  t146 := Tryz.underlying233
  a146 := Tryz.isAgg233
  z146 := Tryz.sizeOf233
  v146 := Tryz.zeroValue233
  g1 := by kernel_rfl
  i3 := by kernel_rfl
  i4 := by kernel_rfl
  i5 := by kernel_rfl
  i9 := by kernel_rfl
  i46 := by kernel_rfl
  i51 := by kernel_rfl
  i146 := by kernel_rfl
  m1 := by kernel_rfl
  s1_3 := fun w h => Go.Proofs.cell_of_shapedOpen_int (zero := #[.int .i64 0]) (t := 3) h (of_decide_eq_true (by kernel_rfl)) (by kernel_rfl) rfl (by kernel_rfl) (by kernel_rfl) Tryz.underlying3 }
open Go.RowKit Go.Lib in
theorem Tryz.stringslite_Index_shaped (s sub : ByteArray) (w : World) (h : w.ShapedOpen Tryz.prog) (hs : s.size < 4294967281) :
    Calls Tryz.prog 198 #[.string s, .string sub] w fun e w' => e = .returned (.int .i64 (Lib.index s.data.toList sub.data.toList)) ∧ w' = w := Any.stringslite_Index_shaped Tryz.laysM219 s sub w h hs
def Tryz.laysM220_ren : Go.Shelf.Ren := ⟨fun | 220 => 162 | 219 => 198 | 217 => 165 | 225 => 230 | 224 => 231 | 267 => 232 | 266 => 204 | 314 => 246 | n => n, fun | 9 => 9 | 4 => 4 | 3 => 3 | 5 => 5 | 46 => 200 | 146 => 233 | 51 => 134 | n => n, fun | 1 => 0 | n => n⟩
theorem Tryz.laysM220 : Go.Proofs.LaysM.n220 Tryz.prog Tryz.laysM220_ren := {
  mixed := by kernel_rfl
  f217 := Tryz.func165.trans (congrArg some (by kernel_rfl))
  f219 := Tryz.func198.trans (congrArg some (by kernel_rfl))
  f220 := Tryz.func162.trans (congrArg some (by kernel_rfl))
  f224 := Tryz.func231.trans (congrArg some (by kernel_rfl))
  f225 := Tryz.func230.trans (congrArg some (by kernel_rfl))
  f266 := Tryz.func204.trans (congrArg some (by kernel_rfl))
  f267 := Tryz.func232.trans (congrArg some (by kernel_rfl))
  f314 := Tryz.func246.trans (congrArg some (by kernel_rfl))
  t3 := Tryz.underlying3
  a3 := Tryz.isAgg3
  z3 := Tryz.sizeOf3
  v3 := Tryz.zeroValue3
  t4 := Tryz.underlying4
  a4 := Tryz.isAgg4
  z4 := Tryz.sizeOf4
  v4 := Tryz.zeroValue4
  t5 := Tryz.underlying5
  a5 := Tryz.isAgg5
  z5 := Tryz.sizeOf5
  v5 := Tryz.zeroValue5
  t9 := Tryz.underlying9
  a9 := Tryz.isAgg9
  z9 := Tryz.sizeOf9
  v9 := Tryz.zeroValue9
  t46 := Tryz.underlying200
  a46 := Tryz.isAgg200
  z46 := Tryz.sizeOf200
  v46 := Tryz.zeroValue200
  t51 := Tryz.underlying134
  a51 := Tryz.isAgg134
  z51 := Tryz.sizeOf134
  v51 := Tryz.zeroValue134
  t146 := Tryz.underlying233
  a146 := Tryz.isAgg233
  z146 := Tryz.sizeOf233
  v146 := Tryz.zeroValue233
  g1 := by kernel_rfl
  i3 := by kernel_rfl
  i4 := by kernel_rfl
  i5 := by kernel_rfl
  i9 := by kernel_rfl
  i46 := by kernel_rfl
  i51 := by kernel_rfl
  i146 := by kernel_rfl
  m1 := by kernel_rfl
  s1_3 := fun w h => Go.Proofs.cell_of_shapedOpen_int (zero := #[.int .i64 0]) (t := 3) h (of_decide_eq_true (by kernel_rfl)) (by kernel_rfl) rfl (by kernel_rfl) (by kernel_rfl) Tryz.underlying3 }
open Go.RowKit Go.Lib in
theorem Tryz.stringslite_Cut_shaped (s sep : ByteArray) (w : World) (h : w.ShapedOpen Tryz.prog) (hs : s.size < 4294967281) :
    Calls Tryz.prog 162 #[.string s, .string sep] w fun e w' => e = .returned (.tuple #[.string ⟨(Lib.cut s.data.toList sep.data.toList).1.toArray⟩, .string ⟨(Lib.cut s.data.toList sep.data.toList).2.1.toArray⟩, .bool (Lib.cut s.data.toList sep.data.toList).2.2]) ∧ ∃ n, w' = w.drewN n := Any.stringslite_Cut_shaped Tryz.laysM220 s sep w h hs
def Tryz.laysM145_ren : Go.Shelf.Ren := ⟨fun | 145 => 97 | 220 => 162 | 219 => 198 | 217 => 165 | 225 => 230 | 224 => 231 | 267 => 232 | 266 => 204 | 314 => 246 | n => n, fun | 9 => 9 | 4 => 4 | 59 => 154 | 3 => 3 | 5 => 5 | 46 => 200 | 146 => 233 | 51 => 134 | n => n, fun | 1 => 0 | n => n⟩
theorem Tryz.laysM145 : Go.Proofs.LaysM.n145 Tryz.prog Tryz.laysM145_ren := {
  mixed := by kernel_rfl
  f145 := Tryz.func97.trans (congrArg some (by kernel_rfl))
  f217 := Tryz.func165.trans (congrArg some (by kernel_rfl))
  f219 := Tryz.func198.trans (congrArg some (by kernel_rfl))
  f220 := Tryz.func162.trans (congrArg some (by kernel_rfl))
  f224 := Tryz.func231.trans (congrArg some (by kernel_rfl))
  f225 := Tryz.func230.trans (congrArg some (by kernel_rfl))
  f266 := Tryz.func204.trans (congrArg some (by kernel_rfl))
  f267 := Tryz.func232.trans (congrArg some (by kernel_rfl))
  f314 := Tryz.func246.trans (congrArg some (by kernel_rfl))
  t3 := Tryz.underlying3
  a3 := Tryz.isAgg3
  z3 := Tryz.sizeOf3
  v3 := Tryz.zeroValue3
  t4 := Tryz.underlying4
  a4 := Tryz.isAgg4
  z4 := Tryz.sizeOf4
  v4 := Tryz.zeroValue4
  t5 := Tryz.underlying5
  a5 := Tryz.isAgg5
  z5 := Tryz.sizeOf5
  v5 := Tryz.zeroValue5
  t9 := Tryz.underlying9
  a9 := Tryz.isAgg9
  z9 := Tryz.sizeOf9
  v9 := Tryz.zeroValue9
  t46 := Tryz.underlying200
  a46 := Tryz.isAgg200
  z46 := Tryz.sizeOf200
  v46 := Tryz.zeroValue200
  t51 := Tryz.underlying134
  a51 := Tryz.isAgg134
  z51 := Tryz.sizeOf134
  v51 := Tryz.zeroValue134
  t59 := Tryz.underlying154
  a59 := Tryz.isAgg154
  z59 := Tryz.sizeOf154
  v59 := Tryz.zeroValue154
  t146 := Tryz.underlying233
  a146 := Tryz.isAgg233
  z146 := Tryz.sizeOf233
  v146 := Tryz.zeroValue233
  g1 := by kernel_rfl
  i3 := by kernel_rfl
  i4 := by kernel_rfl
  i5 := by kernel_rfl
  i9 := by kernel_rfl
  i46 := by kernel_rfl
  i51 := by kernel_rfl
  i59 := by kernel_rfl
  i146 := by kernel_rfl
  m1 := by kernel_rfl
  s1_3 := fun w h => Go.Proofs.cell_of_shapedOpen_int (zero := #[.int .i64 0]) (t := 3) h (of_decide_eq_true (by kernel_rfl)) (by kernel_rfl) rfl (by kernel_rfl) (by kernel_rfl) Tryz.underlying3 }
open Go.RowKit Go.Lib in
theorem Tryz.strings_Cut_shaped (s sep : ByteArray) (w : World) (h : w.ShapedOpen Tryz.prog) (hs : s.size < 4294967281) :
    Calls Tryz.prog 97 #[.string s, .string sep] w fun e w' => e = .returned (.tuple #[.string ⟨(Lib.cut s.data.toList sep.data.toList).1.toArray⟩, .string ⟨(Lib.cut s.data.toList sep.data.toList).2.1.toArray⟩, .bool (Lib.cut s.data.toList sep.data.toList).2.2]) ∧ ∃ n, w' = w.drewN n := Any.strings_Cut_shaped Tryz.laysM145 s sep w h hs
def Tryz.lays189_ren : Go.Shelf.Ren := ⟨fun | 189 => 149 | 125 => 192 | 257 => 191 | 128 => 222 | 129 => 223 | 294 => 213 | 295 => 214 | 296 => 215 | 297 => 216 | 298 => 217 | 299 => 218 | 216 => 219 | 300 => 220 | 301 => 221 | 328 => 236 | 329 => 237 | 330 => 238 | 331 => 239 | 332 => 240 | 215 => 241 | 343 => 249 | n => n, fun | 28 => 76 | 3 => 3 | 46 => 200 | 0 => 0 | 51 => 134 | 53 => 136 | 4 => 4 | 183 => 250 | 182 => 249 | 131 => 188 | 5 => 5 | 9 => 9 | 218 => 270 | 222 => 274 | 228 => 285 | 229 => 177 | n => n, fun | n => n⟩
theorem Tryz.lays189 : Go.Proofs.Lays.n189 Tryz.prog Tryz.lays189_ren := {
  mixed := by kernel_rfl
  f125 := Tryz.func192.trans (congrArg some (by kernel_rfl))
  f128 := Tryz.func222.trans (congrArg some (by kernel_rfl))
  f129 := Tryz.func223.trans (congrArg some (by kernel_rfl))
  f189 := Tryz.func149.trans (congrArg some (by kernel_rfl))
  f215 := Tryz.func241.trans (congrArg some (by kernel_rfl))
  f216 := Tryz.func219.trans (congrArg some (by kernel_rfl))
  f257 := Tryz.func191.trans (congrArg some (by kernel_rfl))
  f294 := Tryz.func213.trans (congrArg some (by kernel_rfl))
  f295 := Tryz.func214.trans (congrArg some (by kernel_rfl))
  f296 := Tryz.func215.trans (congrArg some (by kernel_rfl))
  f297 := Tryz.func216.trans (congrArg some (by kernel_rfl))
  f298 := Tryz.func217.trans (congrArg some (by kernel_rfl))
  f299 := Tryz.func218.trans (congrArg some (by kernel_rfl))
  f300 := Tryz.func220.trans (congrArg some (by kernel_rfl))
  f301 := Tryz.func221.trans (congrArg some (by kernel_rfl))
  f328 := Tryz.func236.trans (congrArg some (by kernel_rfl))
  f329 := Tryz.func237.trans (congrArg some (by kernel_rfl))
  f330 := Tryz.func238.trans (congrArg some (by kernel_rfl))
  f331 := Tryz.func239.trans (congrArg some (by kernel_rfl))
  f332 := Tryz.func240.trans (congrArg some (by kernel_rfl))
  f343 := Tryz.func249.trans (congrArg some (by kernel_rfl))
  t0 := Tryz.underlying0
  a0 := Tryz.isAgg0
  z0 := Tryz.sizeOf0
  v0 := Tryz.zeroValue0
  t3 := Tryz.underlying3
  a3 := Tryz.isAgg3
  z3 := Tryz.sizeOf3
  v3 := Tryz.zeroValue3
  t4 := Tryz.underlying4
  a4 := Tryz.isAgg4
  z4 := Tryz.sizeOf4
  v4 := Tryz.zeroValue4
  t5 := Tryz.underlying5
  a5 := Tryz.isAgg5
  z5 := Tryz.sizeOf5
  v5 := Tryz.zeroValue5
  t9 := Tryz.underlying9
  a9 := Tryz.isAgg9
  z9 := Tryz.sizeOf9
  v9 := Tryz.zeroValue9
  t28 := Tryz.underlying76
  a28 := Tryz.isAgg76
  z28 := Tryz.sizeOf76
  v28 := Tryz.zeroValue76
  t46 := Tryz.underlying200
  a46 := Tryz.isAgg200
  z46 := Tryz.sizeOf200
  v46 := Tryz.zeroValue200
  t51 := Tryz.underlying134
  a51 := Tryz.isAgg134
  z51 := Tryz.sizeOf134
  v51 := Tryz.zeroValue134
  t53 := Tryz.underlying136
  a53 := Tryz.isAgg136
  z53 := Tryz.sizeOf136
  v53 := Tryz.zeroValue136
  t131 := Tryz.underlying188
  a131 := Tryz.isAgg188
  z131 := Tryz.sizeOf188
  v131 := Tryz.zeroValue188
  t182 := Tryz.underlying249
  a182 := Tryz.isAgg249
  z182 := Tryz.sizeOf249
  v182 := Tryz.zeroValue249
  t183 := Tryz.underlying250
  a183 := Tryz.isAgg250
  z183 := Tryz.sizeOf250
  v183 := Tryz.zeroValue250
  t218 := Tryz.underlying270
  a218 := Tryz.isAgg270
  z218 := Tryz.sizeOf270
  v218 := Tryz.zeroValue270
  t222 := Tryz.underlying274
  a222 := Tryz.isAgg274
  z222 := Tryz.sizeOf274
  v222 := Tryz.zeroValue274
  t228 := Tryz.underlying285
  a228 := Tryz.isAgg285
  z228 := Tryz.sizeOf285
  v228 := Tryz.zeroValue285
  t229 := Tryz.underlying177
  a229 := Tryz.isAgg177
  z229 := Tryz.sizeOf177
  v229 := Tryz.zeroValue177 }
open Go.Sort Go.RowKit in
theorem Tryz.slices_Sort_int (blk off cap : Nat) (zs : List Int) (w : World) (hH : Holds (Value.int .i64) w blk off zs.toArray) (hblk : blk < w.heap.size) (hsz : zs.length < 4611686018427387904) :
    Calls Tryz.prog 149 #[.slice (some ⟨blk, off, none⟩) zs.length cap] w fun e w' =>
      e = .returned (.tuple #[]) ∧ ∃ n os, w' = grow (putRow (Value.int .i64) (Sort.ahead w n) blk off (zs.mergeSort fun x y => decide (x ≤ y)).toArray) os := Any.slices_Sort_int Tryz.lays189 blk off cap zs w hH hblk hsz
def Tryz.lays206_ren : Go.Shelf.Ren := ⟨fun | 206 => 166 | n => n, fun | 9 => 9 | 4 => 4 | 3 => 3 | n => n, fun | n => n⟩
theorem Tryz.lays206 : Go.Proofs.Lays.n206 Tryz.prog Tryz.lays206_ren := {
  mixed := by kernel_rfl
  f206 := Tryz.func166.trans (congrArg some (by kernel_rfl))
  t3 := Tryz.underlying3
  a3 := Tryz.isAgg3
  z3 := Tryz.sizeOf3
  v3 := Tryz.zeroValue3
  t4 := Tryz.underlying4
  a4 := Tryz.isAgg4
  z4 := Tryz.sizeOf4
  v4 := Tryz.zeroValue4
  t9 := Tryz.underlying9
  a9 := Tryz.isAgg9
  z9 := Tryz.sizeOf9
  v9 := Tryz.zeroValue9 }
open Go.RowKit Go.Lib in
theorem Tryz.stringslite_HasPrefix (s p : ByteArray) (w : World) :
    Calls Tryz.prog 166 #[.string s, .string p] w fun e w' => e = .returned (.bool (Lib.hasPrefix s.data.toList p.data.toList)) ∧ w' = w := Any.stringslite_HasPrefix Tryz.lays206 s p w
def Tryz.lays99_ren : Go.Shelf.Ren := ⟨fun | 99 => 101 | 206 => 166 | n => n, fun | 9 => 9 | 4 => 4 | 3 => 3 | n => n, fun | n => n⟩
theorem Tryz.lays99 : Go.Proofs.Lays.n99 Tryz.prog Tryz.lays99_ren := {
  mixed := by kernel_rfl
  f99 := Tryz.func101.trans (congrArg some (by kernel_rfl))
  f206 := Tryz.func166.trans (congrArg some (by kernel_rfl))
  t3 := Tryz.underlying3
  a3 := Tryz.isAgg3
  z3 := Tryz.sizeOf3
  v3 := Tryz.zeroValue3
  t4 := Tryz.underlying4
  a4 := Tryz.isAgg4
  z4 := Tryz.sizeOf4
  v4 := Tryz.zeroValue4
  t9 := Tryz.underlying9
  a9 := Tryz.isAgg9
  z9 := Tryz.sizeOf9
  v9 := Tryz.zeroValue9 }
open Go.RowKit Go.Lib in
theorem Tryz.strings_HasPrefix (s p : ByteArray) (w : World) :
    Calls Tryz.prog 101 #[.string s, .string p] w fun e w' => e = .returned (.bool (Lib.hasPrefix s.data.toList p.data.toList)) ∧ w' = w := Any.strings_HasPrefix Tryz.lays99 s p w
def Tryz.lays264_ren : Go.Shelf.Ren := ⟨fun | 264 => 195 | n => n, fun | 53 => 136 | 46 => 200 | n => n, fun | n => n⟩
theorem Tryz.lays264 : Go.Proofs.Lays.n264 Tryz.prog Tryz.lays264_ren := {
  mixed := by kernel_rfl
  f264 := Tryz.func195.trans (congrArg some (by kernel_rfl))
  t46 := Tryz.underlying200
  a46 := Tryz.isAgg200
  z46 := Tryz.sizeOf200
  v46 := Tryz.zeroValue200
  t53 := Tryz.underlying136
  a53 := Tryz.isAgg136
  z53 := Tryz.sizeOf136
  v53 := Tryz.zeroValue136 }
open Go.RowKit Go.Lib in
theorem Tryz.bits_Mul64 (x y : Nat) (hx : x < 18446744073709551616) (hy : y < 18446744073709551616) (w : World) :
    Calls Tryz.prog 195 #[.int .u64 x, .int .u64 y] w fun e w' => e = .returned (.tuple #[.int .u64 ((x * y / 18446744073709551616 : Nat) : Int), .int .u64 ((x * y % 18446744073709551616 : Nat) : Int)]) ∧ w' = w := Any.bits_Mul64 Tryz.lays264 x y hx hy w
def Tryz.lays212_ren : Go.Shelf.Ren := ⟨fun | 212 => 154 | 263 => 194 | 264 => 195 | n => n, fun | 46 => 200 | 51 => 134 | 146 => 233 | 53 => 136 | 148 => 235 | n => n, fun | n => n⟩
theorem Tryz.lays212 : Go.Proofs.Lays.n212 Tryz.prog Tryz.lays212_ren := {
  mixed := by kernel_rfl
  f212 := Tryz.func154.trans (congrArg some (by kernel_rfl))
  f263 := Tryz.func194.trans (congrArg some (by kernel_rfl))
  f264 := Tryz.func195.trans (congrArg some (by kernel_rfl))
  t46 := Tryz.underlying200
  a46 := Tryz.isAgg200
  z46 := Tryz.sizeOf200
  v46 := Tryz.zeroValue200
  t51 := Tryz.underlying134
  a51 := Tryz.isAgg134
  z51 := Tryz.sizeOf134
  v51 := Tryz.zeroValue134
  t53 := Tryz.underlying136
  a53 := Tryz.isAgg136
  z53 := Tryz.sizeOf136
  v53 := Tryz.zeroValue136
  t146 := Tryz.underlying233
  a146 := Tryz.isAgg233
  z146 := Tryz.sizeOf233
  v146 := Tryz.zeroValue233
  t148 := Tryz.underlying235
  a148 := Tryz.isAgg235
  z148 := Tryz.sizeOf235
  v148 := Tryz.zeroValue235 }
open Go.RowKit Go.Lib in
theorem Tryz.bits_Mul (x y : Nat) (hx : x < 18446744073709551616) (hy : y < 18446744073709551616) (w : World) :
    Calls Tryz.prog 154 #[.int .u64 x, .int .u64 y] w fun e w' => e = .returned (.tuple #[.int .u64 ((x * y / 18446744073709551616 : Nat) : Int), .int .u64 ((x * y % 18446744073709551616 : Nat) : Int)]) ∧ w' = w := Any.bits_Mul Tryz.lays212 x y hx hy w
def Tryz.lays105_ren : Go.Shelf.Ren := ⟨fun | 105 => 90 | 212 => 154 | 99 => 101 | 165 => 155 | 166 => 156 | 170 => 157 | 169 => 158 | 263 => 194 | 264 => 195 | 206 => 166 | 240 => 196 | 241 => 197 | 276 => 228 | 277 => 229 | n => n, fun | 9 => 9 | 3 => 3 | 4 => 4 | 20 => 20 | 0 => 0 | 46 => 200 | 109 => 202 | 5 => 5 | 72 => 207 | 76 => 158 | 51 => 134 | 146 => 233 | 53 => 136 | 148 => 235 | 70 => 204 | 37 => 205 | 75 => 157 | 127 => 237 | 164 => 261 | 80 => 153 | n => n, fun | n => n⟩
theorem Tryz.lays105 : Go.Proofs.Lays.n105 Tryz.prog Tryz.lays105_ren := {
  mixed := by kernel_rfl
  f99 := Tryz.func101.trans (congrArg some (by kernel_rfl))
  f105 := Tryz.func90.trans (congrArg some (by kernel_rfl))
  f165 := Tryz.func155.trans (congrArg some (by kernel_rfl))
  f166 := Tryz.func156.trans (congrArg some (by kernel_rfl))
  f169 := Tryz.func158.trans (congrArg some (by kernel_rfl))
  f170 := Tryz.func157.trans (congrArg some (by kernel_rfl))
  f206 := Tryz.func166.trans (congrArg some (by kernel_rfl))
  f212 := Tryz.func154.trans (congrArg some (by kernel_rfl))
  f240 := Tryz.func196.trans (congrArg some (by kernel_rfl))
  f241 := Tryz.func197.trans (congrArg some (by kernel_rfl))
  f263 := Tryz.func194.trans (congrArg some (by kernel_rfl))
  f264 := Tryz.func195.trans (congrArg some (by kernel_rfl))
  f276 := Tryz.func228.trans (congrArg some (by kernel_rfl))
  f277 := Tryz.func229.trans (congrArg some (by kernel_rfl))
  t0 := Tryz.underlying0
  a0 := Tryz.isAgg0
  z0 := Tryz.sizeOf0
  v0 := Tryz.zeroValue0
  t3 := Tryz.underlying3
  a3 := Tryz.isAgg3
  z3 := Tryz.sizeOf3
  v3 := Tryz.zeroValue3
  t4 := Tryz.underlying4
  a4 := Tryz.isAgg4
  z4 := Tryz.sizeOf4
  v4 := Tryz.zeroValue4
  t5 := Tryz.underlying5
  a5 := Tryz.isAgg5
  z5 := Tryz.sizeOf5
  v5 := Tryz.zeroValue5
  t9 := Tryz.underlying9
  a9 := Tryz.isAgg9
  z9 := Tryz.sizeOf9
  v9 := Tryz.zeroValue9
  t20 := Tryz.underlying20
  a20 := Tryz.isAgg20
  z20 := Tryz.sizeOf20
  v20 := Tryz.zeroValue20
  t37 := Tryz.underlying205
  a37 := Tryz.isAgg205
  z37 := Tryz.sizeOf205
  v37 := Tryz.zeroValue205
  t46 := Tryz.underlying200
  a46 := Tryz.isAgg200
  z46 := Tryz.sizeOf200
  v46 := Tryz.zeroValue200
  t51 := Tryz.underlying134
  a51 := Tryz.isAgg134
  z51 := Tryz.sizeOf134
  v51 := Tryz.zeroValue134
  t53 := Tryz.underlying136
  a53 := Tryz.isAgg136
  z53 := Tryz.sizeOf136
  v53 := Tryz.zeroValue136
  t70 := Tryz.underlying204
  a70 := Tryz.isAgg204
  z70 := Tryz.sizeOf204
  v70 := Tryz.zeroValue204
  t72 := Tryz.underlying207
  a72 := Tryz.isAgg207
  z72 := Tryz.sizeOf207
  v72 := Tryz.zeroValue207
  t75 := Tryz.underlying157
  a75 := Tryz.isAgg157
  z75 := Tryz.sizeOf157
  v75 := Tryz.zeroValue157
  t76 := Tryz.underlying158
  a76 := Tryz.isAgg158
  z76 := Tryz.sizeOf158
  v76 := Tryz.zeroValue158
  t109 := Tryz.underlying202
  a109 := Tryz.isAgg202
  z109 := Tryz.sizeOf202
  v109 := Tryz.zeroValue202
  t127 := Tryz.underlying237
  a127 := Tryz.isAgg237
  z127 := Tryz.sizeOf237
  v127 := Tryz.zeroValue237
  t146 := Tryz.underlying233
  a146 := Tryz.isAgg233
  z146 := Tryz.sizeOf233
  v146 := Tryz.zeroValue233
  t148 := Tryz.underlying235
  a148 := Tryz.isAgg235
  z148 := Tryz.sizeOf235
  v148 := Tryz.zeroValue235
  t164 := Tryz.underlying261
  a164 := Tryz.isAgg261
  z164 := Tryz.sizeOf261
  v164 := Tryz.zeroValue261 }
theorem Tryz.Builder_Extra_105 : Builder.Extra Tryz.prog Tryz.lays105_ren := {
  sizeBuilder := by kernel_rfl
  liesBuilder := by kernel_rfl
  t5 := Tryz.underlying5
  a5 := Tryz.isAgg5
  z5 := Tryz.sizeOf5
  v5 := Tryz.zeroValue5
  infoByte := by kernel_rfl
  cellsByte := by kernel_rfl
  sizeByte := by kernel_rfl
  neB5 := by decide }
open Go.RowKit Go.Lib in
theorem Tryz.strings_Repeat_main (s : ByteArray) (c : Nat) (w : World) (hc2 : 2 ≤ c) (hc : c ≤ 9223372036854775807) (hlen : s.size * c ≤ 140737488355328) (h0 : 0 < s.size) :
    Calls Tryz.prog 90 #[.string s, .int .i64 c] w fun e w' => e = .returned (.string ⟨(Lib.repeatL s.data.toList c).toArray⟩) ∧ Below w.heap.size w w' := Any.strings_Repeat_main Tryz.lays105 Tryz.Builder_Extra_105 s c w hc2 hc hlen h0
open Go.RowKit Go.Lib in
theorem Tryz.strings_Repeat_zero (s : ByteArray) (w : World) :
    Calls Tryz.prog 90 #[.string s, .int .i64 0] w fun e w' => e = .returned (.string ⟨#[]⟩) ∧ w' = w := Any.strings_Repeat_zero Tryz.lays105 s w
open Go.RowKit Go.Lib in
theorem Tryz.strings_Repeat_one (s : ByteArray) (w : World) :
    Calls Tryz.prog 90 #[.string s, .int .i64 1] w fun e w' => e = .returned (.string s) ∧ w' = w := Any.strings_Repeat_one Tryz.lays105 s w
open Go.RowKit Go.Lib in
theorem Tryz.strings_Repeat_empty (s : ByteArray) (c : Nat) (w : World) (hc2 : 2 ≤ c) (hc : c ≤ 9223372036854775807) (h0 : s.size = 0) :
    Calls Tryz.prog 90 #[.string s, .int .i64 c] w fun e w' => e = .returned (.string ⟨#[]⟩) ∧ w' = w := Any.strings_Repeat_empty Tryz.lays105 s c w hc2 hc h0
open Go.RowKit Go.Lib in
theorem Tryz.strings_Repeat_negative (s : ByteArray) (c : Int) (w : World) (hc : c < 0) :
    Calls Tryz.prog 90 #[.string s, .int .i64 c] w fun e w' => e = .panicked [{ v := repeatPanic Tryz.lays105_ren "strings: negative Repeat count", recovered := false }] ∧ w' = w := Any.strings_Repeat_negative Tryz.lays105 s c w hc
open Go.RowKit Go.Lib in
theorem Tryz.strings_Repeat_overflow (s : ByteArray) (c : Nat) (w : World) (hc : c ≤ 9223372036854775807) (hs : s.size ≤ 9223372036854775807) (hbig : 9223372036854775807 < s.size * c) :
    Calls Tryz.prog 90 #[.string s, .int .i64 c] w fun e w' => e = .panicked [{ v := repeatPanic Tryz.lays105_ren "strings: Repeat output length overflow", recovered := false }] ∧ w' = w := Any.strings_Repeat_overflow Tryz.lays105 s c w hc hs hbig
open Go.RowKit Go.Lib in
theorem Tryz.strings_Repeat (s : ByteArray) (c : Nat) (w : World) (hc : c ≤ 9223372036854775807) (hlen : s.size * c ≤ 140737488355328) :
    Calls Tryz.prog 90 #[.string s, .int .i64 c] w fun e w' => e = .returned (.string ⟨(Lib.repeatL s.data.toList c).toArray⟩) ∧ Below w.heap.size w w' := Any.strings_Repeat Tryz.lays105 Tryz.Builder_Extra_105 s c w hc hlen
def Tryz.lays111_ren : Go.Shelf.Ren := ⟨fun | 111 => 39 | n => n, fun | 28 => 76 | 3 => 3 | 4 => 4 | 0 => 0 | n => n, fun | n => n⟩
theorem Tryz.lays111 : Go.Proofs.Lays.n111 Tryz.prog Tryz.lays111_ren := {
  mixed := by kernel_rfl
  f111 := Tryz.func39.trans (congrArg some (by kernel_rfl))
  t0 := Tryz.underlying0
  a0 := Tryz.isAgg0
  z0 := Tryz.sizeOf0
  v0 := Tryz.zeroValue0
  t3 := Tryz.underlying3
  a3 := Tryz.isAgg3
  z3 := Tryz.sizeOf3
  v3 := Tryz.zeroValue3
  t4 := Tryz.underlying4
  a4 := Tryz.isAgg4
  z4 := Tryz.sizeOf4
  v4 := Tryz.zeroValue4
  t28 := Tryz.underlying76
  a28 := Tryz.isAgg76
  z28 := Tryz.sizeOf76
  v28 := Tryz.zeroValue76 }
open Go.RowKit Go.Lib in
theorem Tryz.slices_Equal_int (b1 o1 n c b2 o2 m d : Nat) (xs ys : List Int) (w : World) (hx : n ≤ xs.length) (hy : m ≤ ys.length) (hbig : n ≤ 9223372036854775807) (hbig2 : m ≤ 9223372036854775807) (hc1 : ∀ j, j < xs.length → w.cell? ⟨b1, o1 + j, none⟩ = some (.int .i64 (xs.getD j 0))) (hc2 : ∀ j, j < ys.length → w.cell? ⟨b2, o2 + j, none⟩ = some (.int .i64 (ys.getD j 0))) :
    Calls Tryz.prog 39 #[.slice (some ⟨b1, o1, none⟩) n c, .slice (some ⟨b2, o2, none⟩) m d] w fun e w' => e = .returned (.bool (xs.take n == ys.take m)) ∧ ∃ q, w' = w.drewN q := Any.slices_Equal_int Tryz.lays111 b1 o1 n c b2 o2 m d xs ys w hx hy hbig hbig2 hc1 hc2
open Go.RowKit Go.Lib in
theorem Tryz.slices_Equal_int_empty (a1 a2 : Option Addr) (c m d : Nat) (w : World) (hbig2 : m ≤ 9223372036854775807) :
    Calls Tryz.prog 39 #[.slice a1 0 c, .slice a2 m d] w fun e w' => e = .returned (.bool (decide (m = 0))) ∧ w' = w := Any.slices_Equal_int_empty Tryz.lays111 a1 a2 c m d w hbig2
def Tryz.laysNm220_ren : Go.Shelf.Ren := ⟨fun | 20 => 173 | n => n, fun | 22 => 76 | 3 => 3 | 4 => 4 | 0 => 0 | n => n, fun | n => n⟩
theorem Tryz.laysNm220 : Go.Proofs.Lays2.n20 Tryz.prog Tryz.laysNm220_ren := {
  mixed := by kernel_rfl
  f20 := Tryz.func173.trans (congrArg some (by kernel_rfl))
  t0 := Tryz.underlying0
  a0 := Tryz.isAgg0
  z0 := Tryz.sizeOf0
  v0 := Tryz.zeroValue0
  t3 := Tryz.underlying3
  a3 := Tryz.isAgg3
  z3 := Tryz.sizeOf3
  v3 := Tryz.zeroValue3
  t4 := Tryz.underlying4
  a4 := Tryz.isAgg4
  z4 := Tryz.sizeOf4
  v4 := Tryz.zeroValue4
  t22 := Tryz.underlying76
  a22 := Tryz.isAgg76
  z22 := Tryz.sizeOf76
  v22 := Tryz.zeroValue76
  i3 := by kernel_rfl }
open Go.RowKit Go.Lib Go.Sort in
theorem Tryz.slices_Compact_int_arr (blk off cap : Nat) (d : Array Int) (w : World) (hH : Holds encI w blk off d) (hsz : d.size ≤ 9223372036854775807) (hcap : d.size ≤ cap) :
    Calls Tryz.prog 173 #[.slice (some ⟨blk, off, none⟩) d.size cap] w fun e w' => e = .returned (.slice (some ⟨blk, off, none⟩) (compactUpTo d d.size).length cap) ∧ ∃ q, w' = putRow encI (Sort.ahead w q) blk off (compactUpTo d d.size ++ List.replicate (d.size - (compactUpTo d d.size).length) 0).toArray := Any.slices_Compact_int_arr Tryz.laysNm220 blk off cap d w hH hsz hcap
open Go.RowKit Go.Lib Go.Sort in
theorem Tryz.slices_Compact_int (blk off cap : Nat) (zs : List Int) (w : World) (hH : Holds (Value.int .i64) w blk off zs.toArray) (hsz : zs.length ≤ 9223372036854775807) (hcap : zs.length ≤ cap) :
    Calls Tryz.prog 173 #[.slice (some ⟨blk, off, none⟩) zs.length cap] w fun e w' => e = .returned (.slice (some ⟨blk, off, none⟩) (Lib.compact zs).length cap) ∧ ∃ q, w' = putRow (Value.int .i64) (Sort.ahead w q) blk off (Lib.compact zs ++ List.replicate (zs.length - (Lib.compact zs).length) 0).toArray := Any.slices_Compact_int Tryz.laysNm220 blk off cap zs w hH hsz hcap
open Go.RowKit Go.Lib Go.Sort in
theorem Tryz.slices_Compact_int_empty (a : Option Addr) (cap : Nat) (w : World) :
    Calls Tryz.prog 173 #[.slice a 0 cap] w fun e w' => e = .returned (.slice a 0 cap) ∧ w' = w := Any.slices_Compact_int_empty Tryz.laysNm220 a cap w
def Tryz.laysNm237_ren : Go.Shelf.Ren := ⟨fun | 37 => 241 | n => n, fun | 3 => 3 | 4 => 4 | n => n, fun | n => n⟩
theorem Tryz.laysNm237 : Go.Proofs.Lays2.n37 Tryz.prog Tryz.laysNm237_ren := {
  mixed := by kernel_rfl
  f37 := Tryz.func241.trans (congrArg some (by kernel_rfl))
  t3 := Tryz.underlying3
  a3 := Tryz.isAgg3
  z3 := Tryz.sizeOf3
  v3 := Tryz.zeroValue3
  t4 := Tryz.underlying4
  a4 := Tryz.isAgg4
  z4 := Tryz.sizeOf4
  v4 := Tryz.zeroValue4 }
open Go.RowKit Go.Lib in
theorem Tryz.cmp_isNaN_int2 (x : Int) (w : World) :
    Calls Tryz.prog 241 #[.int .i64 x] w fun e w' => e = .returned (.bool false) ∧ w' = w := Any.cmp_isNaN_int2 Tryz.laysNm237 x w
def Tryz.laysNm231_ren : Go.Shelf.Ren := ⟨fun | 31 => 219 | 37 => 241 | n => n, fun | 3 => 3 | 4 => 4 | n => n, fun | n => n⟩
theorem Tryz.laysNm231 : Go.Proofs.Lays2.n31 Tryz.prog Tryz.laysNm231_ren := {
  mixed := by kernel_rfl
  f31 := Tryz.func219.trans (congrArg some (by kernel_rfl))
  f37 := Tryz.func241.trans (congrArg some (by kernel_rfl))
  t3 := Tryz.underlying3
  a3 := Tryz.isAgg3
  z3 := Tryz.sizeOf3
  v3 := Tryz.zeroValue3
  t4 := Tryz.underlying4
  a4 := Tryz.isAgg4
  z4 := Tryz.sizeOf4
  v4 := Tryz.zeroValue4 }
open Go.RowKit Go.Lib in
theorem Tryz.cmp_Less_int2 (x y : Int) (w : World) :
    Calls Tryz.prog 219 #[.int .i64 x, .int .i64 y] w fun e w' => e = .returned (.bool (decide (x < y))) ∧ w' = w := Any.cmp_Less_int2 Tryz.laysNm231 x y w
open Go.RowKit Go.Lib Go.Sort in
theorem Tryz.slices_Compact_int_cells (b off n c : Nat) (zs : List Int) (w : World) (hz : n ≤ zs.length) (hbig : n ≤ 9223372036854775807) (hcap : n ≤ c) (hc : ∀ j, j < zs.length → w.cell? ⟨b, off + j, none⟩ = some (.int .i64 (zs.getD j 0))) (hf : ∀ j, j < n → w.frozen? ⟨b, off + j, none⟩ = false) :
    Calls Tryz.prog 173 #[.slice (some ⟨b, off, none⟩) n c] w fun e w' => e = .returned (.slice (some ⟨b, off, none⟩) (Lib.compact (zs.take n)).length c) ∧ ∃ q, w' = (w.drewN q).setCells b off ((Lib.compact (zs.take n) ++ List.replicate (n - (Lib.compact (zs.take n)).length) 0).map (Value.int .i64)) := Any.slices_Compact_int_cells Tryz.laysNm220 b off n c zs w hz hbig hcap hc hf
open Go.RowKit Go.Sort in
theorem Tryz.slices_Sort_int_none (p : Option Addr) (cap : Nat) (w : World) :
    Calls Tryz.prog 149 #[.slice p 0 cap] w fun e w' => e = .returned (.tuple #[]) ∧ w' = w := Any.slices_Sort_int_none Tryz.lays189 p cap w
open Go.RowKit Go.Lib in
theorem Tryz.slices_Equal_int_lens (a1 a2 : Option Addr) (n c m d : Nat) (w : World) (hnm : n ≠ m) :
    Calls Tryz.prog 39 #[.slice a1 n c, .slice a2 m d] w fun e w' => e = .returned (.bool false) ∧ w' = w := Any.slices_Equal_int_lens Tryz.lays111 a1 a2 n c m d w hnm
def Tryz.laysSlE33_f39_ren : Go.Shelf.Ren := ⟨fun | 33 => 39 | n => n, fun | 22 => 76 | 23 => 3 | 4 => 4 | 3 => 3 | 0 => 0 | n => n, fun | n => n⟩
theorem Tryz.laysSlE33_f39 : Go.Proofs.SlLaysE.n33 Tryz.prog Tryz.laysSlE33_f39_ren := {
  mixed := by kernel_rfl
  f33 := ⟨Tryz.f39.name, by decide, Tryz.func39.trans (congrArg some (by kernel_rfl))⟩
  t0 := Tryz.underlying0
  a0 := Tryz.isAgg0
  z0 := Tryz.sizeOf0
  v0 := Tryz.zeroValue0
  t3 := Tryz.underlying3
  a3 := Tryz.isAgg3
  z3 := Tryz.sizeOf3
  v3 := Tryz.zeroValue3
  t4 := Tryz.underlying4
  a4 := Tryz.isAgg4
  z4 := Tryz.sizeOf4
  v4 := Tryz.zeroValue4
  t22 := Tryz.underlying76
  a22 := Tryz.isAgg76
  z22 := Tryz.sizeOf76
  v22 := Tryz.zeroValue76
  a23 := Tryz.isAgg3
  z23 := Tryz.sizeOf3 }
open Go.RowKit Go.Lib in
theorem Tryz.slices_Equal {α : Type} [Inhabited α] (enc : α → Value) (eq : α → α → Bool) (hne : NeqAt Tryz.prog 3 enc eq) (b1 o1 n c b2 o2 m d : Nat) (xs ys : List α) (w : World) (hx : n ≤ xs.length) (hy : m ≤ ys.length) (hbig : n ≤ 9223372036854775807) (hbig2 : m ≤ 9223372036854775807) (hc1 : ∀ j, j < xs.length → w.cell? ⟨b1, o1 + j, none⟩ = some (enc xs[j]!)) (hc2 : ∀ j, j < ys.length → w.cell? ⟨b2, o2 + j, none⟩ = some (enc ys[j]!)) :
    Calls Tryz.prog 39 #[.slice (some ⟨b1, o1, none⟩) n c, .slice (some ⟨b2, o2, none⟩) m d] w fun e w' => e = .returned (.bool (Lib.allEq eq (xs.take n) (ys.take m))) ∧ ∃ q, w' = w.drewN q := AnyE.slices_Equal Tryz.laysSlE33_f39 enc eq hne b1 o1 n c b2 o2 m d xs ys w hx hy hbig hbig2 hc1 hc2
def Tryz.laysSlE43_f173_ren : Go.Shelf.Ren := ⟨fun | 43 => 173 | n => n, fun | 22 => 76 | 23 => 3 | 3 => 3 | 4 => 4 | 0 => 0 | n => n, fun | n => n⟩
theorem Tryz.laysSlE43_f173 : Go.Proofs.SlLaysE.n43 Tryz.prog Tryz.laysSlE43_f173_ren := {
  mixed := by kernel_rfl
  f43 := ⟨Tryz.f173.name, by decide, Tryz.func173.trans (congrArg some (by kernel_rfl))⟩
  t0 := Tryz.underlying0
  a0 := Tryz.isAgg0
  z0 := Tryz.sizeOf0
  v0 := Tryz.zeroValue0
  t3 := Tryz.underlying3
  a3 := Tryz.isAgg3
  z3 := Tryz.sizeOf3
  v3 := Tryz.zeroValue3
  t4 := Tryz.underlying4
  a4 := Tryz.isAgg4
  z4 := Tryz.sizeOf4
  v4 := Tryz.zeroValue4
  t22 := Tryz.underlying76
  a22 := Tryz.isAgg76
  z22 := Tryz.sizeOf76
  v22 := Tryz.zeroValue76
  a23 := Tryz.isAgg3
  z23 := Tryz.sizeOf3 }
open Go.RowKit Go.Lib Go.Sort in
theorem Tryz.slices_Compact {α : Type} [Inhabited α] [DecidableEq α] (enc : α → Value) (hO : OneCell enc) (heq : EqlAt Tryz.prog 3 enc (fun x y => decide (x = y))) (hne : NeqAt Tryz.prog 3 enc (fun x y => decide (x = y))) (zr : α) (v23 : ∀ w, (zeroValue 3).run Tryz.prog w = .ok (enc zr) w) (blk off cap : Nat) (d : Array α) (w : World) (hH : Holds enc w blk off d) (hsz : d.size ≤ 9223372036854775807) (hcap : d.size ≤ cap) :
    Calls Tryz.prog 173 #[.slice (some ⟨blk, off, none⟩) d.size cap] w fun e w' => e = .returned (.slice (some ⟨blk, off, none⟩) (compactUpTo d d.size).length cap) ∧ ∃ q, w' = putRow enc (Sort.ahead w q) blk off (compactUpTo d d.size ++ List.replicate (d.size - (compactUpTo d d.size).length) zr).toArray := AnyE.slices_Compact Tryz.laysSlE43_f173 enc hO heq hne zr v23 blk off cap d w hH hsz hcap
def Tryz.laysSlH6_f206_ren : Go.Shelf.Ren := ⟨fun | 6 => 206 | n => n, fun | 22 => 76 | 23 => 3 | 25 => 99 | 3 => 3 | 0 => 0 | 4 => 4 | n => n, fun | n => n⟩
theorem Tryz.laysSlH6_f206 : Go.Proofs.SlLaysH.n6 Tryz.prog Tryz.laysSlH6_f206_ren := {
  mixed := by kernel_rfl
  f6 := ⟨Tryz.f206.name, by decide, Tryz.func206.trans (congrArg some (by kernel_rfl))⟩
  t0 := Tryz.underlying0
  a0 := Tryz.isAgg0
  z0 := Tryz.sizeOf0
  v0 := Tryz.zeroValue0
  t3 := Tryz.underlying3
  a3 := Tryz.isAgg3
  z3 := Tryz.sizeOf3
  v3 := Tryz.zeroValue3
  t4 := Tryz.underlying4
  a4 := Tryz.isAgg4
  z4 := Tryz.sizeOf4
  v4 := Tryz.zeroValue4
  t22 := Tryz.underlying76
  a22 := Tryz.isAgg76
  z22 := Tryz.sizeOf76
  v22 := Tryz.zeroValue76
  a23 := Tryz.isAgg3
  z23 := Tryz.sizeOf3
  t25 := Tryz.underlying99
  a25 := Tryz.isAgg99
  z25 := Tryz.sizeOf99
  v25 := Tryz.zeroValue99 }
open Go.RowKit Go.Lib in
theorem Tryz.slices_IndexFunc {α : Type} [Inhabited α] (enc : α → Value) (p : α → Bool) (g : Nat) (lb : Array Value) (eg : ∀ args w, (callFunc g args).run Tryz.prog w = .ok (.enter g args) w) (b off n c : Nat) (zs : List α) (w : World) (hp : PredAt Tryz.prog g lb enc p w) (hz : n ≤ zs.length) (hbig : n ≤ 9223372036854775807) (hc : ∀ j, j < zs.length → w.cell? ⟨b, off + j, none⟩ = some (enc zs[j]!)) :
    Calls Tryz.prog 206 #[.slice (some ⟨b, off, none⟩) n c, .func (.func g) #[] lb] w fun e w' => e = .returned (.int .i64 (Lib.idxBy (fun _ y => p y) (zs.take n) default)) ∧ ∃ q, w' = w.drewN q := AnyE.slices_IndexFunc Tryz.laysSlH6_f206 enc p g lb eg b off n c zs w hp hz hbig hc
open Go.RowKit Go.Lib in
theorem Tryz.slices_IndexFunc_empty {α : Type} [Inhabited α] (a : Option Addr) (c : Nat) (fv : Value) (w : World) :
    Calls Tryz.prog 206 #[.slice a 0 c, fv] w fun e w' => e = .returned (.int .i64 (-1)) ∧ w' = w := AnyE.slices_IndexFunc_empty Tryz.laysSlH6_f206 a c fv w
def Tryz.laysSlH10_f174_ren : Go.Shelf.Ren := ⟨fun | 10 => 174 | 6 => 206 | n => n, fun | 22 => 76 | 23 => 3 | 25 => 99 | 3 => 3 | 4 => 4 | 0 => 0 | n => n, fun | n => n⟩
theorem Tryz.laysSlH10_f174 : Go.Proofs.SlLaysH.n10 Tryz.prog Tryz.laysSlH10_f174_ren := {
  mixed := by kernel_rfl
  f6 := ⟨Tryz.f206.name, by decide, Tryz.func206.trans (congrArg some (by kernel_rfl))⟩
  f10 := ⟨Tryz.f174.name, by decide, Tryz.func174.trans (congrArg some (by kernel_rfl))⟩
  t0 := Tryz.underlying0
  a0 := Tryz.isAgg0
  z0 := Tryz.sizeOf0
  v0 := Tryz.zeroValue0
  t3 := Tryz.underlying3
  a3 := Tryz.isAgg3
  z3 := Tryz.sizeOf3
  v3 := Tryz.zeroValue3
  t4 := Tryz.underlying4
  a4 := Tryz.isAgg4
  z4 := Tryz.sizeOf4
  v4 := Tryz.zeroValue4
  t22 := Tryz.underlying76
  a22 := Tryz.isAgg76
  z22 := Tryz.sizeOf76
  v22 := Tryz.zeroValue76
  a23 := Tryz.isAgg3
  z23 := Tryz.sizeOf3
  t25 := Tryz.underlying99
  a25 := Tryz.isAgg99
  z25 := Tryz.sizeOf99
  v25 := Tryz.zeroValue99 }
open Go.RowKit Go.Lib Go.Sort in
theorem Tryz.slices_DeleteFunc {α : Type} [Inhabited α] (enc : α → Value) (hO : OneCell enc) (p : α → Bool) (g : Nat) (lb : Array Value) (eg : ∀ args w, (callFunc g args).run Tryz.prog w = .ok (.enter g args) w) (zr : α) (v23 : ∀ w, (zeroValue 3).run Tryz.prog w = .ok (enc zr) w) (blk off cap : Nat) (d : Array α) (w : World) (hp : PredAt Tryz.prog g lb enc p w) (hpo : PredOver Tryz.prog g lb enc p blk off d.size w) (hH : Holds enc w blk off d) (hsz : d.size ≤ 9223372036854775807) (hcap : d.size ≤ cap) :
    Calls Tryz.prog 174 #[.slice (some ⟨blk, off, none⟩) d.size cap, .func (.func g) #[] lb] w fun e w' => e = .returned (.slice (some ⟨blk, off, none⟩) (d.toList.filter fun x => !p x).length cap) ∧ ∃ q, w' = putRow enc (Sort.ahead w q) blk off ((d.toList.filter fun x => !p x) ++ List.replicate (d.size - (d.toList.filter fun x => !p x).length) zr).toArray := AnyE.slices_DeleteFunc Tryz.laysSlH10_f174 enc hO p g lb eg zr v23 blk off cap d w hp hpo hH hsz hcap
end Go.Proofs
