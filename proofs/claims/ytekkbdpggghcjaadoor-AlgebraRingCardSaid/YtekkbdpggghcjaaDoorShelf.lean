/- The library's contracts at this program: what lay-shelf and lay-plain print. -/
import Derived.Shelf.Strings.Builder1
import Derived.Shelf.Small.Bits
import Derived.Shelf.Small.Wraps
import Derived.Shelf.Strings.BuilderF
import Derived.Shelf.Strings.BuilderK
import Derived.Shelf.Strconv.Itoa0
import Derived.Shelf.Strconv.Itoa1
import Derived.Shelf.LaysM
import Derived.Shelf.Strconv.Itoa2
import Derived.Shelf.Strconv.Itoa3
import Derived.Shelf.Sort.Plain
import Derived.Shelf.Strings.BuilderCap
import Derived.Ground.Names2Prog
import Derived.Shelf.Slices.CompactI
import Derived.Shelf.Slices.SearchI
import Derived.Shelf.Slices.Cells
import Derived.Shelf.Slices.In.SortNone
import Derived.Ground.SlgnProg
import Derived.Shelf.SlicesE.Compact
import Derived.Ground.SlgfProg
import Derived.Shelf.SlicesE.IndexFunc
import Derived.Shelf.SlicesE.DeleteFunc
import Derived.Test.YtekkbdpggghcjaaDoorProg
namespace Go.Proofs
open Go.Shelf
def Tryd.lays170_ren : Go.Shelf.Ren := ⟨fun | 170 => 99 | n => n, fun | 70 => 131 | 3 => 3 | 0 => 0 | 72 => 134 | 37 => 132 | 5 => 5 | n => n, fun | n => n⟩
theorem Tryd.lays170 : Go.Proofs.Lays.n170 Tryd.prog Tryd.lays170_ren := {
  mixed := by kernel_rfl
  f170 := Tryd.func99.trans (congrArg some (by kernel_rfl))
  t0 := Tryd.underlying0
  a0 := Tryd.isAgg0
  z0 := Tryd.sizeOf0
  v0 := Tryd.zeroValue0
  t3 := Tryd.underlying3
  a3 := Tryd.isAgg3
  z3 := Tryd.sizeOf3
  v3 := Tryd.zeroValue3
  t37 := Tryd.underlying132
  a37 := Tryd.isAgg132
  z37 := Tryd.sizeOf132
  v37 := Tryd.zeroValue132
  t70 := Tryd.underlying131
  a70 := Tryd.isAgg131
  z70 := Tryd.sizeOf131
  v70 := Tryd.zeroValue131
  t72 := Tryd.underlying134
  a72 := Tryd.isAgg134
  z72 := Tryd.sizeOf134
  v72 := Tryd.zeroValue134 }
open Go.RowKit in
theorem Tryd.Builder_Len (B b : Nat) (bs : List Value) (w : World) (h : Lib.IsBuilder 134 5 B b bs w) :
    Calls Tryd.prog 99 #[.pointer (some ⟨b, 0, none⟩)] w fun e w' => e = .returned (.int .i64 bs.length) ∧ w' = w := Any.Builder_Len Tryd.lays170 B b bs w h
def Tryd.lays169_ren : Go.Shelf.Ren := ⟨fun | 169 => 102 | n => n, fun | 70 => 131 | 9 => 9 | 0 => 0 | 72 => 134 | 37 => 132 | 127 => 147 | 3 => 3 | 5 => 5 | n => n, fun | n => n⟩
theorem Tryd.lays169 : Go.Proofs.Lays.n169 Tryd.prog Tryd.lays169_ren := {
  mixed := by kernel_rfl
  f169 := Tryd.func102.trans (congrArg some (by kernel_rfl))
  t0 := Tryd.underlying0
  a0 := Tryd.isAgg0
  z0 := Tryd.sizeOf0
  v0 := Tryd.zeroValue0
  t3 := Tryd.underlying3
  a3 := Tryd.isAgg3
  z3 := Tryd.sizeOf3
  v3 := Tryd.zeroValue3
  t9 := Tryd.underlying9
  a9 := Tryd.isAgg9
  z9 := Tryd.sizeOf9
  v9 := Tryd.zeroValue9
  t37 := Tryd.underlying132
  a37 := Tryd.isAgg132
  z37 := Tryd.sizeOf132
  v37 := Tryd.zeroValue132
  t70 := Tryd.underlying131
  a70 := Tryd.isAgg131
  z70 := Tryd.sizeOf131
  v70 := Tryd.zeroValue131
  t72 := Tryd.underlying134
  a72 := Tryd.isAgg134
  z72 := Tryd.sizeOf134
  v72 := Tryd.zeroValue134
  t127 := Tryd.underlying147
  a127 := Tryd.isAgg147
  z127 := Tryd.sizeOf147
  v127 := Tryd.zeroValue147 }
theorem Tryd.Builder_Extra_169 : Builder.Extra Tryd.prog Tryd.lays169_ren := {
  sizeBuilder := by kernel_rfl
  liesBuilder := by kernel_rfl
  t5 := Tryd.underlying5
  a5 := Tryd.isAgg5
  z5 := Tryd.sizeOf5
  v5 := Tryd.zeroValue5
  infoByte := by kernel_rfl
  cellsByte := by kernel_rfl
  sizeByte := by kernel_rfl
  neB5 := by decide }
open Go.RowKit in
theorem Tryd.Builder_String (B b : Nat) (l : List UInt8) (w : World) (h : Lib.IsBuilder 134 5 B b (Lib.byteCells l) w) (h0 : l ≠ []) :
    Calls Tryd.prog 102 #[.pointer (some ⟨b, 0, none⟩)] w fun e w' => e = .returned (.string ⟨l.toArray⟩) ∧ Below B w w' := Any.Builder_String Tryd.lays169 Tryd.Builder_Extra_169 B b l w h h0
open Go.RowKit in
theorem Tryd.Builder_String_empty (B b : Nat) (w : World) (h : Lib.IsBuilder 134 5 B b [] w) (hBw : B ≤ w.heap.size) :
    Calls Tryd.prog 102 #[.pointer (some ⟨b, 0, none⟩)] w fun e w' => e = .returned (.string ⟨#[]⟩) ∧ Below B w w' := Any.Builder_String_empty Tryd.lays169 Tryd.Builder_Extra_169 B b w h hBw
open Go.RowKit in
theorem Tryd.Builder_String_any (B b : Nat) (l : List UInt8) (w : World) (h : Lib.IsBuilder 134 5 B b (Lib.byteCells l) w) (hBw : B ≤ w.heap.size) :
    Calls Tryd.prog 102 #[.pointer (some ⟨b, 0, none⟩)] w fun e w' => e = .returned (.string ⟨l.toArray⟩) ∧ Below B w w' := Any.Builder_String_any Tryd.lays169 Tryd.Builder_Extra_169 B b l w h hBw
def Tryd.lays128_ren : Go.Shelf.Ren := ⟨fun | 128 => 126 | n => n, fun | 51 => 157 | 3 => 3 | 4 => 4 | 46 => 144 | 5 => 5 | 9 => 9 | n => n, fun | n => n⟩
theorem Tryd.lays128 : Go.Proofs.Lays.n128 Tryd.prog Tryd.lays128_ren := {
  mixed := by kernel_rfl
  f128 := Tryd.func126.trans (congrArg some (by kernel_rfl))
  t3 := Tryd.underlying3
  a3 := Tryd.isAgg3
  z3 := Tryd.sizeOf3
  v3 := Tryd.zeroValue3
  t4 := Tryd.underlying4
  a4 := Tryd.isAgg4
  z4 := Tryd.sizeOf4
  v4 := Tryd.zeroValue4
  t5 := Tryd.underlying5
  a5 := Tryd.isAgg5
  z5 := Tryd.sizeOf5
  v5 := Tryd.zeroValue5
  t9 := Tryd.underlying9
  a9 := Tryd.isAgg9
  z9 := Tryd.sizeOf9
  v9 := Tryd.zeroValue9
  t46 := Tryd.underlying144
  a46 := Tryd.isAgg144
  z46 := Tryd.sizeOf144
  v46 := Tryd.zeroValue144
  t51 := Tryd.underlying157
  a51 := Tryd.isAgg157
  z51 := Tryd.sizeOf157
  v51 := Tryd.zeroValue157 }
theorem Tryd.bits_Len32 (x : Int) (w : World) (h0 : 0 ≤ x) (h1 : x ≤ 4294967295) :
    Calls Tryd.prog 126 #[.int .u32 x] w fun e w' => e = .returned (.int .i64 (Lib.bitLen x.toNat)) ∧ w' = w := Any.bits_Len32 Tryd.lays128 x w h0 h1
def Tryd.lays125_ren : Go.Shelf.Ren := ⟨fun | 125 => 107 | 128 => 126 | 129 => 127 | n => n, fun | 46 => 144 | 3 => 3 | 51 => 157 | 53 => 159 | 4 => 4 | 5 => 5 | 9 => 9 | n => n, fun | n => n⟩
theorem Tryd.lays125 : Go.Proofs.Lays.n125 Tryd.prog Tryd.lays125_ren := {
  mixed := by kernel_rfl
  f125 := Tryd.func107.trans (congrArg some (by kernel_rfl))
  f128 := Tryd.func126.trans (congrArg some (by kernel_rfl))
  f129 := Tryd.func127.trans (congrArg some (by kernel_rfl))
  t3 := Tryd.underlying3
  a3 := Tryd.isAgg3
  z3 := Tryd.sizeOf3
  v3 := Tryd.zeroValue3
  t4 := Tryd.underlying4
  a4 := Tryd.isAgg4
  z4 := Tryd.sizeOf4
  v4 := Tryd.zeroValue4
  t5 := Tryd.underlying5
  a5 := Tryd.isAgg5
  z5 := Tryd.sizeOf5
  v5 := Tryd.zeroValue5
  t9 := Tryd.underlying9
  a9 := Tryd.isAgg9
  z9 := Tryd.sizeOf9
  v9 := Tryd.zeroValue9
  t46 := Tryd.underlying144
  a46 := Tryd.isAgg144
  z46 := Tryd.sizeOf144
  v46 := Tryd.zeroValue144
  t51 := Tryd.underlying157
  a51 := Tryd.isAgg157
  z51 := Tryd.sizeOf157
  v51 := Tryd.zeroValue157
  t53 := Tryd.underlying159
  a53 := Tryd.isAgg159
  z53 := Tryd.sizeOf159
  v53 := Tryd.zeroValue159 }
theorem Tryd.bits_Len (x : Int) (w : World) (h0 : 0 ≤ x) (h1 : x ≤ 18446744073709551615) :
    Calls Tryd.prog 107 #[.int .u64 x] w fun e w' => e = .returned (.int .i64 (Lib.bitLen x.toNat)) ∧ w' = w := Any.bits_Len Tryd.lays125 x w h0 h1
def Tryd.lays215_ren : Go.Shelf.Ren := ⟨fun | 215 => 142 | n => n, fun | 3 => 3 | 4 => 4 | n => n, fun | n => n⟩
theorem Tryd.lays215 : Go.Proofs.Lays.n215 Tryd.prog Tryd.lays215_ren := {
  mixed := by kernel_rfl
  f215 := Tryd.func142.trans (congrArg some (by kernel_rfl))
  t3 := Tryd.underlying3
  a3 := Tryd.isAgg3
  z3 := Tryd.sizeOf3
  v3 := Tryd.zeroValue3
  t4 := Tryd.underlying4
  a4 := Tryd.isAgg4
  z4 := Tryd.sizeOf4
  v4 := Tryd.zeroValue4 }
open Go.RowKit in
theorem Tryd.cmp_isNaN_int (x : Int) (w : World) :
    Calls Tryd.prog 142 #[.int .i64 x] w fun e w' => e = .returned (.bool false) ∧ w' = w := Any.cmp_isNaN_int Tryd.lays215 x w
open Go.RowKit in
theorem Tryd.Builder_Len_f (B b : Nat) (bs : List Value) (w : World) (h : Lib.IsBuilderF 134 5 B b bs w) :
    Calls Tryd.prog 99 #[.pointer (some ⟨b, 0, none⟩)] w fun e w' => e = .returned (.int .i64 bs.length) ∧ w' = w := Any.Builder_Len_f Tryd.lays170 B b bs w h
open Go.RowKit in
theorem Tryd.Builder_String_f (B b : Nat) (l : List UInt8) (w : World) (h : Lib.IsBuilderF 134 5 B b (Lib.byteCells l) w) (h0 : l ≠ []) :
    Calls Tryd.prog 102 #[.pointer (some ⟨b, 0, none⟩)] w fun e w' => e = .returned (.string ⟨l.toArray⟩) ∧ (Lib.IsBuilderF 134 5 B b (Lib.byteCells l) w' ∧ Below B w w') := Any.Builder_String_f Tryd.lays169 Tryd.Builder_Extra_169 B b l w h h0
open Go.RowKit in
theorem Tryd.Builder_String_empty_f (B b : Nat) (w : World) (h : Lib.IsBuilderF 134 5 B b [] w) (hBw : B ≤ w.heap.size) :
    Calls Tryd.prog 102 #[.pointer (some ⟨b, 0, none⟩)] w fun e w' => e = .returned (.string ⟨#[]⟩) ∧ (Lib.IsBuilderF 134 5 B b [] w' ∧ Below B w w') := Any.Builder_String_empty_f Tryd.lays169 Tryd.Builder_Extra_169 B b w h hBw
open Go.RowKit in
theorem Tryd.Builder_String_any_f (B b : Nat) (l : List UInt8) (w : World) (h : Lib.IsBuilderF 134 5 B b (Lib.byteCells l) w) (hBw : B ≤ w.heap.size) :
    Calls Tryd.prog 102 #[.pointer (some ⟨b, 0, none⟩)] w fun e w' => e = .returned (.string ⟨l.toArray⟩) ∧ (Lib.IsBuilderF 134 5 B b (Lib.byteCells l) w' ∧ Below B w w') := Any.Builder_String_any_f Tryd.lays169 Tryd.Builder_Extra_169 B b l w h hBw
open Go.RowKit in
theorem Tryd.Builder_String_k (B b : Nat) (l : List UInt8) (w : World) (h : Lib.IsBuilderF 134 5 B b (Lib.byteCells l) w) (h0 : l ≠ []) :
    Calls Tryd.prog 102 #[.pointer (some ⟨b, 0, none⟩)] w fun e w' => e = .returned (.string ⟨l.toArray⟩) ∧ (Lib.IsBuilderF 134 5 B b (Lib.byteCells l) w' ∧ Below B w w' ∧ Lib.OthersKept 5 (some b) w w') := Any.Builder_String_k Tryd.lays169 Tryd.Builder_Extra_169 B b l w h h0
open Go.RowKit in
theorem Tryd.Builder_String_empty_k (B b : Nat) (w : World) (h : Lib.IsBuilderF 134 5 B b [] w) (hBw : B ≤ w.heap.size) :
    Calls Tryd.prog 102 #[.pointer (some ⟨b, 0, none⟩)] w fun e w' => e = .returned (.string ⟨#[]⟩) ∧ (Lib.IsBuilderF 134 5 B b [] w' ∧ Below B w w' ∧ Lib.OthersKept 5 (some b) w w') := Any.Builder_String_empty_k Tryd.lays169 Tryd.Builder_Extra_169 B b w h hBw
open Go.RowKit in
theorem Tryd.Builder_String_any_k (B b : Nat) (l : List UInt8) (w : World) (h : Lib.IsBuilderF 134 5 B b (Lib.byteCells l) w) (hBw : B ≤ w.heap.size) :
    Calls Tryd.prog 102 #[.pointer (some ⟨b, 0, none⟩)] w fun e w' => e = .returned (.string ⟨l.toArray⟩) ∧ (Lib.IsBuilderF 134 5 B b (Lib.byteCells l) w' ∧ Below B w w' ∧ Lib.OthersKept 5 (some b) w w') := Any.Builder_String_any_k Tryd.lays169 Tryd.Builder_Extra_169 B b l w h hBw
def Tryd.lays129_ren : Go.Shelf.Ren := ⟨fun | 129 => 127 | n => n, fun | 53 => 159 | 3 => 3 | 4 => 4 | 46 => 144 | 5 => 5 | 9 => 9 | n => n, fun | n => n⟩
theorem Tryd.lays129 : Go.Proofs.Lays.n129 Tryd.prog Tryd.lays129_ren := {
  mixed := by kernel_rfl
  f129 := Tryd.func127.trans (congrArg some (by kernel_rfl))
  t3 := Tryd.underlying3
  a3 := Tryd.isAgg3
  z3 := Tryd.sizeOf3
  v3 := Tryd.zeroValue3
  t4 := Tryd.underlying4
  a4 := Tryd.isAgg4
  z4 := Tryd.sizeOf4
  v4 := Tryd.zeroValue4
  t5 := Tryd.underlying5
  a5 := Tryd.isAgg5
  z5 := Tryd.sizeOf5
  v5 := Tryd.zeroValue5
  t9 := Tryd.underlying9
  a9 := Tryd.isAgg9
  z9 := Tryd.sizeOf9
  v9 := Tryd.zeroValue9
  t46 := Tryd.underlying144
  a46 := Tryd.isAgg144
  z46 := Tryd.sizeOf144
  v46 := Tryd.zeroValue144
  t53 := Tryd.underlying159
  a53 := Tryd.isAgg159
  z53 := Tryd.sizeOf159
  v53 := Tryd.zeroValue159 }
theorem Tryd.bits_Len64 (x : Int) (w : World) (h0 : 0 ≤ x) (h1 : x ≤ 18446744073709551615) :
    Calls Tryd.prog 127 #[.int .u64 x] w fun e w' => e = .returned (.int .i64 (Lib.bitLen x.toNat)) ∧ w' = w := Any.bits_Len64 Tryd.lays129 x w h0 h1
def Tryd.lays317_ren : Go.Shelf.Ren := ⟨fun | 317 => 143 | n => n, fun | 3 => 3 | 46 => 144 | n => n, fun | n => n⟩
theorem Tryd.lays317 : Go.Proofs.Lays.n317 Tryd.prog Tryd.lays317_ren := {
  mixed := by kernel_rfl
  f317 := Tryd.func143.trans (congrArg some (by kernel_rfl))
  t3 := Tryd.underlying3
  a3 := Tryd.isAgg3
  z3 := Tryd.sizeOf3
  v3 := Tryd.zeroValue3
  t46 := Tryd.underlying144
  a46 := Tryd.isAgg144
  z46 := Tryd.sizeOf144
  v46 := Tryd.zeroValue144 }
open Go.Lib in
theorem Tryd.internal_strconv_log10Pow2 (x : Nat) (h : x ≤ 64) (w : World) :
    Calls Tryd.prog 143 #[.int .i64 x] w fun e w' => e = .returned (.int .i64 (Lib.l10 x)) ∧ w' = w := Any.internal_strconv_log10Pow2 Tryd.lays317 x h w
def Tryd.lays318_ren : Go.Shelf.Ren := ⟨fun | 318 => 144 | n => n, fun | 3 => 3 | 4 => 4 | n => n, fun | n => n⟩
theorem Tryd.lays318 : Go.Proofs.Lays.n318 Tryd.prog Tryd.lays318_ren := {
  mixed := by kernel_rfl
  f318 := Tryd.func144.trans (congrArg some (by kernel_rfl))
  t3 := Tryd.underlying3
  a3 := Tryd.isAgg3
  z3 := Tryd.sizeOf3
  v3 := Tryd.zeroValue3
  t4 := Tryd.underlying4
  a4 := Tryd.isAgg4
  z4 := Tryd.sizeOf4
  v4 := Tryd.zeroValue4 }
open Go.Lib in
theorem Tryd.internal_strconv_bool2_int (b : Bool) (w : World) :
    Calls Tryd.prog 144 #[.bool b] w fun e w' => e = .returned (.int .i64 (if b then 1 else 0)) ∧ w' = w := Any.internal_strconv_bool2_int Tryd.lays318 b w
def Tryd.lays283_ren : Go.Shelf.Ren := ⟨fun | 283 => 133 | n => n, fun | 3 => 3 | 9 => 9 | 4 => 4 | n => n, fun | n => n⟩
theorem Tryd.lays283 : Go.Proofs.Lays.n283 Tryd.prog Tryd.lays283_ren := {
  mixed := by kernel_rfl
  f283 := Tryd.func133.trans (congrArg some (by kernel_rfl))
  t3 := Tryd.underlying3
  a3 := Tryd.isAgg3
  z3 := Tryd.sizeOf3
  v3 := Tryd.zeroValue3
  t4 := Tryd.underlying4
  a4 := Tryd.isAgg4
  z4 := Tryd.sizeOf4
  v4 := Tryd.zeroValue4
  t9 := Tryd.underlying9
  a9 := Tryd.isAgg9
  z9 := Tryd.sizeOf9
  v9 := Tryd.zeroValue9 }
open Go.Lib in
theorem Tryd.internal_strconv_small (i : Nat) (h : i < 100) (w : World) :
    Calls Tryd.prog 133 #[.int .i64 i] w fun e w' => e = .returned (.string ⟨(Lib.decDigits i).toArray⟩) ∧ w' = w := Any.internal_strconv_small Tryd.lays283 i h w
def Tryd.laysM284_ren : Go.Shelf.Ren := ⟨fun | 284 => 134 | 129 => 127 | 317 => 143 | 318 => 144 | n => n, fun | 53 => 159 | 3 => 3 | 212 => 173 | 0 => 0 | 4 => 4 | 46 => 144 | 5 => 5 | 9 => 9 | n => n, fun | 17 => 0 | n => n⟩
theorem Tryd.laysM284 : Go.Proofs.LaysM.n284 Tryd.prog Tryd.laysM284_ren := {
  mixed := by kernel_rfl
  f129 := Tryd.func127.trans (congrArg some (by kernel_rfl))
  f284 := Tryd.func134.trans (congrArg some (by kernel_rfl))
  f317 := Tryd.func143.trans (congrArg some (by kernel_rfl))
  f318 := Tryd.func144.trans (congrArg some (by kernel_rfl))
  t0 := Tryd.underlying0
  a0 := Tryd.isAgg0
  z0 := Tryd.sizeOf0
  v0 := Tryd.zeroValue0
  t3 := Tryd.underlying3
  a3 := Tryd.isAgg3
  z3 := Tryd.sizeOf3
  v3 := Tryd.zeroValue3
  t4 := Tryd.underlying4
  a4 := Tryd.isAgg4
  z4 := Tryd.sizeOf4
  v4 := Tryd.zeroValue4
  t5 := Tryd.underlying5
  a5 := Tryd.isAgg5
  z5 := Tryd.sizeOf5
  v5 := Tryd.zeroValue5
  t9 := Tryd.underlying9
  a9 := Tryd.isAgg9
  z9 := Tryd.sizeOf9
  v9 := Tryd.zeroValue9
  t46 := Tryd.underlying144
  a46 := Tryd.isAgg144
  z46 := Tryd.sizeOf144
  v46 := Tryd.zeroValue144
  t53 := Tryd.underlying159
  a53 := Tryd.isAgg159
  z53 := Tryd.sizeOf159
  v53 := Tryd.zeroValue159
  t212 := Tryd.underlying173
  a212 := Tryd.isAgg173
  z212 := Tryd.sizeOf173
  v212 := Tryd.zeroValue173
  g17 := by kernel_rfl
  i0 := by kernel_rfl
  i3 := by kernel_rfl
  i4 := by kernel_rfl
  i5 := by kernel_rfl
  i9 := by kernel_rfl
  i46 := by kernel_rfl
  i53 := by kernel_rfl
  i212 := by kernel_rfl
  m17 := by kernel_rfl }
open Go.Lib in
theorem Tryd.internal_strconv_numDigits (u : Nat) (h1 : 1 ≤ u) (h2 : u < 18446744073709551616) (w : World) (htab : Lib.TabIs Tryd.prog w "internal/strconv.uint64pow10" .u64 Lib.pow10Tab) :
    Calls Tryd.prog 134 #[.int .u64 u] w fun e w' => e = .returned (.int .i64 (Lib.nDigits u)) ∧ w' = w := Any.internal_strconv_numDigits Tryd.laysM284 u h1 h2 w htab
def Tryd.lays285_ren : Go.Shelf.Ren := ⟨fun | 285 => 135 | n => n, fun | 37 => 132 | 53 => 159 | 3 => 3 | 4 => 4 | 51 => 157 | 9 => 9 | 5 => 5 | 0 => 0 | n => n, fun | n => n⟩
theorem Tryd.lays285 : Go.Proofs.Lays.n285 Tryd.prog Tryd.lays285_ren := {
  mixed := by kernel_rfl
  f285 := Tryd.func135.trans (congrArg some (by kernel_rfl))
  t0 := Tryd.underlying0
  a0 := Tryd.isAgg0
  z0 := Tryd.sizeOf0
  v0 := Tryd.zeroValue0
  t3 := Tryd.underlying3
  a3 := Tryd.isAgg3
  z3 := Tryd.sizeOf3
  v3 := Tryd.zeroValue3
  t4 := Tryd.underlying4
  a4 := Tryd.isAgg4
  z4 := Tryd.sizeOf4
  v4 := Tryd.zeroValue4
  t5 := Tryd.underlying5
  a5 := Tryd.isAgg5
  z5 := Tryd.sizeOf5
  v5 := Tryd.zeroValue5
  t9 := Tryd.underlying9
  a9 := Tryd.isAgg9
  z9 := Tryd.sizeOf9
  v9 := Tryd.zeroValue9
  t37 := Tryd.underlying132
  a37 := Tryd.isAgg132
  z37 := Tryd.sizeOf132
  v37 := Tryd.zeroValue132
  t51 := Tryd.underlying157
  a51 := Tryd.isAgg157
  z51 := Tryd.sizeOf157
  v51 := Tryd.zeroValue157
  t53 := Tryd.underlying159
  a53 := Tryd.isAgg159
  z53 := Tryd.sizeOf159
  v53 := Tryd.zeroValue159 }
open Go.RowKit Go.Sort Go.Lib in
theorem Tryd.internal_strconv_formatBase10 (blk off cap : Nat) (u : Nat) (d : Array UInt8) (w : World) (hH : Holds (fun (b : UInt8) => Value.int .u8 (b.toNat : Int)) w blk off d) (hu : u < 10 ^ d.size) (hu64 : u < 18446744073709551616) (hsz : d.size < 4611686018427387904) :
    Calls Tryd.prog 135 #[.slice (some ⟨blk, off, none⟩) d.size cap, .int .u64 u] w fun e w' =>
      e = .returned (.tuple #[]) ∧ ∃ (n v' : Nat) (dk : Array UInt8), w' = (putRow (fun (b : UInt8) => Value.int .u8 (b.toNat : Int)) w blk off dk).drewN n ∧ FmtInv d.size u 0 v' dk := Any.internal_strconv_formatBase10 Tryd.lays285 blk off cap u d w hH hu hu64 hsz
def Tryd.laysM246_ren : Go.Shelf.Ren := ⟨fun | 246 => 116 | 283 => 133 | 284 => 134 | 285 => 135 | 286 => 136 | 129 => 127 | 317 => 143 | 318 => 144 | 319 => 145 | 320 => 146 | 337 => 148 | 338 => 149 | n => n, fun | 2 => 2 | 3 => 3 | 9 => 9 | 4 => 4 | 171 => 162 | 0 => 0 | 53 => 159 | 37 => 132 | 5 => 5 | 173 => 164 | 212 => 173 | 51 => 157 | 20 => 20 | 213 => 174 | 46 => 144 | 232 => 177 | 233 => 178 | n => n, fun | 17 => 0 | 18 => 1 | 19 => 2 | n => n⟩
theorem Tryd.laysM246 : Go.Proofs.LaysM.n246 Tryd.prog Tryd.laysM246_ren := {
  mixed := by kernel_rfl
  f129 := Tryd.func127.trans (congrArg some (by kernel_rfl))
  f246 := Tryd.func116.trans (congrArg some (by kernel_rfl))
  f283 := Tryd.func133.trans (congrArg some (by kernel_rfl))
  f284 := Tryd.func134.trans (congrArg some (by kernel_rfl))
  f285 := Tryd.func135.trans (congrArg some (by kernel_rfl))
  f286 := Tryd.func136.trans (congrArg some (by kernel_rfl))
  f317 := Tryd.func143.trans (congrArg some (by kernel_rfl))
  f318 := Tryd.func144.trans (congrArg some (by kernel_rfl))
  f319 := Tryd.func145.trans (congrArg some (by kernel_rfl))
  f320 := Tryd.func146.trans (congrArg some (by kernel_rfl))
  f337 := Tryd.func148.trans (congrArg some (by kernel_rfl))
  f338 := Tryd.func149.trans (congrArg some (by kernel_rfl))
  t0 := Tryd.underlying0
  a0 := Tryd.isAgg0
  z0 := Tryd.sizeOf0
  v0 := Tryd.zeroValue0
  t2 := Tryd.underlying2
  a2 := Tryd.isAgg2
  z2 := Tryd.sizeOf2
  v2 := Tryd.zeroValue2
  t3 := Tryd.underlying3
  a3 := Tryd.isAgg3
  z3 := Tryd.sizeOf3
  v3 := Tryd.zeroValue3
  t4 := Tryd.underlying4
  a4 := Tryd.isAgg4
  z4 := Tryd.sizeOf4
  v4 := Tryd.zeroValue4
  t5 := Tryd.underlying5
  a5 := Tryd.isAgg5
  z5 := Tryd.sizeOf5
  v5 := Tryd.zeroValue5
  t9 := Tryd.underlying9
  a9 := Tryd.isAgg9
  z9 := Tryd.sizeOf9
  v9 := Tryd.zeroValue9
  t20 := Tryd.underlying20
  a20 := Tryd.isAgg20
  z20 := Tryd.sizeOf20
  v20 := Tryd.zeroValue20
  t37 := Tryd.underlying132
  a37 := Tryd.isAgg132
  z37 := Tryd.sizeOf132
  v37 := Tryd.zeroValue132
  t46 := Tryd.underlying144
  a46 := Tryd.isAgg144
  z46 := Tryd.sizeOf144
  v46 := Tryd.zeroValue144
  t51 := Tryd.underlying157
  a51 := Tryd.isAgg157
  z51 := Tryd.sizeOf157
  v51 := Tryd.zeroValue157
  t53 := Tryd.underlying159
  a53 := Tryd.isAgg159
  z53 := Tryd.sizeOf159
  v53 := Tryd.zeroValue159
  t171 := Tryd.underlying162
  a171 := Tryd.isAgg162
  z171 := Tryd.sizeOf162
  v171 := Tryd.zeroValue162
  t173 := Tryd.underlying164
  a173 := Tryd.isAgg164
  z173 := Tryd.sizeOf164
  v173 := Tryd.zeroValue164
  t212 := Tryd.underlying173
  a212 := Tryd.isAgg173
  z212 := Tryd.sizeOf173
  v212 := Tryd.zeroValue173
  t213 := Tryd.underlying174
  a213 := Tryd.isAgg174
  z213 := Tryd.sizeOf174
  t232 := Tryd.underlying177
  a232 := Tryd.isAgg177
  z232 := Tryd.sizeOf177
  v232 := Tryd.zeroValue177
  t233 := Tryd.underlying178
  a233 := Tryd.isAgg178
  z233 := Tryd.sizeOf178
  v233 := Tryd.zeroValue178
  g17 := by kernel_rfl
  g18 := by kernel_rfl
  g19 := by kernel_rfl
  i0 := by kernel_rfl
  i2 := by kernel_rfl
  i3 := by kernel_rfl
  i4 := by kernel_rfl
  i5 := by kernel_rfl
  i9 := by kernel_rfl
  i20 := by kernel_rfl
  i37 := by kernel_rfl
  i46 := by kernel_rfl
  i51 := by kernel_rfl
  i53 := by kernel_rfl
  i171 := by kernel_rfl
  i173 := by kernel_rfl
  i212 := by kernel_rfl
  i232 := by kernel_rfl
  i233 := by kernel_rfl
  m17 := by kernel_rfl
  m18 := by kernel_rfl
  m19 := by kernel_rfl }
open Go.RowKit Go.Sort Go.Lib in
theorem Tryd.internal_strconv_FormatInt_10 (n : Int) (h0 : -9223372036854775808 ≤ n) (h1 : n ≤ 9223372036854775807) (w : World) (htab : Lib.TabIs Tryd.prog w "internal/strconv.uint64pow10" .u64 Lib.pow10Tab) :
    Calls Tryd.prog 116 #[.int .i64 n, .int .i64 10] w fun e w' => e = .returned (.string ⟨(Lib.itoa n).toArray⟩) ∧ ∃ k os, w' = grow (w.drewN k) os := Any.internal_strconv_FormatInt_10 Tryd.laysM246 n h0 h1 w htab
def Tryd.lays246_ren : Go.Shelf.Ren := ⟨fun | 246 => 116 | 283 => 133 | 284 => 134 | 285 => 135 | 286 => 136 | 129 => 127 | 317 => 143 | 318 => 144 | 319 => 145 | 320 => 146 | 337 => 148 | 338 => 149 | n => n, fun | 2 => 2 | 3 => 3 | 9 => 9 | 4 => 4 | 171 => 162 | 0 => 0 | 53 => 159 | 37 => 132 | 5 => 5 | 173 => 164 | 212 => 173 | 51 => 157 | 20 => 20 | 213 => 174 | 46 => 144 | 232 => 177 | 233 => 178 | n => n, fun | 17 => 0 | 18 => 1 | 19 => 2 | n => n⟩
theorem Tryd.lays246 : Go.Proofs.Lays.n246 Tryd.prog Tryd.lays246_ren := {
  mixed := by kernel_rfl
  f129 := Tryd.func127.trans (congrArg some (by kernel_rfl))
  f246 := Tryd.func116.trans (congrArg some (by kernel_rfl))
  f283 := Tryd.func133.trans (congrArg some (by kernel_rfl))
  f284 := Tryd.func134.trans (congrArg some (by kernel_rfl))
  f285 := Tryd.func135.trans (congrArg some (by kernel_rfl))
  f286 := Tryd.func136.trans (congrArg some (by kernel_rfl))
  f317 := Tryd.func143.trans (congrArg some (by kernel_rfl))
  f318 := Tryd.func144.trans (congrArg some (by kernel_rfl))
  f319 := Tryd.func145.trans (congrArg some (by kernel_rfl))
  f320 := Tryd.func146.trans (congrArg some (by kernel_rfl))
  f337 := Tryd.func148.trans (congrArg some (by kernel_rfl))
  f338 := Tryd.func149.trans (congrArg some (by kernel_rfl))
  t0 := Tryd.underlying0
  a0 := Tryd.isAgg0
  z0 := Tryd.sizeOf0
  v0 := Tryd.zeroValue0
  t2 := Tryd.underlying2
  a2 := Tryd.isAgg2
  z2 := Tryd.sizeOf2
  v2 := Tryd.zeroValue2
  t3 := Tryd.underlying3
  a3 := Tryd.isAgg3
  z3 := Tryd.sizeOf3
  v3 := Tryd.zeroValue3
  t4 := Tryd.underlying4
  a4 := Tryd.isAgg4
  z4 := Tryd.sizeOf4
  v4 := Tryd.zeroValue4
  t5 := Tryd.underlying5
  a5 := Tryd.isAgg5
  z5 := Tryd.sizeOf5
  v5 := Tryd.zeroValue5
  t9 := Tryd.underlying9
  a9 := Tryd.isAgg9
  z9 := Tryd.sizeOf9
  v9 := Tryd.zeroValue9
  t20 := Tryd.underlying20
  a20 := Tryd.isAgg20
  z20 := Tryd.sizeOf20
  v20 := Tryd.zeroValue20
  t37 := Tryd.underlying132
  a37 := Tryd.isAgg132
  z37 := Tryd.sizeOf132
  v37 := Tryd.zeroValue132
  t46 := Tryd.underlying144
  a46 := Tryd.isAgg144
  z46 := Tryd.sizeOf144
  v46 := Tryd.zeroValue144
  t51 := Tryd.underlying157
  a51 := Tryd.isAgg157
  z51 := Tryd.sizeOf157
  v51 := Tryd.zeroValue157
  t53 := Tryd.underlying159
  a53 := Tryd.isAgg159
  z53 := Tryd.sizeOf159
  v53 := Tryd.zeroValue159
  t171 := Tryd.underlying162
  a171 := Tryd.isAgg162
  z171 := Tryd.sizeOf162
  v171 := Tryd.zeroValue162
  t173 := Tryd.underlying164
  a173 := Tryd.isAgg164
  z173 := Tryd.sizeOf164
  v173 := Tryd.zeroValue164
  t212 := Tryd.underlying173
  a212 := Tryd.isAgg173
  z212 := Tryd.sizeOf173
  v212 := Tryd.zeroValue173
  t213 := Tryd.underlying174
  a213 := Tryd.isAgg174
  z213 := Tryd.sizeOf174
  t232 := Tryd.underlying177
  a232 := Tryd.isAgg177
  z232 := Tryd.sizeOf177
  v232 := Tryd.zeroValue177
  t233 := Tryd.underlying178
  a233 := Tryd.isAgg178
  z233 := Tryd.sizeOf178
  v233 := Tryd.zeroValue178
  g17 := by kernel_rfl
  g18 := by kernel_rfl
  g19 := by kernel_rfl }
open Go.RowKit Go.Sort Go.Lib in
theorem Tryd.internal_strconv_FormatInt_10_small (i : Nat) (hi : i < 100) (w : World) :
    Calls Tryd.prog 116 #[.int .i64 i, .int .i64 10] w fun e w' => e = .returned (.string ⟨(Lib.decDigits i).toArray⟩) ∧ w' = w := Any.internal_strconv_FormatInt_10_small Tryd.lays246 i hi w
def Tryd.laysM243_ren : Go.Shelf.Ren := ⟨fun | 243 => 103 | 246 => 116 | 283 => 133 | 284 => 134 | 285 => 135 | 286 => 136 | 129 => 127 | 317 => 143 | 318 => 144 | 319 => 145 | 320 => 146 | 337 => 148 | 338 => 149 | n => n, fun | 3 => 3 | 9 => 9 | 2 => 2 | 4 => 4 | 171 => 162 | 0 => 0 | 53 => 159 | 37 => 132 | 5 => 5 | 173 => 164 | 212 => 173 | 51 => 157 | 20 => 20 | 213 => 174 | 46 => 144 | 232 => 177 | 233 => 178 | n => n, fun | 17 => 0 | 18 => 1 | 19 => 2 | n => n⟩
theorem Tryd.laysM243 : Go.Proofs.LaysM.n243 Tryd.prog Tryd.laysM243_ren := {
  mixed := by kernel_rfl
  f129 := Tryd.func127.trans (congrArg some (by kernel_rfl))
  f243 := Tryd.func103.trans (congrArg some (by kernel_rfl))
  f246 := Tryd.func116.trans (congrArg some (by kernel_rfl))
  f283 := Tryd.func133.trans (congrArg some (by kernel_rfl))
  f284 := Tryd.func134.trans (congrArg some (by kernel_rfl))
  f285 := Tryd.func135.trans (congrArg some (by kernel_rfl))
  f286 := Tryd.func136.trans (congrArg some (by kernel_rfl))
  f317 := Tryd.func143.trans (congrArg some (by kernel_rfl))
  f318 := Tryd.func144.trans (congrArg some (by kernel_rfl))
  f319 := Tryd.func145.trans (congrArg some (by kernel_rfl))
  f320 := Tryd.func146.trans (congrArg some (by kernel_rfl))
  f337 := Tryd.func148.trans (congrArg some (by kernel_rfl))
  f338 := Tryd.func149.trans (congrArg some (by kernel_rfl))
  t0 := Tryd.underlying0
  a0 := Tryd.isAgg0
  z0 := Tryd.sizeOf0
  v0 := Tryd.zeroValue0
  t2 := Tryd.underlying2
  a2 := Tryd.isAgg2
  z2 := Tryd.sizeOf2
  v2 := Tryd.zeroValue2
  t3 := Tryd.underlying3
  a3 := Tryd.isAgg3
  z3 := Tryd.sizeOf3
  v3 := Tryd.zeroValue3
  t4 := Tryd.underlying4
  a4 := Tryd.isAgg4
  z4 := Tryd.sizeOf4
  v4 := Tryd.zeroValue4
  t5 := Tryd.underlying5
  a5 := Tryd.isAgg5
  z5 := Tryd.sizeOf5
  v5 := Tryd.zeroValue5
  t9 := Tryd.underlying9
  a9 := Tryd.isAgg9
  z9 := Tryd.sizeOf9
  v9 := Tryd.zeroValue9
  t20 := Tryd.underlying20
  a20 := Tryd.isAgg20
  z20 := Tryd.sizeOf20
  v20 := Tryd.zeroValue20
  t37 := Tryd.underlying132
  a37 := Tryd.isAgg132
  z37 := Tryd.sizeOf132
  v37 := Tryd.zeroValue132
  t46 := Tryd.underlying144
  a46 := Tryd.isAgg144
  z46 := Tryd.sizeOf144
  v46 := Tryd.zeroValue144
  t51 := Tryd.underlying157
  a51 := Tryd.isAgg157
  z51 := Tryd.sizeOf157
  v51 := Tryd.zeroValue157
  t53 := Tryd.underlying159
  a53 := Tryd.isAgg159
  z53 := Tryd.sizeOf159
  v53 := Tryd.zeroValue159
  t171 := Tryd.underlying162
  a171 := Tryd.isAgg162
  z171 := Tryd.sizeOf162
  v171 := Tryd.zeroValue162
  t173 := Tryd.underlying164
  a173 := Tryd.isAgg164
  z173 := Tryd.sizeOf164
  v173 := Tryd.zeroValue164
  t212 := Tryd.underlying173
  a212 := Tryd.isAgg173
  z212 := Tryd.sizeOf173
  v212 := Tryd.zeroValue173
  t213 := Tryd.underlying174
  a213 := Tryd.isAgg174
  z213 := Tryd.sizeOf174
  t232 := Tryd.underlying177
  a232 := Tryd.isAgg177
  z232 := Tryd.sizeOf177
  v232 := Tryd.zeroValue177
  t233 := Tryd.underlying178
  a233 := Tryd.isAgg178
  z233 := Tryd.sizeOf178
  v233 := Tryd.zeroValue178
  g17 := by kernel_rfl
  g18 := by kernel_rfl
  g19 := by kernel_rfl
  i0 := by kernel_rfl
  i2 := by kernel_rfl
  i3 := by kernel_rfl
  i4 := by kernel_rfl
  i5 := by kernel_rfl
  i9 := by kernel_rfl
  i20 := by kernel_rfl
  i37 := by kernel_rfl
  i46 := by kernel_rfl
  i51 := by kernel_rfl
  i53 := by kernel_rfl
  i171 := by kernel_rfl
  i173 := by kernel_rfl
  i212 := by kernel_rfl
  i232 := by kernel_rfl
  i233 := by kernel_rfl
  m17 := by kernel_rfl
  m18 := by kernel_rfl
  m19 := by kernel_rfl }
open Go.RowKit Go.Sort Go.Lib in
theorem Tryd.internal_strconv_Itoa (n : Int) (h0 : -9223372036854775808 ≤ n) (h1 : n ≤ 9223372036854775807) (w : World) (htab : Lib.TabIs Tryd.prog w "internal/strconv.uint64pow10" .u64 Lib.pow10Tab) :
    Calls Tryd.prog 103 #[.int .i64 n] w fun e w' => e = .returned (.string ⟨(Lib.itoa n).toArray⟩) ∧ ∃ k os, w' = grow (w.drewN k) os := Any.internal_strconv_Itoa Tryd.laysM243 n h0 h1 w htab
def Tryd.lays243_ren : Go.Shelf.Ren := ⟨fun | 243 => 103 | 246 => 116 | 283 => 133 | 284 => 134 | 285 => 135 | 286 => 136 | 129 => 127 | 317 => 143 | 318 => 144 | 319 => 145 | 320 => 146 | 337 => 148 | 338 => 149 | n => n, fun | 3 => 3 | 9 => 9 | 2 => 2 | 4 => 4 | 171 => 162 | 0 => 0 | 53 => 159 | 37 => 132 | 5 => 5 | 173 => 164 | 212 => 173 | 51 => 157 | 20 => 20 | 213 => 174 | 46 => 144 | 232 => 177 | 233 => 178 | n => n, fun | 17 => 0 | 18 => 1 | 19 => 2 | n => n⟩
theorem Tryd.lays243 : Go.Proofs.Lays.n243 Tryd.prog Tryd.lays243_ren := {
  mixed := by kernel_rfl
  f129 := Tryd.func127.trans (congrArg some (by kernel_rfl))
  f243 := Tryd.func103.trans (congrArg some (by kernel_rfl))
  f246 := Tryd.func116.trans (congrArg some (by kernel_rfl))
  f283 := Tryd.func133.trans (congrArg some (by kernel_rfl))
  f284 := Tryd.func134.trans (congrArg some (by kernel_rfl))
  f285 := Tryd.func135.trans (congrArg some (by kernel_rfl))
  f286 := Tryd.func136.trans (congrArg some (by kernel_rfl))
  f317 := Tryd.func143.trans (congrArg some (by kernel_rfl))
  f318 := Tryd.func144.trans (congrArg some (by kernel_rfl))
  f319 := Tryd.func145.trans (congrArg some (by kernel_rfl))
  f320 := Tryd.func146.trans (congrArg some (by kernel_rfl))
  f337 := Tryd.func148.trans (congrArg some (by kernel_rfl))
  f338 := Tryd.func149.trans (congrArg some (by kernel_rfl))
  t0 := Tryd.underlying0
  a0 := Tryd.isAgg0
  z0 := Tryd.sizeOf0
  v0 := Tryd.zeroValue0
  t2 := Tryd.underlying2
  a2 := Tryd.isAgg2
  z2 := Tryd.sizeOf2
  v2 := Tryd.zeroValue2
  t3 := Tryd.underlying3
  a3 := Tryd.isAgg3
  z3 := Tryd.sizeOf3
  v3 := Tryd.zeroValue3
  t4 := Tryd.underlying4
  a4 := Tryd.isAgg4
  z4 := Tryd.sizeOf4
  v4 := Tryd.zeroValue4
  t5 := Tryd.underlying5
  a5 := Tryd.isAgg5
  z5 := Tryd.sizeOf5
  v5 := Tryd.zeroValue5
  t9 := Tryd.underlying9
  a9 := Tryd.isAgg9
  z9 := Tryd.sizeOf9
  v9 := Tryd.zeroValue9
  t20 := Tryd.underlying20
  a20 := Tryd.isAgg20
  z20 := Tryd.sizeOf20
  v20 := Tryd.zeroValue20
  t37 := Tryd.underlying132
  a37 := Tryd.isAgg132
  z37 := Tryd.sizeOf132
  v37 := Tryd.zeroValue132
  t46 := Tryd.underlying144
  a46 := Tryd.isAgg144
  z46 := Tryd.sizeOf144
  v46 := Tryd.zeroValue144
  t51 := Tryd.underlying157
  a51 := Tryd.isAgg157
  z51 := Tryd.sizeOf157
  v51 := Tryd.zeroValue157
  t53 := Tryd.underlying159
  a53 := Tryd.isAgg159
  z53 := Tryd.sizeOf159
  v53 := Tryd.zeroValue159
  t171 := Tryd.underlying162
  a171 := Tryd.isAgg162
  z171 := Tryd.sizeOf162
  v171 := Tryd.zeroValue162
  t173 := Tryd.underlying164
  a173 := Tryd.isAgg164
  z173 := Tryd.sizeOf164
  v173 := Tryd.zeroValue164
  t212 := Tryd.underlying173
  a212 := Tryd.isAgg173
  z212 := Tryd.sizeOf173
  v212 := Tryd.zeroValue173
  t213 := Tryd.underlying174
  a213 := Tryd.isAgg174
  z213 := Tryd.sizeOf174
  t232 := Tryd.underlying177
  a232 := Tryd.isAgg177
  z232 := Tryd.sizeOf177
  v232 := Tryd.zeroValue177
  t233 := Tryd.underlying178
  a233 := Tryd.isAgg178
  z233 := Tryd.sizeOf178
  v233 := Tryd.zeroValue178
  g17 := by kernel_rfl
  g18 := by kernel_rfl
  g19 := by kernel_rfl }
open Go.RowKit Go.Sort Go.Lib in
theorem Tryd.internal_strconv_Itoa_small (i : Nat) (hi : i < 100) (w : World) :
    Calls Tryd.prog 103 #[.int .i64 i] w fun e w' => e = .returned (.string ⟨(Lib.decDigits i).toArray⟩) ∧ w' = w := Any.internal_strconv_Itoa_small Tryd.lays243 i hi w
def Tryd.laysM171_ren : Go.Shelf.Ren := ⟨fun | 171 => 84 | 243 => 103 | 246 => 116 | 283 => 133 | 284 => 134 | 285 => 135 | 286 => 136 | 129 => 127 | 317 => 143 | 318 => 144 | 319 => 145 | 320 => 146 | 337 => 148 | 338 => 149 | n => n, fun | 3 => 3 | 9 => 9 | 2 => 2 | 4 => 4 | 171 => 162 | 0 => 0 | 53 => 159 | 37 => 132 | 5 => 5 | 173 => 164 | 212 => 173 | 51 => 157 | 20 => 20 | 213 => 174 | 46 => 144 | 232 => 177 | 233 => 178 | n => n, fun | 17 => 0 | 18 => 1 | 19 => 2 | n => n⟩
theorem Tryd.laysM171 : Go.Proofs.LaysM.n171 Tryd.prog Tryd.laysM171_ren := {
  mixed := by kernel_rfl
  f129 := Tryd.func127.trans (congrArg some (by kernel_rfl))
  f171 := Tryd.func84.trans (congrArg some (by kernel_rfl))
  f243 := Tryd.func103.trans (congrArg some (by kernel_rfl))
  f246 := Tryd.func116.trans (congrArg some (by kernel_rfl))
  f283 := Tryd.func133.trans (congrArg some (by kernel_rfl))
  f284 := Tryd.func134.trans (congrArg some (by kernel_rfl))
  f285 := Tryd.func135.trans (congrArg some (by kernel_rfl))
  f286 := Tryd.func136.trans (congrArg some (by kernel_rfl))
  f317 := Tryd.func143.trans (congrArg some (by kernel_rfl))
  f318 := Tryd.func144.trans (congrArg some (by kernel_rfl))
  f319 := Tryd.func145.trans (congrArg some (by kernel_rfl))
  f320 := Tryd.func146.trans (congrArg some (by kernel_rfl))
  f337 := Tryd.func148.trans (congrArg some (by kernel_rfl))
  f338 := Tryd.func149.trans (congrArg some (by kernel_rfl))
  t0 := Tryd.underlying0
  a0 := Tryd.isAgg0
  z0 := Tryd.sizeOf0
  v0 := Tryd.zeroValue0
  t2 := Tryd.underlying2
  a2 := Tryd.isAgg2
  z2 := Tryd.sizeOf2
  v2 := Tryd.zeroValue2
  t3 := Tryd.underlying3
  a3 := Tryd.isAgg3
  z3 := Tryd.sizeOf3
  v3 := Tryd.zeroValue3
  t4 := Tryd.underlying4
  a4 := Tryd.isAgg4
  z4 := Tryd.sizeOf4
  v4 := Tryd.zeroValue4
  t5 := Tryd.underlying5
  a5 := Tryd.isAgg5
  z5 := Tryd.sizeOf5
  v5 := Tryd.zeroValue5
  t9 := Tryd.underlying9
  a9 := Tryd.isAgg9
  z9 := Tryd.sizeOf9
  v9 := Tryd.zeroValue9
  t20 := Tryd.underlying20
  a20 := Tryd.isAgg20
  z20 := Tryd.sizeOf20
  v20 := Tryd.zeroValue20
  t37 := Tryd.underlying132
  a37 := Tryd.isAgg132
  z37 := Tryd.sizeOf132
  v37 := Tryd.zeroValue132
  t46 := Tryd.underlying144
  a46 := Tryd.isAgg144
  z46 := Tryd.sizeOf144
  v46 := Tryd.zeroValue144
  t51 := Tryd.underlying157
  a51 := Tryd.isAgg157
  z51 := Tryd.sizeOf157
  v51 := Tryd.zeroValue157
  t53 := Tryd.underlying159
  a53 := Tryd.isAgg159
  z53 := Tryd.sizeOf159
  v53 := Tryd.zeroValue159
  t171 := Tryd.underlying162
  a171 := Tryd.isAgg162
  z171 := Tryd.sizeOf162
  v171 := Tryd.zeroValue162
  t173 := Tryd.underlying164
  a173 := Tryd.isAgg164
  z173 := Tryd.sizeOf164
  v173 := Tryd.zeroValue164
  t212 := Tryd.underlying173
  a212 := Tryd.isAgg173
  z212 := Tryd.sizeOf173
  v212 := Tryd.zeroValue173
  t213 := Tryd.underlying174
  a213 := Tryd.isAgg174
  z213 := Tryd.sizeOf174
  t232 := Tryd.underlying177
  a232 := Tryd.isAgg177
  z232 := Tryd.sizeOf177
  v232 := Tryd.zeroValue177
  t233 := Tryd.underlying178
  a233 := Tryd.isAgg178
  z233 := Tryd.sizeOf178
  v233 := Tryd.zeroValue178
  g17 := by kernel_rfl
  g18 := by kernel_rfl
  g19 := by kernel_rfl
  i0 := by kernel_rfl
  i2 := by kernel_rfl
  i3 := by kernel_rfl
  i4 := by kernel_rfl
  i5 := by kernel_rfl
  i9 := by kernel_rfl
  i20 := by kernel_rfl
  i37 := by kernel_rfl
  i46 := by kernel_rfl
  i51 := by kernel_rfl
  i53 := by kernel_rfl
  i171 := by kernel_rfl
  i173 := by kernel_rfl
  i212 := by kernel_rfl
  i232 := by kernel_rfl
  i233 := by kernel_rfl
  m17 := by kernel_rfl
  m18 := by kernel_rfl
  m19 := by kernel_rfl }
open Go.RowKit Go.Sort Go.Lib in
theorem Tryd.strconv_Itoa (n : Int) (h0 : -9223372036854775808 ≤ n) (h1 : n ≤ 9223372036854775807) (w : World) (htab : Lib.TabIs Tryd.prog w "internal/strconv.uint64pow10" .u64 Lib.pow10Tab) :
    Calls Tryd.prog 84 #[.int .i64 n] w fun e w' => e = .returned (.string ⟨(Lib.itoa n).toArray⟩) ∧ ∃ k os, w' = grow (w.drewN k) os := Any.strconv_Itoa Tryd.laysM171 n h0 h1 w htab
def Tryd.lays171_ren : Go.Shelf.Ren := ⟨fun | 171 => 84 | 243 => 103 | 246 => 116 | 283 => 133 | 284 => 134 | 285 => 135 | 286 => 136 | 129 => 127 | 317 => 143 | 318 => 144 | 319 => 145 | 320 => 146 | 337 => 148 | 338 => 149 | n => n, fun | 3 => 3 | 9 => 9 | 2 => 2 | 4 => 4 | 171 => 162 | 0 => 0 | 53 => 159 | 37 => 132 | 5 => 5 | 173 => 164 | 212 => 173 | 51 => 157 | 20 => 20 | 213 => 174 | 46 => 144 | 232 => 177 | 233 => 178 | n => n, fun | 17 => 0 | 18 => 1 | 19 => 2 | n => n⟩
theorem Tryd.lays171 : Go.Proofs.Lays.n171 Tryd.prog Tryd.lays171_ren := {
  mixed := by kernel_rfl
  f129 := Tryd.func127.trans (congrArg some (by kernel_rfl))
  f171 := Tryd.func84.trans (congrArg some (by kernel_rfl))
  f243 := Tryd.func103.trans (congrArg some (by kernel_rfl))
  f246 := Tryd.func116.trans (congrArg some (by kernel_rfl))
  f283 := Tryd.func133.trans (congrArg some (by kernel_rfl))
  f284 := Tryd.func134.trans (congrArg some (by kernel_rfl))
  f285 := Tryd.func135.trans (congrArg some (by kernel_rfl))
  f286 := Tryd.func136.trans (congrArg some (by kernel_rfl))
  f317 := Tryd.func143.trans (congrArg some (by kernel_rfl))
  f318 := Tryd.func144.trans (congrArg some (by kernel_rfl))
  f319 := Tryd.func145.trans (congrArg some (by kernel_rfl))
  f320 := Tryd.func146.trans (congrArg some (by kernel_rfl))
  f337 := Tryd.func148.trans (congrArg some (by kernel_rfl))
  f338 := Tryd.func149.trans (congrArg some (by kernel_rfl))
  t0 := Tryd.underlying0
  a0 := Tryd.isAgg0
  z0 := Tryd.sizeOf0
  v0 := Tryd.zeroValue0
  t2 := Tryd.underlying2
  a2 := Tryd.isAgg2
  z2 := Tryd.sizeOf2
  v2 := Tryd.zeroValue2
  t3 := Tryd.underlying3
  a3 := Tryd.isAgg3
  z3 := Tryd.sizeOf3
  v3 := Tryd.zeroValue3
  t4 := Tryd.underlying4
  a4 := Tryd.isAgg4
  z4 := Tryd.sizeOf4
  v4 := Tryd.zeroValue4
  t5 := Tryd.underlying5
  a5 := Tryd.isAgg5
  z5 := Tryd.sizeOf5
  v5 := Tryd.zeroValue5
  t9 := Tryd.underlying9
  a9 := Tryd.isAgg9
  z9 := Tryd.sizeOf9
  v9 := Tryd.zeroValue9
  t20 := Tryd.underlying20
  a20 := Tryd.isAgg20
  z20 := Tryd.sizeOf20
  v20 := Tryd.zeroValue20
  t37 := Tryd.underlying132
  a37 := Tryd.isAgg132
  z37 := Tryd.sizeOf132
  v37 := Tryd.zeroValue132
  t46 := Tryd.underlying144
  a46 := Tryd.isAgg144
  z46 := Tryd.sizeOf144
  v46 := Tryd.zeroValue144
  t51 := Tryd.underlying157
  a51 := Tryd.isAgg157
  z51 := Tryd.sizeOf157
  v51 := Tryd.zeroValue157
  t53 := Tryd.underlying159
  a53 := Tryd.isAgg159
  z53 := Tryd.sizeOf159
  v53 := Tryd.zeroValue159
  t171 := Tryd.underlying162
  a171 := Tryd.isAgg162
  z171 := Tryd.sizeOf162
  v171 := Tryd.zeroValue162
  t173 := Tryd.underlying164
  a173 := Tryd.isAgg164
  z173 := Tryd.sizeOf164
  v173 := Tryd.zeroValue164
  t212 := Tryd.underlying173
  a212 := Tryd.isAgg173
  z212 := Tryd.sizeOf173
  v212 := Tryd.zeroValue173
  t213 := Tryd.underlying174
  a213 := Tryd.isAgg174
  z213 := Tryd.sizeOf174
  t232 := Tryd.underlying177
  a232 := Tryd.isAgg177
  z232 := Tryd.sizeOf177
  v232 := Tryd.zeroValue177
  t233 := Tryd.underlying178
  a233 := Tryd.isAgg178
  z233 := Tryd.sizeOf178
  v233 := Tryd.zeroValue178
  g17 := by kernel_rfl
  g18 := by kernel_rfl
  g19 := by kernel_rfl }
open Go.RowKit Go.Sort Go.Lib in
theorem Tryd.strconv_Itoa_small (i : Nat) (hi : i < 100) (w : World) :
    Calls Tryd.prog 84 #[.int .i64 i] w fun e w' => e = .returned (.string ⟨(Lib.decDigits i).toArray⟩) ∧ w' = w := Any.strconv_Itoa_small Tryd.lays171 i hi w
def Tryd.lays189_ren : Go.Shelf.Ren := ⟨fun | 189 => 89 | 125 => 107 | 257 => 106 | 128 => 126 | 129 => 127 | 294 => 117 | 295 => 118 | 296 => 119 | 297 => 120 | 298 => 121 | 299 => 122 | 216 => 123 | 300 => 124 | 301 => 125 | 328 => 137 | 329 => 138 | 330 => 139 | 331 => 140 | 332 => 141 | 215 => 142 | 343 => 147 | n => n, fun | 28 => 49 | 3 => 3 | 46 => 144 | 0 => 0 | 51 => 157 | 53 => 159 | 4 => 4 | 183 => 151 | 182 => 150 | 131 => 106 | 5 => 5 | 9 => 9 | 218 => 166 | 222 => 170 | 228 => 175 | 229 => 103 | n => n, fun | n => n⟩
theorem Tryd.lays189 : Go.Proofs.Lays.n189 Tryd.prog Tryd.lays189_ren := {
  mixed := by kernel_rfl
  f125 := Tryd.func107.trans (congrArg some (by kernel_rfl))
  f128 := Tryd.func126.trans (congrArg some (by kernel_rfl))
  f129 := Tryd.func127.trans (congrArg some (by kernel_rfl))
  f189 := Tryd.func89.trans (congrArg some (by kernel_rfl))
  f215 := Tryd.func142.trans (congrArg some (by kernel_rfl))
  f216 := Tryd.func123.trans (congrArg some (by kernel_rfl))
  f257 := Tryd.func106.trans (congrArg some (by kernel_rfl))
  f294 := Tryd.func117.trans (congrArg some (by kernel_rfl))
  f295 := Tryd.func118.trans (congrArg some (by kernel_rfl))
  f296 := Tryd.func119.trans (congrArg some (by kernel_rfl))
  f297 := Tryd.func120.trans (congrArg some (by kernel_rfl))
  f298 := Tryd.func121.trans (congrArg some (by kernel_rfl))
  f299 := Tryd.func122.trans (congrArg some (by kernel_rfl))
  f300 := Tryd.func124.trans (congrArg some (by kernel_rfl))
  f301 := Tryd.func125.trans (congrArg some (by kernel_rfl))
  f328 := Tryd.func137.trans (congrArg some (by kernel_rfl))
  f329 := Tryd.func138.trans (congrArg some (by kernel_rfl))
  f330 := Tryd.func139.trans (congrArg some (by kernel_rfl))
  f331 := Tryd.func140.trans (congrArg some (by kernel_rfl))
  f332 := Tryd.func141.trans (congrArg some (by kernel_rfl))
  f343 := Tryd.func147.trans (congrArg some (by kernel_rfl))
  t0 := Tryd.underlying0
  a0 := Tryd.isAgg0
  z0 := Tryd.sizeOf0
  v0 := Tryd.zeroValue0
  t3 := Tryd.underlying3
  a3 := Tryd.isAgg3
  z3 := Tryd.sizeOf3
  v3 := Tryd.zeroValue3
  t4 := Tryd.underlying4
  a4 := Tryd.isAgg4
  z4 := Tryd.sizeOf4
  v4 := Tryd.zeroValue4
  t5 := Tryd.underlying5
  a5 := Tryd.isAgg5
  z5 := Tryd.sizeOf5
  v5 := Tryd.zeroValue5
  t9 := Tryd.underlying9
  a9 := Tryd.isAgg9
  z9 := Tryd.sizeOf9
  v9 := Tryd.zeroValue9
  t28 := Tryd.underlying49
  a28 := Tryd.isAgg49
  z28 := Tryd.sizeOf49
  v28 := Tryd.zeroValue49
  t46 := Tryd.underlying144
  a46 := Tryd.isAgg144
  z46 := Tryd.sizeOf144
  v46 := Tryd.zeroValue144
  t51 := Tryd.underlying157
  a51 := Tryd.isAgg157
  z51 := Tryd.sizeOf157
  v51 := Tryd.zeroValue157
  t53 := Tryd.underlying159
  a53 := Tryd.isAgg159
  z53 := Tryd.sizeOf159
  v53 := Tryd.zeroValue159
  t131 := Tryd.underlying106
  a131 := Tryd.isAgg106
  z131 := Tryd.sizeOf106
  v131 := Tryd.zeroValue106
  t182 := Tryd.underlying150
  a182 := Tryd.isAgg150
  z182 := Tryd.sizeOf150
  v182 := Tryd.zeroValue150
  t183 := Tryd.underlying151
  a183 := Tryd.isAgg151
  z183 := Tryd.sizeOf151
  v183 := Tryd.zeroValue151
  t218 := Tryd.underlying166
  a218 := Tryd.isAgg166
  z218 := Tryd.sizeOf166
  v218 := Tryd.zeroValue166
  t222 := Tryd.underlying170
  a222 := Tryd.isAgg170
  z222 := Tryd.sizeOf170
  v222 := Tryd.zeroValue170
  t228 := Tryd.underlying175
  a228 := Tryd.isAgg175
  z228 := Tryd.sizeOf175
  v228 := Tryd.zeroValue175
  t229 := Tryd.underlying103
  a229 := Tryd.isAgg103
  z229 := Tryd.sizeOf103
  v229 := Tryd.zeroValue103 }
open Go.Sort Go.RowKit in
theorem Tryd.slices_Sort_int (blk off cap : Nat) (zs : List Int) (w : World) (hH : Holds (Value.int .i64) w blk off zs.toArray) (hblk : blk < w.heap.size) (hsz : zs.length < 4611686018427387904) :
    Calls Tryd.prog 89 #[.slice (some ⟨blk, off, none⟩) zs.length cap] w fun e w' =>
      e = .returned (.tuple #[]) ∧ ∃ n os, w' = grow (putRow (Value.int .i64) (Sort.ahead w n) blk off (zs.mergeSort fun x y => decide (x ≤ y)).toArray) os := Any.slices_Sort_int Tryd.lays189 blk off cap zs w hH hblk hsz
def Tryd.laysNm220_ren : Go.Shelf.Ren := ⟨fun | 20 => 90 | n => n, fun | 22 => 49 | 3 => 3 | 4 => 4 | 0 => 0 | n => n, fun | n => n⟩
theorem Tryd.laysNm220 : Go.Proofs.Lays2.n20 Tryd.prog Tryd.laysNm220_ren := {
  mixed := by kernel_rfl
  f20 := Tryd.func90.trans (congrArg some (by kernel_rfl))
  t0 := Tryd.underlying0
  a0 := Tryd.isAgg0
  z0 := Tryd.sizeOf0
  v0 := Tryd.zeroValue0
  t3 := Tryd.underlying3
  a3 := Tryd.isAgg3
  z3 := Tryd.sizeOf3
  v3 := Tryd.zeroValue3
  t4 := Tryd.underlying4
  a4 := Tryd.isAgg4
  z4 := Tryd.sizeOf4
  v4 := Tryd.zeroValue4
  t22 := Tryd.underlying49
  a22 := Tryd.isAgg49
  z22 := Tryd.sizeOf49
  v22 := Tryd.zeroValue49
  i3 := by kernel_rfl }
open Go.RowKit Go.Lib Go.Sort in
theorem Tryd.slices_Compact_int_arr (blk off cap : Nat) (d : Array Int) (w : World) (hH : Holds encI w blk off d) (hsz : d.size ≤ 9223372036854775807) (hcap : d.size ≤ cap) :
    Calls Tryd.prog 90 #[.slice (some ⟨blk, off, none⟩) d.size cap] w fun e w' => e = .returned (.slice (some ⟨blk, off, none⟩) (compactUpTo d d.size).length cap) ∧ ∃ q, w' = putRow encI (Sort.ahead w q) blk off (compactUpTo d d.size ++ List.replicate (d.size - (compactUpTo d d.size).length) 0).toArray := Any.slices_Compact_int_arr Tryd.laysNm220 blk off cap d w hH hsz hcap
open Go.RowKit Go.Lib Go.Sort in
theorem Tryd.slices_Compact_int (blk off cap : Nat) (zs : List Int) (w : World) (hH : Holds (Value.int .i64) w blk off zs.toArray) (hsz : zs.length ≤ 9223372036854775807) (hcap : zs.length ≤ cap) :
    Calls Tryd.prog 90 #[.slice (some ⟨blk, off, none⟩) zs.length cap] w fun e w' => e = .returned (.slice (some ⟨blk, off, none⟩) (Lib.compact zs).length cap) ∧ ∃ q, w' = putRow (Value.int .i64) (Sort.ahead w q) blk off (Lib.compact zs ++ List.replicate (zs.length - (Lib.compact zs).length) 0).toArray := Any.slices_Compact_int Tryd.laysNm220 blk off cap zs w hH hsz hcap
open Go.RowKit Go.Lib Go.Sort in
theorem Tryd.slices_Compact_int_empty (a : Option Addr) (cap : Nat) (w : World) :
    Calls Tryd.prog 90 #[.slice a 0 cap] w fun e w' => e = .returned (.slice a 0 cap) ∧ w' = w := Any.slices_Compact_int_empty Tryd.laysNm220 a cap w
def Tryd.laysNm237_ren : Go.Shelf.Ren := ⟨fun | 37 => 142 | n => n, fun | 3 => 3 | 4 => 4 | n => n, fun | n => n⟩
theorem Tryd.laysNm237 : Go.Proofs.Lays2.n37 Tryd.prog Tryd.laysNm237_ren := {
  mixed := by kernel_rfl
  f37 := Tryd.func142.trans (congrArg some (by kernel_rfl))
  t3 := Tryd.underlying3
  a3 := Tryd.isAgg3
  z3 := Tryd.sizeOf3
  v3 := Tryd.zeroValue3
  t4 := Tryd.underlying4
  a4 := Tryd.isAgg4
  z4 := Tryd.sizeOf4
  v4 := Tryd.zeroValue4 }
open Go.RowKit Go.Lib in
theorem Tryd.cmp_isNaN_int2 (x : Int) (w : World) :
    Calls Tryd.prog 142 #[.int .i64 x] w fun e w' => e = .returned (.bool false) ∧ w' = w := Any.cmp_isNaN_int2 Tryd.laysNm237 x w
def Tryd.laysNm231_ren : Go.Shelf.Ren := ⟨fun | 31 => 123 | 37 => 142 | n => n, fun | 3 => 3 | 4 => 4 | n => n, fun | n => n⟩
theorem Tryd.laysNm231 : Go.Proofs.Lays2.n31 Tryd.prog Tryd.laysNm231_ren := {
  mixed := by kernel_rfl
  f31 := Tryd.func123.trans (congrArg some (by kernel_rfl))
  f37 := Tryd.func142.trans (congrArg some (by kernel_rfl))
  t3 := Tryd.underlying3
  a3 := Tryd.isAgg3
  z3 := Tryd.sizeOf3
  v3 := Tryd.zeroValue3
  t4 := Tryd.underlying4
  a4 := Tryd.isAgg4
  z4 := Tryd.sizeOf4
  v4 := Tryd.zeroValue4 }
open Go.RowKit Go.Lib in
theorem Tryd.cmp_Less_int2 (x y : Int) (w : World) :
    Calls Tryd.prog 123 #[.int .i64 x, .int .i64 y] w fun e w' => e = .returned (.bool (decide (x < y))) ∧ w' = w := Any.cmp_Less_int2 Tryd.laysNm231 x y w
open Go.RowKit Go.Lib Go.Sort in
theorem Tryd.slices_Compact_int_cells (b off n c : Nat) (zs : List Int) (w : World) (hz : n ≤ zs.length) (hbig : n ≤ 9223372036854775807) (hcap : n ≤ c) (hc : ∀ j, j < zs.length → w.cell? ⟨b, off + j, none⟩ = some (.int .i64 (zs.getD j 0))) (hf : ∀ j, j < n → w.frozen? ⟨b, off + j, none⟩ = false) :
    Calls Tryd.prog 90 #[.slice (some ⟨b, off, none⟩) n c] w fun e w' => e = .returned (.slice (some ⟨b, off, none⟩) (Lib.compact (zs.take n)).length c) ∧ ∃ q, w' = (w.drewN q).setCells b off ((Lib.compact (zs.take n) ++ List.replicate (n - (Lib.compact (zs.take n)).length) 0).map (Value.int .i64)) := Any.slices_Compact_int_cells Tryd.laysNm220 b off n c zs w hz hbig hcap hc hf
open Go.RowKit Go.Sort in
theorem Tryd.slices_Sort_int_none (p : Option Addr) (cap : Nat) (w : World) :
    Calls Tryd.prog 89 #[.slice p 0 cap] w fun e w' => e = .returned (.tuple #[]) ∧ w' = w := Any.slices_Sort_int_none Tryd.lays189 p cap w
def Tryd.laysSlE43_f90_ren : Go.Shelf.Ren := ⟨fun | 43 => 90 | n => n, fun | 22 => 49 | 23 => 3 | 3 => 3 | 4 => 4 | 0 => 0 | n => n, fun | n => n⟩
theorem Tryd.laysSlE43_f90 : Go.Proofs.SlLaysE.n43 Tryd.prog Tryd.laysSlE43_f90_ren := {
  mixed := by kernel_rfl
  f43 := ⟨Tryd.f90.name, by decide, Tryd.func90.trans (congrArg some (by kernel_rfl))⟩
  t0 := Tryd.underlying0
  a0 := Tryd.isAgg0
  z0 := Tryd.sizeOf0
  v0 := Tryd.zeroValue0
  t3 := Tryd.underlying3
  a3 := Tryd.isAgg3
  z3 := Tryd.sizeOf3
  v3 := Tryd.zeroValue3
  t4 := Tryd.underlying4
  a4 := Tryd.isAgg4
  z4 := Tryd.sizeOf4
  v4 := Tryd.zeroValue4
  t22 := Tryd.underlying49
  a22 := Tryd.isAgg49
  z22 := Tryd.sizeOf49
  v22 := Tryd.zeroValue49
  a23 := Tryd.isAgg3
  z23 := Tryd.sizeOf3 }
open Go.RowKit Go.Lib Go.Sort in
theorem Tryd.slices_Compact {α : Type} [Inhabited α] [DecidableEq α] (enc : α → Value) (hO : OneCell enc) (heq : EqlAt Tryd.prog 3 enc (fun x y => decide (x = y))) (hne : NeqAt Tryd.prog 3 enc (fun x y => decide (x = y))) (zr : α) (v23 : ∀ w, (zeroValue 3).run Tryd.prog w = .ok (enc zr) w) (blk off cap : Nat) (d : Array α) (w : World) (hH : Holds enc w blk off d) (hsz : d.size ≤ 9223372036854775807) (hcap : d.size ≤ cap) :
    Calls Tryd.prog 90 #[.slice (some ⟨blk, off, none⟩) d.size cap] w fun e w' => e = .returned (.slice (some ⟨blk, off, none⟩) (compactUpTo d d.size).length cap) ∧ ∃ q, w' = putRow enc (Sort.ahead w q) blk off (compactUpTo d d.size ++ List.replicate (d.size - (compactUpTo d d.size).length) zr).toArray := AnyE.slices_Compact Tryd.laysSlE43_f90 enc hO heq hne zr v23 blk off cap d w hH hsz hcap
def Tryd.laysSlH6_f108_ren : Go.Shelf.Ren := ⟨fun | 6 => 108 | n => n, fun | 22 => 49 | 23 => 3 | 25 => 94 | 3 => 3 | 0 => 0 | 4 => 4 | n => n, fun | n => n⟩
theorem Tryd.laysSlH6_f108 : Go.Proofs.SlLaysH.n6 Tryd.prog Tryd.laysSlH6_f108_ren := {
  mixed := by kernel_rfl
  f6 := ⟨Tryd.f108.name, by decide, Tryd.func108.trans (congrArg some (by kernel_rfl))⟩
  t0 := Tryd.underlying0
  a0 := Tryd.isAgg0
  z0 := Tryd.sizeOf0
  v0 := Tryd.zeroValue0
  t3 := Tryd.underlying3
  a3 := Tryd.isAgg3
  z3 := Tryd.sizeOf3
  v3 := Tryd.zeroValue3
  t4 := Tryd.underlying4
  a4 := Tryd.isAgg4
  z4 := Tryd.sizeOf4
  v4 := Tryd.zeroValue4
  t22 := Tryd.underlying49
  a22 := Tryd.isAgg49
  z22 := Tryd.sizeOf49
  v22 := Tryd.zeroValue49
  a23 := Tryd.isAgg3
  z23 := Tryd.sizeOf3
  t25 := Tryd.underlying94
  a25 := Tryd.isAgg94
  z25 := Tryd.sizeOf94
  v25 := Tryd.zeroValue94 }
open Go.RowKit Go.Lib in
theorem Tryd.slices_IndexFunc {α : Type} [Inhabited α] (enc : α → Value) (p : α → Bool) (g : Nat) (lb : Array Value) (eg : ∀ args w, (callFunc g args).run Tryd.prog w = .ok (.enter g args) w) (b off n c : Nat) (zs : List α) (w : World) (hp : PredAt Tryd.prog g lb enc p w) (hz : n ≤ zs.length) (hbig : n ≤ 9223372036854775807) (hc : ∀ j, j < zs.length → w.cell? ⟨b, off + j, none⟩ = some (enc zs[j]!)) :
    Calls Tryd.prog 108 #[.slice (some ⟨b, off, none⟩) n c, .func (.func g) #[] lb] w fun e w' => e = .returned (.int .i64 (Lib.idxBy (fun _ y => p y) (zs.take n) default)) ∧ ∃ q, w' = w.drewN q := AnyE.slices_IndexFunc Tryd.laysSlH6_f108 enc p g lb eg b off n c zs w hp hz hbig hc
open Go.RowKit Go.Lib in
theorem Tryd.slices_IndexFunc_empty {α : Type} [Inhabited α] (a : Option Addr) (c : Nat) (fv : Value) (w : World) :
    Calls Tryd.prog 108 #[.slice a 0 c, fv] w fun e w' => e = .returned (.int .i64 (-1)) ∧ w' = w := AnyE.slices_IndexFunc_empty Tryd.laysSlH6_f108 a c fv w
def Tryd.laysSlH10_f91_ren : Go.Shelf.Ren := ⟨fun | 10 => 91 | 6 => 108 | n => n, fun | 22 => 49 | 23 => 3 | 25 => 94 | 3 => 3 | 4 => 4 | 0 => 0 | n => n, fun | n => n⟩
theorem Tryd.laysSlH10_f91 : Go.Proofs.SlLaysH.n10 Tryd.prog Tryd.laysSlH10_f91_ren := {
  mixed := by kernel_rfl
  f6 := ⟨Tryd.f108.name, by decide, Tryd.func108.trans (congrArg some (by kernel_rfl))⟩
  f10 := ⟨Tryd.f91.name, by decide, Tryd.func91.trans (congrArg some (by kernel_rfl))⟩
  t0 := Tryd.underlying0
  a0 := Tryd.isAgg0
  z0 := Tryd.sizeOf0
  v0 := Tryd.zeroValue0
  t3 := Tryd.underlying3
  a3 := Tryd.isAgg3
  z3 := Tryd.sizeOf3
  v3 := Tryd.zeroValue3
  t4 := Tryd.underlying4
  a4 := Tryd.isAgg4
  z4 := Tryd.sizeOf4
  v4 := Tryd.zeroValue4
  t22 := Tryd.underlying49
  a22 := Tryd.isAgg49
  z22 := Tryd.sizeOf49
  v22 := Tryd.zeroValue49
  a23 := Tryd.isAgg3
  z23 := Tryd.sizeOf3
  t25 := Tryd.underlying94
  a25 := Tryd.isAgg94
  z25 := Tryd.sizeOf94
  v25 := Tryd.zeroValue94 }
open Go.RowKit Go.Lib Go.Sort in
theorem Tryd.slices_DeleteFunc {α : Type} [Inhabited α] (enc : α → Value) (hO : OneCell enc) (p : α → Bool) (g : Nat) (lb : Array Value) (eg : ∀ args w, (callFunc g args).run Tryd.prog w = .ok (.enter g args) w) (zr : α) (v23 : ∀ w, (zeroValue 3).run Tryd.prog w = .ok (enc zr) w) (blk off cap : Nat) (d : Array α) (w : World) (hp : PredAt Tryd.prog g lb enc p w) (hpo : PredOver Tryd.prog g lb enc p blk off d.size w) (hH : Holds enc w blk off d) (hsz : d.size ≤ 9223372036854775807) (hcap : d.size ≤ cap) :
    Calls Tryd.prog 91 #[.slice (some ⟨blk, off, none⟩) d.size cap, .func (.func g) #[] lb] w fun e w' => e = .returned (.slice (some ⟨blk, off, none⟩) (d.toList.filter fun x => !p x).length cap) ∧ ∃ q, w' = putRow enc (Sort.ahead w q) blk off ((d.toList.filter fun x => !p x) ++ List.replicate (d.size - (d.toList.filter fun x => !p x).length) zr).toArray := AnyE.slices_DeleteFunc Tryd.laysSlH10_f91 enc hO p g lb eg zr v23 blk off cap d w hp hpo hH hsz hcap
end Go.Proofs
